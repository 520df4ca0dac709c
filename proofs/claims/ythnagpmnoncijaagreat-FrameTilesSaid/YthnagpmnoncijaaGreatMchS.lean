/- A part of the proof. -/
import Derived.Test.YthnagpmnoncijaaGreatMchR
set_option linter.unusedVariables false
namespace Go.Proofs.YthnagpmnoncijaaGreat.M
open Go Go.RowKit
theorem getD_repl {n k:Nat}:(Array.replicate n false).getD k false = false:=by
 rw [Array.getD_eq_getD_getElem?,Array.getElem?_replicate];split <;> rfl
section
variable {P:Program} {E:Env} {ops:Array Oper} {N:Nat} {s s₂:St} {hints hints2:List (Nat × Hint)} {tl:List Nat} {ob:Prop} {r:Option Nat} {R:Exit -> St -> Prop} {id:Nat}
theorem Rel.drew {a:Act} {w:World} {g:Gh} (h:Rel E s a w g):Rel E s a { w with drawn:=w.drawn + 1 } g:=by
 have hc:∀ q,concAt g.dy.out a { w with drawn:=w.drawn + 1 } g.ι q = concAt g.dy.out a w g.ι q:=fun q=>by cases q <;> rfl
 refine { h with slots:=fun t x hx=>?_,boxes:=fun n e cs hn=>?_,below:=?_ }
 ·exact (h.slots t x hx).mono (fun _ _ _ h1 h2=>⟨h2,h1⟩) (fun _ _ _ h1 h2=>⟨h2,h1⟩) (fun _ _ _ _ _ _ _ h=>⟨h,rfl⟩) (fun _ _ _ _=>rfl) (fun y q v hy hq hv=>by
   show concAt g.dy.out a { w with drawn:=w.drawn + 1 } g.ι q = some v
   rw [hc]; exact hv)
 ·obtain ⟨h1,h2⟩:=h.boxes n e cs hn;refine ⟨h1,h2.mono rfl rfl (fun _=>rfl) fun i x y hx _ hcv=>(hcv x hx).mono (fun _ _ _ h1 h2=>⟨h2,h1⟩) (fun _ _ _ h1 h2=>⟨h2,h1⟩) (fun _ _ _ _ h=>⟨h,rfl⟩) (fun _ _=>rfl) (fun q v hq hv=>?_)⟩
  show concAt g.dy.out a { w with drawn:=w.drawn + 1 } g.ι q = some v
  rw [hc]; exact hv
 ·exact h.below.drew
theorem AWp.draw (hN:N = E.N) (hmo:P.follows .mixedOrders = true) {res:List (Option Res)} {s1:St} (hc:arunC P N ops hints tl 0 ops.toList s = some (res,s1,ob)) (hob:ob) (hok:drawOk ops res s (befs ops.toList []) = true) (hto:tailOk P ops res (befs ops.toList []) = true)
  (ht:Goes P r E ops (fun s'=>R .normal s'.clean) ((tailOf ops res).filterMap fun j=>ops[j]?) s1) :
  AWp P r E (.region id ops true) s R:=by
 intro a w g hr;have hdf:=DF.of hok;have hlen:ops.toList.length = ops.size:=by simp
 obtain ⟨f1,f0,f2,f3⟩:=arunC_facts (s0:=s) (res:=res) ops.toList 0 s s1 res ob (fun j o hj=>by simpa using hj) (fun j hj=>by simp) hc hob ⟨hr.uniq,fun t x hx=>.inr ⟨fun k hk=>by omega,hx,fun c hc=>by omega⟩,fun n y hy=>.inr ⟨fun c hc=>by omega,hy⟩⟩
 rw [hlen] at f1 f2 f0;have hcode:(Code.region id ops true).wpIn (Fr r) 9 P (fun e a' w'=>e = .normal /\ ∃ s' g',R e s' /\ Rel E s' a' w' g') a w:=by
  refine wpIn_region_any hmo ?_;have hr':=hr.drew;refine draw_sound (hints:=hints) (res:=res) (s0:=s) (s1:=s1) hN hdf (DT.of hto) rfl (fun i hi hci=>?_) (by simpa using f2) ht (fun c a' w' h=>by cases h.1) (fun s2 a' w' g' hk hr2=>?_) ops.size _ a _ g (by simp) (fun i o ho hl=>?_) (fun i hi=>?_) ?_ ?_
  ·have h0:=f0 i hi;rw [Nat.zero_add,hci] at h0;simpa using f1 i hi (by rw [Nat.zero_add]; simpa using h0.symm)
  ·exact ⟨rfl,_,g',hk,clean_sound hr2⟩
  ·have hl':(Array.replicate ops.size false).getD i false = true:=hl;rw [getD_repl] at hl'; cases hl'
  ·have hi':(Array.replicate ops.size false).getD i false = true:=hi;rw [getD_repl] at hi'; cases hi'
  ·have:∀ n,unl (fun k=>(Array.replicate ops.size false).getD k false) n <= n:=by
    intro n;induction n with
    | zero=>exact Nat.le_refl _
    | succ n ih=>simp only [unl]; split <;> omega
   exact this _
  ·refine hr'.toF.weak (fun t x hx=>?_) (fun n y hy=>?_)
   ·rcases (slS_iff hdf).1 hx with ⟨k,_,_,_,h,_⟩ | ⟨_,h,_⟩
    ·rw [getD_repl] at h; cases h
    ·exact h
   ·rcases bxS_iff.1 hy with ⟨k,q,_,h,_⟩ | ⟨_,h⟩
    ·have h:(Array.replicate ops.size false).getD k false = true:=h;rw [getD_repl] at h; cases h
    ·exact h
 exact wpIn_mono hcode (fun e a' w' h=>h.2)
abbrev PostR (E:Env) (R:Exit -> St -> Prop):Exit -> Act -> World -> Prop:=fun e a' w'=>e = .normal /\ ∃ s' g',R e s' /\ Rel E s' a' w' g'
def Rest (P:Program) (r:Option Nat) (E:Env) (ops:Array Oper) (R:Exit -> St -> Prop) (L:List Nat) (s:St):Prop:=
 ∀ (fuel:Nat) (listed:Array Bool) (a:Act) (w:World) (g:Gh),listed.size = ops.size -> (∀ k,k < ops.size -> listed.getD k false = L.contains k) -> unl (fun k=>listed.getD k false) ops.size <= fuel -> Rel E s a w g ->
  wpAnyIn (Fr r) 9 P .any ops (PostR E R) fuel listed a w
def Rest1 (P:Program) (r:Option Nat) (E:Env) (ops:Array Oper) (R:Exit -> St -> Prop) (L:List Nat) (s:St) (i:Nat):Prop:=
 ∀ (fuel:Nat) (listed:Array Bool) (a:Act) (w:World) (g:Gh),listed.size = ops.size -> (∀ k,k < ops.size -> listed.getD k false = L.contains k) -> unl (fun k=>listed.getD k false) ops.size <= fuel + 1 -> Rel E s a w g ->
  wpOpIn (Fr r) 9 P ops (PostR E R) i (wpAnyIn (Fr r) 9 P .any ops (PostR E R) fuel (listed.setIfInBounds i true)) a w
theorem readyL_iff {L:List Nat} {i:Nat} {listed:Array Bool} (hls:listed.size = ops.size) (hL:∀ k,k < ops.size -> listed.getD k false = L.contains k) (hb:∀ (i:Nat) o,ops[i]? = some o -> ∀ j ∈ edgesOf o,j < i):i ∈ Region.ready .any ops listed ↔ i ∈ readyL ops L:=by
 rw [ready_iff,getD_tf];unfold readyL;rw [List.mem_filter];constructor
 ·rintro ⟨⟨h1,h2⟩,o,ho,he⟩
  refine ⟨by simp; omega,?_⟩
  have hi:i < ops.size:=by omega
  rw [Bool.and_eq_true,ho];refine ⟨by rw [hL i hi] at h2; simp only [h2,Bool.not_false],?_⟩
  simp only [List.all_eq_true];exact fun j hj=>by rw [<- hL j (by have:=hb i o ho j hj; omega)]; exact he j hj
 ·rintro ⟨h1,h2⟩
  have hi:i < ops.size:=by simpa using h1
  rw [Bool.and_eq_true] at h2;refine ⟨⟨by omega,by rw [hL i hi]; simpa using h2.1⟩,?_⟩
  cases ho:ops[i]? with
  | none=>rw [ho] at h2; cases h2.2
  | some o=>
   rw [ho] at h2;have h3:=h2.2;simp only [List.all_eq_true] at h3;exact ⟨o,rfl,fun j hj=>by rw [hL j (by have:=hb i o ho j hj; omega)]; exact h3 j hj⟩
variable {L:List Nat} {i:Nat}
theorem set_L {listed:Array Bool} (hls:listed.size = ops.size) (hL:∀ k,k < ops.size -> listed.getD k false = L.contains k) (hi:i < ops.size):∀ k,k < ops.size -> (listed.setIfInBounds i true).getD k false = (i :: L).contains k:=fun k hk=>by
 rw [set_getD (by omega),List.contains_cons]
 by_cases hki:k = i
 ·rw [if_pos hki,hki]; simp
 ·rw [if_neg hki,hL k hk];have:(k == i) = false:=by simpa using hki
  rw [this,Bool.false_or]
theorem unl_less {listed:Array Bool} {fuel:Nat} (hls:listed.size = ops.size) (hi:i < ops.size) (hun:listed.getD i false = false) (h:unl (fun k=>listed.getD k false) ops.size <= fuel + 1):unl (fun k=>(listed.setIfInBounds i true).getD k false) ops.size <= fuel:=by
 have:=(unl_set (L:=fun k=>listed.getD k false) (L':=fun k=>(listed.setIfInBounds i true).getD k false) (i:=i) (fun k=>set_getD (by omega)) hun ops.size).1 hi
 omega
theorem unl_pos {listed:Array Bool} (hi:i < ops.size) (hun:listed.getD i false = false):1 <= unl (fun k=>listed.getD k false) ops.size:=by
 by_cases h:unl (fun k=>listed.getD k false) ops.size = 0
 ·have:=unl_zero h i hi;rw [hun] at this;cases this
 ·omega
theorem Rest.done (hb:∀ (i:Nat) o,ops[i]? = some o -> ∀ j ∈ edgesOf o,j < i) (hr:readyL ops L = []) (h:R .normal s.clean):Rest P r E ops R L s:=fun fuel listed a w g hls hL _ hrel=>by
 refine wpAnyIn_done (List.eq_nil_iff_forall_not_mem.2 fun j hj=>?_) ⟨rfl,_,g,h,clean_sound hrel⟩ fuel
 rw [readyL_iff hls hL hb,hr] at hj;cases hj
theorem Rest.all (hb:∀ (i:Nat) o,ops[i]? = some o -> ∀ j ∈ edgesOf o,j < i) (hne:readyL ops L ≠ []) (h:∀ i ∈ readyL ops L,Rest1 P r E ops R L s i):Rest P r E ops R L s:=fun fuel listed a w g hls hL hu hrel=>by
 have hmem:∀ i,i ∈ Region.ready .any ops listed ↔ i ∈ readyL ops L:=fun i=>readyL_iff hls hL hb
 obtain ⟨i0,hi0⟩:=List.exists_mem_of_ne_nil _ hne;have hi0':=(hmem i0).2 hi0;rw [ready_iff,getD_tf] at hi0';obtain ⟨f,rfl⟩:∃ f,fuel = f + 1:=⟨fuel - 1,by have:=unl_pos (listed:=listed) (ops:=ops) (i:=i0) (by omega) hi0'.1.2; omega⟩
 exact ⟨fun h0=>(by have:=(hmem i0).2 hi0; rw [h0] at this; cases this),fun i hi=>h i ((hmem i).1 hi) f listed a w g hls hL hu hrel⟩
theorem Rest1.of {o:Oper} (ho:ops[i]? = some o) (hn:L.contains i = false) (h:Goes P r E ops (fun s'=>Rest P r E ops R (i :: L) s') [o] s):Rest1 P r E ops R L s i:=fun fuel listed a w g hls hL hu hrel=>by
 have hi:i < ops.size:=(Array.getElem?_eq_some_iff.1 ho).1;unfold wpOpIn;rw [ho];exact h a w g _ _ hrel fun s' a' w' g' h' hr'=>h' fuel _ a' w' g' (by simpa using hls) (set_L hls hL hi) (unl_less hls hi (by rw [hL i hi]; exact hn) hu) hr'
theorem Rest.light {o:Oper} (hb:∀ (i:Nat) o,ops[i]? = some o -> ∀ j ∈ edgesOf o,j < i) (hns:noSel ops = true) (ho:ops[i]? = some o) (hi:i ∈ readyL ops L) (hl:lightL P ops L i = true) (h:Goes P r E ops (fun s'=>Rest P r E ops R (i :: L) s') [o] s):Rest P r E ops R L s:=fun fuel listed a w g hls hL hu hrel=>by
 have hir:=(readyL_iff hls hL hb).2 hi;have hir':=hir;rw [ready_iff,getD_tf] at hir';have hiz:i < ops.size:=by omega
 obtain ⟨f,rfl⟩:∃ f,fuel = f + 1:=⟨fuel - 1,by have:=unl_pos (listed:=listed) (ops:=ops) (i:=i) hiz hir'.1.2; omega⟩
 unfold lightL at hl;simp only [ho,Bool.and_eq_true,List.all_eq_true] at hl;obtain ⟨hlt,hfree⟩:=hl;have hst:wpOpIn (Fr r) 9 P ops (fun _ _ _=>False) i (fun a' w'=>∃ s' g',Rest P r E ops R (i :: L) s' /\ Rel E s' a' w' g') a w:=by
  unfold wpOpIn;rw [ho];exact h a w g _ _ hrel fun s' a' w' g' h' hr'=>⟨s',g',h',hr'⟩
 obtain ⟨v,hy,s',g',h',hr'⟩:∃ v,Yields P ops o v a /\ ∃ s' g',Rest P r E ops R (i :: L) s' /\ Rel E s' (a.put o.dst v) w g':=by
  unfold wpOpIn at hst;simp only [ho] at hst;cases hw:Region.wanted o (yielded ops a.tmps) with
  | true=>
   simp only [hw,if_true] at hst;obtain ⟨v,hv,hk⟩:=light_runs hlt hst;exact ⟨v,.inl ⟨hw,hv⟩,hk⟩
  | false=>
   simp only [hw,Bool.false_eq_true,if_false] at hst;exact ⟨undef,.inr ⟨hw,rfl⟩,hst.2⟩
 refine take_light hlt ho hns (fun c a' w' h=>by cases h.1) f listed a w (fun j oj hj hji hjl hno=>?_) hir hy (h' f _ _ w g' (by simpa using hls) (set_L hls hL hiz) (unl_less hls hiz hir'.1.2 hu) hr')
 have hjs:j < ops.size:=(Array.getElem?_eq_some_iff.1 hj).1;have h1:=hfree j (by simpa using hjs)
 rw [getD_tf] at hjl;simp only [hj,Bool.or_eq_true,beq_iff_eq,hji,false_or] at h1;rcases h1 with h1 | h1 | h1
 ·rw [<- hL j hjs,hjl.2] at h1; cases h1
 ·exact absurd (by simpa using h1) hno
 ·exact h1
theorem late_end {res:List (Option Res)} {s0 s1:St} {b:List Nat} {k d:Nat} (hd:DF ops res s0 b) (hend:Txt s0 ops res ops.size s1) (hk:k < ops.size) (hdk:dstOf ops k = some d) (hbx:∀ q y,resAt res k = some q -> q.box = some y -> y.1 = d) {listed:Array Bool} {a:Act} {w:World} {g:Gh}
  (hall:∀ j,j < ops.size -> cal res j = true -> j ≠ k -> listed.getD j false = true) (hF:RelF E (slS s0 ops res b fun k=>listed.getD k false) (bxS s0 ops res fun k=>listed.getD k false) a w g):Rel E (s1.lack d) a w g:=by
 have hok:=hend.ok;refine RelF.toRel ⟨(hok.slots.filter _).filter _,hok.boxes.filter _⟩ (hF.weak (fun t x hx=>?_) (fun n y hy=>?_))
 ·obtain ⟨h1,h2⟩:=lookup_filter (hok.slots.filter _) hx;obtain ⟨h1,h3⟩:=lookup_filter hok.slots h1;simp only [Bool.and_eq_true,bne_iff_ne] at h2;rw [slS_iff hd];rcases hend.slots t x h1 with ⟨j,c1,c2,c3,c4⟩ | ⟨c1,c2,c3⟩
  ·have hcj:=valAt_isCal c3;have hjk:j ≠ k:=fun e=>by subst e; rw [hdk] at c2; injection c2 with c2; exact h2.1 c2.symm
   refine .inl ⟨j,c1,hcj,c2,hall j c1 hcj hjk,c3,fun c hcz hjc hl hh=>?_⟩
   rcases hd.hord c j x t hcz c1 (Ne.symm hjc) c3 c2 hh with ⟨f1,f2⟩ | ⟨f1,f2⟩
   ·have:=c4 c f1 hcz;rw [hh] at this; cases this
   ·exact f2
  ·exact .inr ⟨fun j k1 k2 k3=>absurd k3 (c1 j k1 k2),c2,fun c hcz _=>c3 c hcz⟩
 ·obtain ⟨h1,h2⟩:=lookup_filter hok.boxes hy;simp only [Bool.and_eq_true,bne_iff_ne] at h2;rw [bxS_iff];rcases hend.boxes n y h1 with ⟨j,q,c1,c2,c3,c4⟩ | ⟨c1,c2⟩
  ·have hjk:j ≠ k:=fun e=>by subst e; exact h2.1 (hbx q _ c2 c3)
   exact .inl ⟨j,q,c1,hall j c1 (cal_of c2) hjk,c2,c3,fun c h1 h2 _=>c4 c h1 h2⟩
  ·exact .inr ⟨fun c h1 _=>c1 c h1,c2⟩
theorem tailU_spec {res:List (Option Res)} {b:List Nat} {u:Option Nat} (h:tailU P ops res b u = true):(∀ i k,i < ops.size -> cal res i = false -> k < ops.size -> cal res k = true -> (b.getD i 0).testBit k = true \/ lightAt P ops b k = true \/ u = some k) /\ ∀ k i,u = some k -> i < ops.size -> cal res i = true -> i ≠ k -> (b.getD i 0).testBit k = false:=by
 unfold tailU at h;rw [List.all_eq_true] at h;refine ⟨fun i k hi hci hk hck=>?_,fun k i hu hi hci hik=>?_⟩
 ·have:=h i (by simpa using hi)
  simp only [hci,Bool.false_eq_true,if_false] at this;rw [List.all_eq_true] at this;have:=this k (by simpa using hk)
  simpa [hck,or_assoc] using this
 ·have:=h i (by simpa using hi)
  simp only [hci,if_true,hu] at this;simpa [hik] using this
theorem calL_iff {res:List (Option Res)} {u:Option Nat} {k:Nat} (hk:k < ops.size):(calL ops res u).contains k = (cal res k && u != some k):=by
 rw [Bool.eq_iff_iff,List.contains_iff_mem];unfold calL;rw [List.mem_filter];simp [hk]
theorem AWp.draw2 (hN:N = E.N) (hmo:P.follows .mixedOrders = true) {res:List (Option Res)} {s1:St} {u:Option Nat} (hc:arunC P N ops hints tl 0 ops.toList s = some (res,s1,ob)) (hob:ob) (hok:drawOk ops res s (befs ops.toList []) = true) (hto:tailU P ops res (befs ops.toList []) u = true)
  (hm:Rest P r E ops R (calL ops res none) s1)
  (hs:∀ k,u = some k -> soft res k = true /\ k < ops.size /\ ∀ d,dstOf ops k = some d -> ∀ i ∈ readyL ops (calL ops res u),cal res i = false -> Rest1 P r E ops R (calL ops res u) (s1.lack d) i) :
  AWp P r E (.region id ops true) s R:=by
 intro a w g hr;have hdf:=DF.of hok;have hlen:ops.toList.length = ops.size:=by simp
 obtain ⟨f1,f0,f2,f3⟩:=arunC_facts (s0:=s) (res:=res) ops.toList 0 s s1 res ob (fun j o hj=>by simpa using hj) (fun j hj=>by simp) hc hob ⟨hr.uniq,fun t x hx=>.inr ⟨fun k hk=>by omega,hx,fun c hc=>by omega⟩,fun n y hy=>.inr ⟨fun c hc=>by omega,hy⟩⟩
 rw [hlen] at f1 f2 f0;have hstep:∀ i,i < ops.size -> cal res i = true -> StepOk P N ops hints s res i:=fun i hi hci=>by
  have h0:=f0 i hi;rw [Nat.zero_add,hci] at h0;simpa using f1 i hi (by rw [Nat.zero_add]; simpa using h0.symm)
 have hmk:=makes_dst hstep;have hend:Txt s ops res ops.size s1:=by simpa using f2
 obtain ⟨ht1,ht2⟩:=tailU_spec hto;have hcode:(Code.region id ops true).wpIn (Fr r) 9 P (PostR E R) a w:=by
  refine wpIn_region_any hmo ?_;have hr':=hr.drew;refine draw_core (hints:=hints) (res:=res) (s0:=s) (u:=u) hN hdf rfl hmk hstep ht1 ht2 (fun c a' w' h=>by cases h.1) (fun {fuel listed a w g} hls hc hlm hall hu hF=>?_) (fun {fuel listed a w g k i} hu hls hc hlm hall hun hfu hF hi hci=>?_) ops.size _ a _ g (by simp) (fun i o ho hl=>?_) (fun i hi=>?_) ?_ ?_
  ·refine hm fuel listed a w g hls (fun k hk=>?_) hu (to_end hdf hend hall hF)
   rw [calL_iff hk];cases hck:cal res k with
   | true=>rw [hall k hk hck]; rfl
   | false=>
    cases hl:listed.getD k false with
    | false=>rfl
    | true=>rw [hlm k hl] at hck; cases hck
  ·obtain ⟨m1,m2,m3⟩:=hs k hu;obtain ⟨q,hq,hqw⟩:∃ q,resAt res k = some q /\ q.wr = none:=by
    unfold soft at m1;cases hq:resAt res k with
    | none=>rw [hq] at m1; cases m1
    | some q=>rw [hq] at m1; exact ⟨q,rfl,by simpa using m1⟩
   obtain ⟨d,hdk⟩:∃ d,dstOf ops k = some d:=by
    obtain ⟨o,s,ho,_,hcase⟩:=hstep k m2 (cal_of hq);rcases hcase with ⟨d,hdst,_⟩ | ⟨p,c,_,_,_,_,hres⟩ | ⟨d,hdst,_⟩
    ·exact ⟨d,by simp [dstOf,ho,hdst]⟩
    ·rw [hres] at hq; injection hq with hq; subst hq; cases hqw
    ·exact ⟨d,by simp [dstOf,ho,hdst]⟩
   have hL:∀ j,j < ops.size -> listed.getD j false = (calL ops res u).contains j:=fun j hj=>by
    rw [calL_iff hj,hu];by_cases hjk:j = k
    ·subst hjk; rw [hun]; simp
    ·have:(some k != some j) = true:=by simp; exact fun e=>hjk e.symm
     rw [this,Bool.and_true];cases hcj:cal res j with
     | true=>exact hall j hj hcj hjk
     | false=>
      cases hl:listed.getD j false with
      | false=>rfl
      | true=>rw [hlm j hl] at hcj; cases hcj
   exact m3 d hdk i ((readyL_iff hls hL hdf.edge).1 hi) hci fuel listed a w g hls hL hfu (late_end hdf hend m2 hdk (fun q' y' hq' hy'=>by
    rw [hq] at hq'; injection hq' with hq'; subst hq'
    have:=hmk k q y' m2 hq hqw hy';rw [hdk] at this;injection this with this
    exact this.symm) hall hF)
  ·have hl':(Array.replicate ops.size false).getD i false = true:=hl;rw [getD_repl] at hl'; cases hl'
  ·have hi':(Array.replicate ops.size false).getD i false = true:=hi;rw [getD_repl] at hi'; cases hi'
  ·have:∀ n,unl (fun k=>(Array.replicate ops.size false).getD k false) n <= n:=by
    intro n;induction n with
    | zero=>exact Nat.le_refl _
    | succ n ih=>simp only [unl]; split <;> omega
   exact this _
  ·refine hr'.toF.weak (fun t x hx=>?_) (fun n y hy=>?_)
   ·rcases (slS_iff hdf).1 hx with ⟨k,_,_,_,h,_⟩ | ⟨_,h,_⟩
    ·rw [getD_repl] at h; cases h
    ·exact h
   ·rcases bxS_iff.1 hy with ⟨k,q,_,h,_⟩ | ⟨_,h⟩
    ·have h:(Array.replicate ops.size false).getD k false = true:=h;rw [getD_repl] at h; cases h
    ·exact h
 exact wpIn_mono hcode (fun e a' w' h=>h.2)
end
end Go.Proofs.YthnagpmnoncijaaGreat.M
