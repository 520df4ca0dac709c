/- A part of the proof. -/
import Derived.Test.YthnagpmnoncijaaGreatMchX
set_option linter.unusedVariables false
namespace Go.Proofs.YthnagpmnoncijaaGreat.M
open Go Go.RowKit
section
variable {P:Program} {N U:Nat} {T:List Ent}
def topM (w:World) (k:Nat -> Nat -> Prop) (b0:Nat) (hk:∀ i,¬ k b0 i):Env:=
 ⟨0,w.heap.size,fun b=>b = b0,w,k,none,fun _=>b0,fun _=>none,fun dy=>dy = ⟨fun _=>undef,[],fun _=>none⟩,Nat.zero_le _,fun b i h=>by rw [h]; exact hk i⟩
theorem topM_lp {w:World} {k:Nat -> Nat -> Prop} {b0:Nat} {hk:∀ i,¬ k b0 i}:(topM w k b0 hk).Lp P:=
 ⟨fun n x h=>(by cases h),fun dy hJ n hn=>.inl ⟨rfl,(by have hJ:dy = _:=hJ; rw [hJ])⟩,fun dy hJ n x h=>(by cases h),fun dy n x c hJ h=>(by cases h)⟩
theorem finM_some {rs:List ResultVar} {R:AT} {te:Nat} {t:Ty} {e:Exit} {s:St} {z:R.T × t.T} (h:finM P rs R te t e s = some z) :
  (e = .normal \/ e = .ret) /\ ∃ l cs,resOf P s rs = some l /\ s.box? lentN = some (te,cs) /\ R.dec (l.map fun v=>⟨v.sh,copyCells false (fun _=>.slot 0 0) 0 v.cs⟩) = some (z.1,[]) /\ decC t cs = some (z.2,[]):=by
 unfold finM at h
 have go:(match resOf P s rs,s.box? lentN with
  | some l,some (e',cs)=>match Nat.beq e' te,R.dec (l.map fun v=>⟨v.sh,copyCells false (fun _=>.slot 0 0) 0 v.cs⟩),decC t cs with
   | true,some (x,[]),some (z,[])=>some (x,z)
   | _,_,_=>none
  | _,_=>none) = some z -> ∃ l cs,resOf P s rs = some l /\ s.box? lentN = some (te,cs) /\ R.dec (l.map fun v=>⟨v.sh,copyCells false (fun _=>.slot 0 0) 0 v.cs⟩) = some (z.1,[]) /\ decC t cs = some (z.2,[]):=fun h=>by
  split at h
  ·rename_i l e' cs h1 h2;split at h
   ·rename_i x y h3 h4 h5;injection h with h;subst h;have h3:=Nat.eq_of_beq_eq_true h3;subst h3;exact ⟨l,cs,h1,h2,h4,h5⟩
   ·cases h
  ·cases h
 cases e with
 | normal=>exact ⟨.inl rfl,go h⟩
 | ret=>exact ⟨.inr rfl,go h⟩
 | _=>cases h
theorem MEnt.of (hT:∀ e ∈ T,Ent.Ok P e) (hmo:P.follows .mixedOrders = true) {f:Nat} {fn:Func} {c:Code} {te:Nat} {t:Ty} {A R:AT} {F:t.T -> A.T -> Option (R.T × t.T)} {G:List (Nat × Seg)} (hf:P.funcs[f]? = some fn) (hn:(fn.name == "runtime.NumGoroutine") = false) (hb:fn.body = some c) (hNN:fn.ntmps = N) (hlim:Nat.ble N lim = true)
  (hA:A.noOwn = true) (hR:R.bare = true) (hlen:∀ y,Nat.ble ((A.svs y).length + 1) N = true) {rs:List ResultVar} (hrs:fn.results.toList = rs) (hG:SegsOk P N c G) {I:Inl (R.T × t.T)} (hI:InlsOk P I)
  (h:∀ x y,F x y = ev T P N U f G I c 1 (mutIn te x y) (finM P rs R te t)):MEnt.Ok P ⟨f,te,t,A,R,F⟩:=by
 subst hNN;refine ⟨hR,fun as w=>?_,fun x y z v hy hv rd w k vs b0 us hvl hvs hb0 hesp hk hul hus=>?_⟩
 ·have h1:fn.name ≠ "runtime.NumGoroutine":=by simpa using hn
  simp [callFunc,hf,h1,hb,mark]
 ·have hy:F x y = some z:=hy;rw [h x y] at hy;have hlen:(A.svs y).length + 1 <= fn.ntmps:=Nat.le_of_ble_eq_true (hlen y);have hb0s:b0 < w.heap.size:=(Array.getElem?_eq_some_iff.1 hb0).1
  let g0:Gh:=⟨fun _=>b0,fun _=>.free,⟨fun _=>undef,[],fun _=>none⟩⟩
  let a0:Act:={ tmps:=#[],defers:=[] }
  let E:Env:=(topM w k b0 hk).inner a0 g0 fn.ntmps none (Nat.le_of_ble_eq_true hlim)
  have hE:E.Ok P:=⟨(topM_lp (P:=P)).inner (g:=g0) (fun n hn=>rfl) (fun x hx=>by cases hx),Env.Rd.inner (fun l hl=>by cases hl),by show (if lim < sh then none else (none:Option LpI)) = none; rw [if_pos lim_sh]⟩
  have hvl:vs.length = (A.svs y).length:=hvl
  let ws:List Value:=.pointer (some ⟨b0,0,none⟩) :: vs
  let svs:List SV:=one (.ptr lentN 0) :: A.svs y
  have hsz:(ws.toArray ++ Array.replicate (fn.ntmps - ws.toArray.size) undef).size = fn.ntmps:=by simp [ws]; omega
  have hget:∀ t,t < ws.length -> (ws.toArray ++ Array.replicate (fn.ntmps - ws.toArray.size) undef).getD t undef = ws[t]?.getD undef:=fun t ht=>by
   rw [Array.getD_eq_getD_getElem?,Array.getElem?_append_left (by simpa using ht)]
   simp
  have hkk:∀ b j,k b j -> w.cell? ⟨b,j,none⟩ ≠ none -> ok w.heap.size k (fun b=>if b = b0 then .box lentN else .free) b j:=fun b j k1 k2=>by
   cases hc:w.cell? ⟨b,j,none⟩ with
   | none=>exact absurd hc k2
   | some q=>
    have hbl:b < w.heap.size:=World.block_lt_of_cell? w ⟨b,j,none⟩ hc;simp only [ok,if_pos hbl];exact k1
  have hR0:Rel E (mutIn te x y) { tmps:=ws.toArray ++ Array.replicate (fn.ntmps - ws.toArray.size) undef,defers:=[] } w ⟨fun _=>b0,fun b=>if b = b0 then .box lentN else .free,dyIn a0 [] g0.dy⟩:=by
   refine ⟨⟨(fnSlots_uniq svs 0).1,by simp [mutIn,Uniq]⟩,fun t' x' hx=>?_,fun n e cs hn=>?_,fun n e cs hn=>?_,fun b hb=>?_,Bel.refl _ _ _,Nat.le_refl _,hsz,rfl,fun l o hl=>by simp [dyIn,g0] at hl,fun n hn=>rfl,⟨g0.dy,[],rfl,rfl,fun _=>rfl,List.nodup_nil,fun D hD=>(by cases hD),rfl⟩⟩
   ·obtain ⟨_,hx⟩:=fnSlots_look svs 0 t' x' hx;simp only [Nat.sub_zero] at hx;have ht:t' < ws.length:=by have:=(List.getElem?_eq_some_iff.1 hx).1; simp [ws,svs] at this ⊢; omega
    have hlt:t' < lim:=by
     have:=Nat.le_of_ble_eq_true hlim;simp [ws] at ht;omega
    rw [tv_own hlt];show SVR _ _ _ (Array.getD _ t' undef);rw [hget t' ht];cases t' with
    | zero=>
     simp [svs] at hx;subst hx;exact SVR.of_one rfl rfl
    | succ t'=>
     have hx:(A.svs y)[t']? = some x':=by simpa [svs] using hx
     have ht':t' < vs.length:=by simp [ws] at ht; omega
     show SVR _ _ _ ((vs[t']?).getD undef);rw [List.getElem?_eq_getElem ht'];obtain ⟨us,e1,e2,e3,e4⟩:=hvs t' x' _ hx (List.getElem?_eq_getElem ht');refine ⟨us,e1,e2,e3,fun i q z hq hz=>⟨(e4 i q z hq hz).1,?_⟩⟩
     have hqp:q.plain = true:=by
      have hpl:=svs_plain (a:=A) (x:=y) hA;rw [List.all_eq_true] at hpl;have:=hpl x' (List.mem_of_getElem? hx);rw [List.all_eq_true] at this;exact this q (List.mem_of_getElem? hq)
     exact plain_mono hqp (e4 i q z hq hz).2 (fun b j z k1 k2=>⟨k2,hkk b j k1 (by have k2:w.cell? ⟨b,j,none⟩ = some z:=k2; rw [k2]; simp)⟩) (fun b j z k1 k2=>⟨k2,.inl ⟨World.block_lt_of_cell? w ⟨b,j,none⟩ k2,k1⟩⟩)
   ·have hn:(if n = lentN then some (te,(enc t x).map D.toC) else none) = some (e,cs):=by
     simp only [mutIn,List.lookup_cons,List.lookup_nil] at hn;by_cases hnn:n = lentN
     ·subst hnn; simpa using hn
     ·have:(n == lentN) = false:=by simpa using hnn
      rw [this] at hn; cases hn
    split at hn
    ·rename_i hnn;subst hnn;simp only [Option.some.injEq,Prod.mk.injEq] at hn;obtain ⟨rfl,rfl⟩:=hn;refine ⟨by simp,.mk hesp ⟨us,hb0,by rw [List.length_map,enc_length]; exact hul,fun i p q hp hq=>?_⟩⟩
     rw [List.getElem?_map] at hp;cases hd:(enc t x)[i]? with
     | none=>rw [hd] at hp; cases hp
     | some d=>
      rw [hd] at hp; injection hp with hp; subst hp
      obtain ⟨c1,c2⟩:=hus i d q hd hq;exact ⟨c1,toC_sound (c2.mono fun b j z k1 k2=>⟨k2,hkk b j k1 (by rw [k2]; simp)⟩)⟩
    ·cases hn
   ·intro c hc;simp only [mutIn,List.lookup_cons,List.lookup_nil] at hn;split at hn
    ·simp only [Option.some.injEq,Prod.mk.injEq] at hn;obtain ⟨rfl,rfl⟩:=hn;obtain ⟨d,_,rfl⟩:=List.mem_map.1 hc;cases d <;> rfl
    ·cases hn
   ·have hb:(if b = b0 then Perm.box lentN else .free) ≠ .free:=hb
    split at hb
    ·rename_i hbb;subst hbb;exact ⟨.inr ⟨rfl,by show (if b = b then Perm.box lentN else .free).rowless; rw [if_pos rfl]; exact rowless_box⟩,hb0s⟩
    ·exact absurd rfl hb
  have hw:=ev_sound (E:=E) hT hI hE hmo rfl ⟨fn,hf,hb,rfl⟩ hG c 1 _ _ z .root hy _ w _ hR0;have hc:CallsIn (Fr none) 9 P f ws.toArray w fun e w'=>∃ (u:Value) (us':List Value),e = .returned u /\ Bel w.heap.size (fun b=>b = b0) w w' /\
    SVR ⟨w',newK w.heap.size k,fun _=>.free,fun _=>0,fun _=>none,newK w.heap.size k⟩ (.slot 0) v u /\
    w'.heap[b0]? = some (.cells us'.toArray te (0,0)) /\ us'.length = t.n /\
    ∀ (i:Nat) d q,(enc t z.2)[i]? = some d -> us'[i]? = some q -> q.oneCell' = true /\ DV w' (newK w.heap.size k) d q:=by
   refine callsIn_of_wp_marks hf hb trivial (wpIn_mono hw fun e a1 w1 hq=>?_)
   obtain ⟨s',g1,hq,hR1⟩:=hq;obtain ⟨hex,l,cs,hl,hbx,hd,hdz⟩:=finM_some hq
   have go:LeavesInM (Fr none) 9 P fn a1.tmps (fun e w'=>∃ (u:Value) (us':List Value),e = .returned u /\ Bel w.heap.size (fun b=>b = b0) w w' /\
    SVR ⟨w',newK w.heap.size k,fun _=>.free,fun _=>0,fun _=>none,newK w.heap.size k⟩ (.slot 0) v u /\
    w'.heap[b0]? = some (.cells us'.toArray te (0,0)) /\ us'.length = t.n /\
    ∀ (i:Nat) d q,(enc t z.2)[i]? = some d -> us'[i]? = some q -> q.oneCell' = true /\ DV w' (newK w.heap.size k) d q) a1.defers .returning w1:=by
    refine marks_out hE.rd rfl _ _ _ _ rfl hR1 fun w' g' hR'=>?_
    obtain ⟨vs',er,hlv,hcv⟩:=resOf_sound _ l hl hR';have hrun:=results_run (P:=P) (w:=w') (fn:=fn) (by rw [hrs]; exact er)
    have hkn:∀ b i,ok E.base E.k0 g'.perm b i -> newK w.heap.size k b i:=fun b i h1=>by
     have h1:ok w.heap.size k g'.perm b i:=h1;simp only [newK,ok] at h1 ⊢;split
     ·rename_i hlt; rw [if_pos hlt] at h1; exact h1
     ·trivial
    obtain ⟨d1,d2,d3⟩:=dec_weak hd;have hll:l.length = (R.svs z.1).length:=by simpa using d1
    obtain ⟨v1,pl,us1,e1,e2,e3,e4⟩:=joinRes_sound (c:=ctx E g' { a1 with defers:=[] } w') (vs:=vs') hv (hlv.trans hll) (fun i p u hp hu=>by
     have hi:i < l.length:=by rw [hll]; exact (List.getElem?_eq_some_iff.1 hp).1
     obtain ⟨pl,hs⟩:=hcv i l[i] u (List.getElem?_eq_getElem hi) hu
     exact d3 i _ p (by rw [List.getElem?_map,List.getElem?_eq_getElem hi]; rfl) hp _ (fun _=>.slot 0 0) u (SVR.copy (pl:=pl) (sh:=(l[i]).sh) (cs:=(l[i]).cs) hs fun h=>by cases h)) (svs_shown hR)
    have b1:=(hR'.boxes lentN te cs (St.box?_eq hbx).1).1;obtain ⟨us2,b2,b3,b4⟩:=hR'.norm hbx;have hι:g'.ι lentN = b0:=hR'.li lentN (by decide)
    rw [hι] at b1 b2;obtain ⟨c1,c2,c3⟩:=decC_sound (c:=ctx E g' _ w') (us:=us2) (pl:=fun i=>.box lentN i) hdz b3 b4
    refine ⟨_,hrun,_,us2,rfl,hR'.below,⟨us1,e1,e2,e3,fun i q z hq hz=>⟨(e4 i q z hq hz).1,shown_mono ?_ (e4 i q z hq hz).2 (fun b j z k1 k2=>⟨k2,hkn b j k1⟩)⟩⟩,b2,by rw [b3]; simpa using c1,fun i d q hd hq=>⟨(c3 i d q hd hq).1,(c3 i d q hd hq).2.mono fun b j z k1 k2=>⟨k2,hkn b j k1⟩⟩⟩
    rw [List.all_eq_true] at v1;exact v1 q (List.mem_of_getElem? hq)
   rcases hex with rfl | rfl
   ·exact go
   ·exact go
  exact ⟨trivial,hc.2⟩
end
end Go.Proofs.YthnagpmnoncijaaGreat.M
