/- A part of the proof. -/
import Derived.Test.YthnagpmnoncijaaGreatMchD
set_option linter.unusedVariables false
namespace Go.Proofs.YthnagpmnoncijaaGreat.M
open Go Go.RowKit
abbrev Sl:=Nat -> Option SV
abbrev Bx:=Nat -> Option (Nat × List Cell)
structure RelF (E:Env) (sl:Sl) (bx:Bx) (a:Act) (w:World) (g:Gh):Prop where
 slots:∀ t x,sl t = some x -> SVR (ctx E g a w) (.slot t) x (tv g.dy.out a t)
 boxes:∀ n e cs,bx n = some (e,cs) -> g.perm (g.ι n) = .box n /\ BoxV (ctx E g a w) (g.ι n) n e cs
 nt:∀ n e cs,bx n = some (e,cs) -> ∀ c ∈ cs,c.target = none
 lo:∀ b,g.perm b ≠ .free -> (E.base <= b \/ (E.lent b /\ (g.perm b).rowless)) /\ b < w.heap.size
 below:Bel E.base E.lent E.w0 w
 base:E.base <= w.heap.size
 size:a.tmps.size = E.N
 defers:a.defers = g.dy.ds
 ko:∀ l o,g.dy.ko l = some o -> w.heap[l]? = some o /\ g.perm l = .free
 li:∀ n,lim <= n % sh -> g.ι n = E.li n
 dyn:E.J g.dy
theorem Rel.toF {E:Env} {s:St} {a:Act} {w:World} {g:Gh} (h:Rel E s a w g):RelF E (fun t=>s.slots.lookup t) (fun n=>s.boxes.lookup n) a w g:=
 ⟨h.slots,h.boxes,h.nt,h.lo,h.below,h.base,h.size,h.defers,h.ko,h.li,h.dyn⟩
theorem RelF.toRel {E:Env} {s:St} {a:Act} {w:World} {g:Gh} (hs:s.Ok) (h:RelF E (fun t=>s.slots.lookup t) (fun n=>s.boxes.lookup n) a w g):Rel E s a w g:=
 ⟨hs,h.slots,h.boxes,h.nt,h.lo,h.below,h.base,h.size,h.defers,h.ko,h.li,h.dyn⟩
theorem RelF.weak {E:Env} {sl sl':Sl} {bx bx':Bx} {a:Act} {w:World} {g:Gh} (h:RelF E sl bx a w g) (h1:∀ t x,sl' t = some x -> sl t = some x) (h2:∀ n q,bx' n = some q -> bx n = some q):RelF E sl' bx' a w g:=
 { h with slots:=fun t x hx=>h.slots t x (h1 t x hx),boxes:=fun n e cs hx=>h.boxes n e cs (h2 n _ hx),nt:=fun n e cs hx=>h.nt n e cs (h2 n _ hx) }
def immO:Obj -> Bool
 | .map _ _=>true
 | .mapIter _ _ _ _=>true
 | _=>false
theorem Imm.keep {w w':World} (h:∀ (b:Nat) (o:Obj),w.heap[b]? = some o -> immO o = true -> w'.heap[b]? = some o):∀ (k:Nat) (u:Value),Imm w k u -> Imm w' k u
 | 0,u,⟨b,e,hb⟩=>⟨b,e,h b _ hb rfl⟩
 | 1,u,⟨r,m,e,h1,h2⟩=>⟨r,m,e,h r _ h1 rfl,h m _ h2 rfl⟩
 | k + 2,u,_=>trivial
theorem Imm.grow {w w':World} (hb:Below w.heap.size w w') (k:Nat) (u:Value) (h:Imm w k u):Imm w' k u:=
 Imm.keep (fun b o h2 _=>by rw [hb.block b (Array.getElem?_eq_some_iff.1 h2).1]; exact h2) k u h
theorem CV.mono {c c':Ctx} {p:Place} {x:Cell} {u:Value} (h:CV c p x u)
  (hk:∀ b i v,c.k b i -> c.w.cell? ⟨b,i,none⟩ = some v -> c'.w.cell? ⟨b,i,none⟩ = some v /\ c'.k b i)
  (hk2:∀ b i v,c.kp b i -> c.w.cell? ⟨b,i,none⟩ = some v -> c'.w.cell? ⟨b,i,none⟩ = some v /\ c'.kp b i)
  (hown:∀ q b tip,((x.isOwn = true /\ q = p) \/ x.target = some q) -> c.perm b = .row q tip -> c'.perm b = .row q tip /\ c'.w.heap[b]? = c.w.heap[b]?)
  (hι:∀ n,x.mentions n = true -> c'.ι n = c.ι n)
  (hconc:∀ q v,x.target = some q -> c.conc q = some v -> c'.conc q = some v) (hm:∀ k u,Imm c.w k u -> Imm c'.w k u:=by exact fun _ _ h=>h):CV c' p x u:=by
 have hrow:∀ q e sz n,((x.isOwn = true /\ q = p) \/ x.target = some q) -> (∃ us,c.w.ownsRow 0 e sz u n us) -> (∀ b,u.ownBlock = some b -> c.perm b = .row q (n * sz)) ->
   (∃ us,c'.w.ownsRow 0 e sz u n us) /\ ∀ b,u.ownBlock = some b -> c'.perm b = .row q (n * sz):=fun q e sz n hq ⟨us,ho⟩ hb=>by
  refine ⟨⟨us,ho.1,?_⟩,fun b hbb=>(hown q b _ hq (hb b hbb)).1⟩
  rcases ho.2 with hn | ⟨gb,cap,cur,e1,e2,e3,e4⟩
  ·exact .inl hn
  ·refine .inr ⟨gb,cap,cur,e1,e2,?_,e4⟩;have hbb:u.ownBlock = some gb:=by rw [e1]; rfl
   rw [(hown q gb _ hq (hb gb hbb)).2];exact e3
 cases x with
 | c x=>exact h
 | v x=>exact h
 | nilS=>exact h
 | lst t l=>exact DV.mono hk h
 | own e t l=>
  obtain ⟨h1,h3,h4⟩:=h;obtain ⟨r1,r2⟩:=hrow p e t.n l.length (.inl ⟨rfl,rfl⟩) h1 h4;exact ⟨r1,DV.mono hk h3,r2⟩
 | ali q e t l=>
  obtain ⟨h0,h1,h3,h4⟩:=h;obtain ⟨r1,r2⟩:=hrow q e t.n l.length (.inr rfl) h1 h4;exact ⟨hconc q u rfl h0,r1,DV.mono hk h3,r2⟩
 | ptr n off=>
  rw [show u = _ from h];show _ = _;rw [hι n (by simp [Cell.mentions])]
 | sp n off len cap t=>
  rw [show u = _ from h];show _ = _;rw [hι n (by simp [Cell.mentions])]
 | pe n off t len i fo=>
  refine ⟨?_,h.2⟩;rw [h.1];show _ = _;rw [hι n (by simp [Cell.mentions])]
 | re q t i fo=>
  obtain ⟨b,len,cap,h0,e,h1⟩:=h;exact ⟨b,len,cap,hconc q _ rfl h0,e,h1⟩
 | dp cs=>
  obtain ⟨b,off,e,hc⟩:=h;exact ⟨b,off,e,hc.mono hk2 hk⟩
 | yld n=>
  rw [show u = _ from h];show _ = _;rw [hι n (by simp [Cell.mentions])]
 | dclo f dss=>
  obtain ⟨as,e,hl,hc⟩:=h;exact ⟨as,e,hl,fun i q ds hq hd=>(hc i q ds hq hd).mono hk hk⟩
 | imm k=>exact hm k u h
 | arr l=>exact h
 | clo f caps=>
  rw [show u = _ from h];show _ = _
  congr 2
  apply List.map_congr_left;intro q hq;rw [hι q.1 (by simp only [Cell.mentions,List.any_eq_true]; exact ⟨q,hq,by simp⟩)]
theorem SVR.mono {c c':Ctx} {pl:Nat -> Place} {x:SV} {u:Value} (h:SVR c pl x u)
  (hk:∀ b i v,c.k b i -> c.w.cell? ⟨b,i,none⟩ = some v -> c'.w.cell? ⟨b,i,none⟩ = some v /\ c'.k b i)
  (hk2:∀ b i v,c.kp b i -> c.w.cell? ⟨b,i,none⟩ = some v -> c'.w.cell? ⟨b,i,none⟩ = some v /\ c'.kp b i)
  (hown:∀ i y q b tip,x.cs[i]? = some y -> ((y.isOwn = true /\ q = pl i) \/ y.target = some q) -> c.perm b = .row q tip -> c'.perm b = .row q tip /\ c'.w.heap[b]? = c.w.heap[b]?)
  (hι:∀ y n,y ∈ x.cs -> y.mentions n = true -> c'.ι n = c.ι n)
  (hconc:∀ y q v,y ∈ x.cs -> y.target = some q -> c.conc q = some v -> c'.conc q = some v) (hm:∀ k u,Imm c.w k u -> Imm c'.w k u:=by exact fun _ _ h=>h):SVR c' pl x u:=by
 obtain ⟨us,hu,hf,hl,hc⟩:=h;refine ⟨us,hu,hf,hl,fun i y z hy hz=>⟨(hc i y z hy hz).1,(hc i y z hy hz).2.mono hk hk2 (fun q b tip=>hown i y q b tip hy) (fun n=>hι y n (List.mem_of_getElem? hy)) (fun q v=>hconc y q v (List.mem_of_getElem? hy)) hm⟩⟩
section
variable {P:Program} {E:Env} {sl:Sl} {bx:Bx} {a:Act} {w:World} {g:Gh}
def SV.refs (d:Nat) (x:SV):Bool:=x.cs.any (Cell.refs d)
def SV.mentions (n:Nat) (x:SV):Bool:=x.cs.any (Cell.mentions n)
def upd (sl:Sl) (d:Nat) (x:SV):Sl:=fun t=>if t = d then some x else match sl t with
 | some y=>if y.refs d then none else some y
 | none=>none
theorem getD_put {d t:Nat} {u:Value} (hd:d < a.tmps.size):(a.put (some d) u).tmps.getD t undef = if t = d then u else a.tmps.getD t undef:=by
 simp only [Act.put];rw [Array.getD_eq_getD_getElem?,Array.getD_eq_getD_getElem?,Array.getElem?_setIfInBounds];by_cases h:d = t
 ·subst h; simp [hd]
 ·simp [h,Ne.symm h]
theorem tv_put {out:Nat -> Value} {d t:Nat} {u:Value} (hd:d < a.tmps.size) (hl:d < lim):tv out (a.put (some d) u) t = if t = d then u else tv out a t:=by
 unfold tv;by_cases ht:t < lim
 ·rw [if_pos ht,if_pos ht,getD_put hd]
 ·rw [if_neg ht,if_neg ht,if_neg (by omega)]
theorem concAt_put {out:Nat -> Value} {d:Nat} {u:Value} {q:Place} (hd:d < a.tmps.size) (hl:d < lim) (hq:∀ i,q ≠ .slot d i):concAt out (a.put (some d) u) w g.ι q = concAt out a w g.ι q:=by
 cases q with
 | slot t i=>
  simp only [concAt];rw [tv_put hd hl,if_neg (fun h=>hq i (by rw [h]))]
 | box n i=>rfl
theorem refs_target {x:Cell} {d:Nat} {q:Place} (hx:x.refs d = false) (hq:x.target = some q):∀ i,q ≠ .slot d i:=by
 cases x <;> simp [Cell.target] at hq
 all_goals
  subst hq;intro i hi;subst hi;simp [Cell.refs] at hx
theorem not_refs {x:SV} {d:Nat} (h:x.refs d = false) {y:Cell} (hy:y ∈ x.cs):y.refs d = false:=by
 unfold SV.refs at h;rw [List.any_eq_false] at h;simpa using h y hy
theorem RelF.put (h:RelF E sl bx a w g) {d:Nat} {x:SV} {u:Value} (hd:d < E.N) (hx:SVR (ctx E g a w) (.slot d) x u) (hr:x.refs d = false) :
  RelF E (upd sl d x) bx (a.put (some d) u) w g:=by
 have hd':d < a.tmps.size:=by rw [h.size]; exact hd
 have hl:d < lim:=Nat.lt_of_lt_of_le hd E.hN;have hput:(a.put (some d) u).tmps.size = a.tmps.size:=by simp [Act.put]
 refine { h with slots:=fun t y hy=>?_,boxes:=fun n e cs hn=>?_,size:=by rw [hput]; exact h.size,defers:=h.defers }
 ·rw [tv_put hd' hl];unfold upd at hy;by_cases ht:t = d
  ·simp only [ht,if_true] at hy ⊢;injection hy with hy;subst hy
   exact hx.mono (fun _ _ _ h1 h2=>⟨h2,h1⟩) (fun _ _ _ h1 h2=>⟨h2,h1⟩) (fun _ _ _ _ _ _ _ h=>⟨h,rfl⟩) (fun _ _ _ _=>rfl) (fun y q v hy hq hv=>by
    show concAt g.dy.out (a.put (some d) u) w g.ι q = some v;rw [concAt_put hd' hl (refs_target (not_refs hr hy) hq)]
    exact hv)
  ·simp only [ht,if_false] at hy ⊢;cases hs:sl t with
   | none=>simp [hs] at hy
   | some z=>
    simp only [hs] at hy;split at hy
    ·simp at hy
    ·rename_i hz;injection hy with hy;subst hy
     exact (h.slots t z hs).mono (fun _ _ _ h1 h2=>⟨h2,h1⟩) (fun _ _ _ h1 h2=>⟨h2,h1⟩) (fun _ _ _ _ _ _ _ h=>⟨h,rfl⟩) (fun _ _ _ _=>rfl) (fun y q v hy hq hv=>by
      show concAt g.dy.out (a.put (some d) u) w g.ι q = some v;rw [concAt_put hd' hl (refs_target (not_refs (by simpa using hz) hy) hq)]
      exact hv)
 ·obtain ⟨h1,h2⟩:=h.boxes n e cs hn;refine ⟨h1,h2.mono rfl rfl (fun _=>rfl) fun i x y hx _ hc=>(hc x hx).mono (fun _ _ _ h1 h2=>⟨h2,h1⟩) (fun _ _ _ h1 h2=>⟨h2,h1⟩) (fun _ _ _ _ h=>⟨h,rfl⟩) (fun _ _=>rfl) (fun q v hq=>?_)⟩
  rw [h.nt n e cs hn x (List.mem_of_getElem? hx)] at hq;cases hq
theorem RelF.undef (h:RelF E sl bx a w g) (d:Option Nat) {sl':Sl}
  (hs:∀ t x,sl' t = some x -> sl t = some x /\ d ≠ some t /\ ∀ i,d = some i -> x.refs i = false) (u:Value):RelF E sl' bx (a.put d u) w g:=by
 cases d with
 | none=>exact h.weak (fun t x hx=>(hs t x hx).1) (fun _ _ h=>h)
 | some d=>
  have hput:(a.put (some d) u).tmps.size = a.tmps.size:=by simp [Act.put]
  by_cases hd:d < a.tmps.size
  ·have hl:d < lim:=Nat.lt_of_lt_of_le (by rw [h.size] at hd; exact hd) E.hN
   refine { h with slots:=fun t y hy=>?_,boxes:=fun n e cs hn=>?_,size:=by rw [hput]; exact h.size,defers:=h.defers }
   ·obtain ⟨h1,h2,h3⟩:=hs t y hy;rw [tv_put hd hl,if_neg (fun e=>h2 (by rw [e]))]
    exact (h.slots t y h1).mono (fun _ _ _ h1 h2=>⟨h2,h1⟩) (fun _ _ _ h1 h2=>⟨h2,h1⟩) (fun _ _ _ _ _ _ _ h=>⟨h,rfl⟩) (fun _ _ _ _=>rfl) (fun y q v hy hq hv=>by
     show concAt g.dy.out (a.put (some d) u) w g.ι q = some v;rw [concAt_put hd hl (refs_target (not_refs (h3 d rfl) hy) hq)]
     exact hv)
   ·obtain ⟨h1,h2⟩:=h.boxes n e cs hn;refine ⟨h1,h2.mono rfl rfl (fun _=>rfl) fun i x y hx _ hc=>(hc x hx).mono (fun _ _ _ h1 h2=>⟨h2,h1⟩) (fun _ _ _ h1 h2=>⟨h2,h1⟩) (fun _ _ _ _ h=>⟨h,rfl⟩) (fun _ _=>rfl) (fun q v hq=>?_)⟩
    rw [h.nt n e cs hn x (List.mem_of_getElem? hx)] at hq;cases hq
  ·have:a.put (some d) u = a:=by
    simp only [Act.put];rw [Array.setIfInBounds_eq_of_size_le (by omega)]
   rw [this];exact h.weak (fun t x hx=>(hs t x hx).1) (fun _ _ h=>h)
theorem RelF.grow (h:RelF E sl bx a w g) {w':World} {g':Gh} (hb:Below w.heap.size w w') (hι:∀ n,(∃ x,bx n = some x) \/ (∃ t x,sl t = some x /\ x.mentions n = true) \/ (∃ m e cs,bx m = some (e,cs) /\ ∃ c ∈ cs,c.mentions n = true) -> g'.ι n = g.ι n)
  (hp:∀ b,b < w.heap.size -> g'.perm b = g.perm b) (hlo:∀ b,w.heap.size <= b -> g'.perm b ≠ .free -> b < w'.heap.size) (hli:∀ n,lim <= n % sh -> g'.ι n = g.ι n) (hdy:g'.dy = g.dy):RelF E sl bx a w' g':=by
 rcases g' with ⟨gi,gp,gd⟩;cases (show gd = g.dy from hdy);have hp0:=hp;have hp:∀ b,b < w.heap.size -> gp b = g.perm b:=hp
 have hlt:∀ b,g.perm b ≠ .free -> b < w.heap.size:=fun b h'=>(h.lo b h').2
 have hk:∀ b i v,(ctx E g a w).k b i -> w.cell? ⟨b,i,none⟩ = some v -> w'.cell? ⟨b,i,none⟩ = some v /\ (ctx E (⟨gi,gp,g.dy⟩:Gh) a w').k b i:=fun b i v h1 h2=>by
  have hbl:b < w.heap.size:=World.block_lt_of_cell? w ⟨b,i,none⟩ h2;refine ⟨(hb.cell (p:=⟨b,i,none⟩) hbl).trans h2,?_⟩;simp only [ctx,ok,okp,hp b hbl] at h1 ⊢;exact h1
 have hk2:∀ b i v,(ctx E g a w).kp b i -> w.cell? ⟨b,i,none⟩ = some v -> w'.cell? ⟨b,i,none⟩ = some v /\ (ctx E (⟨gi,gp,g.dy⟩:Gh) a w').kp b i:=kp_mono (fun b hbl _=>hb.block b (by have:=h.base; omega)) hk
 have him:∀ k u,Imm w k u -> Imm w' k u:=Imm.grow hb
 have hown:∀ q b tip,g.perm b = .row q tip -> (⟨gi,gp,g.dy⟩:Gh).perm b = .row q tip /\ w'.heap[b]? = w.heap[b]?:=fun q b tip hq=>by
  have hbl:=hlt b (by rw [hq]; simp)
  exact ⟨by rw [hp0 b hbl]; exact hq,hb.block b hbl⟩
 refine ⟨fun t x hx=>?_,fun n e cs hn=>?_,h.nt,fun b hbf=>?_,h.below.trans (.of (hb.mono h.base)),Nat.le_trans h.base hb.size,h.size,h.defers,fun l o hl=>?_,fun n hn=>(hli n hn).trans (h.li n hn),h.dyn⟩
 ·refine (h.slots t x hx).mono hk hk2 (fun i y q b tip _ _ hq=>hown q b tip hq) (fun y n hy hm=>hι n (.inr (.inl ⟨t,x,hx,?_⟩))) (fun y q v hy hq hv=>?_) him
  ·unfold SV.mentions; rw [List.any_eq_true]; exact ⟨y,hy,hm⟩
  ·cases q with
   | slot s i=>exact hv
   | box n i=>
    have e:=hι n (.inr (.inl ⟨t,x,hx,by
     unfold SV.mentions; rw [List.any_eq_true]; refine ⟨y,hy,?_⟩;cases y <;> simp [Cell.target] at hq
     all_goals (subst hq; simp [Cell.mentions])⟩))
    show w'.cell? ⟨(⟨gi,gp,g.dy⟩:Gh).ι n,i,none⟩ = some v;rw [e];have hv':w.cell? ⟨g.ι n,i,none⟩ = some v:=hv;exact (hb.cell (p:=⟨g.ι n,i,none⟩) (World.block_lt_of_cell? w ⟨g.ι n,i,none⟩ hv')).trans hv'
 ·obtain ⟨h1,h2⟩:=h.boxes n e cs hn;have en:=hι n (.inl ⟨_,hn⟩);have hbl:=hlt (g.ι n) (by rw [h1]; simp)
  refine ⟨by rw [en,hp0 _ hbl]; exact h1,h2.mono (by rw [en]; exact hb.block _ hbl) rfl (fun _=>rfl) fun i x y hx _ hc=>(hc x hx).mono hk hk2 (fun q b tip _ hq=>hown q b tip hq) (fun m hm=>hι m (.inr (.inr ⟨n,e,cs,hn,x,List.mem_of_getElem? hx,hm⟩))) (fun q v hq=>?_) him⟩
  rw [h.nt n e cs hn x (List.mem_of_getElem? hx)] at hq;cases hq
 ·by_cases hbl:b < w.heap.size
  ·rw [hp0 b hbl] at hbf;exact ⟨by rw [hp0 b hbl]; exact (h.lo b hbf).1,Nat.lt_of_lt_of_le hbl hb.size⟩
  ·exact ⟨.inl (by have:=h.base; omega),hlo b (by omega) hbf⟩
 ·obtain ⟨k1,k2⟩:=h.ko l o hl;have hbl:l < w.heap.size:=(Array.getElem?_eq_some_iff.1 k1).1;exact ⟨by rw [hb.block l hbl]; exact k1,by rw [hp0 l hbl]; exact k2⟩
end
end Go.Proofs.YthnagpmnoncijaaGreat.M
