/- A part of the proof. -/
import Derived.Test.YthnagpmnoncijaaGreatMchUa
set_option linter.unusedVariables false
namespace Go.Proofs.YthnagpmnoncijaaGreat.M
open Go Go.RowKit
attribute [local irreducible] lim sh
section
variable {P:Program} {E:Env} {s s':St} {a a':Act} {w w':World} {g g':Gh}
theorem Rel.beside {E':Env} {ι':Nat -> Nat} {dy':Dy} (hr:Rel E s a w g) (hN:E'.N = E.N) (hb:E'.base = E.base) (hw0:E'.w0 = E.w0) (hk0:E'.k0 = E.k0) (hlt:E'.lent = E.lent)
  (hc:∀ b i v,w.cell? ⟨b,i,none⟩ = some v -> w'.cell? ⟨b,i,none⟩ = some v) (hp:∀ b,g.perm b ≠ .free -> w'.heap[b]? = w.heap[b]?) (hbel:Bel E.base E.lent E.w0 w') (hsz:w.heap.size <= w'.heap.size)
  (htm:a'.tmps = a.tmps) (hds:a'.defers = dy'.ds)
  (hι:∀ n,(∃ x,s.boxes.lookup n = some x) \/ (∃ t x,s.slots.lookup t = some x /\ x.mentions n = true) \/ (∃ m e cs,s.boxes.lookup m = some (e,cs) /\ ∃ c ∈ cs,c.mentions n = true) -> ι' n = g.ι n)
  (hout:∀ t x,s.slots.lookup t = some x -> tv dy'.out a' t = tv g.dy.out a t /\ ∀ y ∈ x.cs,∀ t0 j,y.target = some (.slot t0 j) -> tv dy'.out a' t0 = tv g.dy.out a t0)
  (hko:∀ k o,dy'.ko k = some o -> w'.heap[k]? = some o /\ g.perm k = .free) (hli:∀ n,lim <= n % sh -> ι' n = E'.li n) (hJ:E'.J dy') (him:∀ (b:Nat) (o:Obj),w.heap[b]? = some o -> immO o = true -> w'.heap[b]? = some o):Rel E' s a' w' ⟨ι',g.perm,dy'⟩:=by
 have hok:ok E'.base E'.k0 g.perm = ok E.base E.k0 g.perm:=by rw [hb,hk0]
 have hk:∀ b i v,(ctx E g a w).k b i -> w.cell? ⟨b,i,none⟩ = some v -> w'.cell? ⟨b,i,none⟩ = some v /\ (ctx E' ⟨ι',g.perm,dy'⟩ a' w').k b i:=fun b i v h1 h2=>⟨hc b i v h2,by
  show ok E'.base E'.k0 g.perm b i
  rw [hok]; exact h1⟩
 have hk2:∀ b i v,(ctx E g a w).kp b i -> w.cell? ⟨b,i,none⟩ = some v -> w'.cell? ⟨b,i,none⟩ = some v /\ (ctx E' ⟨ι',g.perm,dy'⟩ a' w').kp b i:=fun b i v h1 h2=>⟨hc b i v h2,by
  show kpOf E'.base E'.lent (ok E'.base E'.k0 g.perm) b i
  rw [hok,hb,hlt]; exact h1⟩
 have hown:∀ q b tip,g.perm b = .row q tip -> g.perm b = .row q tip /\ w'.heap[b]? = w.heap[b]?:=fun q b tip hq=>⟨hq,hp b (by rw [hq]; simp)⟩
 have him:∀ k u,Imm w k u -> Imm w' k u:=Imm.keep him
 refine ⟨hr.uniq,fun t x hx=>?_,fun n e cs hn=>?_,hr.nt,fun b hbf=>?_,by rw [hb,hw0,hlt]; exact hbel,by rw [hb]; exact Nat.le_trans hr.base hsz,by rw [htm,hN]; exact hr.size,hds,hko,hli,hJ⟩
 ·show SVR _ _ _ (tv dy'.out a' t);rw [(hout t x hx).1];refine (hr.slots t x hx).mono hk hk2 (fun i y q b tip _ _ hq=>hown q b tip hq) (fun y n hy hm=>hι n (.inr (.inl ⟨t,x,hx,?_⟩))) (fun y q v hy hq hv=>?_) him
  ·unfold SV.mentions; rw [List.any_eq_true]; exact ⟨y,hy,hm⟩
  ·cases q with
   | slot t0 i=>
    show (flat (tv dy'.out a' t0))[i]? = some v;rw [(hout t x hx).2 y hy t0 i hq];exact hv
   | box n i=>
    have e:=hι n (.inr (.inl ⟨t,x,hx,by
     unfold SV.mentions; rw [List.any_eq_true]; exact ⟨y,hy,mentions_target hq⟩⟩))
    show w'.cell? ⟨ι' n,i,none⟩ = some v;rw [e];exact hc _ _ _ hv
 ·obtain ⟨h1,h2⟩:=hr.boxes n e cs hn;have en:=hι n (.inl ⟨_,hn⟩);refine ⟨by show g.perm (ι' n) = _; rw [en]; exact h1,h2.mono (by show w'.heap[ι' n]? = w.heap[g.ι n]?; rw [en,hp _ (by rw [h1]; simp)]) rfl (fun _=>rfl) fun i x y hx _ hcv=>(hcv x hx).mono hk hk2 (fun q b tip _ hq=>hown q b tip hq) (fun m hm=>hι m (.inr (.inr ⟨n,e,cs,hn,x,List.mem_of_getElem? hx,hm⟩))) (fun q v hq=>?_) him⟩
  rw [hr.nt n e cs hn x (List.mem_of_getElem? hx)] at hq;cases hq
 ·rw [hb,hlt];exact ⟨(hr.lo b hbf).1,Nat.lt_of_lt_of_le (hr.lo b hbf).2 hsz⟩
theorem put_cell {D:Nat} {o:Obj} (o':Obj) (hD:w.heap[D]? = some o) (ho:o.isCells = false):∀ b i v,w.cell? ⟨b,i,none⟩ = some v -> (w.putObj D o').cell? ⟨b,i,none⟩ = some v:=fun b i v h=>
 cell_kept h (grownBy_putObj' w D o') (fun r hr=>by injection hr with hr; subst hr; exact ⟨o,hD,ho⟩)
theorem put_imm {D:Nat} {o o':Obj} (hD:w.heap[D]? = some o) (ho:immO o = false):∀ (b:Nat) (p:Obj),w.heap[b]? = some p -> immO p = true -> (w.putObj D o').heap[b]? = some p:=fun b p h1 h2=>
 (World.putObj_heap_other (fun e=>by subst e; rw [hD] at h1; injection h1 with h1; subst h1; rw [ho] at h2; cases h2)).trans h1
theorem put_below {D:Nat} {o':Obj} {base:Nat} {lent:Nat -> Prop} {w0:World} (h:Bel base lent w0 w) (hD:base <= D):Bel base lent w0 (w.putObj D o'):=
 h.trans ⟨rfl,rfl,rfl,by simp,fun k hk _=>World.putObj_heap_other (by omega)⟩
def Jlp (E:Env) (x:LpI) (dy:Dy):Prop:=∃ d c,E.J d /\ d.ko x.l = none /\ dy = d.code lim x c
def Env.loop (E:Env) (x:LpI):Env:=
 { E with li:=fun n=>if n = lim then x.l else E.li n,lps:=fun n=>if n = lim then some x else E.lps n,J:=Jlp E x }
theorem Env.Lp.loop {x:LpI} (hE:E.Lp P) (hno:E.lps lim = none) (hb:E.base <= x.l) (hc:∃ fn c0 f,P.funcs[x.fn]? = some fn /\ fn.body = some c0 /\ fn.ntmps = x.rc.tmps.size /\ Reach c0 x.p (.rangeFunc f x.rc.params x.rc.assign x.rc.body)):(E.loop x).Lp P:=by
 have hls:=lim_sh;have at_:∀ n,(E.loop x).lps n = if n = lim then some x else E.lps n:=fun _=>rfl
 have other:∀ {d:Dy} {n:Nat} {y:LpI},E.J d -> d.ko x.l = none -> E.lps n = some y -> y.l ≠ x.l:=fun {d n y} hd hk hy e=>by
  rcases hE.out d hd n (hE.lp n y hy).1 with ⟨k,_⟩ | ⟨y',c',k1,k2,k3⟩
  ·rw [hy] at k; cases k
  ·rw [hy] at k1;injection k1 with k1;subst k1;rw [e,hk] at k3; cases k3
 refine ⟨fun n y h=>?_,fun dy hJ n hn=>?_,fun dy hJ n y h hs t ht=>?_,fun dy n y c hJ h=>?_⟩
 ·rw [at_] at h;by_cases hn:n = lim
  ·rw [if_pos hn] at h;injection h with h;subst h;exact ⟨by rw [hn]; exact lim_mod,if_pos hn,hb,hc⟩
  ·rw [if_neg hn] at h;obtain ⟨k1,k2,k3⟩:=hE.lp n y h;exact ⟨k1,(if_neg hn).trans k2,k3⟩
 ·obtain ⟨d,c,h1,h2,rfl⟩:=hJ;rw [at_];by_cases hn':n = lim
  ·refine .inr ⟨x,c,if_pos hn',?_,?_⟩
   ·show (if n = lim then lpV x c else d.out n) = _
    rw [if_pos hn']
   ·show (if x.l = x.l then _ else d.ko x.l) = _
    rw [if_pos rfl]
  ·have eo:(d.code lim x c).out n = d.out n:=if_neg hn';rw [if_neg hn',eo];rcases hE.out d h1 n hn with k | ⟨y,c',k1,k2,k3⟩
   ·exact .inl k
   ·refine .inr ⟨y,c',k1,k2,?_⟩;show (if y.l = x.l then _ else d.ko y.l) = _
    rw [if_neg (other h1 h2 k1)];exact k3
 ·obtain ⟨d,c,h1,h2,rfl⟩:=hJ;rw [at_,if_neg (by omega)] at h
  have hm:=(hE.lp _ _ h).1;have hge2:lim <= n - sh:=mod_le (by rw [mod_down hs,hm]; exact Nat.le_refl _)
  show (if n - lim + t = lim then lpV x c else d.out (n - lim + t)) = _
  rw [if_neg (by omega)]
  exact hE.tm d h1 n y h hs t ht
 ·obtain ⟨d,c',h1,h2,rfl⟩:=hJ;rw [at_] at h;by_cases hn:n = lim
  ·rw [if_pos hn] at h;injection h with h;subst h;refine ⟨d,c,h1,h2,?_⟩;subst hn;unfold Dy.code;simp only [Dy.mk.injEq,true_and];refine ⟨funext fun m=>?_,funext fun k=>?_⟩
   ·split <;> rfl
   ·split <;> rfl
  ·rw [if_neg hn] at h;have hne:=other h1 h2 h;refine ⟨d.code n y c,c',hE.turn d n y c h1 h,?_,?_⟩
   ·show (if x.l = y.l then _ else d.ko x.l) = none
    rw [if_neg fun e=>hne e.symm]
    exact h2
   ·unfold Dy.code;simp only [Dy.mk.injEq,true_and];refine ⟨funext fun m=>?_,funext fun k=>?_⟩
    ·by_cases h3:m = n
     ·rw [if_pos h3,if_neg (by omega),if_pos h3]
     ·simp only [if_neg h3]
    ·by_cases h3:k = y.l
     ·rw [if_pos h3,if_neg (by rw [h3]; exact hne),if_pos h3]
     ·simp only [if_neg h3]
theorem lpSV_sound {c:Ctx} {pl:Nat -> Place} {x:LpI} {z:Int}:SVR c pl (lpSV z x.fn x.p) (lpV x z):=by
 refine ⟨[.int .i64 z,.int .i64 (x.fn:Int),.int .i64 (x.p:Int)],rfl,rfl,rfl,fun i y v hy hv=>?_⟩
 match i,hy,hv with
 | 0,hy,hv=>simp [lpSV] at hy hv; subst hy; subst hv; exact ⟨rfl,rfl⟩
 | 1,hy,hv=>simp [lpSV] at hy hv; subst hy; subst hv; exact ⟨rfl,rfl⟩
 | 2,hy,hv=>simp [lpSV] at hy hv; subst hy; subst hv; exact ⟨rfl,rfl⟩
 | i + 3,hy,hv=>simp [lpSV] at hy
theorem Rel.lpSlot {n:Nat} {x:LpI} {z:Int} (hr:Rel E s a w g) (hs:s.slots.lookup n = none) (hn:lim <= n) (ho:g.dy.out n = lpV x z):Rel E { s with slots:=(n,lpSV z x.fn x.p) :: s.slots } a w g:=by
 refine { hr with uniq:=⟨?_,hr.uniq.boxes⟩,slots:=fun t y hy=>?_ }
 ·show Uniq ((n,lpSV z x.fn x.p) :: s.slots);unfold Uniq;rw [List.map_cons,List.nodup_cons];refine ⟨fun hm=>?_,hr.uniq.slots⟩
  obtain ⟨q,hq,e⟩:=List.mem_map.1 hm;have:=lookup_of_mem hr.uniq.slots hq;rw [e,hs] at this;cases this
 ·have hy:((n,lpSV z x.fn x.p) :: s.slots).lookup t = some y:=hy;rw [List.lookup_cons] at hy;by_cases ht:t = n
  ·subst ht;simp at hy;subst hy;rw [tv_out hn,ho];exact lpSV_sound
  ·have hb:(t == n) = false:=by simpa using ht
   simp only [hb] at hy;exact hr.slots t y hy
theorem drop_slots {n t:Nat} {x:SV} (h:(s.drop n).slots.lookup t = some x) (hu:Uniq s.slots):s.slots.lookup t = some x /\ t ≠ n /\ x.mentions n = false /\ x.refs n = false:=by
 obtain ⟨h1,h2⟩:=lookup_filter hu h;simp at h2;exact ⟨h1,h2.1,h2.2.1,h2.2.2⟩
theorem drop_boxes {n m:Nat} {q:Nat × List Cell} (h:(s.drop n).boxes.lookup m = some q) (hu:Uniq s.boxes):s.boxes.lookup m = some q /\ m ≠ n /\ q.2.any (Cell.mentions n) = false:=by
 obtain ⟨h1,h2⟩:=lookup_filter hu h;rw [Bool.and_eq_true] at h2;exact ⟨h1,by simpa using h2.1,by have:=h2.2; revert this; cases q.2.any (Cell.mentions n) <;> simp⟩
theorem Rel.drop (hr:Rel E s a w g) (n:Nat):Rel E (s.drop n) a w g:=
 RelF.toRel ⟨hr.uniq.slots.filter _,hr.uniq.boxes.filter _⟩ (hr.toF.weak (fun t x hx=>(drop_slots hx hr.uniq.slots).1) (fun m q hq=>(drop_boxes hq hr.uniq.boxes).1))
theorem refs_slot {x:SV} {n t0 j:Nat} {y:Cell} (h:x.refs n = false) (hy:y ∈ x.cs) (ht:y.target = some (.slot t0 j)):t0 ≠ n:=fun e=>refs_target (not_refs h hy) ht j (by rw [e])
theorem Rel.loopIn {x:LpI} {dy1:Dy} {a1:Act} {w1:World} (hr:Rel E s a w g) (hbel:Below w.heap.size w w1) (hL:w.heap.size <= x.l) (hrec:w1.heap[x.l]? = some (.loop (recAt x.rc 0))) (hout:dy1.out = g.dy.out) (hJ:E.J dy1)
  (hko:∀ k o,dy1.ko k = some o -> w1.heap[k]? = some o /\ g.perm k = .free) (hkL:dy1.ko x.l = none) (htm:a1.tmps = a.tmps) (hds:a1.defers = dy1.ds) :
  Rel (E.loop x) (s.loopIn x.fn x.p) a1 w1 ⟨fun n=>if n = lim then x.l else g.ι n,g.perm,dy1.code lim x 0⟩:=by
 have h0:=hr.drop lim;have hfree:g.perm x.l = .free:=by
  cases hq:g.perm x.l with
  | free=>rfl
  | _=>have:=(hr.lo x.l (by rw [hq]; simp)).2; omega
 have h1:Rel (E.loop x) (s.drop lim) a1 w1 ⟨fun n=>if n = lim then x.l else g.ι n,g.perm,dy1.code lim x 0⟩:=by
  refine h0.beside rfl rfl rfl rfl rfl (fun b i v h=>?_) (fun b hb=>?_) (hr.below.trans (.of (hbel.mono hr.base))) hbel.size htm hds (fun n hn=>?_) (fun t y hy=>?_) (fun k o hk=>?_) (fun n hn=>?_) ⟨dy1,0,hJ,hkL,rfl⟩ (fun b o h1 _=>(hbel.block b (Array.getElem?_eq_some_iff.1 h1).1).trans h1)
  ·exact (hbel.cell (p:=⟨b,i,none⟩) (World.block_lt_of_cell? w ⟨b,i,none⟩ h)).trans h
  ·exact hbel.block b (hr.lo b hb).2
  ·have:n ≠ lim:=by
    rcases hn with ⟨q,hq⟩ | ⟨t,y,hy,hm⟩ | ⟨m,e,cs,hq,c,hc,hm⟩
    ·exact (drop_boxes hq hr.uniq.boxes).2.1
    ·intro e'; rw [e',(drop_slots hy hr.uniq.slots).2.2.1] at hm; cases hm
    ·intro e';have:=(drop_boxes hq hr.uniq.boxes).2.2;rw [List.any_eq_false] at this;rw [e'] at hm;exact absurd hm (by simpa using this c hc)
   exact if_neg this
  ·obtain ⟨k1,k2,k3,k4⟩:=drop_slots hy hr.uniq.slots;have key:∀ t,t ≠ lim -> tv (dy1.code lim x 0).out a1 t = tv g.dy.out a t:=fun t ht=>by
    unfold tv;rw [htm];split
    ·rfl
    ·show (if t = lim then _ else dy1.out t) = _
     rw [if_neg ht,hout]
   exact ⟨key t k2,fun z hz t0 j ht=>key t0 (refs_slot k4 hz ht)⟩
  ·have hk:(if k = x.l then some (Obj.loop (recAt x.rc 0)) else dy1.ko k) = some o:=hk
   split at hk
   ·rename_i e;injection hk with hk;subst hk;rw [e];exact ⟨hrec,hfree⟩
   ·exact hko k o hk
  ·show (if n = lim then x.l else g.ι n) = (if n = lim then x.l else E.li n)
   split
   ·rfl
   ·exact hr.li n hn
 refine h1.lpSlot (x:=x) (z:=0) ?_ (Nat.le_refl _) (if_pos rfl);cases h2:(s.drop lim).slots.lookup lim with
 | none=>rfl
 | some y=>exact absurd rfl (drop_slots h2 hr.uniq.slots).2.1
theorem Env.Lp.at (hE:E.Lp P) {dy:Dy} (hJ:E.J dy) {n:Nat} {x:LpI} (h:E.lps n = some x):∃ c,dy.out n = lpV x c /\ dy.ko x.l = some (.loop (recAt x.rc c)):=by
 rcases hE.out dy hJ n (hE.lp n x h).1 with ⟨k,_⟩ | ⟨y,c,k1,k2,k3⟩
 ·rw [h] at k; cases k
 ·rw [h] at k1;injection k1 with k1;subst k1;exact ⟨c,k2,k3⟩
theorem Rel.lpCode (hE:E.Lp P) (hr:Rel E s a w g) {n:Nat} (hn:n % sh = lim) {c0:Cell} {cs:List Cell} (hs:s.slots.lookup n = some ⟨.agg,c0 :: cs⟩) {kn:Bool} {k:IntKind} {z:Int} (hc:c0.val? = some (kn,.int k z)):∃ x,E.lps n = some x /\ g.dy.out n = lpV x z /\ g.dy.ko x.l = some (.loop (recAt x.rc z)):=by
 have hle:lim <= n:=mod_le (by rw [hn]; exact Nat.le_refl _)
 obtain ⟨us,e1,e2,e3,e4⟩:=hr.slots n _ hs;rw [tv_out hle] at e1 e2;rcases hE.out _ hr.dyn n hn with ⟨k1,k2⟩ | ⟨x,c,k1,k2,k3⟩
 ·rw [k2] at e1; cases e1
 ·refine ⟨x,k1,?_⟩;rw [k2] at e2;have hu:us = [.int .i64 c,.int .i64 (x.fn:Int),.int .i64 (x.p:Int)]:=by rw [<- e2]; rfl
  have h0:=(e4 0 c0 (.int .i64 c) rfl (by rw [hu]; rfl)).2
  have hz:z = c:=by
   cases c0 <;> simp [Cell.val?] at hc
   all_goals
    obtain ⟨_,hc⟩:=hc;rw [hc] at h0;have h0:Value.int .i64 c = .int k z:=h0;injection h0 with _ h0;exact h0.symm
  subst hz;exact ⟨k2,k3⟩
theorem Rel.loopEnd {x:LpI} {o':Obj} (hr:Rel (E.loop x) s a w g) (hb:E.base <= x.l):∃ c,g.dy.out lim = lpV x c /\ w.heap[x.l]? = some (.loop (recAt x.rc c)) /\ ∃ g',Rel E (s.drop lim) a (w.putObj x.l o') g':=by
 obtain ⟨d,c,h1,h2,h3⟩:=hr.dyn;have h4:g.dy.ko x.l = some (.loop (recAt x.rc c)):=by rw [h3]; exact if_pos rfl
 obtain ⟨h5,h6⟩:=hr.ko _ _ h4;refine ⟨c,by rw [h3]; exact if_pos rfl,h5,⟨fun n=>if n = lim then E.li lim else g.ι n,g.perm,d⟩,?_⟩
 refine (hr.drop lim).beside rfl rfl rfl rfl rfl (put_cell o' h5 rfl) (fun b hbf=>World.putObj_heap_other (fun e=>hbf (by rw [e]; exact h6))) (put_below hr.below hb) (by simp) rfl (hr.defers.trans (by rw [h3]; rfl)) (fun n hn=>?_) (fun t y hy=>?_) (fun k o hk=>?_) (fun n hn=>?_) h1 (put_imm h5 rfl)
 ·have:n ≠ lim:=by
   rcases hn with ⟨q,hq⟩ | ⟨t,y,hy,hm⟩ | ⟨m,e,cs,hq,c,hc,hm⟩
   ·exact (drop_boxes hq hr.uniq.boxes).2.1
   ·intro e'; rw [e',(drop_slots hy hr.uniq.slots).2.2.1] at hm; cases hm
   ·intro e';have:=(drop_boxes hq hr.uniq.boxes).2.2;rw [List.any_eq_false] at this;rw [e'] at hm;exact absurd hm (by simpa using this c hc)
  exact if_neg this
 ·obtain ⟨k1,k2,k3,k4⟩:=drop_slots hy hr.uniq.slots;have key:∀ t,t ≠ lim -> tv d.out a t = tv g.dy.out a t:=fun t ht=>by
   unfold tv;split
   ·rfl
   ·rw [h3];show _ = (if t = lim then _ else d.out t)
    rw [if_neg ht]
  exact ⟨key t k2,fun z hz t0 j ht=>key t0 (refs_slot k4 hz ht)⟩
 ·have hne:k ≠ x.l:=fun e=>by rw [e,h2] at hk; cases hk
  have hk2:g.dy.ko k = some o:=by
   rw [h3];show (if k = x.l then _ else d.ko k) = _
   rw [if_neg hne]; exact hk
  obtain ⟨m1,m2⟩:=hr.ko k o hk2;exact ⟨(World.putObj_heap_other hne).trans m1,m2⟩
 ·show (if n = lim then E.li lim else g.ι n) = E.li n
  split
  ·rename_i e; rw [e]
  ·rename_i e;rw [hr.li n hn];exact if_neg e
theorem Rel.setLp (hE:E.Lp P) {n:Nat} {x:LpI} (hr:Rel E s a w g) (h:E.lps n = some x) (z:Int):Rel E (s.setLp n z x.fn x.p) a (w.putObj x.l (.loop (recAt x.rc z))) { g with dy:=g.dy.code n x z }:=by
 obtain ⟨hm,_,hb,_⟩:=hE.lp n x h;have hle:lim <= n:=mod_le (by rw [hm]; exact Nat.le_refl _)
 obtain ⟨c,_,h4⟩:=hE.at hr.dyn h;obtain ⟨h5,h6⟩:=hr.ko _ _ h4
 let s1:St:={ s with slots:=dropRefs n s.slots }
 have hs1:∀ t y,s1.slots.lookup t = some y -> s.slots.lookup t = some y /\ t ≠ n /\ y.refs n = false:=fun t y hy=>by
  obtain ⟨h1,h2⟩:=lookup_filter hr.uniq.slots hy;simp at h2;exact ⟨h1,h2⟩
 have hr1:Rel E s1 a w g:=RelF.toRel ⟨hr.uniq.slots.filter _,hr.uniq.boxes⟩ (hr.toF.weak (fun t y hy=>(hs1 t y hy).1) (fun m q hq=>hq))
 have hr2:Rel E s1 a (w.putObj x.l (.loop (recAt x.rc z))) { g with dy:=g.dy.code n x z }:=by
  refine hr1.beside rfl rfl rfl rfl rfl (put_cell _ h5 rfl) (fun b hbf=>World.putObj_heap_other (fun e=>hbf (by rw [e]; exact h6))) (put_below hr.below hb) (by simp) rfl hr.defers (fun _ _=>rfl) (fun t y hy=>?_) (fun k o hk=>?_) hr.li (hE.turn _ n x z hr.dyn h) (put_imm h5 rfl)
  ·obtain ⟨k1,k2,k4⟩:=hs1 t y hy;have key:∀ t,t ≠ n -> tv (g.dy.code n x z).out a t = tv g.dy.out a t:=fun t ht=>by
    unfold tv;split
    ·rfl
    ·show (if t = n then _ else g.dy.out t) = _
     rw [if_neg ht]
   exact ⟨key t k2,fun y hy t0 j ht=>key t0 (refs_slot k4 hy ht)⟩
  ·have hk:(if k = x.l then some (Obj.loop (recAt x.rc z)) else g.dy.ko k) = some o:=hk
   split at hk
   ·rename_i e;injection hk with hk;subst hk;subst e;exact ⟨World.putObj_heap_same (Array.getElem?_eq_some_iff.1 h5).1,h6⟩
   ·rename_i e;obtain ⟨m1,m2⟩:=hr.ko k o hk;exact ⟨(World.putObj_heap_other e).trans m1,m2⟩
 refine hr2.lpSlot (x:=x) (z:=z) ?_ hle (if_pos rfl);cases h2:s1.slots.lookup n with
 | none=>rfl
 | some y=>exact absurd rfl (hs1 n y h2).2.1
theorem frameHas_sound {n t:Nat} {ps:List Nat} (h:frameHas n ps t = true):n - lim <= t /\ t < n /\ hasN ps (t - (n - lim)) = false:=by
 unfold frameHas at h;rw [Bool.and_eq_true,Bool.and_eq_true] at h;exact ⟨Nat.le_of_ble_eq_true h.1,Nat.le_of_ble_eq_true h.2.1,by simpa using h.2.2⟩
theorem frameAt_mem {n:Nat} {ps:List Nat} {l:List (Nat × SV)} {t:Nat} {v:SV} (h:(t,v) ∈ frameAt n ps l):∃ x,(n - lim + t,x) ∈ l /\ n - lim + t < n /\ hasN ps t = false /\ v = (⟨x.sh,copyCells false (fun _=>.slot 0 0) 0 x.cs⟩:SV).ren upN upN:=by
 obtain ⟨⟨t1,x⟩,hq,e⟩:=List.mem_map.1 h;obtain ⟨hq1,hq2⟩:=List.mem_filter.1 hq;obtain ⟨k1,k2,k3⟩:=frameHas_sound hq2;injection e with e1 e2;subst e1; subst e2;have e:n - lim + (t1 - (n - lim)) = t1:=by have k1:n - lim <= t1:=k1; omega
 exact ⟨x,by rw [e]; exact hq1,by rw [e]; exact k2,k3,rfl⟩
theorem frameAt_uniq {n:Nat} {ps:List Nat} {l:List (Nat × SV)} (h:Uniq l):Uniq (frameAt n ps l):=by
 unfold frameAt Uniq;rw [List.map_map];have hf:((l.filter fun q=>frameHas n ps q.1).map (·.1)).Nodup:=List.Nodup.sublist (List.filter_sublist.map _) h
 have e:((fun q:Nat × SV=>q.1) ∘ fun q:Nat × SV=>(q.1 - (n - lim),(⟨q.2.sh,copyCells false (fun _=>.slot 0 0) 0 q.2.cs⟩:SV).ren upN upN)) = (fun t=>t - (n - lim)) ∘ (fun q=>q.1):=rfl
 rw [e,<- List.map_map];refine List.Pairwise.map _ (R:=fun a b=>n - lim <= a /\ n - lim <= b /\ a ≠ b) (fun a b hab h=>hab.2.2 (by omega)) ?_
 refine hf.imp_of_mem fun {a b} ha hb hab=>?_
 obtain ⟨qa,hqa,rfl⟩:=List.mem_map.1 ha;obtain ⟨qb,hqb,rfl⟩:=List.mem_map.1 hb;exact ⟨(frameHas_sound (List.mem_filter.1 hqa).2).1,(frameHas_sound (List.mem_filter.1 hqb).2).1,hab⟩
theorem hasN_mem:∀ {l:List Nat} {n:Nat},hasN l n = false -> n ∉ l
 | [],n,_=>by simp
 | x :: r,n,h=>by
  simp only [hasN] at h;split at h
  ·cases h
  ·rename_i e;have e:=Nat.ne_of_beq_eq_false e;intro hm;rcases List.mem_cons.1 hm with hm | hm
   ·exact e hm.symm
   ·exact hasN_mem h hm
theorem psSlots_mem:∀ {ps:List Nat} {args:List SV} {t:Nat} {v:SV},(t,v) ∈ psSlots ps args -> ∃ (i:Nat) (x:SV),ps[i]? = some t /\ args[i]? = some x /\ v = x.ren upN upN
 | [],args,t,v,h=>by simp [psSlots] at h
 | p :: ps,[],t,v,h=>by simp [psSlots] at h
 | p :: ps,x :: args,t,v,h=>by
  simp only [psSlots] at h;rcases List.mem_cons.1 h with h | h
  ·injection h with h1 h2;exact ⟨0,x,by simp [h1],rfl,h2⟩
  ·obtain ⟨i,y,k1,k2,k3⟩:=psSlots_mem h;exact ⟨i + 1,y,by simpa using k1,by simpa using k2,k3⟩
theorem psSlots_uniq:∀ {ps:List Nat} {args:List SV},ps.Nodup -> Uniq (psSlots ps args)
 | [],args,_=>by simp [psSlots,Uniq]
 | p :: ps,[],_=>by simp [psSlots,Uniq]
 | p :: ps,x :: args,h=>by
  rw [List.nodup_cons] at h;simp only [psSlots];unfold Uniq;rw [List.map_cons,List.nodup_cons];refine ⟨fun hm=>?_,psSlots_uniq h.2⟩
  obtain ⟨⟨t2,v2⟩,hq,e⟩:=List.mem_map.1 hm;have e:t2 = p:=e;obtain ⟨i,y,k1,_⟩:=psSlots_mem hq;rw [e] at k1;exact h.1 (List.mem_of_getElem? k1)
theorem round_tmps:∀ (ps:List Nat) (vs:List Value) (tm:Array Value) (t:Nat),ps.Nodup -> ps.length = vs.length -> (∀ p ∈ ps,p < tm.size) ->
  ((ps.zip vs).foldl (fun tm (q:Nat × Value)=>tm.setIfInBounds q.1 q.2) tm).size = tm.size /\ (t ∉ ps -> ((ps.zip vs).foldl (fun tm (q:Nat × Value)=>tm.setIfInBounds q.1 q.2) tm).getD t undef = tm.getD t undef) /\
   ∀ (i:Nat),ps[i]? = some t -> ((ps.zip vs).foldl (fun tm (q:Nat × Value)=>tm.setIfInBounds q.1 q.2) tm).getD t undef = vs[i]?.getD undef
 | [],vs,tm,t,_,_,_=>⟨rfl,fun _=>rfl,fun i h=>by simp at h⟩
 | p :: ps,[],tm,t,_,hl,_=>by simp at hl
 | p :: ps,v :: vs,tm,t,hd,hl,hb=>by
  rw [List.nodup_cons] at hd;have hs:(tm.setIfInBounds p v).size = tm.size:=by simp
  obtain ⟨h1,h2,h3⟩:=round_tmps ps vs (tm.setIfInBounds p v) t hd.2 (by simpa using hl) (fun q hq=>by rw [hs]; exact hb q (List.mem_cons_of_mem _ hq))
  rw [hs] at h1;refine ⟨h1,fun ht=>?_,fun i hi=>?_⟩
  ·rw [List.mem_cons,not_or] at ht;simp only [List.zip_cons_cons,List.foldl_cons];rw [h2 ht.2,Array.getD_eq_getD_getElem?,Array.getD_eq_getD_getElem?,Array.getElem?_setIfInBounds_ne (fun e=>ht.1 e.symm)]
  ·simp only [List.zip_cons_cons,List.foldl_cons];cases i with
   | zero=>
    simp at hi;subst hi;rw [h2 hd.1,Array.getD_eq_getD_getElem?,Array.getElem?_setIfInBounds_self,if_pos (hb p List.mem_cons_self)];rfl
   | succ i=>simpa using h3 i (by simpa using hi)
theorem Rel.round (hE:E.Lp P) {n:Nat} {x:LpI} (hr:Rel E s a w g) (h:E.lps n = some x) (hs:sh <= n) {N:Nat} {hN:N <= lim} (hNx:x.rc.tmps.size = N) {args:List SV} {vs:List Value} {ps:List Nat} (hnd:ps.Nodup) (hpa:ps.length = args.length) (hl:vs.length = args.length) (hpN:∀ p ∈ ps,p < N)
  (hv:∀ (i:Nat) y v,args[i]? = some y -> vs[i]? = some v -> (∃ pl,SVR (ctx E g a w) pl y v) /\ y.cs.any Cell.isOwn = false) (htm:a'.tmps = (ps.zip vs).foldl (fun tm (q:Nat × Value)=>tm.setIfInBounds q.1 q.2) x.rc.tmps) (hds:a'.defers = []) :
  Rel (E.inner a g N (some x.l) hN) (s.round n ps args) a' w (upG a g):=by
 have hm:=(hE.lp n x h).1;have hls:=lim_sh;have hge:lim <= n - sh:=mod_le (by rw [mod_down hs,hm]; exact Nat.le_refl _)
 obtain ⟨c1,c2,c3⟩:=round_tmps ps vs x.rc.tmps 0 hnd (by omega) (fun p hp=>by rw [hNx]; exact hpN p hp)
 have hu:Uniq (psSlots ps args ++ frameAt n ps s.slots):=by
  unfold Uniq;rw [List.map_append,List.nodup_append];refine ⟨psSlots_uniq hnd,frameAt_uniq hr.uniq.slots,fun x1 h1 y1 h2 e=>?_⟩
  obtain ⟨⟨t1,v1⟩,hq,e1⟩:=List.mem_map.1 h1;obtain ⟨⟨t2,v2⟩,hq2,e2⟩:=List.mem_map.1 h2;obtain ⟨i,y,k1,_⟩:=psSlots_mem hq;obtain ⟨x',m1,m3,m4,m5⟩:=frameAt_mem hq2;have e1:t1 = x1:=e1;have e2:t2 = y1:=e2;refine hasN_mem m4 ?_;rw [e2,<- e,<- e1];exact List.mem_of_getElem? k1
 have:s.round n ps args = ⟨(psSlots ps args ++ frameAt n ps s.slots) ++ s.up.slots,s.up.boxes⟩:=by
  unfold St.round;rw [List.append_assoc]
 rw [this];refine hr.push hu (fun q hq=>?_) (fun t y hy=>?_) (by rw [htm,c1,hNx]) hds
 ·obtain ⟨t,v⟩:=q;rcases List.mem_append.1 hq with hq | hq
  ·obtain ⟨i,y,k1,_⟩:=psSlots_mem hq;have:=hpN t (List.mem_of_getElem? k1);show t < lim;omega
  ·obtain ⟨x',m1,m3,m4,m5⟩:=frameAt_mem hq;show t < lim;omega
 ·have hmem:=lookup_mem hy;rcases List.mem_append.1 hmem with hq | hq
  ·obtain ⟨i,z,k1,k2,rfl⟩:=psSlots_mem hq;obtain ⟨_,_,c3⟩:=round_tmps ps vs x.rc.tmps t hnd (by omega) (fun p hp=>by rw [hNx]; exact hpN p hp)
   have hi:i < vs.length:=by have:=(List.getElem?_eq_some_iff.1 k2).1; omega
   rw [htm,c3 i k1,List.getElem?_eq_getElem hi];obtain ⟨⟨pl,j1⟩,j2⟩:=hv i z vs[i] k2 (List.getElem?_eq_getElem hi);exact (SVR.up j1 (pl':=fun i=>(pl i).ren upN upN) fun _=>rfl).place (notOwn_ren j2)
  ·obtain ⟨x',m1,m3,m4,rfl⟩:=frameAt_mem hq;obtain ⟨_,c2,_⟩:=round_tmps ps vs x.rc.tmps t hnd (by omega) (fun p hp=>by rw [hNx]; exact hpN p hp)
   rw [htm,c2 (hasN_mem m4)];have h1:=hr.slots _ x' (lookup_of_mem hr.uniq.slots m1);rw [tv_out (by omega),hE.tm _ hr.dyn n x h hs t (by omega)] at h1
   have hno:(copyCells false (fun _=>.slot 0 0) 0 x'.cs).any Cell.isOwn = false:=copyCells_notOwn _ _
   have hcp:SVR (ctx E g a w) (fun _=>.slot 0 0) ⟨x'.sh,copyCells false (fun _=>.slot 0 0) 0 x'.cs⟩ (x.rc.tmps.getD t undef):=SVR.copy (pl:=.slot (n - lim + t)) (pl':=fun _=>.slot 0 0) (by cases x'; exact h1) fun h=>by cases h
   exact (SVR.up hcp (pl':=fun _=>(Place.slot 0 0).ren upN upN) fun _=>rfl).place (notOwn_ren (x:=⟨x'.sh,copyCells false (fun _=>.slot 0 0) 0 x'.cs⟩) hno)
theorem marks_out {fn:Func} {R:Ending -> World -> Prop} {F:Fence} {m:Nat} (hE:E.Rd) (hrd:E.rd = none):∀ (k:Nat) (a:Act) (w:World) (g:Gh),a.defers.length = k -> Rel E s a w g -> (∀ w2 g2,Rel E s { a with defers:=[] } w2 g2 -> ∃ v,(results fn a.tmps).run P w2 = .ok v w2 /\ R (.returned v) w2) ->
  LeavesInM F m P fn a.tmps R a.defers .returning w
 | 0,a,w,g,hk,hr,h=>by
  have hd:a.defers = []:=List.length_eq_zero_iff.1 hk;rw [hd]
  exact h w g (by
   have e:({ a with defers:=[] }:Act) = a:=by cases a; simp_all
   rw [e]; exact hr)
 | k + 1,a,w,g,hk,hr,h=>by
  rcases hE.unmark hrd _ hr.dyn with hn | ⟨D,dy',h1,h2,h3,h4,h5,h6⟩
  ·rw [hr.defers,hn] at hk; cases hk
  ·have hd:a.defers = markOf D :: dy'.ds:=hr.defers.trans h1;obtain ⟨k1,k2⟩:=hr.ko D _ h5;rw [hd];refine ⟨by simp,.inl ⟨D,w.putObj D (.deferred none),rfl,run_takeDeferred k1,?_⟩⟩
   have hr2:Rel E s { a with defers:=dy'.ds } (w.putObj D (.deferred none)) { g with dy:=dy' }:=by
    refine hr.beside rfl rfl rfl rfl rfl (put_cell _ k1 rfl) (fun b hbf=>World.putObj_heap_other (fun e=>hbf (by rw [e]; exact k2))) (put_below hr.below h4) (by simp) rfl rfl (fun _ _=>rfl) (fun t y _=>?_) (fun k o hk=>?_) hr.li h2 (put_imm k1 rfl)
    ·have key:∀ t,tv dy'.out ({ a with defers:=dy'.ds }:Act) t = tv g.dy.out a t:=fun t=>by unfold tv; rw [h3]
     exact ⟨key t,fun _ _ t0 _ _=>key t0⟩
    ·obtain ⟨m1,m2⟩:=h6 k o hk;obtain ⟨m3,m4⟩:=hr.ko k o m2;exact ⟨(World.putObj_heap_other m1).trans m3,m4⟩
   exact marks_out hE hrd k { a with defers:=dy'.ds } _ _ (by rw [hd] at hk; simpa using hk) hr2 h
end
end Go.Proofs.YthnagpmnoncijaaGreat.M
