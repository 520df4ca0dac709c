/- A part of the proof. -/
import Derived.Test.YthnagpmnoncijaaGreatMchU
set_option linter.unusedVariables false
namespace Go.Proofs.YthnagpmnoncijaaGreat.M
open Go Go.RowKit
inductive Reach (c0:Code):Nat -> Code -> Prop
 | root:Reach c0 1 c0
 | seqL {p:Nat} {a b:Code} (h:Reach c0 p (.seq a b)):Reach c0 (2 * p) a
 | seqR {p:Nat} {a b:Code} (h:Reach c0 p (.seq a b)):Reach c0 (2 * p + 1) b
 | condL {p:Nat} {x:Operand} {a b:Code} (h:Reach c0 p (.cond x a b)):Reach c0 (2 * p) a
 | condR {p:Nat} {x:Operand} {a b:Code} (h:Reach c0 p (.cond x a b)):Reach c0 (2 * p + 1) b
 | block {p:Nat} {i:Nat} {a:Code} (h:Reach c0 p (.block i a)):Reach c0 (2 * p) a
 | loop {p:Nat} {a:Code} (h:Reach c0 p (.loop a)):Reach c0 (2 * p) a
 | rfL {p:Nat} {f:Operand} {ps:Array Tmp} {a b:Code} (h:Reach c0 p (.rangeFunc f ps a b)):Reach c0 (2 * p) a
 | rfR {p:Nat} {f:Operand} {ps:Array Tmp} {a b:Code} (h:Reach c0 p (.rangeFunc f ps a b)):Reach c0 (2 * p + 1) b
theorem Reach.pos {c0 c:Code} {p:Nat} (h:Reach c0 p c):1 <= p:=by induction h <;> omega
theorem cAt_more {c0:Code}:∀ {f p:Nat} {c:Code},cAt c0 f p = some c -> cAt c0 (f + 1) p = some c
 | 0,p,c,h=>by cases h
 | f + 1,p,c,h=>by
  rw [cAt] at h ⊢;split at h
  ·rename_i hp; exact h
  ·rename_i hp;split at h
   ·rename_i c' hc';rw [cAt_more hc'];exact h
   ·cases h
theorem cAt_le {c0:Code} {f f' p:Nat} {c:Code} (h:cAt c0 f p = some c) (hf:f <= f'):cAt c0 f' p = some c:=by
 induction hf with
 | refl=>exact h
 | step _ ih=>exact cAt_more ih
theorem Reach.cAt {c0 c:Code} {p:Nat} (h:Reach c0 p c):∃ f,M.cAt c0 f p = some c:=by
 have two:∀ {p:Nat} {c c':Code} (d:Nat),d < 2 -> 1 <= p -> child d c = some c' -> (∃ f,M.cAt c0 f p = some c) -> ∃ f,M.cAt c0 f (2 * p + d) = some c':=fun {p c c'} d hd hp hc ⟨f,hf⟩=>by
  refine ⟨f + 1,?_⟩;rw [M.cAt];have h1:Nat.beq (2 * p + d) 1 = false:=by
   cases hb:Nat.beq (2 * p + d) 1 with
   | false=>rfl
   | true=>have:=Nat.eq_of_beq_eq_true hb; omega
  rw [h1];dsimp only;rw [show (2 * p + d) / 2 = p from by omega,hf,show (2 * p + d) % 2 = d from by omega]
  exact hc
 induction h with
 | root=>exact ⟨1,rfl⟩
 | seqL h ih=>exact two 0 (by omega) h.pos rfl ih
 | seqR h ih=>exact two 1 (by omega) h.pos rfl ih
 | condL h ih=>exact two 0 (by omega) h.pos rfl ih
 | condR h ih=>exact two 1 (by omega) h.pos rfl ih
 | block h ih=>exact two 0 (by omega) h.pos rfl ih
 | loop h ih=>exact two 0 (by omega) h.pos rfl ih
 | rfL h ih=>exact two 0 (by omega) h.pos rfl ih
 | rfR h ih=>exact two 1 (by omega) h.pos rfl ih
theorem Reach.is {c0 c c':Code} {p f:Nat} (h:Reach c0 p c) (h':M.cAt c0 f p = some c'):c = c':=by
 obtain ⟨f2,h2⟩:=h.cAt;have h3:=cAt_le h2 (Nat.le_max_left f2 f);have h4:=cAt_le h' (Nat.le_max_right f2 f);rw [h3] at h4;injection h4
theorem Reach.of {c0:Code}:∀ {f p:Nat} {c:Code},M.cAt c0 f p = some c -> Reach c0 p c
 | 0,p,c,h=>by cases h
 | f + 1,p,c,h=>by
  rw [M.cAt] at h;split at h
  ·rename_i hp;have hp:=Nat.eq_of_beq_eq_true hp;subst hp;injection h with h;subst h;exact .root
  ·split at h
   ·rename_i c' hc';have ih:=Reach.of hc';have hd:p % 2 = 0 \/ p % 2 = 1:=by omega
    rcases hd with hd | hd
    ·have hp:2 * (p / 2) = p:=by omega
     rw [hd] at h;cases c' <;> simp only [child] at h <;> try cases h
     ·have:=ih.seqL; rwa [hp] at this
     ·have:=ih.condL; rwa [hp] at this
     ·have:=ih.block; rwa [hp] at this
     ·have:=ih.loop; rwa [hp] at this
     ·have:=ih.rfL; rwa [hp] at this
    ·have hp:2 * (p / 2) + 1 = p:=by omega
     rw [hd] at h;cases c' <;> simp only [child] at h <;> try cases h
     ·have:=ih.seqR; rwa [hp] at this
     ·have:=ih.condR; rwa [hp] at this
     ·have:=ih.rfR; rwa [hp] at this
   ·cases h
theorem nodupB_sound:∀ {l:List Nat},nodupB l = true -> l.Nodup
 | [],_=>List.nodup_nil
 | n :: r,h=>by
  simp only [nodupB,Bool.and_eq_true] at h;refine List.nodup_cons.2 ⟨fun hm=>?_,nodupB_sound h.2⟩
  have h1:=h.1;simp only [Bool.not_eq_true',List.any_eq_false] at h1;exact h1 n hm (by simp)
theorem lim_sh:lim < sh:=by unfold lim sh; omega
theorem lim_mod:lim % sh = lim:=Nat.mod_eq_of_lt lim_sh
theorem mod_up (n:Nat):(n + sh) % sh = n % sh:=Nat.add_mod_right n sh
theorem mod_down {n:Nat} (h:sh <= n):(n - sh) % sh = n % sh:=(Nat.mod_eq_sub_mod h).symm
theorem mod_le {n:Nat} (h:lim <= n % sh):lim <= n:=Nat.le_trans h (Nat.mod_le n sh)
attribute [local irreducible] lim sh
theorem CV.ren {w:World} {k k' kp kp':Nat -> Nat -> Prop} {perm perm':Nat -> Perm} {ι ι':Nat -> Nat} {conc conc':Place -> Option Value} {fs fb:Nat -> Nat} {p:Place} {x:Cell} {u:Value} (h:CV ⟨w,k,perm,ι,conc,kp⟩ p x u)
  (hk:∀ b i v,k b i -> w.cell? ⟨b,i,none⟩ = some v -> k' b i)
  (hkp:∀ b i v,kp b i -> w.cell? ⟨b,i,none⟩ = some v -> kp' b i)
  (hp:∀ q b tip,((x.isOwn = true /\ q = p) \/ x.target = some q) -> perm b = .row q tip -> perm' b = .row (q.ren fs fb) tip)
  (hι:∀ n,x.mentions n = true -> ι' (fb n) = ι n)
  (hc:∀ q v,x.target = some q -> conc q = some v -> conc' (q.ren fs fb) = some v):CV ⟨w,k',perm',ι',conc',kp'⟩ (p.ren fs fb) (x.ren fs fb) u:=by
 have hk2:∀ b i v,k b i -> w.cell? ⟨b,i,none⟩ = some v -> w.cell? ⟨b,i,none⟩ = some v /\ k' b i:=fun b i v h1 h2=>⟨h2,hk b i v h1 h2⟩
 cases x with
 | c x=>exact h
 | v x=>exact h
 | nilS=>exact h
 | lst t l=>exact DV.mono hk2 h
 | own e t l=>
  obtain ⟨h1,h3,h4⟩:=h;exact ⟨h1,DV.mono hk2 h3,fun b hb=>hp p b _ (.inl ⟨rfl,rfl⟩) (h4 b hb)⟩
 | ali q e t l=>
  obtain ⟨h0,h1,h3,h4⟩:=h;exact ⟨hc q u rfl h0,h1,DV.mono hk2 h3,fun b hb=>hp q b _ (.inr rfl) (h4 b hb)⟩
 | ptr n off=>
  rw [show u = _ from h];show Value.pointer (some ⟨ι n,off,none⟩) = .pointer (some ⟨ι' (fb n),off,none⟩);rw [hι n (by simp [Cell.mentions])]
 | sp n off len cap t=>
  rw [show u = _ from h];show Value.slice (some ⟨ι n,off,none⟩) len cap = .slice (some ⟨ι' (fb n),off,none⟩) len cap;rw [hι n (by simp [Cell.mentions])]
 | pe n off t len i fo=>
  refine ⟨?_,h.2⟩;rw [h.1];show Value.pointer (some ⟨ι n,_,none⟩) = .pointer (some ⟨ι' (fb n),_,none⟩);rw [hι n (by simp [Cell.mentions])]
 | re q t i fo=>
  obtain ⟨b,len,cap,h0,e,h1⟩:=h;exact ⟨b,len,cap,hc q _ rfl h0,e,h1⟩
 | dp cs=>
  obtain ⟨b,off,e,hd⟩:=h;exact ⟨b,off,e,hd.mono (fun b i v h1 h2=>⟨h2,hkp b i v h1 h2⟩) hk2⟩
 | dclo g dss=>
  obtain ⟨as,e,hl,hd⟩:=h;exact ⟨as,e,hl,fun i q ds hq hds=>(hd i q ds hq hds).mono hk2 hk2⟩
 | imm k=>exact h
 | arr=>exact h
 | yld n=>
  rw [show u = _ from h];show Value.func (.yield (ι n)) #[] #[] = .func (.yield (ι' (fb n))) #[] #[];rw [hι n (by simp [Cell.mentions])]
 | clo g caps=>
  rw [show u = _ from h];show _ = _;rw [List.map_map]
  congr 2
  apply List.map_congr_left;intro q hq;show _ = Value.pointer (some ⟨ι' (fb q.1),q.2,none⟩);rw [hι q.1 (by simp only [Cell.mentions,List.any_eq_true]; exact ⟨q,hq,by simp⟩)]
theorem SVR.ren {w:World} {k k' kp kp':Nat -> Nat -> Prop} {perm perm':Nat -> Perm} {ι ι':Nat -> Nat} {conc conc':Place -> Option Value} {fs fb:Nat -> Nat} {pl pl':Nat -> Place} {x:SV} {u:Value} (h:SVR ⟨w,k,perm,ι,conc,kp⟩ pl x u)
  (hpl:∀ i,pl' i = (pl i).ren fs fb)
  (hk:∀ b i v,k b i -> w.cell? ⟨b,i,none⟩ = some v -> k' b i)
  (hkp:∀ b i v,kp b i -> w.cell? ⟨b,i,none⟩ = some v -> kp' b i)
  (hp:∀ i y q b tip,x.cs[i]? = some y -> ((y.isOwn = true /\ q = pl i) \/ y.target = some q) -> perm b = .row q tip -> perm' b = .row (q.ren fs fb) tip)
  (hι:∀ y n,y ∈ x.cs -> y.mentions n = true -> ι' (fb n) = ι n)
  (hc:∀ y q v,y ∈ x.cs -> y.target = some q -> conc q = some v -> conc' (q.ren fs fb) = some v):SVR ⟨w,k',perm',ι',conc',kp'⟩ pl' (x.ren fs fb) u:=by
 obtain ⟨us,hu,hf,hl,hcs⟩:=h;refine ⟨us,hu,hf,by simp [SV.ren,hl],fun i y z hy hz=>?_⟩
 simp only [SV.ren,List.getElem?_map] at hy;cases hx:x.cs[i]? with
 | none=>rw [hx] at hy; cases hy
 | some y0=>
  rw [hx] at hy;injection hy with hy;subst hy;rw [hpl];exact ⟨(hcs i y0 z hx hz).1,(hcs i y0 z hx hz).2.ren hk hkp (fun q b tip=>hp i y0 q b tip hx) (fun n=>hι y0 n (List.mem_of_getElem? hx)) (fun q v=>hc y0 q v (List.mem_of_getElem? hx))⟩
theorem ren_target {x:Cell} {fs fb:Nat -> Nat}:(x.ren fs fb).target = x.target.map (Place.ren fs fb):=by
 cases x <;> rfl
theorem lookup_upN {α β:Type} {l:List (Nat × α)} {f:α -> β} {t:Nat} {y:β} (h:(l.map fun q=>(upN q.1,f q.2)).lookup t = some y):∃ t0 x,t = upN t0 /\ l.lookup t0 = some x /\ f x = y:=by
 induction l with
 | nil=>cases h
 | cons q l ih=>
  rw [List.map_cons,List.lookup_cons] at h;by_cases ht:t = upN q.1
  ·subst ht;rw [show (upN q.1 == upN q.1) = true from beq_self_eq_true _] at h;injection h with h;exact ⟨q.1,q.2,rfl,by rw [List.lookup_cons,beq_self_eq_true],h⟩
  ·have hb:(t == upN q.1) = false:=by simpa using ht
   simp only [hb] at h;obtain ⟨t0,x,h1,h2,h3⟩:=ih h;refine ⟨t0,x,h1,?_,h3⟩;rw [List.lookup_cons];have hb':(t0 == q.1) = false:=by
    simp only [beq_eq_false_iff_ne,ne_eq];intro e;exact ht (by rw [h1,e])
   simp only [hb'];exact h2
theorem uniq_upN {α β:Type} {l:List (Nat × α)} {f:α -> β} (h:Uniq l):Uniq (l.map fun q=>(upN q.1,f q.2)):=by
 unfold Uniq at h ⊢;rw [List.map_map];have:((fun q:Nat × β=>q.1) ∘ fun q:Nat × α=>(upN q.1,f q.2)) = upN ∘ (fun q=>q.1):=rfl
 rw [this,<- List.map_map];exact h.map upN (fun a b hab h=>hab (by unfold upN at h; omega))
theorem lookup_downN {α β:Type} {l:List (Nat × α)} {c:α -> Bool} {f:α -> β} {t:Nat} {y:β} (h:((l.filter fun q=>Nat.ble sh q.1 && c q.2).map fun q=>(downN q.1,f q.2)).lookup t = some y) (hu:Uniq l):∃ x,l.lookup (t + sh) = some x /\ c x = true /\ f x = y:=by
 induction l with
 | nil=>cases h
 | cons q l ih=>
  have hul:Uniq l:=by unfold Uniq at hu ⊢; rw [List.map_cons,List.nodup_cons] at hu; exact hu.2
  rw [List.filter_cons] at h;split at h
  ·rename_i hc;rw [Bool.and_eq_true] at hc;have hle:=Nat.le_of_ble_eq_true hc.1;rw [List.map_cons,List.lookup_cons] at h;by_cases ht:t = downN q.1
   ·subst ht;rw [show (downN q.1 == downN q.1) = true from beq_self_eq_true _] at h;injection h with h;refine ⟨q.2,?_,hc.2,h⟩;rw [List.lookup_cons,show downN q.1 + sh = q.1 by unfold downN; omega,beq_self_eq_true]
   ·have hb:(t == downN q.1) = false:=by simpa using ht
    simp only [hb] at h;obtain ⟨x,h1,h2,h3⟩:=ih h hul;refine ⟨x,?_,h2,h3⟩;rw [List.lookup_cons];have hb':(t + sh == q.1) = false:=by
     simp only [beq_eq_false_iff_ne,ne_eq];intro e;exact ht (by unfold downN; omega)
    simp only [hb'];exact h1
  ·obtain ⟨x,h1,h2,h3⟩:=ih h hul;refine ⟨x,?_,h2,h3⟩;rw [List.lookup_cons];have hb':(t + sh == q.1) = false:=by
    simp only [beq_eq_false_iff_ne,ne_eq];intro e;unfold Uniq at hu;rw [List.map_cons,List.nodup_cons] at hu;exact hu.1 (by rw [<- e]; exact List.mem_map.2 ⟨(t + sh,x),lookup_mem h1,rfl⟩)
   simp only [hb'];exact h1
theorem uniq_downN {α β:Type} {l:List (Nat × α)} {c:α -> Bool} {f:α -> β} (h:Uniq l):Uniq ((l.filter fun q=>Nat.ble sh q.1 && c q.2).map fun q=>(downN q.1,f q.2)):=by
 unfold Uniq at h ⊢;rw [List.map_map];have e:((fun q:Nat × β=>q.1) ∘ fun q:Nat × α=>(downN q.1,f q.2)) = downN ∘ (fun q=>q.1):=rfl
 rw [e,<- List.map_map];have hf:((l.filter fun q=>Nat.ble sh q.1 && c q.2).map (·.1)).Nodup:=h.sublist (List.filter_sublist.map _)
 refine List.Pairwise.map downN (R:=fun a b=>sh <= a /\ sh <= b /\ a ≠ b) (fun a b hab h=>hab.2.2 (by unfold downN at h; omega)) ?_
 refine hf.imp_of_mem fun {a b} ha hb hab=>?_
 obtain ⟨qa,hqa,rfl⟩:=List.mem_map.1 ha;obtain ⟨qb,hqb,rfl⟩:=List.mem_map.1 hb;rw [List.mem_filter,Bool.and_eq_true] at hqa hqb;exact ⟨Nat.le_of_ble_eq_true hqa.2.1,Nat.le_of_ble_eq_true hqb.2.1,hab⟩
theorem Plan.to_mem:∀ {pl:Plan} {n k:Nat},pl.to n = some k -> (n,k) ∈ pl
 | [],n,k,h=>by cases h
 | (a,b) :: r,n,k,h=>by
  simp only [Plan.to] at h;split at h
  ·rename_i e;have e:=Nat.eq_of_beq_eq_true e;injection h with h;subst e; subst h;exact List.mem_cons_self
  ·exact List.mem_cons_of_mem _ (Plan.to_mem h)
theorem Plan.has_mem:∀ {pl:Plan} {k:Nat},pl.has k = true ↔ ∃ n,(n,k) ∈ pl
 | [],k=>by simp [Plan.has]
 | (a,b) :: r,k=>by
  simp only [Plan.has];split
  ·rename_i e;have e:=Nat.eq_of_beq_eq_true e;subst e;exact ⟨fun _=>⟨a,List.mem_cons_self⟩,fun _=>rfl⟩
  ·rename_i e;have e:=Nat.ne_of_beq_eq_false e;rw [Plan.has_mem]
   exact ⟨fun ⟨n,h⟩=>⟨n,List.mem_cons_of_mem _ h⟩,fun ⟨n,h⟩=>⟨n,by
    rcases List.mem_cons.1 h with h | h
    ·injection h with _ h; exact absurd h.symm e
    ·exact h⟩⟩
theorem pair_inj:∀ {pl:Plan} {n m k:Nat},(pl.map (·.2)).Nodup -> (n,k) ∈ pl -> (m,k) ∈ pl -> n = m
 | [],n,m,k,_,h,_=>by cases h
 | (a,b) :: r,n,m,k,hd,h1,h2=>by
  rw [List.map_cons,List.nodup_cons] at hd;rcases List.mem_cons.1 h1 with h1 | h1
  ·injection h1 with e1 e2;rcases List.mem_cons.1 h2 with h2 | h2
   ·injection h2 with e3 _;rw [e1,e3]
   ·exact absurd (List.mem_map.2 ⟨(m,k),h2,e2⟩) hd.1
  ·rcases List.mem_cons.1 h2 with h2 | h2
   ·injection h2 with _ e2;exact absurd (List.mem_map.2 ⟨(n,k),h1,e2⟩) hd.1
   ·exact pair_inj hd.2 h1 h2
theorem Plan.ok_nodup {pl:Plan} (h:pl.ok = true):(pl.map (·.2)).Nodup:=by
 unfold Plan.ok at h;rw [Bool.and_eq_true] at h;exact nodupB_sound h.1
theorem Plan.ok_lt {pl:Plan} (h:pl.ok = true) {n k:Nat} (hm:(n,k) ∈ pl):n < sh /\ k < lim:=by
 unfold Plan.ok at h;rw [Bool.and_eq_true] at h;have:=List.all_eq_true.1 h.2 _ hm;rw [Bool.and_eq_true] at this;exact ⟨Nat.le_of_ble_eq_true this.1,Nat.le_of_ble_eq_true this.2⟩
theorem bx_far {pl:Plan} {n k:Nat} (h:pl.bx n = some k):(sh <= n /\ pl.has (n - sh) = false /\ k = n - sh) \/ (n < sh /\ (n,k) ∈ pl):=by
 unfold Plan.bx at h;split at h
 ·rename_i hb;have hb:=Nat.le_of_ble_eq_true hb;split at h
  ·cases h
  ·rename_i hh;injection h with h;exact .inl ⟨hb,by simpa using hh,h.symm⟩
 ·rename_i hb;refine .inr ⟨?_,Plan.to_mem h⟩;refine Nat.lt_of_not_le fun hle=>?_
  rw [Nat.ble_eq_true_of_le hle] at hb;cases hb
theorem bx_inj {pl:Plan} (hp:pl.ok = true) {n m k:Nat} (h1:pl.bx n = some k) (h2:pl.bx m = some k):n = m:=by
 rcases bx_far h1 with ⟨a1,a2,a3⟩ | ⟨a1,a2⟩
 ·rcases bx_far h2 with ⟨b1,b2,b3⟩ | ⟨b1,b2⟩
  ·omega
  ·have:=Plan.has_mem.2 ⟨m,b2⟩;rw [a3,a2] at this;cases this
 ·rcases bx_far h2 with ⟨b1,b2,b3⟩ | ⟨b1,b2⟩
  ·have:=Plan.has_mem.2 ⟨n,a2⟩;rw [b3,b2] at this;cases this
  ·exact pair_inj (Plan.ok_nodup hp) a2 b2
def Plan.un:Plan -> Nat -> Nat
 | [],k=>k + sh
 | (a,b) :: r,k=>match Nat.beq b k with
  | true=>a
  | false=>Plan.un r k
theorem un_mem:∀ {pl:Plan} {n k:Nat},(pl.map (·.2)).Nodup -> (n,k) ∈ pl -> pl.un k = n
 | (a,b) :: r,n,k,hd,h=>by
  simp only [Plan.un];split
  ·rename_i e;have e:=Nat.eq_of_beq_eq_true e;subst e;exact pair_inj hd List.mem_cons_self h
  ·rename_i e;have e:=Nat.ne_of_beq_eq_false e;rw [List.map_cons,List.nodup_cons] at hd;rcases List.mem_cons.1 h with h | h
   ·injection h with _ h; exact absurd h.symm e
   ·exact un_mem hd.2 h
theorem un_far:∀ {pl:Plan} {k:Nat},pl.has k = false -> pl.un k = k + sh
 | [],k,_=>rfl
 | (a,b) :: r,k,h=>by
  simp only [Plan.has] at h;simp only [Plan.un];split at h
  ·cases h
  ·rename_i e;rw [e];exact un_far h
theorem un_bx {pl:Plan} (hp:pl.ok = true) {n k:Nat} (h:pl.bx n = some k):pl.un k = n:=by
 rcases bx_far h with ⟨a1,a2,a3⟩ | ⟨a1,a2⟩
 ·rw [a3,un_far a2]; omega
 ·exact un_mem (Plan.ok_nodup hp) a2
theorem un_res {pl:Plan} (hp:pl.ok = true) {k:Nat} (h:lim <= k):pl.un k = k + sh:=by
 refine un_far ?_;cases hh:pl.has k with
 | false=>rfl
 | true=>
  obtain ⟨n,hn⟩:=Plan.has_mem.1 hh;have:=(Plan.ok_lt hp hn).2;omega
theorem dn_bx {pl:Plan} {n k:Nat} (h:pl.bx n = some k):pl.dn n = k:=by unfold Plan.dn; rw [h]; rfl
theorem bx_dn {pl:Plan} {n:Nat} (h:(pl.bx n).isSome = true):pl.bx n = some (pl.dn n):=by
 cases h1:pl.bx n with
 | none=>rw [h1] at h; cases h
 | some k=>rw [dn_bx h1]
theorem lookup_plan {α β:Type} {pl:Plan} {l:List (Nat × α)} {c:α -> Bool} {f:α -> β} {t:Nat} {y:β} (h:((l.filter fun q=>(pl.bx q.1).isSome && c q.2).map fun q=>(pl.dn q.1,f q.2)).lookup t = some y) (hu:Uniq l):∃ n x,pl.bx n = some t /\ l.lookup n = some x /\ c x = true /\ f x = y:=by
 obtain ⟨q,hq,e⟩:=List.mem_map.1 (lookup_mem h);injection e with e1 e2;obtain ⟨hq1,hq2⟩:=List.mem_filter.1 hq;rw [Bool.and_eq_true] at hq2;exact ⟨q.1,q.2,by rw [<- e1]; exact bx_dn hq2.1,lookup_of_mem hu hq1,hq2.2,e2⟩
theorem uniq_plan {α β:Type} {pl:Plan} (hp:pl.ok = true) {l:List (Nat × α)} {c:α -> Bool} {f:α -> β} (h:Uniq l):Uniq ((l.filter fun q=>(pl.bx q.1).isSome && c q.2).map fun q=>(pl.dn q.1,f q.2)):=by
 unfold Uniq at h ⊢;rw [List.map_map];have e:((fun q:Nat × β=>q.1) ∘ fun q:Nat × α=>(pl.dn q.1,f q.2)) = pl.dn ∘ (fun q=>q.1):=rfl
 rw [e,<- List.map_map];have hf:((l.filter fun q=>(pl.bx q.1).isSome && c q.2).map (·.1)).Nodup:=h.sublist (List.filter_sublist.map _)
 refine List.Pairwise.map pl.dn (R:=fun a b=>(pl.bx a).isSome = true /\ (pl.bx b).isSome = true /\ a ≠ b) (fun a b hab h=>hab.2.2 (bx_inj hp (bx_dn hab.1) (by rw [h]; exact bx_dn hab.2.1))) ?_
 refine hf.imp_of_mem fun {a b} ha hb hab=>?_
 obtain ⟨qa,hqa,rfl⟩:=List.mem_map.1 ha;obtain ⟨qb,hqb,rfl⟩:=List.mem_map.1 hb;rw [List.mem_filter,Bool.and_eq_true] at hqa hqb;exact ⟨hqa.2.1,hqb.2.1,hab⟩
def Perm.up:Perm -> Perm
 | .free=>.free
 | .box n=>.box (upN n)
 | .row p tip=>.row (p.ren upN upN) tip
def Perm.down (pl:Plan):Perm -> Perm
 | .free=>.free
 | .box n=>match pl.bx n with
  | some k=>.box k
  | none=>.free
 | .row p tip=>if p.far pl = true then .row (p.ren downN pl.dn) tip else .free
theorem ok_up {base:Nat} {k0:Nat -> Nat -> Prop} {perm:Nat -> Perm} {b i:Nat} (h:ok base k0 perm b i):ok base k0 (fun b=>(perm b).up) b i:=by
 unfold ok okp at h ⊢;split
 ·rename_i hlt; rw [if_pos hlt] at h; exact h
 ·rename_i hlt;rw [if_neg hlt] at h;cases hp:perm b with
  | free=>simp [Perm.up,hp]
  | box n=>rw [hp] at h; exact h.elim
  | row p tip=>rw [hp] at h; simpa [Perm.up,hp] using h
theorem ok_down {pl:Plan} {base:Nat} {k0:Nat -> Nat -> Prop} {perm:Nat -> Perm} {b i:Nat} (h:ok base k0 perm b i):ok base k0 (fun b=>(perm b).down pl) b i:=by
 unfold ok okp at h ⊢;split
 ·rename_i hlt; rw [if_pos hlt] at h; exact h
 ·rename_i hlt;rw [if_neg hlt] at h;cases hp:perm b with
  | free=>simp [Perm.down,hp]
  | box n=>rw [hp] at h; exact h.elim
  | row p tip=>
   rw [hp] at h;simp only [Perm.down,hp];cases p.far pl <;> simp;exact h
theorem mentions_target {x:Cell} {n i:Nat} (h:x.target = some (.box n i)):x.mentions n = true:=by
 cases x <;> simp [Cell.target] at h
 all_goals (subst h; simp [Cell.mentions])
theorem up_lo (n:Nat):¬ upN n < lim:=by have:=lim_sh; unfold upN; omega
theorem up_ge (n:Nat):sh <= upN n:=by unfold upN; omega
theorem up_down (n:Nat):upN n - sh = n:=by unfold upN; omega
theorem far_target {pl:Plan} {x:Cell} {q:Place} (h:x.far pl = true) (ht:x.target = some q):q.far pl = true:=by
 cases x <;> simp [Cell.target] at ht
 all_goals (subst ht; exact h)
theorem far_mentions {pl:Plan} {x:Cell} {n:Nat} (h:x.far pl = true) (hm:x.mentions n = true):(pl.bx n).isSome = true:=by
 cases x <;> simp [Cell.mentions] at hm
 case ali q e t l=>
  cases q with
  | slot=>simp [Cell.mentions] at hm
  | box m i=>simp [Cell.mentions] at hm; subst hm; exact h
 case re q t i fo=>
  cases q with
  | slot=>simp [Cell.mentions] at hm
  | box m i=>simp [Cell.mentions] at hm; subst hm; exact h
 case ptr=>subst hm; exact h
 case sp=>subst hm; exact h
 case pe=>subst hm; exact h
 case yld=>subst hm; exact h
 case clo f caps=>
  obtain ⟨x,hx⟩:=hm;simp only [Cell.far,List.all_eq_true] at h;exact h _ hx
def lpV (x:LpI) (c:Int):Value:=.agg #[.int .i64 c,.int .i64 (x.fn:Int),.int .i64 (x.p:Int)]
def recAt (r:Loop) (c:Int):Loop:=
 { r with state:=if c = 0 then .ready else if c = 1 then .busy else .done,pending:=if c = 0 \/ c = 1 then none else if c = 2 then some .ret else some (.exit (c - 3).toNat) }
def Dy.code (d:Dy) (n:Nat) (x:LpI) (c:Int):Dy:=
 { d with out:=fun m=>if m = n then lpV x c else d.out m,ko:=fun k=>if k = x.l then some (.loop (recAt x.rc c)) else d.ko k }
def markOf (D:Nat):Deferred:={ target:=.collected D,args:=#[] }
def Dy.mark (d:Dy) (D:Nat):Dy:={ d with ds:=markOf D :: d.ds,ko:=fun k=>if k = D then some (.deferred (some [])) else d.ko k }
structure Env.Lp (P:Program) (E:Env):Prop where
 lp:∀ n x,E.lps n = some x -> n % sh = lim /\ E.li n = x.l /\ E.base <= x.l /\ ∃ fn c0 f,P.funcs[x.fn]? = some fn /\ fn.body = some c0 /\ fn.ntmps = x.rc.tmps.size /\ Reach c0 x.p (.rangeFunc f x.rc.params x.rc.assign x.rc.body)
 out:∀ dy,E.J dy -> ∀ n,n % sh = lim -> (E.lps n = none /\ dy.out n = undef) \/ ∃ x c,E.lps n = some x /\ dy.out n = lpV x c /\ dy.ko x.l = some (.loop (recAt x.rc c))
 tm:∀ dy,E.J dy -> ∀ n x,E.lps n = some x -> sh <= n -> ∀ t,t < lim -> dy.out (n - lim + t) = x.rc.tmps.getD t undef
 turn:∀ dy n x c,E.J dy -> E.lps n = some x -> E.J (dy.code n x c)
structure Env.Rd (E:Env):Prop where
 mark:E.rd = none -> ∀ dy D,E.J dy -> E.base <= D -> dy.ko D = none -> E.J (dy.mark D)
 unmark:E.rd = none -> ∀ dy,E.J dy -> dy.ds = [] \/ ∃ D dy',dy.ds = markOf D :: dy'.ds /\ E.J dy' /\ dy'.out = dy.out /\ E.base <= D /\ dy.ko D = some (.deferred (some [])) /\ ∀ k o,dy'.ko k = some o -> k ≠ D /\ dy.ko k = some o
 round:∀ l,E.rd = some l -> ∀ dy,E.J dy -> dy.ds = [] /\ ∃ r,dy.ko l = some (.loop r)
def dyIn (a:Act) (ms:List Nat) (d:Dy):Dy:=
 ⟨fun x=>if x < sh then undef else tv d.out a (x - sh),ms.map markOf,fun k=>if k ∈ ms then some (.deferred (some [])) else d.ko k⟩
def Jin (E:Env) (a:Act) (ds0:List Deferred) (mk:Bool) (dy:Dy):Prop:=
 ∃ d ms,E.J d /\ d.ds = ds0 /\ (mk = false -> ms = []) /\ ms.Nodup /\ (∀ D ∈ ms,E.base <= D /\ d.ko D = none) /\ dy = dyIn a ms d
def Env.inner (E:Env) (a:Act) (g:Gh) (N:Nat) (rd:Option Nat) (hN:N <= lim):Env:=
 ⟨N,E.base,E.lent,E.w0,E.k0,rd,fun n=>g.ι (n - sh),fun n=>if n < sh then none else E.lps (n - sh),Jin E a g.dy.ds rd.isNone,hN,E.hl⟩
section
variable {P:Program} {E:Env} {s s':St} {a a':Act} {w w':World} {g g':Gh}
theorem tv_out {out:Nat -> Value} {t:Nat} (h:lim <= t):tv out a t = out t:=if_neg (by omega)
theorem Env.Lp.inner (hE:E.Lp P) (hli:∀ n,lim <= n % sh -> g.ι n = E.li n) {N:Nat} {rd:Option Nat} {hN:N <= lim} (htm:∀ x,E.lps lim = some x -> ∀ t,t < lim -> a.tmps.getD t undef = x.rc.tmps.getD t undef):(E.inner a g N rd hN).Lp P:=by
 have hls:=lim_sh;have far:∀ {n x},(E.inner a g N rd hN).lps n = some x -> sh <= n /\ E.lps (n - sh) = some x:=fun {n x} h=>by
  have h:(if n < sh then none else E.lps (n - sh)) = some x:=h
  split at h
  ·cases h
  ·exact ⟨by omega,h⟩
 have nms:∀ {d:Dy} {ms:List Nat} {k:Nat} {o:Obj},(∀ D ∈ ms,E.base <= D /\ d.ko D = none) -> d.ko k = some o -> k ∉ ms:=fun hm hk h=>by
  rw [(hm _ h).2] at hk; cases hk
 refine ⟨fun n x h=>?_,fun dy hJ n hn=>?_,fun dy hJ n x h hs t ht=>?_,fun dy n x c hJ h=>?_⟩
 ·obtain ⟨h1,h2⟩:=far h;obtain ⟨k1,k2,k3,k4⟩:=hE.lp _ _ h2;refine ⟨by rw [<- mod_down h1]; exact k1,?_,k3,k4⟩
  show g.ι (n - sh) = x.l;rw [hli _ (by rw [k1]; exact Nat.le_refl _)]
  exact k2
 ·obtain ⟨d,ms,h1,h2,h3,h4,h5,rfl⟩:=hJ;by_cases hs:n < sh
  ·exact .inl ⟨if_pos hs,if_pos hs⟩
  ·have hs':sh <= n:=by omega
   have hn':(n - sh) % sh = lim:=by rw [mod_down hs']; exact hn
   have hle:lim <= n - sh:=mod_le (by rw [hn']; exact Nat.le_refl _)
   have eo:(dyIn a ms d).out n = d.out (n - sh):=by
    show (if n < sh then undef else tv d.out a (n - sh)) = _
    rw [if_neg hs,tv_out hle]
   have el:(E.inner a g N rd hN).lps n = E.lps (n - sh):=if_neg hs;rw [eo,el];rcases hE.out d h1 (n - sh) hn' with ⟨k1,k2⟩ | ⟨x,c,k1,k2,k3⟩
   ·exact .inl ⟨k1,k2⟩
   ·refine .inr ⟨x,c,k1,k2,?_⟩;show (if x.l ∈ ms then _ else d.ko x.l) = _
    rw [if_neg (nms h5 k3)];exact k3
 ·obtain ⟨d,ms,h1,h2,h3,h4,h5,rfl⟩:=hJ;obtain ⟨_,k2⟩:=far h;have hm:=(hE.lp _ _ k2).1;have hle:lim <= n - sh:=mod_le (by rw [hm]; exact Nat.le_refl _)
  show (if n - lim + t < sh then undef else tv d.out a (n - lim + t - sh)) = _
  rw [if_neg (by omega)]
  by_cases hn:n - sh = lim
  ·rw [hn] at k2;rw [show n - lim + t - sh = t by omega]
   unfold tv;rw [if_pos ht];exact htm x k2 t ht
  ·have hge:sh <= n - sh:=by
    refine Nat.le_of_not_lt fun hlt=>hn ?_
    rw [<- Nat.mod_eq_of_lt hlt]; exact hm
   have hge2:sh + lim <= n - sh:=by
    have h1:(n - sh - sh) % sh = lim:=by rw [mod_down hge]; exact hm
    have:=mod_le (n:=n - sh - sh) (by rw [h1]; exact Nat.le_refl _)
    omega
   have:=hE.tm d h1 (n - sh) x k2 hge t ht;rw [tv_out (by omega),show n - lim + t - sh = n - sh - lim + t by omega]
   exact this
 ·obtain ⟨d,ms,h1,h2,h3,h4,h5,rfl⟩:=hJ;obtain ⟨hs,k2⟩:=far h;have hm:=(hE.lp _ _ k2).1;have hle:lim <= n - sh:=mod_le (by rw [hm]; exact Nat.le_refl _)
  obtain ⟨x',c',k1',k2',k3'⟩:∃ x' c',E.lps (n - sh) = some x' /\ d.out (n - sh) = lpV x' c' /\ d.ko x'.l = some (.loop (recAt x'.rc c')):=by
   rcases hE.out d h1 (n - sh) hm with ⟨k,_⟩ | k
   ·rw [k2] at k; cases k
   ·exact k
  rw [k2] at k1';injection k1' with k1'
  subst k1';have hxm:=nms h5 k3';refine ⟨d.code (n - sh) x c,ms,hE.turn d (n - sh) x c h1 k2,h2,h3,h4,fun D hD=>⟨(h5 D hD).1,?_⟩,?_⟩
  ·show (if D = x.l then _ else d.ko D) = none
   rw [if_neg (fun e=>hxm (by rw [<- e]; exact hD))]
   exact (h5 D hD).2
  ·unfold Dy.code dyIn;simp only [Dy.mk.injEq,true_and];refine ⟨funext fun m=>?_,funext fun k=>?_⟩
   ·by_cases hmn:m = n
    ·subst hmn;rw [if_pos rfl,if_neg (by omega),tv_out hle,if_pos rfl]
    ·rw [if_neg hmn];split
     ·rfl
     ·rename_i hms;unfold tv;split
      ·rfl
      ·show d.out (m - sh) = (if m - sh = n - sh then lpV x c else d.out (m - sh))
       rw [if_neg (by omega)]
   ·by_cases hk:k = x.l
    ·subst hk;rw [if_pos rfl,if_neg hxm,if_pos rfl]
    ·simp only [if_neg hk]
theorem Env.Rd.inner {N:Nat} {rd:Option Nat} {hN:N <= lim} (hrd:∀ l,rd = some l -> ∀ d,E.J d -> ∃ r,d.ko l = some (.loop r)):(E.inner a g N rd hN).Rd:=by
 refine ⟨fun h dy D hJ hb hD=>?_,fun h dy hJ=>?_,fun l h dy hJ=>?_⟩
 ·obtain ⟨d,ms,h1,h2,h3,h4,h5,rfl⟩:=hJ;have hDm:D ∉ ms /\ d.ko D = none:=by
   have hD:(if D ∈ ms then some (Obj.deferred (some [])) else d.ko D) = none:=hD
   split at hD
   ·cases hD
   ·exact ⟨by assumption,hD⟩
  have h:rd = none:=h;refine ⟨d,D :: ms,h1,h2,fun hm=>(by rw [h] at hm; cases hm),List.nodup_cons.2 ⟨hDm.1,h4⟩,fun D' hD'=>?_,?_⟩
  ·rcases List.mem_cons.1 hD' with rfl | hD'
   ·exact ⟨hb,hDm.2⟩
   ·exact h5 D' hD'
  ·unfold Dy.mark dyIn;simp only [Dy.mk.injEq,List.map_cons,true_and];refine funext fun k=>?_
   by_cases hk:k = D
   ·rw [if_pos hk,if_pos (by rw [hk]; exact List.mem_cons_self)]
   ·rw [if_neg hk];simp only [List.mem_cons,hk,false_or]
 ·obtain ⟨d,ms,h1,h2,h3,h4,h5,rfl⟩:=hJ;cases ms with
  | nil=>exact .inl rfl
  | cons D ms=>
   rw [List.nodup_cons] at h4;refine .inr ⟨D,dyIn a ms d,rfl,⟨d,ms,h1,h2,fun hm=>(by have:=h3 hm; cases this),h4.2,fun D' hD'=>h5 D' (List.mem_cons_of_mem _ hD'),rfl⟩,rfl,(h5 D List.mem_cons_self).1,?_,fun k o hk=>?_⟩
   ·show (if D ∈ D :: ms then _ else _) = _
    rw [if_pos List.mem_cons_self]
   ·have hk:(if k ∈ ms then some (Obj.deferred (some [])) else d.ko k) = some o:=hk
    have hne:k ≠ D:=by
     rintro rfl
     rw [if_neg h4.1,(h5 k List.mem_cons_self).2] at hk;cases hk
    refine ⟨hne,?_⟩;show (if k ∈ D :: ms then some (Obj.deferred (some [])) else d.ko k) = some o
    simp only [List.mem_cons,hne,false_or];exact hk
 ·obtain ⟨d,ms,h1,h2,h3,h4,h5,rfl⟩:=hJ;have h:rd = some l:=h;have hms:=h3 (by rw [h]; rfl)
  subst hms;obtain ⟨r,hr⟩:=hrd l h d h1;exact ⟨rfl,r,by show (if l ∈ ([]:List Nat) then some (Obj.deferred (some [])) else d.ko l) = some (Obj.loop r); simpa using hr⟩
def upG (a:Act) (g:Gh):Gh:=⟨fun n=>g.ι (n - sh),fun b=>(g.perm b).up,dyIn a [] g.dy⟩
def downG (pl:Plan) (g:Gh) (d:Dy):Gh:=⟨fun k=>g.ι (pl.un k),fun b=>(g.perm b).down pl,d⟩
theorem out_up (t:Nat):(dyIn a [] g.dy).out (upN t) = tv g.dy.out a t:=by
 show (if upN t < sh then undef else tv g.dy.out a (upN t - sh)) = _
 rw [if_neg (by have:=up_ge t; omega),up_down]
theorem tv_up (t:Nat):tv (dyIn a [] g.dy).out a' (upN t) = tv g.dy.out a t:=by
 rw [tv_out (by have:=up_lo t; omega),out_up]
theorem conc_up {q:Place}:concAt (dyIn a [] g.dy).out a' w (upG a g).ι (q.ren upN upN) = concAt g.dy.out a w g.ι q:=by
 cases q with
 | slot t i=>
  show (flat (tv (dyIn a [] g.dy).out a' (upN t)))[i]? = (flat (tv g.dy.out a t))[i]?;rw [tv_up]
 | box n i=>
  show w.cell? ⟨g.ι (upN n - sh),i,none⟩ = _;rw [up_down];rfl
theorem SVR.up {N:Nat} {rd:Option Nat} {hN:N <= lim} {pl pl':Nat -> Place} {x:SV} {u:Value} (h:SVR (ctx E g a w) pl x u) (hpl:∀ i,pl' i = (pl i).ren upN upN):SVR (ctx (E.inner a g N rd hN) (upG a g) a' w) pl' (x.ren upN upN) u:=
 SVR.ren h hpl (fun _ _ _ h _=>ok_up h) (fun _ _ _ h _=>h.imp id ok_up) (fun i y q b tip _ _ hp=>by show (g.perm b).up = _; rw [hp]; rfl) (fun y n _ _=>by show g.ι (upN n - sh) = _; rw [up_down]) (fun y q v _ _ hv=>by
  show concAt (dyIn a [] g.dy).out a' w (upG a g).ι (q.ren upN upN) = some v
  rw [conc_up]; exact hv)
theorem notOwn_ren {x:SV} {fs fb:Nat -> Nat} (h:x.cs.any Cell.isOwn = false):(x.ren fs fb).cs.any Cell.isOwn = false:=by
 rw [List.any_eq_false] at h ⊢;intro y hy;obtain ⟨z,hz,rfl⟩:=List.mem_map.1 hy;have:=h z hz;cases z <;> simp_all [Cell.ren,Cell.isOwn]
theorem Rel.push {N:Nat} {rd:Option Nat} {hN:N <= lim} {near:List (Nat × SV)} (hr:Rel E s a w g) (hu:Uniq near) (hlt:∀ q ∈ near,q.1 < lim) (hv:∀ t x,near.lookup t = some x -> SVR (ctx (E.inner a g N rd hN) (upG a g) a' w) (.slot t) x (a'.tmps.getD t undef))
  (hsz:a'.tmps.size = N) (hds:a'.defers = []):Rel (E.inner a g N rd hN) ⟨near ++ s.up.slots,s.up.boxes⟩ a' w (upG a g):=by
 refine ⟨⟨?_,uniq_upN (f:=fun q:Nat × List Cell=>(q.1,q.2.map (Cell.ren upN upN))) hr.uniq.boxes⟩,fun t x hx=>?_,fun n e cs hn=>?_,fun n e cs hn=>?_,fun b hb=>?_,hr.below,hr.base,hsz,hds,fun l o hl'=>?_,fun n hn=>rfl,⟨g.dy,[],hr.dyn,rfl,fun _=>rfl,List.nodup_nil,fun D hD=>(by cases hD),rfl⟩⟩
 ·show Uniq (near ++ s.up.slots);unfold Uniq;rw [List.map_append,List.nodup_append];refine ⟨hu,uniq_upN hr.uniq.slots,fun x hx y hy=>?_⟩
  obtain ⟨q,hq,rfl⟩:=List.mem_map.1 hx;obtain ⟨q2,hq2,rfl⟩:=List.mem_map.1 hy;have h1:=hlt q hq;obtain ⟨q3,_,rfl⟩:=List.mem_map.1 hq2;intro e;rw [e] at h1;exact up_lo _ h1
 ·have hx:(near ++ s.up.slots).lookup t = some x:=hx;rw [List.lookup_append] at hx;cases h1:near.lookup t with
  | some y=>
   rw [h1] at hx;injection hx with hx;subst hx;have htl:=hlt _ (lookup_mem h1);show SVR _ _ _ (tv _ a' t);rw [tv_own htl];exact hv t y h1
  | none=>
   rw [h1] at hx;obtain ⟨t0,x0,rfl,h2,rfl⟩:=lookup_upN (f:=SV.ren upN upN) (show s.up.slots.lookup t = some x from hx);have h3:=hr.slots t0 x0 h2;show SVR _ _ _ (tv (dyIn a [] g.dy).out a' (upN t0));rw [tv_up];exact SVR.up h3 fun _=>rfl
 ·obtain ⟨n0,x0,rfl,h2,h3⟩:=lookup_upN (f:=fun q:Nat × List Cell=>(q.1,q.2.map (Cell.ren upN upN))) (show s.up.boxes.lookup n = some (e,cs) from hn)
  obtain ⟨e0,cs0⟩:=x0;simp only [Prod.mk.injEq] at h3;obtain ⟨rfl,rfl⟩:=h3;obtain ⟨k1,k2⟩:=hr.boxes n0 e0 cs0 h2;have ei:(upG a g).ι (upN n0) = g.ι n0:=by show g.ι (upN n0 - sh) = _; rw [up_down]
  refine ⟨?_,k2.mono (by rw [ei]; rfl) (by simp) (fun he=>by obtain ⟨_,rfl,_⟩:=k2.2 he; rfl) fun i x y hx _ hcv=>?_⟩
  ·rw [ei];show (g.perm (g.ι n0)).up = _;rw [k1]; rfl
  ·rw [List.getElem?_map] at hx;cases h4:cs0[i]? with
   | none=>rw [h4] at hx; cases hx
   | some x0=>
    rw [h4] at hx;injection hx with hx;subst hx;have m2:=hcv x0 h4
    exact (CV.ren m2 (fun _ _ _ h _=>ok_up h) (fun _ _ _ h _=>h.imp id ok_up) (fun q b tip _ hp=>by show (g.perm b).up = _; rw [hp]; rfl) (fun n _=>by show g.ι (upN n - sh) = _; rw [up_down]) (fun q v _ hv=>by
     show concAt (dyIn a [] g.dy).out a' w (upG a g).ι (q.ren upN upN) = some v
     rw [conc_up]; exact hv))
 ·obtain ⟨n0,x0,rfl,h2,h3⟩:=lookup_upN (f:=fun q:Nat × List Cell=>(q.1,q.2.map (Cell.ren upN upN))) (show s.up.boxes.lookup n = some (e,cs) from hn)
  obtain ⟨e0,cs0⟩:=x0;simp only [Prod.mk.injEq] at h3;obtain ⟨rfl,rfl⟩:=h3;intro c hc;obtain ⟨c0,hc0,rfl⟩:=List.mem_map.1 hc;rw [ren_target,hr.nt n0 e0 cs0 h2 c0 hc0];rfl
 ·obtain ⟨k1,k2⟩:=hr.lo b fun h=>hb (by show (g.perm b).up = _; rw [h]; rfl)
  refine ⟨k1.imp id fun q=>⟨q.1,?_⟩,k2⟩
  show ((g.perm b).up).rowless;have:=q.2;cases hp:g.perm b with
  | free=>intro q tip e; cases e
  | box n=>intro q tip e; cases e
  | row q tip=>exact absurd hp (this q tip)
 ·have hl':(if l ∈ ([]:List Nat) then some (Obj.deferred (some [])) else g.dy.ko l) = some o:=hl'
  rw [if_neg (by simp)] at hl'
  obtain ⟨k1,k2⟩:=hr.ko l o hl';exact ⟨k1,by show (g.perm l).up = _; rw [k2]; rfl⟩
theorem Rel.enter {N:Nat} {rd:Option Nat} {hN:N <= lim} {args:List SV} {vs:List Value} (hr:Rel E s a w g) (hl:vs.length = args.length) (hlen:args.length <= N) (hv:∀ (i:Nat) x v,args[i]? = some x -> vs[i]? = some v -> (∃ pl,SVR (ctx E g a w) pl x v) /\ x.cs.any Cell.isOwn = false)
  (hsz:a'.tmps.size = N) (hds:a'.defers = []) (hget:∀ t,t < vs.length -> a'.tmps.getD t undef = vs[t]?.getD undef):Rel (E.inner a g N rd hN) (s.enter args) a' w (upG a g):=by
 refine hr.push (fnSlots_uniq _ 0).1 (fun q hq=>?_) (fun t y h1=>?_) hsz hds
 ·have:=(fnSlots_uniq (args.map (SV.ren upN upN)) 0).2 q hq;obtain ⟨t,x⟩:=q;have h2:=lookup_of_mem (fnSlots_uniq (args.map (SV.ren upN upN)) 0).1 hq;obtain ⟨_,h3⟩:=fnSlots_look _ 0 t x h2;have:=(List.getElem?_eq_some_iff.1 h3).1;simp at this;show t < lim;omega
 ·obtain ⟨_,h2⟩:=fnSlots_look _ 0 t y h1;simp only [Nat.sub_zero,List.getElem?_map] at h2;cases h3:args[t]? with
  | none=>rw [h3] at h2; cases h2
  | some x0=>
   rw [h3] at h2;injection h2 with h2;subst h2;have htl:t < args.length:=(List.getElem?_eq_some_iff.1 h3).1;obtain ⟨⟨pl,k1⟩,k2⟩:=hv t x0 vs[t] h3 (List.getElem?_eq_getElem (by omega))
   rw [hget t (by omega),List.getElem?_eq_getElem (by omega)]
   exact (SVR.up k1 (pl':=fun i=>(pl i).ren upN upN) fun _=>rfl).place (notOwn_ren k2)
theorem conc_down {pl:Plan} (hp:pl.ok = true) {ms:List Nat} {d:Dy} {ι:Nat -> Nat} {q:Place} (h:q.far pl = true):concAt d.out a w (fun k=>ι (pl.un k)) (q.ren downN pl.dn) = concAt (dyIn a ms d).out a' w ι q:=by
 cases q with
 | slot t i=>
  have ht:sh <= t:=Nat.le_of_ble_eq_true h;have:=lim_sh;show (flat (tv d.out a (downN t)))[i]? = (flat (tv (dyIn a ms d).out a' t))[i]?;rw [tv_out (show lim <= t by omega)]
  show _ = (flat (if t < sh then undef else tv d.out a (t - sh)))[i]?
  rw [if_neg (by omega)]
  rfl
 | box n i=>
  show w.cell? ⟨ι (pl.un (pl.dn n)),i,none⟩ = w.cell? ⟨ι n,i,none⟩;rw [un_bx hp (bx_dn h)]
theorem SVR.down {N:Nat} {rd:Option Nat} {hN:N <= lim} {pn:Plan} (hp:pn.ok = true) {ms:List Nat} {d:Dy} {g0:Gh} (hd:g.dy = dyIn a ms d) {pl pl':Nat -> Place} {x:SV} {u:Value} (h:SVR (ctx (E.inner a g0 N rd hN) g a' w) pl x u) (hx:x.cs.all (Cell.far pn) = true) (hpl:∀ i,pl' i = (pl i).ren downN pn.dn) (hown:∀ i y,x.cs[i]? = some y -> y.isOwn = true -> (pl i).far pn = true):SVR (ctx E (downG pn g d) a w) pl' (x.ren downN pn.dn) u:=by
 rw [List.all_eq_true] at hx;refine SVR.ren h hpl (fun _ _ _ h _=>ok_down h) (fun _ _ _ h _=>h.imp id ok_down) (fun i y q b tip hy hq hp=>?_) (fun y n hy hm=>?_) (fun y q v hy hq hv=>?_)
 ·have hf:q.far pn = true:=by
   rcases hq with ⟨h1,rfl⟩ | h1
   ·exact hown i y hy h1
   ·exact far_target (hx y (List.mem_of_getElem? hy)) h1
  show (g.perm b).down pn = _;have hp:g.perm b = .row q tip:=hp;rw [hp];simp only [Perm.down,hf,if_true]
 ·show g.ι (pn.un (pn.dn n)) = g.ι n;rw [un_bx hp (bx_dn (far_mentions (hx y hy) hm))]
 ·show concAt d.out a w (fun k=>g.ι (pn.un k)) (q.ren downN pn.dn) = some v
  rw [conc_down (a':=a') (ms:=ms) hp (far_target (hx y hy) hq),<- hd];exact hv
theorem Rel.leave {N:Nat} {rd:Option Nat} {hN:N <= lim} {pn:Plan} (hp:pn.ok = true) {ms:List Nat} {d:Dy} {g0:Gh} (hd:g'.dy = dyIn a ms d) (hdJ:E.J d) (hms:∀ D ∈ ms,d.ko D = none) (hr:Rel (E.inner a g0 N rd hN) s' a' w' g') (hsz:a.tmps.size = E.N) (hds:a.defers = d.ds) (hli:∀ n,lim <= n % sh -> g0.ι n = E.li n):Rel E (s'.down pn) a w' (downG pn g' d):=by
 refine ⟨⟨uniq_downN (c:=fun v:SV=>v.cs.all (Cell.far pn)) (f:=SV.ren downN pn.dn) hr.uniq.slots,uniq_plan hp (c:=fun q:Nat × List Cell=>q.2.all (Cell.far pn)) (f:=fun q:Nat × List Cell=>(q.1,q.2.map (Cell.ren downN pn.dn))) hr.uniq.boxes⟩,fun t x hx=>?_,fun n e cs hn=>?_,fun n e cs hn=>?_,fun b hb=>?_,hr.below,hr.base,hsz,hds,fun l o hl'=>?_,fun n hn=>?_,hdJ⟩
 ·obtain ⟨x0,h1,h2,rfl⟩:=lookup_downN (c:=fun v:SV=>v.cs.all (Cell.far pn)) (f:=SV.ren downN pn.dn) (show (s'.down pn).slots.lookup t = some x from hx) hr.uniq.slots
  have h3:=hr.slots _ x0 h1;have e:tv g'.dy.out a' (t + sh) = tv d.out a t:=by
   have:=lim_sh;rw [hd,tv_out (by omega)]
   show (if t + sh < sh then undef else tv d.out a (t + sh - sh)) = _
   rw [if_neg (by omega),Nat.add_sub_cancel]
  rw [e] at h3;refine SVR.down hp hd h3 h2 (fun i=>?_) (fun i y _ _=>?_)
  ·show Place.slot t i = .slot (downN (t + sh)) i;unfold downN; rw [Nat.add_sub_cancel]
  ·show Nat.ble sh (t + sh) = true;exact Nat.ble_eq_true_of_le (by omega)
 ·obtain ⟨n0,x0,h0,h1,h2,h3⟩:=lookup_plan (c:=fun q:Nat × List Cell=>q.2.all (Cell.far pn)) (f:=fun q:Nat × List Cell=>(q.1,q.2.map (Cell.ren downN pn.dn))) (show (s'.down pn).boxes.lookup n = some (e,cs) from hn) hr.uniq.boxes
  obtain ⟨e0,cs0⟩:=x0;simp only [Prod.mk.injEq] at h3;obtain ⟨rfl,rfl⟩:=h3;rw [List.all_eq_true] at h2;obtain ⟨k1,k2⟩:=hr.boxes _ e0 cs0 h1;have ei:(downG pn g' d).ι n = g'.ι n0:=by show g'.ι (pn.un n) = _; rw [un_bx hp h0]
  refine ⟨?_,k2.mono (by rw [ei]; rfl) (by simp) (fun he=>by obtain ⟨_,rfl,_⟩:=k2.2 he; rfl) fun i x y hx _ hcv=>?_⟩
  ·rw [ei];show (g'.perm (g'.ι n0)).down pn = _;rw [k1];simp only [Perm.down,h0]
  ·rw [List.getElem?_map] at hx;cases h4:cs0[i]? with
   | none=>rw [h4] at hx; cases hx
   | some x0=>
    rw [h4] at hx;injection hx with hx;subst hx;have m2:=hcv x0 h4;have hf:=h2 x0 (List.mem_of_getElem? h4);have hnt:=hr.nt _ e0 cs0 h1 x0 (List.mem_of_getElem? h4);have:=CV.ren (fs:=downN) (fb:=pn.dn) (k':=ok E.base E.k0 (downG pn g' d).perm) (perm':=(downG pn g' d).perm) (ι':=(downG pn g' d).ι) (conc':=concAt d.out a w' (downG pn g' d).ι) (kp':=kpOf E.base E.lent (ok E.base E.k0 (downG pn g' d).perm)) m2 (fun _ _ _ h _=>ok_down h) (fun _ _ _ h _=>h.imp id ok_down) (fun q b tip hq hp=>?_) (fun m hm=>?_) (fun q v hq _=>by rw [hnt] at hq; cases hq)
    ·have e2:(Place.box n0 i).ren downN pn.dn = .box n i:=by
      show Place.box (pn.dn n0) i = _;rw [dn_bx h0]
     rw [e2] at this;exact this
    ·have hfar:q.far pn = true:=by
      rcases hq with ⟨_,rfl⟩ | hq
      ·show (pn.bx n0).isSome = true;rw [h0]; rfl
      ·rw [hnt] at hq; cases hq
     show (g'.perm b).down pn = _;have hp:g'.perm b = .row q tip:=hp;rw [hp];simp only [Perm.down,hfar,if_true]
    ·show g'.ι (pn.un (pn.dn m)) = g'.ι m;rw [un_bx hp (bx_dn (far_mentions hf hm))]
 ·obtain ⟨n0,x0,h0,h1,h2,h3⟩:=lookup_plan (c:=fun q:Nat × List Cell=>q.2.all (Cell.far pn)) (f:=fun q:Nat × List Cell=>(q.1,q.2.map (Cell.ren downN pn.dn))) (show (s'.down pn).boxes.lookup n = some (e,cs) from hn) hr.uniq.boxes
  obtain ⟨e0,cs0⟩:=x0;simp only [Prod.mk.injEq] at h3;obtain ⟨rfl,rfl⟩:=h3;intro c hc;obtain ⟨c0,hc0,rfl⟩:=List.mem_map.1 hc;rw [ren_target,hr.nt _ e0 cs0 h1 c0 hc0];rfl
 ·obtain ⟨k1,k2⟩:=hr.lo b fun h=>hb (by show (g'.perm b).down pn = _; rw [h]; rfl)
  refine ⟨k1.imp id fun q=>⟨q.1,?_⟩,k2⟩
  show ((g'.perm b).down pn).rowless;have:=q.2;cases hp:g'.perm b with
  | free=>intro q tip e; cases e
  | box n=>
   intro q tip e;simp only [Perm.down] at e;split at e <;> cases e
  | row q tip=>exact absurd hp (this q tip)
 ·have hl1:d.ko l = some o:=hl';have hl2:g'.dy.ko l = some o:=by
   rw [hd];show (if l ∈ ms then _ else d.ko l) = _
   rw [if_neg fun hm=>by rw [hms l hm] at hl1; cases hl1]
   exact hl1
  obtain ⟨k1,k2⟩:=hr.ko l o hl2;exact ⟨k1,by show (g'.perm l).down pn = _; rw [k2]; rfl⟩
 ·show g'.ι (pn.un n) = E.li n;rw [un_res hp (mod_le hn),hr.li (n + sh) (by rw [mod_up]; exact hn)]
  show g0.ι (n + sh - sh) = _;rw [Nat.add_sub_cancel];exact hli n hn
end
end Go.Proofs.YthnagpmnoncijaaGreat.M
