/- A part of the proof. -/
import Derived.Test.YthnagpmnoncijaaGreatMchJ
set_option linter.unusedVariables false
namespace Go.Proofs.YthnagpmnoncijaaGreat.M
open Go Go.RowKit
section
variable {P:Program} {E:Env} {s s':St} {a:Act} {w:World} {g:Gh} {o:Oper} {ob:Cnd} {r:Option Nat} {Q:Exit -> Act -> World -> Prop} {h:Option Hint}
theorem lookup_setBox {n m:Nat} {b:Nat × List Cell} {l:List (Nat × Nat × List Cell)} (hu:Uniq l) {q:Nat × List Cell} (h:(setBox n b l).lookup m = some q):(m = n /\ q = b) \/ (m ≠ n /\ l.lookup m = some q):=by
 simp only [setBox,List.lookup_cons] at h;by_cases hm:m = n
 ·subst hm; simp at h; exact .inl ⟨rfl,h.symm⟩
 ·have hb:(m == n) = false:=by simpa using hm
  simp only [hb] at h;exact .inr ⟨hm,(lookup_filter hu h).1⟩
theorem Uniq.setBox {n:Nat} {b:Nat × List Cell} {l:List (Nat × Nat × List Cell)} (hu:Uniq l):Uniq (setBox n b l):=
 (hu.filter _).cons fun q hq=>by
  have:=(List.mem_filter.1 hq).2;simpa using this
theorem flat_len {c:Ctx} {pl:Nat -> Place} {v:SV} {u:Value} (h:SVR c pl v u):(flat u).length = v.cs.length:=by
 obtain ⟨us,_,hf,hl,_⟩:=h;rw [hf,hl]
theorem cells_flat {c:Ctx} {pl:Nat -> Place} {v:SV} {u:Value} (h:SVR c pl v u) (hs:v.sh.isAgg = true \/ (v.cs.length = 1 /\ v.sh = .one)):u.cells.toList = flat u:=by
 obtain ⟨us,hu,hf,hl,hc⟩:=h;rcases hs with hs | ⟨hs,hsh⟩
 ·cases hsh:v.sh with
  | agg=>rw [hsh] at hu; subst hu; simp [Shape.mk,Value.cells,flat]
  | one=>rw [hsh] at hs; simp [Shape.isAgg] at hs
  | tup l=>rw [hsh] at hs; simp [Shape.isAgg] at hs
 ·rw [hsh] at hu;rw [hs] at hl
  match us,hl with
  | [x],_=>
   have:v.cs[0]? = some (v.cs[0]):=List.getElem?_eq_getElem (by omega)
   have h1:=(hc 0 _ x this rfl).1;subst hu;simp [cells_one h1,flat_one h1]
theorem store_run {t:TypeId} {ad x:Operand} {b off:Nat} {e:TypeId} {us0 us:List Value} {j:TypeInfo} (hop:o.op = .store t ad x) (h1:a.eval ad = .pointer (some ⟨b,off,none⟩)) (hh:w.heap[b]? = some (.cells us0.toArray e (0,0)))
  (hj:P.info? t = some j) (hus:(a.eval x).cells.toList = us) (hl:us.length = j.size) (hle:off + us.length <= us0.length) (ho:∀ y ∈ us,y.oneCell' = true) :
  (execOp a.eval o).run P w = .ok .skip (w.setRow b (us0.take off ++ us ++ us0.drop (off + us.length)).toArray):=by
 have hst:=run_storeCells_at P b off e us 0 us0.toArray w hh (by simpa using hle) ho
 simp only [Nat.add_zero] at hst;have hsz:(a.eval x).cells.size = j.size:=by rw [<- Array.length_toList,hus,hl]
 simp only [execOp,hop,h1,Sem.run_bind,Instr.storeAt,Instr.sureAddr,Sem.run_pure,Result.andThen_ok,storeVar,sizeOf,typeInfo];simp [hj,hsz,hus,hst]
theorem storeCell_target {c:Cell}:(storeCell c).target = none:=by cases c <;> rfl
theorem storeCell_sound {c:Ctx} {p:Place} {x:Cell} {u:Value} (h:CV c p x u):CV c p (storeCell x) u:=by
 cases x with
 | ali q e t l=>exact h.2.2.1
 | re q t i fo=>
  obtain ⟨b,_,_,_,e,_⟩:=h;exact ⟨b,_,e,fun j d hj=>by cases hj⟩
 | _=>exact h
theorem splice_get {α:Type} {l m:List α} {off i:Nat} (h:off + m.length <= l.length):(l.take off ++ m ++ l.drop (off + m.length))[i]? = if i < off then l[i]? else if i < off + m.length then m[i - off]? else l[i]?:=by
 rw [List.append_assoc];by_cases h1:i < off
 ·rw [if_pos h1,List.getElem?_append_left (by simp; omega),List.getElem?_take,if_pos h1]
 ·rw [if_neg h1,List.getElem?_append_right (by simp; omega)]
  have e1:(l.take off).length = off:=by simp; omega
  rw [e1];by_cases h2:i < off + m.length
  ·rw [if_pos h2,List.getElem?_append_left (by omega)]
  ·rw [if_neg h2,List.getElem?_append_right (by omega),List.getElem?_drop]
   congr 1
   omega
def mvSlot (t0 n off:Nat):Place -> Place
 | .slot t i=>if t = t0 then .box n (off + i) else .slot t i
 | p=>p
theorem store_core {n off:Nat} {e:TypeId} {cs:List Cell} {us us0:List Value} {mv:Place -> Place} {pl:Nat -> Place} {v:SV} {sl':List (Nat × SV)} (hr:Rel E s a w g) (hb':s.box? n = some (e,cs)) (hh:w.heap[g.ι n]? = some (.cells us0.toArray e (0,0)))
  (hv:∀ (i:Nat) x y,v.cs[i]? = some x -> us[i]? = some y -> y.oneCell' = true /\ CV (ctx E g a w) (pl i) x y) (hl:us.length = v.cs.length) (hle:off + v.cs.length <= cs.length)
  (hmp:∀ (i:Nat) x,v.cs[i]? = some x -> x.isOwn = true -> mv (pl i) = .box n (off + i)) (hmb:∀ m i,mv (.box m i) = .box m i)
  (hu:Uniq sl') (hsl:∀ t x,sl'.lookup t = some x -> s.slots.lookup t = some x /\ ∀ (i:Nat) c,x.cs[i]? = some c -> (c.isOwn = true -> mv (.slot t i) = .slot t i) /\ ∀ q,c.target = some q -> mv q = q /\ ∀ m j,q = .box m j -> g.ι m ≠ g.ι n) :
  ∃ g',Rel E ⟨sl',setBox n (e,spliceCells cs off (v.cs.map storeCell)) s.boxes⟩ a (w.setRow (g.ι n) (us0.take off ++ us ++ us0.drop (off + us.length)).toArray) g':=by
 have hb:=(St.box?_eq hb').1;have he:=(St.box?_eq hb').2;have b1:=(hr.boxes n e cs hb).1;obtain ⟨usx,b2,b3,b4⟩:=hr.norm hb';have hux:usx = us0:=by
  rw [hh] at b2;injection b2 with b2;injection b2 with b2;simpa using b2.symm
 subst hux;have hnr:∀ q tip,g.perm (g.ι n) ≠ .row q tip:=fun q tip h=>by rw [b1] at h; cases h
 have hX:E.base <= g.ι n \/ E.lent (g.ι n):=(hr.lo _ (by rw [b1]; simp)).1.imp id (·.1)
 let w':=w.setRow (g.ι n) (usx.take off ++ us ++ usx.drop (off + us.length)).toArray
 have hheap:w'.heap[g.ι n]? = some (.cells (usx.take off ++ us ++ usx.drop (off + us.length)).toArray e (0,0)):=setRow_heap w _ _ _ e _ hh;have hoth:∀ b,b ≠ g.ι n -> w'.heap[b]? = w.heap[b]?:=fun b hb=>setRow_other w _ b _ hb
 have hsz:w'.heap.size = w.heap.size:=by simp [w',World.setRow]
 have hbel:Bel E.base E.lent w w':=⟨rfl,rfl,rfl,by omega,fun k hk hn=>hoth k (fun e=>by subst e; rcases hX with h | h; omega; exact hn h)⟩
 have h2:∀ i v,ok E.base E.k0 g.perm (g.ι n) i -> w.cell? ⟨g.ι n,i,none⟩ = some v -> w'.cell? ⟨g.ι n,i,none⟩ = some v /\ okp (fun _=>Perm.box n) (g.ι n) i:=fun i v k _=>by
  by_cases hbb:g.ι n < E.base
  ·simp only [ok,if_pos hbb] at k;exact absurd k (E.hl _ i (hX.resolve_left (by omega)))
  ·simp only [ok,if_neg hbb,okp,b1] at k
 have hcells:∀ o,w.heap[g.ι n]? = some o -> immO o = false:=fun o ho=>by rw [hh] at ho; injection ho with ho; subst ho; rfl
 have h3:=hr.toF.turn (mv:=mv) (X:=g.ι n) (px:=.box n) (w':=w') hcells (.inl ⟨by rw [b1]; simp,by simp⟩) (.inr rowless_box) hbel hsz hoth h2
  (sl':=fun t=>sl'.lookup t) (bx':=fun m=>if m = n then none else s.boxes.lookup m)
  (fun t x hx=>⟨(hsl t x hx).1,fun i c hc=>⟨fun ho=>⟨((hsl t x hx).2 i c hc).1 ho,hnr _⟩,fun q hq=>⟨⟨(((hsl t x hx).2 i c hc).2 q hq).1,hnr _⟩,(((hsl t x hx).2 i c hc).2 q hq).2⟩⟩⟩)
  (fun m q hm=>by
   split at hm
   ·simp at hm
   ·rename_i hmn;refine ⟨hm,fun hc=>hmn ?_,fun i c _ _=>⟨hmb m i,hnr _⟩⟩
    have:=(hr.boxes m q.1 q.2 hm).1;rw [hc,b1] at this;injection this with this
    exact this.symm)
 refine ⟨turned mv g (g.ι n) (.box n),RelF.toRel ⟨hu,hr.uniq.boxes.setBox⟩ { h3 with boxes:=fun m e' cs' hm=>?_,nt:=fun m e' cs' hm=>?_ }⟩
 ·rcases lookup_setBox hr.uniq.boxes hm with ⟨rfl,hq⟩ | ⟨hmn,hm'⟩
  ·simp only [Prod.mk.injEq] at hq;obtain ⟨rfl,rfl⟩:=hq;refine ⟨by simp [turned],.mk he ⟨_,hheap,?_,fun i x y hx hy=>?_⟩⟩
   ·simp [spliceCells]; omega
   ·rw [show spliceCells cs off (v.cs.map storeCell) = cs.take off ++ v.cs.map storeCell ++ cs.drop (off + (v.cs.map storeCell).length) from rfl,splice_get (by simp; omega)] at hx
    rw [splice_get (by omega)] at hy
    simp only [List.length_map] at hx;rw [hl] at hy;by_cases hi:i < off
    ·rw [if_pos hi] at hx hy;obtain ⟨c1,c2⟩:=b4 i x y hx hy;exact ⟨c1,turn_cell hX hoth h2 c2 (fun _=>⟨hmb m i,hnr _⟩) (hr.nt m _ cs hb x (List.mem_of_getElem? hx)) hcells⟩
    ·rw [if_neg hi] at hx hy;by_cases hi2:i < off + v.cs.length
     ·rw [if_pos hi2] at hx hy;rw [List.getElem?_map] at hx;cases hc:v.cs[i - off]? with
      | none=>simp [hc] at hx
      | some c0=>
       simp [hc] at hx;subst hx;obtain ⟨c1,c2⟩:=hv (i - off) c0 y hc hy;refine ⟨c1,turn_cell hX hoth h2 (storeCell_sound c2) (fun ho=>?_) storeCell_target hcells⟩
       have ho':c0.isOwn = true:=by cases c0 <;> first | exact ho | (simp [storeCell,Cell.isOwn] at ho)
       have:=hmp (i - off) c0 hc ho';refine ⟨?_,hnr _⟩;rw [this]
       congr 1
       omega
     ·rw [if_neg hi2] at hx hy;obtain ⟨c1,c2⟩:=b4 i x y hx hy;exact ⟨c1,turn_cell hX hoth h2 c2 (fun _=>⟨hmb m i,hnr _⟩) (hr.nt m _ cs hb x (List.mem_of_getElem? hx)) hcells⟩
  ·have hm2:(if m = n then none else s.boxes.lookup m) = some (e',cs'):=by rw [if_neg hmn]; exact hm'
   exact h3.boxes m e' cs' hm2
 ·rcases lookup_setBox hr.uniq.boxes hm with ⟨rfl,hq⟩ | ⟨hmn,hm'⟩
  ·simp only [Prod.mk.injEq] at hq;obtain ⟨rfl,rfl⟩:=hq;intro c hc;simp only [spliceCells,List.mem_append] at hc;rcases hc with (hc | hc) | hc
   ·exact hr.nt m _ cs hb c (List.mem_of_mem_take hc)
   ·obtain ⟨c0,_,rfl⟩:=List.mem_map.1 hc;exact storeCell_target
   ·exact hr.nt m _ cs hb c (List.mem_of_mem_drop hc)
  ·exact hr.nt m e' cs' hm'
theorem arr_core {n e:Nat} {l l':List Ty.bool.T} (hr:Rel E s a w g) (hb:s.arr? n = some (e,l)):∃ g',Rel E ⟨delBoxRefs s.slots,setBox n (e,[.arr l']) s.boxes⟩ a (w.setRow (g.ι n) (l'.map Value.bool).toArray) g':=by
 obtain ⟨hb1,hsp⟩:=St.arr?_eq hb;obtain ⟨b1,hh⟩:=hr.arr hb;have hnr:∀ q tip,g.perm (g.ι n) ≠ .row q tip:=fun q tip h=>by rw [b1] at h; cases h
 have hX:E.base <= g.ι n \/ E.lent (g.ι n):=(hr.lo _ (by rw [b1]; simp)).1.imp id (·.1)
 let w':=w.setRow (g.ι n) (l'.map Value.bool).toArray
 have hheap:w'.heap[g.ι n]? = some (.cells (l'.map Value.bool).toArray (e - spc) (0,0)):=setRow_heap w _ _ _ _ _ hh;have hoth:∀ b,b ≠ g.ι n -> w'.heap[b]? = w.heap[b]?:=fun b hb=>setRow_other w _ b _ hb
 have hsz:w'.heap.size = w.heap.size:=by simp [w',World.setRow]
 have hbel:Bel E.base E.lent w w':=⟨rfl,rfl,rfl,by omega,fun k hk hn=>hoth k (fun e=>by subst e; rcases hX with h | h; omega; exact hn h)⟩
 have h2:∀ i v,ok E.base E.k0 g.perm (g.ι n) i -> w.cell? ⟨g.ι n,i,none⟩ = some v -> w'.cell? ⟨g.ι n,i,none⟩ = some v /\ okp (fun _=>Perm.box n) (g.ι n) i:=fun i v k _=>by
  by_cases hbb:g.ι n < E.base
  ·simp only [ok,if_pos hbb] at k;exact absurd k (E.hl _ i (hX.resolve_left (by omega)))
  ·simp only [ok,if_neg hbb,okp,b1] at k
 have h3:=hr.toF.turn (mv:=id) (X:=g.ι n) (px:=.box n) (w':=w') (fun o ho=>by rw [hh] at ho; injection ho with ho; subst ho; rfl) (.inl ⟨by rw [b1]; simp,by simp⟩) (.inr rowless_box) hbel hsz hoth h2
  (sl':=fun t=>(delBoxRefs s.slots).lookup t) (bx':=fun m=>if m = n then none else s.boxes.lookup m)
  (fun t x hx=>by
   obtain ⟨k1,k2⟩:=lookup_filter hr.uniq.slots hx;refine ⟨k1,fun i c hc=>⟨fun _=>⟨rfl,hnr _⟩,fun q hq=>⟨⟨rfl,hnr _⟩,noBox hq ?_⟩⟩⟩
   simp at k2
   simpa using k2 c (List.mem_of_getElem? hc))
  (fun m q hm=>by
   split at hm
   ·simp at hm
   ·rename_i hmn;refine ⟨hm,fun hc=>hmn ?_,fun i c _ _=>⟨rfl,hnr _⟩⟩
    have:=(hr.boxes m q.1 q.2 hm).1;rw [hc,b1] at this;injection this with this
    exact this.symm)
 refine ⟨turned id g (g.ι n) (.box n),RelF.toRel ⟨hr.uniq.slots.filter _,hr.uniq.boxes.setBox⟩ { h3 with boxes:=fun m e' cs' hm=>?_,nt:=fun m e' cs' hm=>?_ }⟩
 ·rcases lookup_setBox hr.uniq.boxes hm with ⟨rfl,hq⟩ | ⟨hmn,hm'⟩
  ·simp only [Prod.mk.injEq] at hq;obtain ⟨rfl,rfl⟩:=hq;exact ⟨by simp [turned],⟨fun he=>by omega,fun _=>⟨l',rfl,hheap⟩⟩⟩
  ·have hm2:(if m = n then none else s.boxes.lookup m) = some (e',cs'):=by rw [if_neg hmn]; exact hm'
   exact h3.boxes m e' cs' hm2
 ·rcases lookup_setBox hr.uniq.boxes hm with ⟨rfl,hq⟩ | ⟨hmn,hm'⟩
  ·simp only [Prod.mk.injEq] at hq;obtain ⟨rfl,rfl⟩:=hq;intro c hc;rw [List.mem_singleton.1 hc]; rfl
  ·exact hr.nt m e' cs' hm'
theorem delBoxRefs_look {l:List (Nat × SV)} (hu:Uniq l) {t:Nat} {x:SV} (h:(delBoxRefs l).lookup t = some x):l.lookup t = some x /\ ∀ c ∈ x.cs,c.aliBox = false:=by
 obtain ⟨h1,h2⟩:=lookup_filter hu h;refine ⟨h1,fun c hc=>?_⟩
 simp at h2;simpa using h2 c hc
theorem delSlot_look {l:List (Nat × SV)} (hu:Uniq l) {d t:Nat} {x:SV} (h:(delSlot d l).lookup t = some x):l.lookup t = some x /\ t ≠ d /\ ∀ c ∈ x.cs,c.refs d = false:=by
 obtain ⟨h1,h2⟩:=lookup_filter hu h;simp at h2;refine ⟨h1,h2.1,fun c hc=>?_⟩
 have:=h2.2;unfold SV.refs at this;rw [List.any_eq_false] at this;simpa using this c hc
theorem peCells_get {t:Ty} {i:Int} {off fo:Nat} {cs ys:List Cell}:∀ {m k:Nat} {l:List Cell},peCells t i off fo cs ys m k = some l -> l.length = m * t.n /\
  ∀ q,q < m -> ∃ x y,decAll t ((cs.drop (off + (k + q) * t.n)).take t.n) = some x /\ decAll t (((spliceCells cs (off + (k + q) * t.n + fo) ys).drop (off + (k + q) * t.n)).take t.n) = some y /\
   ∀ j,j < t.n -> l[q * t.n + j]? = ((enc t (F.pick (α:=t.T) i (k + q:Nat) y x)).map D.toC)[j]?
 | 0,k,l,h=>by
  simp only [peCells,Option.some.injEq] at h;subst h;exact ⟨by simp,fun q hq=>by omega⟩
 | m + 1,k,l,h=>by
  simp only [peCells] at h;split at h
  ·rename_i x y l' hx hy hl;injection h with h;subst h;obtain ⟨a1,a2⟩:=peCells_get hl;have hen:((enc t (F.pick (α:=t.T) i k y x)).map D.toC).length = t.n:=by simp [enc_length]
   refine ⟨by rw [List.length_append,hen,a1,Nat.succ_mul]; omega,fun q hq=>?_⟩
   cases q with
   | zero=>
    refine ⟨x,y,by simpa using hx,by simpa using hy,fun j hj=>?_⟩
    rw [Nat.zero_mul,Nat.zero_add,List.getElem?_append_left (by omega)]
    rfl
   | succ q=>
    obtain ⟨x',y',b1,b2,b3⟩:=a2 q (by omega)
    have e:k + (q + 1) = k + 1 + q:=by omega
    refine ⟨x',y',by rw [e]; exact b1,by rw [e]; exact b2,fun j hj=>?_⟩
    rw [List.getElem?_append_right (by rw [hen,Nat.succ_mul]; omega),hen,show (q + 1) * t.n + j - t.n = q * t.n + j by rw [Nat.succ_mul]; omega,b3 j hj,e]
  ·cases h
theorem Rel.reBox {n:Nat} {e:TypeId} {A B:List Cell} {sl:List (Nat × SV)} {bx:List (Nat × Nat × List Cell)} (he:e < spc) (hbx:Uniq bx) (hr:Rel E ⟨sl,setBox n (e,A) bx⟩ a w g) (hlen:B.length = A.length) (hT:∀ c ∈ B,c.target = none)
  (hB:∀ us:List Value,us.length = A.length -> (∀ i x y,A[i]? = some x -> us[i]? = some y -> y.oneCell' = true /\ CV (ctx E g a w) (.box n i) x y) -> ∀ i x y,B[i]? = some x -> us[i]? = some y -> y.oneCell' = true /\ CV (ctx E g a w) (.box n i) x y) :
  Rel E ⟨sl,setBox n (e,B) bx⟩ a w g:=by
 have hA:(setBox n (e,A) bx).lookup n = some (e,A):=by simp [setBox]
 have b1:=(hr.boxes n e A hA).1;obtain ⟨us,b2,b3,b4⟩:=(hr.boxes n e A hA).2.norm he;refine { hr with uniq:=⟨hr.uniq.slots,hbx.setBox⟩,boxes:=fun m e' cs' hm=>?_,nt:=fun m e' cs' hm=>?_ }
 ·rcases lookup_setBox hbx hm with ⟨rfl,hq⟩ | ⟨hmn,hm'⟩
  ·injection hq with h1 h2;subst h1 h2;exact ⟨b1,.mk he ⟨us,b2,by rw [b3,hlen],hB us b3 b4⟩⟩
  ·refine hr.boxes m e' cs' ?_;have hb:(m == n) = false:=by simpa using hmn
   simp only [setBox,List.lookup_cons,hb];have:=hm;simp only [setBox,List.lookup_cons,hb] at this;exact this
 ·rcases lookup_setBox hbx hm with ⟨rfl,hq⟩ | ⟨hmn,hm'⟩
  ·injection hq with h1 h2;subst h1 h2;exact hT
  ·refine hr.nt m e' cs' ?_;have hb:(m == n) = false:=by simpa using hmn
   simp only [setBox,List.lookup_cons,hb];have:=hm;simp only [setBox,List.lookup_cons,hb] at this;exact this
theorem pe_cells {c:Ctx} {t:Ty} {i:Int} {off fo len n:Nat} {cs ys l:List Cell} {us:List Value} (h:peCells t i off fo cs ys len 0 = some l) (h0:0 <= i) (h1:i < len) (hfo:fo + ys.length <= t.n) (hle:off + len * t.n <= cs.length)
  (hul:us.length = (spliceCells cs (off + i.toNat * t.n + fo) ys).length)
  (hA:∀ q x y,(spliceCells cs (off + i.toNat * t.n + fo) ys)[q]? = some x -> us[q]? = some y -> y.oneCell' = true /\ CV c (.box n q) x y) :
  ∀ q x y,(cs.take off ++ l ++ cs.drop (off + l.length))[q]? = some x -> us[q]? = some y -> y.oneCell' = true /\ CV c (.box n q) x y:=by
 obtain ⟨a1,a2⟩:=peCells_get h;have hI:i.toNat * t.n + t.n <= len * t.n:=by rw [<- Nat.succ_mul]; exact Nat.mul_le_mul_right _ (by omega)
 have hsp:∀ q,(spliceCells cs (off + i.toNat * t.n + fo) ys)[q]? = if q < off + i.toNat * t.n + fo then cs[q]? else if q < off + i.toNat * t.n + fo + ys.length then ys[q - (off + i.toNat * t.n + fo)]? else cs[q]?:=fun q=>splice_get (by omega)
 intro q x y hx hy;rw [splice_get (by rw [a1]; exact hle)] at hx
 by_cases c1:q < off
 ·rw [if_pos c1] at hx;exact hA q x y (by rw [hsp,if_pos (by omega)]; exact hx) hy
 ·rw [if_neg c1] at hx;by_cases c2:q < off + l.length
  ·rw [if_pos c2] at hx;rw [a1] at c2;have hn:0 < t.n:=by
    rcases Nat.eq_zero_or_pos t.n with hz | hz
    ·rw [hz] at c2; omega
    ·exact hz
   obtain ⟨k,j,hj,hkj⟩:∃ k j,j < t.n /\ q - off = k * t.n + j:=⟨(q - off) / t.n,(q - off) % t.n,Nat.mod_lt _ hn,by rw [Nat.mul_comm]; exact (Nat.div_add_mod _ _).symm⟩
   have hk:k < len:=by
    refine Nat.lt_of_not_le fun hc=>?_
    have:=Nat.mul_le_mul_right t.n hc;omega
   obtain ⟨x0,y0,b1,b2,b3⟩:=a2 k hk;rw [Nat.zero_add] at b1 b2 b3;rw [hkj,b3 j hj] at hx;rw [List.getElem?_map] at hx;have hle':off + k * t.n + t.n <= cs.length:=by
    have:k * t.n + t.n <= len * t.n:=by rw [<- Nat.succ_mul]; exact Nat.mul_le_mul_right _ hk
    omega
   have hlsp:(spliceCells cs (off + i.toNat * t.n + fo) ys).length = cs.length:=by simp [spliceCells]; omega
   have key:∀ z:t.T,decAll t (((spliceCells cs (off + i.toNat * t.n + fo) ys).drop (off + k * t.n)).take t.n) = some z -> ∀ d,(enc t z)[j]? = some d -> y.oneCell' = true /\ DV c.w c.k d y:=fun z hz d hd=>by
    obtain ⟨_,d2⟩:=decAll_sound (c:=c) (us:=(us.drop (off + k * t.n)).take t.n) (pl:=fun p=>.box n (off + k * t.n + p)) hz (by simp; omega) (fun p u v hu hv=>by
     rw [List.getElem?_take] at hu hv;split at hu
     ·rename_i hp; rw [if_pos hp] at hv; rw [List.getElem?_drop] at hu hv; exact hA _ u v hu hv
     ·cases hu)
    refine d2 j d y hd ?_;rw [List.getElem?_take,if_pos hj,List.getElem?_drop,show off + k * t.n + j = q by omega]
    exact hy
   have fin:∀ z:t.T,decAll t (((spliceCells cs (off + i.toNat * t.n + fo) ys).drop (off + k * t.n)).take t.n) = some z -> ((enc t z)[j]?.map D.toC) = some x -> y.oneCell' = true /\ CV c (.box n q) x y:=fun z hz hzx=>by
    cases hd:(enc t z)[j]? with
    | none=>rw [hd] at hzx; cases hzx
    | some d=>
     rw [hd] at hzx;injection hzx with hzx;subst hzx;obtain ⟨e1,e2⟩:=key z hz d hd;exact ⟨e1,toC_sound e2⟩
   by_cases hik:k = i.toNat
   ·subst hik;have hp:F.pick (α:=t.T) i (i.toNat:Nat) y0 x0 = y0:=by unfold F.pick; rw [if_pos (by omega)]
    rw [hp] at hx;exact fin y0 b2 hx
   ·have hp:F.pick (α:=t.T) i (k:Nat) y0 x0 = x0:=by unfold F.pick; rw [if_neg (by omega)]
    rw [hp] at hx;refine fin x0 ?_ hx;rw [<- b1]
    congr 1
    refine List.ext_getElem? fun p=>?_
    rw [List.getElem?_take,List.getElem?_take];split
    ·rename_i hp;rw [List.getElem?_drop,List.getElem?_drop,hsp];rcases Nat.lt_or_gt_of_ne hik with hlt | hgt
     ·have:k * t.n + t.n <= i.toNat * t.n:=by rw [<- Nat.succ_mul]; exact Nat.mul_le_mul_right _ hlt
      rw [if_pos (by omega)]
     ·have:i.toNat * t.n + t.n <= k * t.n:=by rw [<- Nat.succ_mul]; exact Nat.mul_le_mul_right _ hgt
      rw [if_neg (by omega),if_neg (by omega)]
    ·rfl
  ·rw [if_neg c2] at hx;rw [a1] at c2;exact hA q x y (by rw [hsp,if_neg (by omega),if_neg (by omega)]; exact hx) hy
theorem peCells_target {t:Ty} {i:Int} {off fo:Nat} {cs ys:List Cell}:∀ {m k:Nat} {l:List Cell},peCells t i off fo cs ys m k = some l -> ∀ c ∈ l,c.target = none
 | 0,k,l,h,c,hc=>by
  simp only [peCells,Option.some.injEq] at h;subst h;cases hc
 | m + 1,k,l,h,c,hc=>by
  simp only [peCells] at h;split at h
  ·rename_i x y l' hx hy hl;injection h with h;subst h;rcases List.mem_append.1 hc with hc | hc
   ·obtain ⟨d,_,rfl⟩:=List.mem_map.1 hc;cases d <;> rfl
   ·exact peCells_target hl c hc
  ·cases h
theorem ownOf_some {t:Ty} {c:Cell} {e:Nat} {xs:List t.T} (h:c.ownOf t = some (e,xs)):c = .own e t xs:=by
 unfold Cell.ownOf at h;split at h
 ·split at h
  ·rename_i ht;subst ht;injection h with h;injection h with h1 h2;subst h1; subst h2;rfl
  ·cases h
 ·cases h
theorem store_post {t:TypeId} {ad x:Operand} {N:Nat} (hop:o.op = .store t ad x) (hc:atail P N h s o = some (s',ob)) (hob:ob.P) (hr:Rel E s a w g):o.wpIn (Fr r) 9 P a w (Post E s') Q:=by
 unfold atail at hc;rw [hop] at hc;simp only at hc;split at hc
 ·rename_i n off v had hx;split at hc
  ·rename_i e cs j hb hj;split at hc
   ·simp at hc
   ·rename_i hsh;split at hc
    ·rename_i hcond;obtain ⟨q1,q2,q3,q4⟩:=hcond;have h1:a.eval ad = .pointer (some ⟨g.ι n,off,none⟩):=(hr.eval had).one.2;have hS:=hr.eval hx;have b1:=(hr.boxes n e cs (St.box?_eq hb).1).1;obtain ⟨us0,b2,b3,b4⟩:=hr.norm hb;have hone:v.sh.isAgg = true \/ (v.cs.length = 1 /\ v.sh = .one):=by
      rcases q2 with q2 | q2
      ·exact .inl q2
      ·cases hs:v.sh with
       | one=>exact .inr ⟨q2,rfl⟩
       | agg=>exact .inl rfl
       | tup l=>exact absurd hs (hsh l)
     have hcf:=cells_flat hS hone;have hlf:=flat_len hS;obtain ⟨us,hu1,hu2,hu3,hu4⟩:=hS;rw [hu2] at hcf;have h1c:∀ y ∈ us,y.oneCell' = true:=fun y hy=>by
      obtain ⟨i,hi⟩:=List.mem_iff_getElem?.1 hy;have hlt:=(List.getElem?_eq_some_iff.1 hi).1;exact (hu4 i _ y (List.getElem?_eq_getElem (by omega)) hi).1
     have hrun:=store_run (P:=P) (w:=w) hop h1 b2 hj hcf (by omega) (by omega) h1c
     refine wpIn_skip' (by rw [hop]; simp) hrun ?_
     rw [q4];show Post E s' a _;have other:∀ sl',Uniq sl' -> (∀ t x,sl'.lookup t = some x -> s.slots.lookup t = some x /\ ∀ c ∈ x.cs,c.aliBox = false) -> v.cs.any Cell.isOwn = false ->
       ∃ g',Rel E ⟨sl',setBox n (e,spliceCells cs off (v.cs.map storeCell)) s.boxes⟩ a (w.setRow (g.ι n) (us0.take off ++ us ++ us0.drop (off + us.length)).toArray) g':=fun sl' hu hsl hno=>
      store_core (mv:=id) hr hb b2 hu4 hu3 q3 (fun i x hx ho=>by
       rw [List.any_eq_false] at hno
       exact absurd ho (by simpa using hno x (List.mem_of_getElem? hx))) (fun _ _=>rfl) hu (fun t x hx=>⟨(hsl t x hx).1,fun i c hc=>⟨fun _=>rfl,fun q hq=>⟨rfl,noBox hq ((hsl t x hx).2 c (List.mem_of_getElem? hc))⟩⟩⟩)
     split at hc
     ·rename_i t0;simp only [Option.some.injEq,Prod.mk.injEq] at hc;obtain ⟨rfl,_⟩:=hc;by_cases hno:v.cs.any Cell.isOwn = true
      ·simp only [hno,if_true];refine store_core (mv:=mvSlot t0 n off) hr hb b2 hu4 hu3 q3 (fun i x _ _=>by simp [plOf,mvSlot]) (fun _ _=>rfl) ((hr.uniq.slots.filter _).filter _) (fun t x hx=>?_)
       obtain ⟨k1,k2⟩:=delBoxRefs_look (hr.uniq.slots.filter _) hx;obtain ⟨k3,k4,k5⟩:=delSlot_look hr.uniq.slots k1;refine ⟨k3,fun i c hc=>⟨fun _=>by simp only [mvSlot,if_neg k4],fun q hq=>⟨?_,noBox hq (k2 c (List.mem_of_getElem? hc))⟩⟩⟩
       have hrf:=k5 c (List.mem_of_getElem? hc);cases q with
       | box m i=>rfl
       | slot t1 i=>
        have:=refs_target hrf hq i;simp only [mvSlot];rw [if_neg (fun e=>this (by rw [e]))]
      ·have hno':v.cs.any Cell.isOwn = false:=by simpa using hno
       simp only [hno',Bool.false_eq_true,if_false];exact other _ (hr.uniq.slots.filter _) (fun t x hx=>delBoxRefs_look hr.uniq.slots hx) hno'
     ·rename_i hnt;simp only [Option.some.injEq,Prod.mk.injEq] at hc;obtain ⟨rfl,_⟩:=hc;exact other _ (hr.uniq.slots.filter _) (fun t x hx=>delBoxRefs_look hr.uniq.slots hx) (evalO_notOwn (fun t=>by intro e; exact hnt t e) hx)
    ·simp at hc
  ·rename_i j _ hj;split at hc
   ·rename_i e l hb;split at hc
    ·rename_i hcd;obtain ⟨q1,q2,q3,rfl,q4⟩:=hcd;simp only [Option.some.injEq,Prod.mk.injEq] at hc;obtain ⟨rfl,rfl⟩:=hc;have hlen:F.eq (F.len l) (v.cs.length:Nat) = true:=hob;have hlen:l.length = v.cs.length:=by
      unfold F.eq F.len at hlen;have:=eq_of_beq hlen;omega
     have h1:a.eval ad = .pointer (some ⟨g.ι n,0,none⟩):=(hr.eval had).one.2;have hS:=hr.eval hx;have hcf:=cells_flat hS (.inl q1);obtain ⟨us,hu1,hu2,hu3,hu4⟩:=hS;rw [hu2] at hcf;have hus:us = (F.fill (α:=Ty.bool.T) (v.cs.length:Nat) false).map Value.bool:=by
      apply List.ext_getElem?;intro i;simp only [F.fill,List.map_replicate,Int.toNat_natCast];by_cases hi:i < v.cs.length
      ·have hiu:i < us.length:=by omega
       rw [List.getElem?_replicate,if_pos hi,List.getElem?_eq_getElem hiu];have k2:=(hu4 i _ _ (List.getElem?_eq_getElem hi) (List.getElem?_eq_getElem hiu)).2;have k3:=(List.all_eq_true.1 q2) _ (List.getElem_mem hi);unfold Cell.isF at k3;split at k3
       ·rename_i b' hb';rw [hb'] at k2;rw [show _ = Value.bool b' from k2];have:b' = false:=by simpa using k3
        rw [this]
       ·cases k3
      ·rw [List.getElem?_replicate,if_neg hi];exact List.getElem?_eq_none (by omega)
     have hh:=(hr.arr hb).2
     have hrun:=store_run (P:=P) (w:=w) (us:=us) hop h1 hh hj hcf (by omega) (by simp; omega) (fun y hy=>by
      rw [hus] at hy;obtain ⟨z,_,rfl⟩:=List.mem_map.1 hy
      rfl)
     refine wpIn_skip' (by rw [hop]; simp) hrun ?_
     rw [q4];show ∃ g',Rel E _ a (w.setRow (g.ι n) ((l.map Value.bool).take 0 ++ us ++ (l.map Value.bool).drop (0 + us.length)).toArray) g'
     have hlist:(l.map Value.bool).take 0 ++ us ++ (l.map Value.bool).drop (0 + us.length) = (F.fill (α:=Ty.bool.T) (v.cs.length:Nat) false).map Value.bool:=by
      rw [List.drop_of_length_le (by simp; omega),hus]; simp
     rw [hlist];exact arr_core hr hb
    ·simp at hc
   ·simp at hc
  ·simp at hc
 ·rename_i n off ty len i fo v had hx;split at hc
  ·rename_i e cs j hb hj;split at hc
   ·simp at hc
   ·rename_i hsh;split at hc
    ·rename_i hcond;obtain ⟨q1,q2,q3,q5,q4,q6⟩:=hcond;split at hc
     ·rename_i l hl;simp only [Option.some.injEq,Prod.mk.injEq] at hc;obtain ⟨rfl,_⟩:=hc;obtain ⟨h1,h0,hlt⟩:=(hr.eval had).one.2;have h1:a.eval ad = .pointer (some ⟨g.ι n,off + i.toNat * ty.n + fo,none⟩):=h1;have hI:i.toNat * ty.n + ty.n <= len * ty.n:=by rw [<- Nat.succ_mul]; exact Nat.mul_le_mul_right _ (by omega)
      have q3':off + i.toNat * ty.n + fo + v.cs.length <= cs.length:=by omega
      have hS:=hr.eval hx;have b1:=(hr.boxes n e cs (St.box?_eq hb).1).1;obtain ⟨us0,b2,b3,b4⟩:=hr.norm hb;have hone:v.sh.isAgg = true \/ (v.cs.length = 1 /\ v.sh = .one):=by
       rcases q2 with q2 | q2
       ·exact .inl q2
       ·cases hs:v.sh with
        | one=>exact .inr ⟨q2,rfl⟩
        | agg=>exact .inl rfl
        | tup l=>exact absurd hs (hsh l)
      have hcf:=cells_flat hS hone;have hlf:=flat_len hS;obtain ⟨us,hu1,hu2,hu3,hu4⟩:=hS;rw [hu2] at hcf;have h1c:∀ y ∈ us,y.oneCell' = true:=fun y hy=>by
       obtain ⟨i,hi⟩:=List.mem_iff_getElem?.1 hy;have hlt:=(List.getElem?_eq_some_iff.1 hi).1;exact (hu4 i _ y (List.getElem?_eq_getElem (by omega)) hi).1
      have hrun:=store_run (P:=P) (w:=w) hop h1 b2 hj hcf (by omega) (by omega) h1c
      refine wpIn_skip' (by rw [hop]; simp) hrun ?_
      rw [q4];show Post E _ a _
      obtain ⟨g',hg⟩:=store_core (off:=off + i.toNat * ty.n + fo) (mv:=id) (sl':=delBoxRefs s.slots) hr hb b2 hu4 hu3 q3' (fun i x hx ho=>by
       rw [List.any_eq_false] at q6
       exact absurd ho (by simpa using q6 x (List.mem_of_getElem? hx))) (fun _ _=>rfl) (hr.uniq.slots.filter _) (fun t x hx=>⟨(delBoxRefs_look hr.uniq.slots hx).1,fun i c hc=>⟨fun _=>rfl,fun q hq=>⟨rfl,noBox hq ((delBoxRefs_look hr.uniq.slots hx).2 c (List.mem_of_getElem? hc))⟩⟩⟩)
      have hll:=(peCells_get hl).1;refine ⟨g',Rel.reBox (St.box?_eq hb).2 hr.uniq.boxes hg (by simp [spliceCells]; omega) (fun c hc=>?_) (fun us hul hA=>pe_cells hl h0 hlt (by simpa using q5) q3 hul hA)⟩
      simp only [List.mem_append] at hc;rcases hc with (hc | hc) | hc
      ·exact hr.nt n e cs (St.box?_eq hb).1 c (List.mem_of_mem_take hc)
      ·exact peCells_target hl c hc
      ·exact hr.nt n e cs (St.box?_eq hb).1 c (List.mem_of_mem_drop hc)
     ·simp at hc
    ·simp at hc
  ·rename_i j _ hj;split at hc
   ·rename_i e l _ b hb hvb;split at hc
    ·rename_i hcd;obtain ⟨rfl,rfl,rfl,hj1,q4⟩:=hcd;simp only [Option.some.injEq,Prod.mk.injEq] at hc;obtain ⟨rfl,rfl⟩:=hc;have hhas:F.has l i = true:=hob;unfold F.has at hhas;rw [Bool.and_eq_true,decide_eq_true_iff,decide_eq_true_iff] at hhas;have h1:a.eval ad = .pointer (some ⟨g.ι n,0 + i.toNat * Ty.bool.n + 0,none⟩):=(hr.eval had).one.2.1;have h1:a.eval ad = .pointer (some ⟨g.ι n,i.toNat,none⟩):=by simpa [Ty.n] using h1
     obtain ⟨c0,hv0,hxv⟩:∃ c0,v = ⟨.one,[c0]⟩ /\ a.eval x = .bool b:=by
      unfold SV.bool? SV.val? at hvb;split at hvb
      ·rename_i bb cc hh;split at hh
       ·rename_i c0;injection hvb with hvb;injection hvb with hb1 hb2;subst hb2;exact ⟨c0,rfl,Cell.val_sound (hr.eval hx).one.2 hh⟩
       ·cases hh
      ·cases hvb
     have hh:=(hr.arr hb).2;have hrun:=store_run (P:=P) (w:=w) (us:=[Value.bool b]) hop h1 hh hj (by rw [hxv]; rfl) (by simpa using hj1.symm) (by simp; omega) (fun y hy=>by rw [List.mem_singleton.1 hy]; rfl)
     refine wpIn_skip' (by rw [hop]; simp) hrun ?_
     rw [q4];show Post E _ a _;have hlist:(l.map Value.bool).take i.toNat ++ [Value.bool b] ++ (l.map Value.bool).drop (i.toNat + 1) = (F.put (α:=Ty.bool.T) l i b).map Value.bool:=by
      unfold F.put;rw [List.map_set,List.set_eq_take_append_cons_drop,if_pos (by simp; omega)]
      simp
     show ∃ g',Rel E _ a (w.setRow (g.ι n) ((l.map Value.bool).take i.toNat ++ [Value.bool b] ++ (l.map Value.bool).drop (i.toNat + 1)).toArray) g'
     rw [hlist];exact arr_core hr hb
    ·simp at hc
   ·simp at hc
  ·simp at hc
 ·rename_i q ty i fo v had hx;split at hc
  ·rename_i c t2 x0 j hat hj;split at hc
   ·simp at hc
   ·rename_i hsh;split at hc
    ·rename_i e xs hown;split at hc
     rotate_left
     ·cases hc
     rename_i K hK;split at hc
     ·rename_i hcond;obtain ⟨rfl,hund,q1,q2,q3,q4,q5⟩:=hcond;split at hc
      ·rename_i x1 hx1;cases hrw:s.rewrite q (.own e t2 (F.put xs i x1)) K with
       | none=>rw [hrw] at hc; cases hc
       | some s1=>
        rw [hrw] at hc;simp only [Option.map_some,Option.some.injEq,Prod.mk.injEq] at hc;obtain ⟨rfl,rfl⟩:=hc;obtain ⟨b0,b1⟩:=F.get_some hob;have hcc:=ownOf_some hown;subst hcc;obtain ⟨b,len,cap,h0,e1,hi0,hi1⟩:=(hr.eval had).one.2;obtain ⟨u0,hu0,⟨usr,hrow⟩,hdv,hpm⟩:=hr.at_sound hat;rw [h0] at hu0;injection hu0 with hu0;subst hu0;rcases hrow.2 with ⟨hn,_⟩ | ⟨gb,cap',cur,k1,k2,k3,k4,k5,k6,k7⟩
        ·cases hn
        ·injection k1 with k1 k8 k9;injection k1 with k1;injection k1 with k1;subst k1; subst k8; subst k9;have hheap:w.heap[b]? = some (.cells cur e (0,0)):=k3;have hI:i.toNat * t2.n + t2.n <= xs.length * t2.n:=by rw [<- Nat.succ_mul]; exact Nat.mul_le_mul_right _ (by omega)
         have hct:cur.toList.length = cur.size:=Array.length_toList;have hcurle:xs.length * t2.n <= cur.size:=by rw [k6]; exact Nat.mul_le_mul_right _ k4
         have hS:=hr.eval hx;have hone:v.sh.isAgg = true \/ (v.cs.length = 1 /\ v.sh = .one):=by
          rcases q2 with q2 | q2
          ·exact .inl q2
          ·cases hs:v.sh with
           | one=>exact .inr ⟨q2,rfl⟩
           | agg=>exact .inl rfl
           | tup l=>exact absurd hs (hsh l)
         have hcf:=cells_flat hS hone;obtain ⟨us,hu1,hu2,hu3,hu4⟩:=hS;rw [hu2] at hcf;have h1c:∀ y ∈ us,y.oneCell' = true:=fun y hy=>by
          obtain ⟨p,hp⟩:=List.mem_iff_getElem?.1 hy;have hlt:=(List.getElem?_eq_some_iff.1 hp).1;exact (hu4 p _ y (List.getElem?_eq_getElem (by omega)) hp).1
         have hrun:=store_run (P:=P) (w:=w) (us0:=cur.toList) hop e1 (by simpa using hheap) hj hcf (by omega) (by omega) h1c
         refine wpIn_skip' (by rw [hop]; simp) hrun ?_
         rw [q4];show Post E _ a _;have hcur':∀ p,(cur.toList.take (i.toNat * t2.n + fo) ++ us ++ cur.toList.drop (i.toNat * t2.n + fo + us.length)).toArray[p]? = if p < i.toNat * t2.n + fo then cur[p]? else if p < i.toNat * t2.n + fo + us.length then us[p - (i.toNat * t2.n + fo)]? else cur[p]?:=fun p=>by
          rw [List.getElem?_toArray,splice_get (by omega)]
          simp only [Array.getElem?_toList]
         have old:∀ (k:Nat) x,xs[k]? = some x -> ∀ (j:Nat) d,(enc t2 x)[j]? = some d -> ∃ y,cur[k * t2.n + j]? = some y /\ y.oneCell' = true /\ DV w (ctx E g a w).k d y:=fun k x hk j d hd=>by
          obtain ⟨b',off',cap'',e4,hdp⟩:=DV.elem (base:=E.base) (lent:=E.lent) hdv hk;injection e4 with e4 e5 e6;injection e4 with e4;injection e4 with e4 e7;subst e4; subst e7;obtain ⟨y,y1,y2,y3,y4⟩:=hdp j d hd;refine ⟨y,?_,y3,y4⟩;have y1:w.cell? ⟨b,0 + k * t2.n + j,none⟩ = some y:=y1;rw [Nat.zero_add] at y1;simpa [World.cell?,hheap] using y1
         have hLen:(cur.toList.take (i.toNat * t2.n + fo) ++ us ++ cur.toList.drop (i.toNat * t2.n + fo + us.length)).length = cur.size:=by
          rw [List.length_append,List.length_append,List.length_take,List.length_drop]; omega
         refine ⟨g,hr.rewrite (cur:=cur) hat h0 hheap hund (by simp [F.put]) (by rw [List.size_toArray,hLen]) (fun p v hp hv=>?_) (fun k j x d hk hd=>?_) hrw⟩
         ·-- what was there
          rw [hcur'];by_cases c1:p < i.toNat * t2.n + fo
          ·rw [if_pos c1]; exact .inl hv
          rw [if_neg c1];by_cases c2:p < i.toNat * t2.n + fo + us.length
          ·right;obtain ⟨bk,h1,h2⟩:=kindsOf_get hK (j:=p - (i.toNat * t2.n + fo)) (by rw [List.length_take,List.length_drop,cells_length]; omega)
           rw [List.getElem?_take,if_pos (by omega),List.getElem?_drop] at h1
           have hjn:fo + (p - (i.toNat * t2.n + fo)) < t2.n:=by omega
           have hdd:=List.getElem?_eq_getElem (l:=enc t2 x0) (i:=fo + (p - (i.toNat * t2.n + fo))) (by rw [enc_length]; exact hjn)
           obtain ⟨y,y1,y2,y3⟩:=old _ x0 b1 _ _ hdd;rw [show i.toNat * t2.n + (fo + (p - (i.toNat * t2.n + fo))) = p by omega,hv] at y1
           injection y1 with y1;subst y1;exact enc_cells hdd h1 y3 h2
          ·rw [if_neg c2]; exact .inl hv
         have hjn:j < t2.n:=by have:=(List.getElem?_eq_some_iff.1 hd).1; rwa [enc_length] at this
         simp only [F.put,List.getElem?_set] at hk;split at hk
         ·rename_i hik;subst hik;split at hk
          ·injection hk with hk;subst hk
           obtain ⟨_,d2⟩:=decAll_sound (c:=ctx E g a w) (us:=((cur.toList.take (i.toNat * t2.n + fo) ++ us ++ cur.toList.drop (i.toNat * t2.n + fo + us.length)).drop (i.toNat * t2.n)).take t2.n) (pl:=fun p=>.slot 0 p) hx1 (by rw [List.length_take,List.length_drop,hLen]; simp [spliceCells,enc_length]; omega) (fun p z z' hz hz'=>by
            rw [List.getElem?_take] at hz';split at hz'
            ·rename_i hp;rw [List.getElem?_drop,<- List.getElem?_toArray,hcur'] at hz';rw [show spliceCells ((enc t2 x0).map D.toC) fo v.cs = ((enc t2 x0).map D.toC).take fo ++ v.cs ++ ((enc t2 x0).map D.toC).drop (fo + v.cs.length) from rfl,splice_get (by simp [enc_length]; omega)] at hz
             have oldz:((enc t2 x0).map D.toC)[p]? = some z -> cur[i.toNat * t2.n + p]? = some z' -> z'.oneCell' = true /\ CV (ctx E g a w) (.slot 0 p) z z':=fun g1 g2=>by
              rw [List.getElem?_map] at g1;cases hq:(enc t2 x0)[p]? with
              | none=>rw [hq] at g1; cases g1
              | some d0=>
               rw [hq] at g1; injection g1 with g1; subst g1
               obtain ⟨y,y1,y2,y3⟩:=old _ x0 b1 p d0 hq;rw [g2] at y1; injection y1 with y1; subst y1
               exact ⟨y2,toC_sound y3⟩
             by_cases c1:p < fo
             ·rw [if_pos c1] at hz;rw [if_pos (by omega)] at hz'
              exact oldz hz hz'
             ·rw [if_neg c1] at hz;rw [if_neg (by omega)] at hz'
              by_cases c2:p < fo + v.cs.length
              ·rw [if_pos c2] at hz;rw [if_pos (by omega),show i.toNat * t2.n + p - (i.toNat * t2.n + fo) = p - fo by omega] at hz'
               obtain ⟨m1,m2⟩:=hu4 _ z z' hz hz';refine ⟨m1,CV.place ?_ m2⟩;rw [List.any_eq_false] at q5;simpa using q5 z (List.mem_of_getElem? hz)
              ·rw [if_neg c2] at hz;rw [if_neg (by omega)] at hz'
               exact oldz hz hz'
            ·cases hz')
           have hlen:i.toNat * t2.n + j < (cur.toList.take (i.toNat * t2.n + fo) ++ us ++ cur.toList.drop (i.toNat * t2.n + fo + us.length)).toArray.size:=by rw [List.size_toArray,hLen]; omega
           obtain ⟨y,hy⟩:∃ y,(cur.toList.take (i.toNat * t2.n + fo) ++ us ++ cur.toList.drop (i.toNat * t2.n + fo + us.length)).toArray[i.toNat * t2.n + j]? = some y:=⟨_,Array.getElem?_eq_getElem hlen⟩
           obtain ⟨m1,m2⟩:=d2 j d y hd (by rw [List.getElem?_take,if_pos hjn,List.getElem?_drop,<- List.getElem?_toArray]; exact hy)
           exact ⟨y,hy,m1,m2⟩
          ·cases hk
         ·rename_i hik;obtain ⟨y,y1,y2,y3⟩:=old k x hk j d hd;refine ⟨y,?_,y2,y3⟩;rw [hcur',<- y1];have hkl:=(List.getElem?_eq_some_iff.1 hk).1;rcases Nat.lt_or_gt_of_ne hik with hlt | hgt
          ·have:i.toNat * t2.n + t2.n <= k * t2.n:=by rw [<- Nat.succ_mul]; exact Nat.mul_le_mul_right _ hlt
           rw [if_neg (by omega),if_neg (by omega)]
          ·have:k * t2.n + t2.n <= i.toNat * t2.n:=by rw [<- Nat.succ_mul]; exact Nat.mul_le_mul_right _ hgt
           rw [if_pos (by omega)]
      ·cases hc
     ·cases hc
    ·cases hc
  ·cases hc
 ·simp at hc
theorem store_keep {t:TypeId} {ad x:Operand} {N:Nat} (hop:o.op = .store t ad x) (hc:atail P N h s o = some (s',ob)) (hob:ob.P) (hr:Rel E s a w g) (hat:∃ n off,evalO s ad = some ⟨.one,[.ptr n off]⟩):o.wpIn (Fr r) 9 P a w (Post E (kept s o s')) Q:=by
 have hpost:=store_post (Q:=Q) (r:=r) hop hc hob hr;unfold atail at hc;rw [hop] at hc;simp only at hc;split at hc
 ·rename_i n off v had hx;split at hc
  ·rename_i e cs j hb hj;split at hc
   ·simp at hc
   ·rename_i hsh;split at hc
    ·rename_i hcond;obtain ⟨q1,q2,q3,q4⟩:=hcond;have h1:a.eval ad = .pointer (some ⟨g.ι n,off,none⟩):=(hr.eval had).one.2;have hS:=hr.eval hx;have b1:=(hr.boxes n e cs (St.box?_eq hb).1).1;obtain ⟨us0,b2,b3,b4⟩:=hr.norm hb;have hone:v.sh.isAgg = true \/ (v.cs.length = 1 /\ v.sh = .one):=by
      rcases q2 with q2 | q2
      ·exact .inl q2
      ·cases hs:v.sh with
       | one=>exact .inr ⟨q2,rfl⟩
       | agg=>exact .inl rfl
       | tup l=>exact absurd hs (hsh l)
     have hcf:=cells_flat hS hone;have hlf:=flat_len hS;obtain ⟨us,hu1,hu2,hu3,hu4⟩:=hS;rw [hu2] at hcf;have h1c:∀ y ∈ us,y.oneCell' = true:=fun y hy=>by
      obtain ⟨i,hi⟩:=List.mem_iff_getElem?.1 hy;have hlt:=(List.getElem?_eq_some_iff.1 hi).1;exact (hu4 i _ y (List.getElem?_eq_getElem (by omega)) hi).1
     have hrun:=store_run (P:=P) (w:=w) hop h1 b2 hj hcf (by omega) (by omega) h1c
     refine wpIn_skip' (by rw [hop]; simp) hrun ?_
     rw [q4];show Post E (kept s o s') a _;have bne:∀ m,(s.boxes.lookup m).isSome = true -> m ≠ n -> g.ι m ≠ g.ι n:=fun m hm hmn he=>by
      obtain ⟨q,hq⟩:=Option.isSome_iff_exists.1 hm;have:=(hr.boxes m q.1 q.2 hq).1;rw [he,b1] at this;injection this with this;exact hmn this.symm
     have look:∀ {l:List (Nat × SV)} {t x},Uniq l -> (l.filter fun q=>!q.2.cs.any (Cell.aliAt n s.boxes)).lookup t = some x -> l.lookup t = some x /\ ∀ c ∈ x.cs,∀ q,c.target = some q -> ∀ m j,q = .box m j -> g.ι m ≠ g.ι n:=fun hu hx=>by
      obtain ⟨h1,h2⟩:=lookup_filter hu hx;refine ⟨h1,fun c hc q hq m j e=>?_⟩
      subst e;simp only [Bool.not_eq_true',List.any_eq_false] at h2;have h3:=h2 c hc;cases c <;> simp [Cell.target] at hq
      all_goals (subst hq; simp [Cell.aliAt] at h3; exact bne m (by simpa [Option.isSome_iff_ne_none] using h3.2) h3.1)
     have hbx:s'.boxes = setBox n (e,spliceCells cs off (v.cs.map storeCell)) s.boxes:=by
      split at hc <;> (simp only [Option.some.injEq,Prod.mk.injEq] at hc; obtain ⟨rfl,_⟩:=hc; rfl)
     unfold kept;simp only [hop,had,hx,hbx,hb];split
     ·rename_i t0 heq;have hno:v.cs.any Cell.isOwn = true /\ x = .tmp t0:=by
       unfold ownTmp at heq;split at heq
       ·split at heq
        ·rename_i ho; injection heq with heq; subst heq; exact ⟨ho,rfl⟩
        ·cases heq
       ·cases heq
      refine store_core (mv:=mvSlot t0 n off) hr hb b2 hu4 hu3 q3 (fun i x _ _=>by simp [plOf,mvSlot,hno.2]) (fun _ _=>rfl) ((hr.uniq.slots.filter _).filter _) (fun t x hx=>?_)
      obtain ⟨k1,k2⟩:=look (hr.uniq.slots.filter _) hx;obtain ⟨k3,k4,k5⟩:=delSlot_look hr.uniq.slots k1;refine ⟨k3,fun i c hc=>⟨fun _=>by simp only [mvSlot,if_neg k4],fun q hq=>⟨?_,k2 c (List.mem_of_getElem? hc) q hq⟩⟩⟩
      have hrf:=k5 c (List.mem_of_getElem? hc);cases q with
      | box m i=>rfl
      | slot t1 i=>
       have:=refs_target hrf hq i;simp only [mvSlot];rw [if_neg (fun e=>this (by rw [e]))]
     ·rename_i heq;have hno:v.cs.any Cell.isOwn = false:=by
       unfold ownTmp at heq;split at heq
       ·split at heq
        ·cases heq
        ·rename_i ho; simpa using ho
       ·rename_i hnt;exact evalO_notOwn (fun t=>by intro e; exact hnt t e) hx
      exact store_core (mv:=id) hr hb b2 hu4 hu3 q3 (fun i x hx ho=>by
       rw [List.any_eq_false] at hno;exact absurd ho (by simpa using hno x (List.mem_of_getElem? hx))) (fun _ _=>rfl) (hr.uniq.slots.filter _) (fun t x hx=>by
       obtain ⟨k1,k2⟩:=look hr.uniq.slots hx
       exact ⟨k1,fun i c hc=>⟨fun _=>rfl,fun q hq=>⟨rfl,k2 c (List.mem_of_getElem? hc) q hq⟩⟩⟩)
    ·simp at hc
  ·rename_i j hb hj;have hk:kept s o s' = s':=by
    unfold kept;simp only [hop,had,hx,hb]
   rw [hk];exact hpost
  ·simp at hc
 all_goals (rename_i h1 _; obtain ⟨n,off,h2⟩:=hat; simp [h2] at *)
theorem move_core {t d:Nat} {v:SV} {N:Nat} (hN:N = E.N) (hr:Rel E s a w g) (hx:s.slots.lookup t = some v) (q1:d < N) (hnt:∀ c ∈ v.cs,c.target = none) :
  ∃ g',Rel E { s with slots:=(d,v) :: dropRefs d (delBoxRefs (delSlot t s.slots)) } (a.put (some d) (tv g.dy.out a t)) w g':=by
 let mv:Place -> Place:=fun p=>match p with
  | .slot t1 i=>if t1 = t then .slot d i else .slot t1 i
  | p=>p
 have hnr:∀ q tip,g.perm w.heap.size ≠ .row q tip:=fun q tip h=>by rw [perm_new hr] at h; cases h
 have hnone:∀ o,w.heap[w.heap.size]? = some o -> immO o = false:=fun o ho=>by have:=(Array.getElem?_eq_some_iff.1 ho).1; omega
 have h3:=hr.toF.turn (mv:=mv) (X:=w.heap.size) (px:=.free) (w':=w) hnone (.inr ⟨rfl,rfl⟩) (.inr rowless_free) (Bel.refl _ _ _) rfl (fun _ _=>rfl) (fun i v _ k=>⟨k,trivial⟩)
  (sl':=fun t1=>(delBoxRefs (delSlot t s.slots)).lookup t1) (bx':=fun m=>s.boxes.lookup m)
  (fun t1 x hx=>by
   obtain ⟨k0,k00⟩:=delBoxRefs_look (hr.uniq.slots.filter _) hx;obtain ⟨k1,k2,k3⟩:=delSlot_look hr.uniq.slots k0;refine ⟨k1,fun i c hc=>⟨fun _=>⟨by simp only [mv,if_neg k2],hnr _⟩,fun q hq=>⟨⟨?_,hnr _⟩,noBox hq (k00 c (List.mem_of_getElem? hc))⟩⟩⟩
   cases q with
   | box m i=>rfl
   | slot t2 i=>
    have:=refs_target (k3 c (List.mem_of_getElem? hc)) hq i;simp only [mv]
    rw [if_neg (fun e=>this (by rw [e]))])
  (fun m q hm=>⟨hm,(fun h=>by
   have:=(hr.boxes m q.1 q.2 hm).1
   rw [h,perm_new hr] at this; cases this),fun i c _ _=>⟨rfl,hnr _⟩⟩)
 have hvs:SVR (ctx E (turned mv g w.heap.size .free) a w) (.slot d) v (tv g.dy.out a t):=by
  obtain ⟨us,e1,e2,e3,e4⟩:=hr.slots t v hx;refine ⟨us,e1,e2,e3,fun i x y hx hy=>⟨(e4 i x y hx hy).1,turn_cell (px:=.free) (.inl hr.base) (fun _ _=>rfl) (fun i v _ k=>⟨k,trivial⟩) (e4 i x y hx hy).2 (fun _=>⟨by simp [mv],hnr _⟩) (hnt x (List.mem_of_getElem? hx)) hnone⟩⟩
 have hrf:v.refs d = false:=by
  unfold SV.refs;rw [List.any_eq_false];intro c hc;have:=hnt c hc;cases c <;> first | (simp [Cell.refs]; done) | simp [Cell.target] at this
 have h4:=h3.put (by rw [<- hN]; exact q1) hvs hrf
 refine ⟨_,RelF.toRel ⟨((hr.uniq.slots.filter _).filter _ |>.filter _).cons fun q hq=>?_,hr.uniq.boxes⟩ (h4.weak (fun t1 x hx=>?_) (fun _ _ h=>h))⟩
 ·have:=(List.mem_filter.1 hq).2;simp at this;exact this.1
 ·simp only [List.lookup_cons] at hx;unfold upd;by_cases ht:t1 = d
  ·subst ht; simp at hx ⊢; exact hx
  ·have hb:(t1 == d) = false:=by simpa using ht
   simp only [hb] at hx;obtain ⟨k1,k2⟩:=lookup_filter ((hr.uniq.slots.filter _).filter _) hx;simp at k2;have k1':(delBoxRefs (delSlot t s.slots)).lookup t1 = some x:=k1;simp only [ht,if_false,k1',k2.2];simp
theorem takes_sound {t t0 d:Nat} {v:SV} (hr:Rel E s a w g) (hx:s.slots.lookup t = some v) (h:takes s d v = some t0):tv g.dy.out a t = tv g.dy.out a t0:=by
 unfold takes at h;split at h
 ·rename_i t1 e1 ty1 l1;split at h
  ·rename_i e ty l _ ho;injection h with h;subst h;obtain ⟨c1,c0,_⟩:=(hr.slots t _ hx).one;obtain ⟨c2,_⟩:=(hr.slots t1 _ ho).one;have c0:(flat (tv g.dy.out a t1))[0]? = some (tv g.dy.out a t):=c0;have c2:(tv g.dy.out a t1).oneCell' = true:=c2;rw [flat_one c2] at c0;injection c0 with c0;exact c0.symm
  ·cases h
 ·cases h
theorem assign_post {t:Nat} {N:Nat} (hop:o.op = .assign (.tmp t)) (hN:N = E.N) (hc:atail P N h s o = some (s',ob)) (hr:Rel E s a w g):o.wpIn (Fr r) 9 P a w (Post E s') Q:=by
 unfold atail at hc;rw [hop] at hc;simp only at hc;split at hc
 ·rename_i d v hd hx;refine wpIn_value (u:=a.eval (.tmp t)) (w':=w) (by rw [hop]; simp) (by simp [execOp,hop]) ?_
  rw [hd,<- tv_own (out:=g.dy.out) (look_some hx).1];have hx:=(look_some hx).2;split at hc
  ·rename_i t0 htk;split at hc
   ·rename_i v0 hv0;split at hc
    ·rename_i hcond;obtain ⟨q1,q2,q3⟩:=hcond;simp only [Option.some.injEq,Prod.mk.injEq] at hc;obtain ⟨rfl,_⟩:=hc;rw [takes_sound hr hx htk];exact move_core hN hr hv0 q1 fun c hc=>by
      rw [List.all_eq_true] at q3;simpa using q3 c hc
    ·simp at hc
   ·simp at hc
  ·split at hc
   ·rename_i hcond;obtain ⟨q1,q2,q3⟩:=hcond;simp only [Option.some.injEq,Prod.mk.injEq] at hc;obtain ⟨rfl,_⟩:=hc;exact move_core hN hr hx q1 fun c hc=>by
     rw [List.all_eq_true] at q3;simpa using q3 c hc
   ·simp at hc
 ·simp at hc
end
end Go.Proofs.YthnagpmnoncijaaGreat.M
