/- A part of the proof. -/
import Derived.Test.YthnagpmnoncijaaGreatMchG
set_option linter.unusedVariables false
namespace Go.Proofs.YthnagpmnoncijaaGreat.M
open Go Go.RowKit
section
variable {P:Program} {E:Env} {s:St} {a:Act} {w:World} {g:Gh} {o:Oper} {want:Bool} {h:Option Hint} {v:SV} {ob:Prop} {b:Option (Nat × List Cell)} {d:Nat} {r:Option Nat} {Q:Exit -> Act -> World -> Prop} {sl:Sl} {bx:Bx}
abbrev PostF (E:Env) (sl:Sl) (bx:Bx):Act -> World -> Prop:=fun a' w'=>∃ g',RelF E sl bx a' w' g'
abbrev Post (E:Env) (s:St):Act -> World -> Prop:=fun a' w'=>∃ g',Rel E s a' w' g'
theorem aval_post {ob:Cnd} (hv:aval P want h s o.op = some (v,ob)) (hob:ob.P) (hr:Rel E s a w g) (hF:RelF E sl bx a w g) (hd:o.dst = some d) (hdN:d < E.N) (hvr:v.refs d = false) (hnd:∀ c,o.op ≠ .defer c):o.wpIn (Fr r) 9 P a w (PostF E (slApp sl d v none) (bxApp bx d none)) Q:=by
 obtain ⟨u,h1,h2,_⟩:=aval_sound (pl:=.slot d) hv hob hr;exact wpIn_value hnd h1 ⟨g,by rw [hd]; exact appF_put hF hdN h2 hvr⟩
theorem alloc_run {e:TypeId} {i:TypeInfo} {z:Value} (hop:o.op = .alloc e) (hi:P.info? e = some i) (hz:i.zero = some z) :
  (execOp a.eval o).run P w = .ok (.value (.pointer (some ⟨w.heap.size,0,none⟩))) (w.alloc (.cells z.cells e)):=by
 simp [execOp,hop,Instr.alloc,zeroValue,typeInfo,hi,hz,newVar,newRow]
theorem box_run {e:TypeId} {x:Operand} {z:Value} (hop:o.op = .box e x) (hz:a.eval x = z) :
  (execOp a.eval o).run P w = .ok (.value (.pointer (some ⟨w.heap.size,0,none⟩))) (w.alloc (.cells z.cells e)):=by
 simp [execOp,hop,Instr.box,newVar,newRow,hz]
theorem const_target {v:Value} {x:Cell} (h:constCell v = some x):x.target = none /\ ∀ n,x.mentions n = false:=by
 unfold constCell at h;split at h <;> first | (simp at h; subst h; exact ⟨rfl,fun _=>rfl⟩) | simp at h
theorem constCells_target:∀ {vs:List Value} {cs:List Cell},constCells vs = some cs -> ∀ c ∈ cs,c.target = none /\ ∀ n,c.mentions n = false
 | [],cs,h=>by simp [constCells] at h; subst h; simp
 | v :: vs,cs,h=>by
  simp only [constCells] at h;cases h1:constCell v with
  | none=>simp [h1] at h
  | some x=>
   cases h2:constCells vs with
   | none=>simp [h1,h2] at h
   | some r=>
    simp [h1,h2] at h;subst h;intro c hc;rcases List.mem_cons.1 hc with rfl | hc
    ·exact const_target h1
    ·exact constCells_target h2 c hc
theorem zeroCells_target {t:TypeId} {z:List Cell} (hz:zeroCells P t = some z):∀ c ∈ z,c.target = none /\ ∀ n,c.mentions n = false:=by
 unfold zeroCells at hz;split at hz
 ·split at hz
  ·split at hz
   ·exact constCells_target hz
   ·simp at hz
  ·simp at hz
 ·simp at hz
theorem copy_target {p:Place} {c:Cell}:(c.copy false p).target = none:=by cases c <;> rfl
theorem copy_mentions {p:Place} {c:Cell} {n:Nat} (h:(c.copy false p).mentions n = true):c.mentions n = true:=by
 cases c <;> first | exact h | cases h
theorem alloc_post {e:TypeId} (hop:o.op = .alloc e) (hc:acalm P want h s o = some (v,ob,b)) (hr:Rel E s a w g) (hF:RelF E sl bx a w g) (hd:o.dst = some d) (hdN:d < E.N):o.wpIn (Fr r) 9 P a w (PostF E (slApp sl d v b) (bxApp bx d b)) Q:=by
 unfold acalm at hc;rw [hop] at hc;simp only [hd] at hc;split at hc
 ·rename_i d' n1 e1 ha;injection e1 with e1; subst e1
  simp at hc;obtain ⟨rfl,_,rfl⟩:=hc;unfold arrOf at ha;split at ha
  case h_2=>cases ha
  rename_i n el hul;split at ha
  case h_2=>cases ha
  rename_i z _ hz;split at ha
  case isFalse=>cases ha
  rename_i hcd;injection ha with ha;subst ha;obtain ⟨zv,zi,z1,z2,z3,z4,z5,z6⟩:=zeroCells_sound hz (ctx E g a w) (.slot 0);refine wpIn_value (by rw [hop]; simp) (alloc_run hop z1 z2) ?_
  have hzv:zv.cells = ((F.fill (n:Nat) false).map Value.bool).toArray:=by
   apply Array.ext';apply List.ext_getElem?;intro j;simp only [F.fill,List.map_replicate,Int.toNat_natCast];by_cases hj:j < n
   ·have hjz:j < z.length:=by omega
    have hju:j < zv.cells.size:=by omega
    rw [List.getElem?_replicate,if_pos hj,Array.getElem?_toList,Array.getElem?_eq_getElem hju];obtain ⟨_,k2⟩:=z6 j _ _ (List.getElem?_eq_getElem hjz) (Array.getElem?_eq_getElem hju);have k3:=(List.all_eq_true.1 hcd.2.2) _ (List.getElem_mem hjz);unfold Cell.isF at k3;split at k3
    ·rename_i b' hb';rw [hb'] at k2;rw [show _ = Value.bool b' from k2];have:b' = false:=by simpa using k3
     rw [this]
    ·cases k3
   ·rw [List.getElem?_replicate,if_neg hj];exact List.getElem?_eq_none (by simp; omega)
  let g':Gh:=⟨fun n=>if n = d then w.heap.size else g.ι n,fun b=>if b = w.heap.size then .box d else g.perm b,g.dy⟩
  have hbel:Below w.heap.size w (w.alloc (.cells zv.cells e)):=(Below.refl _ _).alloc (Nat.le_refl _) _
  have hg:=appF_made (e:=spc + e) (cs:=[.arr (F.fill (n:Nat) false)]) (b:=w.heap.size) hF hdN (g':=g') hbel (fun n hn=>if_neg hn) (fun b hb=>if_neg (by omega)) (fun b hb hf=>by
    by_cases hbs:b = w.heap.size
    ·subst hbs; simp
    ·have hf:g'.perm b ≠ .free:=hf;simp only [g',if_neg hbs] at hf
     have:=(hF.lo b hf).2; simp; omega) rfl rfl (if_pos rfl) (if_pos rfl) (fun c hc=>by rw [List.mem_singleton.1 hc]; rfl)
    ⟨fun he=>by omega,fun _=>⟨_,rfl,by rw [show spc + e - spc = e by omega,<- hzv]; exact heap_alloc_new w _⟩⟩
  rw [hd];exact ⟨g',hg⟩
 ·rename_i d' e1 ha;injection e1 with e1; subst e1
  split at hc
  case h_2=>cases hc
  rename_i z hz;split at hc
  case isFalse=>simp at hc
  rename_i he;simp at hc;obtain ⟨rfl,_,rfl⟩:=hc;obtain ⟨zv,zi,z1,z2,z3,z4,z5,z6⟩:=zeroCells_sound hz (ctx E g a w) (.slot 0);refine wpIn_value (by rw [hop]; simp) (alloc_run hop z1 z2) ?_
  obtain ⟨g',hg⟩:=appF_box (e:=e) (us:=zv.cells.toList) hF he hdN (by simpa using z4) z5 (fun c hc=>(zeroCells_target hz c hc).1) (fun c hc n hn=>by rw [(zeroCells_target hz c hc).2 n] at hn; cases hn)
   (fun i x y hx hy=>⟨(z6 i x y hx (by simpa using hy)).1,_,(z6 i x y hx (by simpa using hy)).2⟩)
  rw [hd];exact ⟨g',by simpa using hg⟩
 ·simp at hc
theorem box_post {e:TypeId} {x:Operand} (hop:o.op = .box e x) (hc:acalm P want h s o = some (v,ob,b)) (hr:Rel E s a w g) (hF:RelF E sl bx a w g) (hd:o.dst = some d) (hdN:d < E.N):o.wpIn (Fr r) 9 P a w (PostF E (slApp sl d v b) (bxApp bx d b)) Q:=by
 unfold acalm at hc;rw [hop] at hc;simp only [hd] at hc;split at hc
 ·rename_i d' c e1 hx;injection e1 with e1; subst e1
  split at hc
  ·simp at hc
  ·rename_i hm;simp at hc;obtain ⟨rfl,_,rfl⟩:=hc;obtain ⟨k1,k2⟩:=(hr.eval hx).one;refine wpIn_value (by rw [hop]; simp) (box_run hop rfl) ?_
   rw [cells_one k1,hd];obtain ⟨g',hg⟩:=appF_box (e:=e) (cs:=[c.copy false (.slot 0 0)]) (us:=[a.eval x]) hF (by omega) hdN rfl (by simp [copy_notOwn]) (fun q hq=>by simp at hq; subst hq; exact copy_target)
    (fun q hq n hn e'=>by simp at hq; subst hq; subst e'; exact hm (.inl (copy_mentions hn)))
    (fun i q y hq hy=>by
     cases i with
     | zero=>simp at hq hy; subst hq hy; exact ⟨k1,.slot 0 0,k2.copy (want:=false) (fun h=>by cases h)⟩
     | succ i=>simp at hq)
   exact ⟨g',hg⟩
 ·rename_i d' cs e1 hx;injection e1 with e1; subst e1
  split at hc
  ·simp at hc
  ·rename_i hm;simp at hc;obtain ⟨rfl,_,rfl⟩:=hc;obtain ⟨us,k1,k2,k3⟩:=(hr.eval hx).agg;refine wpIn_value (by rw [hop]; simp) (box_run hop k1) ?_
   rw [hd];have hget:∀ c ∈ copyCells false (fun _=>Place.slot 0 0) 0 cs,∃ c0 ∈ cs,c = c0.copy false (.slot 0 0):=fun c hc=>by
    obtain ⟨j,hj⟩:=List.mem_iff_getElem?.1 hc;rw [copyCells_get] at hj;cases hq:cs[j]? with
    | none=>simp [hq] at hj
    | some c0=>simp [hq] at hj; exact ⟨c0,List.mem_of_getElem? hq,hj.symm⟩
   obtain ⟨g',hg⟩:=appF_box (e:=e) (cs:=copyCells false (fun _=>.slot 0 0) 0 cs) (us:=us) hF (by omega) hdN (by rw [copyCells_length,k2]) (copyCells_notOwn _ _)
    (fun q hq=>by obtain ⟨c0,_,rfl⟩:=hget q hq; exact copy_target)
    (fun q hq n hn e'=>by
     obtain ⟨c0,h0,rfl⟩:=hget q hq;subst e'
     exact hm (.inl (by simp only [List.any_eq_true]; exact ⟨c0,h0,copy_mentions hn⟩)))
    (fun i q y hq hy=>by
     rw [copyCells_get] at hq;cases hq':cs[i]? with
     | none=>simp [hq'] at hq
     | some c0=>
      simp [hq'] at hq; subst hq;obtain ⟨j1,j2⟩:=k3 i c0 y hq' hy
      exact ⟨j1,.slot 0 0,j2.copy (want:=false) (fun h=>by cases h)⟩)
   exact ⟨g',hg⟩
 ·simp at hc
theorem CV.toDV {c:Ctx} {p:Place} {x:Cell} {u:Value} {dd:D} (h:CV c p x u) (h1:u.oneCell' = true) (hx:x.toD = some dd):DV c.w c.k dd u:=by
 unfold Cell.toD at hx;split at hx <;> first | (injection hx with hx; subst hx) | cases hx
 ·rw [<- show u = _ from h]; exact .v u h1
 ·rw [<- show u = _ from h]; exact .v u h1
 ·exact h
 ·exact h.2.1
 ·exact h.2.2.1
 ·rw [show u = _ from h];exact .clo _ [] [] (fun _ _=>undef) rfl (by simp) (by simp) (by simp)
 ·exact CV.fn h
theorem toDs_sound {c:Ctx}:∀ {cs:List Cell} {us:List Value} {pl:Nat -> Place},(∀ (i:Nat) x y,cs[i]? = some x -> us[i]? = some y -> y.oneCell' = true /\ CV c (pl i) x y) ->
  (toDs cs).length <= cs.length /\ ∀ (i:Nat) x y,(toDs cs)[i]? = some x -> us[i]? = some y -> y.oneCell' = true /\ DV c.w c.k x y
 | [],us,pl,h=>by simp [toDs]
 | x :: r,us,pl,h=>by
  have step:∀ d:D,(∀ y,us[0]? = some y -> y.oneCell' = true /\ DV c.w c.k d y) -> (d :: toDs r).length <= (x :: r).length /\ ∀ (i:Nat) x' y,(d :: toDs r)[i]? = some x' -> us[i]? = some y -> y.oneCell' = true /\ DV c.w c.k x' y:=fun d h0=>by
   obtain ⟨a1,a2⟩:=toDs_sound (c:=c) (cs:=r) (us:=us.drop 1) (pl:=fun i=>pl (i + 1)) (fun i x y hx hy=>h (i + 1) x y (by simpa using hx) (by rw [List.getElem?_drop] at hy; rw [Nat.add_comm]; exact hy))
   refine ⟨by simp; exact a1,fun i x' y hx hy=>?_⟩
   cases i with
   | zero=>simp at hx; subst hx; exact h0 y hy
   | succ i=>exact a2 i x' y (by simpa using hx) (by rw [List.getElem?_drop,Nat.add_comm]; exact hy)
  simp only [toDs];split
  ·rename_i d hd;exact step d fun y hy=>⟨(h 0 x y rfl hy).1,(h 0 x y rfl hy).2.toDV (h 0 x y rfl hy).1 hd⟩
  ·split
   ·refine step _ fun y hy=>?_
    obtain ⟨h1,h2⟩:=h 0 .nilS y rfl hy;rw [show y = _ from h2];exact ⟨rfl,.emp _ none 0 (Nat.zero_le _)⟩
   ·simp
theorem mul_get {n sz i j:Nat} (hi:i < n) (hj:j < sz):i * sz + j < n * sz:=by
 have:(i + 1) * sz <= n * sz:=Nat.mul_le_mul_right _ hi;rw [Nat.succ_mul] at this; omega
theorem newRow_own {E:Env} {g':Gh} {w:World} {a:Act} {p:Place} {e n cap:Nat} {us:List Value} {t:Ty} {xs:List t.T} {cur:Array Value} (hbase:E.base <= w.heap.size) {w1:World} (hw1:w1.heap.size = w.heap.size) (hh:∀ b,b < w.heap.size -> (w1.alloc (.cells cur e)).heap[b]? = w.heap[b]?)
  (hl:xs.length = n) (hcap:n <= cap) (hm:cap <= maxLen) (hcur:cur.size = cap * t.n) (hus:cur.toList.take (n * t.n) = us) (hlen:us.length = n * t.n) (hp:g'.perm w.heap.size = .row p (n * t.n))
  (h1:∀ (i:Nat) y,us[i]? = some y -> y.oneCell' = true)
  (hd:∀ (i j:Nat) q x y,xs[i]? = some q -> (enc t q)[j]? = some x -> us[i * t.n + j]? = some y -> DV (w1.alloc (.cells cur e)) (ok E.base E.k0 g'.perm) x y) :
  CV (ctx E g' a (w1.alloc (.cells cur e))) p (.own e t xs) (.slice (some ⟨w.heap.size,0,none⟩) n cap):=by
 have hheap:(w1.alloc (.cells cur e)).heap[w.heap.size]? = some (.cells cur e (0,0)):=by rw [<- hw1]; exact heap_alloc_new w1 _
 have hcell:∀ i,(w1.alloc (.cells cur e)).cell? ⟨w.heap.size,i,none⟩ = cur[i]?:=fun i=>by simp [World.cell?,hheap]
 have hget:∀ i,i < n * t.n -> cur[i]? = us[i]?:=fun i hi=>by
  rw [<- hus,List.getElem?_take,if_pos hi]; simp
 refine ⟨⟨us,by rw [hlen,hl],.inr ⟨w.heap.size,cap,cur,by rw [hl],Nat.zero_le _,hheap,by omega,hm,hcur,by rw [hl]; exact hus⟩⟩,?_,fun b hb=>?_⟩
 ·subst hl;have:=DV.lst (w:=w1.alloc (.cells cur e)) (k:=ok E.base E.k0 g'.perm) t xs w.heap.size 0 cap (fun i j=>us[i * t.n + j]?.getD undef) (fun i j hi hj=>?_) (fun i j hi hj=>?_) (fun i j q x hq hx=>?_) hcap hm
  ·exact this
  ·have hlt:=mul_get hi hj;refine ⟨?_,?_⟩
   ·rw [Nat.zero_add,hcell,hget _ hlt,List.getElem?_eq_getElem (by omega)]; rfl
   ·simp only [ok,okp,hp,if_neg (show ¬ w.heap.size < E.base by omega)]
    omega
  ·have hlt:=mul_get hi hj;have he:us[i * t.n + j]? = some us[i * t.n + j]:=List.getElem?_eq_getElem (by omega)
   simp only [he,Option.getD_some];exact h1 _ _ he
  ·have hi:=(List.getElem?_eq_some_iff.1 hq).1;have hj:=(List.getElem?_eq_some_iff.1 hx).1;rw [enc_length] at hj;have hlt:=mul_get hi hj;have he:us[i * t.n + j]? = some us[i * t.n + j]:=List.getElem?_eq_getElem (by omega)
   simp only [he,Option.getD_some];exact hd i j q x _ hq hx he
 ·simp [Value.ownBlock] at hb;subst hb;rw [hl];exact hp
theorem fill_zeros {z:Value} {zc:List Cell} {c:Ctx} {pl:Nat -> Place} (n:Nat) (hs:z.cells.size = zc.length) (hc:∀ (j:Nat) x y,zc[j]? = some x -> z.cells[j]? = some y -> y.oneCell' = true /\ CV c (pl j) x y) (ho:zc.any Cell.isOwn = false) (hpos:0 < zc.length) :
  ((Array.range n).map (z.cells[· % z.cells.size]!)).size = (zerosOf zc n).length /\ (zerosOf zc n).any Cell.isOwn = false /\
  ∀ (j:Nat) x y,(zerosOf zc n)[j]? = some x -> ((Array.range n).map (z.cells[· % z.cells.size]!))[j]? = some y -> y.oneCell' = true /\ CV c (pl j) x y:=by
 have key:∀ i,∃ q,zc[i % zc.length]? = some q:=fun i=>⟨_,List.getElem?_eq_getElem (Nat.mod_lt i hpos)⟩
 have hnot:∀ i,((zc[i % zc.length]?).getD .nilS).isOwn = false:=fun i=>by
  obtain ⟨q,hq⟩:=key i;rw [hq];rw [List.any_eq_false] at ho;simpa using ho q (List.mem_of_getElem? hq)
 refine ⟨by simp [zerosOf],?_,fun j x y hx hy=>?_⟩
 ·rw [List.any_eq_false];intro q hq;simp only [zerosOf,List.mem_map] at hq;obtain ⟨i,_,rfl⟩:=hq;simp [hnot i]
 ·simp only [zerosOf,List.getElem?_map] at hx;simp only [Array.getElem?_map] at hy;have hj:j < n:=by
   by_cases hj:j < n
   ·exact hj
   ·rw [List.getElem?_eq_none (by simp; omega)] at hx; simp at hx
  rw [List.getElem?_range hj] at hx;rw [Array.getElem?_range,if_pos hj] at hy;simp only [Option.map_some,Option.some.injEq] at hx hy;have hlt:j % z.cells.size < z.cells.size:=Nat.mod_lt _ (by omega)
  have e1:z.cells[j % z.cells.size]? = some z.cells[j % z.cells.size]:=Array.getElem?_eq_getElem hlt;rw [getElem!_pos z.cells _ hlt] at hy;subst hy;obtain ⟨q,hq⟩:=key j;rw [hq] at hx;simp only [Option.getD_some] at hx;subst hx;have:=hc (j % zc.length) _ z.cells[j % z.cells.size] hq (by rw [<- e1,hs])
  refine ⟨this.1,CV.place ?_ this.2⟩;rw [List.any_eq_false] at ho;simpa using ho _ (List.mem_of_getElem? hq)
theorem enc_flat:∀ {t:Ty} (x:t.T),t.flat = true -> ∀ d ∈ enc t x,∃ v,d = .v v
 | .int k,x,_,d,hd=>by simp [enc] at hd; exact ⟨_,hd⟩
 | .bool,x,_,d,hd=>by simp [enc] at hd; exact ⟨_,hd⟩
 | .str,x,_,d,hd=>by simp [enc] at hd; exact ⟨_,hd⟩
 | .list t,x,h,d,hd=>by simp [Ty.flat] at h
 | .unit,x,_,d,hd=>by simp [enc] at hd
 | .pair a b,x,h,d,hd=>by
  simp only [Ty.flat,Bool.and_eq_true] at h;simp only [enc,List.mem_append] at hd;rcases hd with hd | hd
  ·exact enc_flat x.1 h.1 d hd
  ·exact enc_flat x.2 h.2 d hd
theorem DV.flatV {w w':World} {k k':Nat -> Nat -> Prop} {d:D} {u:Value} (h:DV w k d u) (hd:∃ v,d = .v v):DV w' k' d u:=by
 obtain ⟨v,rfl⟩:=hd;cases h with
 | v _ h=>exact .v _ h
theorem DV.flat {w w':World} {k k':Nat -> Nat -> Prop} {t:Ty} {l:List t.T} {u:Value} (h:DV w k (.lst t l) u) (hf:t.flat = true)
  (hk:∀ b i v,u.ownBlock = some b -> k b i -> w.cell? ⟨b,i,none⟩ = some v -> w'.cell? ⟨b,i,none⟩ = some v /\ k' b i):DV w' k' (.lst t l) u:=by
 cases h with
 | emp t a cap h=>exact .emp t a cap h
 | lst t l b off cap u' hc h1 hd hcap hm=>
  refine .lst t l b off cap u' (fun i j hi hj=>?_) h1 (fun i j e d he hd'=>(hd i j e d he hd').flatV (enc_flat e hf d (List.mem_of_getElem? hd'))) hcap hm
  obtain ⟨c1,c2⟩:=hc i j hi hj;exact hk b _ _ rfl c2 c1
end
end Go.Proofs.YthnagpmnoncijaaGreat.M
