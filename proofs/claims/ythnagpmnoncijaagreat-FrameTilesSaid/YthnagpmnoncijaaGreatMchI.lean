/- A part of the proof. -/
import Derived.Test.YthnagpmnoncijaaGreatMchH
import Derived.Great.BuildSlice
import Derived.Laws.MakeOwn
import Derived.Laws.IdiomRangeMap
import Derived.Carry
set_option linter.unusedVariables false
namespace Go.Proofs.YthnagpmnoncijaaGreat.M
open Go Go.RowKit
section
variable {P:Program} {E:Env} {s:St} {a:Act} {w:World} {g:Gh} {o:Oper} {want:Bool} {h:Option Hint} {v:SV} {ob:Prop} {b:Option (Nat × List Cell)} {d:Nat} {r:Option Nat} {Q:Exit -> Act -> World -> Prop} {sl:Sl} {bx:Bx}
theorem perm_new (hr:Rel E s a w g):g.perm w.heap.size = .free:=perm_newF hr.toF
theorem app_row (hF:RelF E sl bx a w g) (hdN:d < E.N) {e n cap:Nat} {us:List Value} {t:Ty} {xs:List t.T} {cur:Array Value} {w1:World} (hw:Below w.heap.size w w1) (hw1:w1.heap.size = w.heap.size)
  (hl:xs.length = n) (hcap:n <= cap) (hm:cap <= maxLen) (hcur:cur.size = cap * t.n) (hus:cur.toList.take (n * t.n) = us) (hlen:us.length = n * t.n)
  (h1:∀ (i:Nat) y,us[i]? = some y -> y.oneCell' = true) (hd:∀ (i j:Nat) q x y,xs[i]? = some q -> (enc t q)[j]? = some x -> us[i * t.n + j]? = some y -> DV w (ok E.base E.k0 g.perm) x y) :
  ∃ g',RelF E (slApp sl d ⟨.one,[.own e t xs]⟩ none) (bxApp bx d none) (a.put (some d) (.slice (some ⟨w.heap.size,0,none⟩) n cap)) (w1.alloc (.cells cur e)) g':=by
 let perm:Nat -> Perm:=fun b=>if b = w.heap.size then .row (.slot d 0) (n * t.n) else g.perm b
 have hbel:Below w.heap.size w (w1.alloc (.cells cur e)):=hw.trans ((Below.refl _ _).alloc (by omega) _)
 refine ⟨⟨g.ι,perm,g.dy⟩,appF_grow hF hdN hbel (fun b hb=>by simp only [perm]; rw [if_neg (by omega)]) (fun b hb hf=>?_) (SVR.of_one rfl ?_) rfl⟩
 ·simp only [perm] at hf;split at hf
  ·simp; omega
  ·have:=(hF.lo b hf).2; simp; omega
 ·refine newRow_own (g':=⟨g.ι,perm,g.dy⟩) (us:=us) hF.base hw1 (fun b hb=>hbel.block b hb) hl hcap hm hcur hus hlen (by simp [perm]) h1 (fun i j q x y h2 h3 h4=>?_)
  refine (hd i j q x y h2 h3 h4).mono fun b i z k1 k2=>?_
  have hbl:b < w.heap.size:=World.block_lt_of_cell? w ⟨b,i,none⟩ k2;refine ⟨(hbel.cell (p:=⟨b,i,none⟩) hbl).trans k2,?_⟩;simp only [ok,okp,perm] at k1 ⊢;rw [if_neg (show ¬ b = w.heap.size by omega)]
  exact k1
theorem sameOp_eval {x y:Operand} {k:IntKind} {n:Int} (h:sameOp x y = true) (hx:a.eval x = .int k n):∃ k',a.eval y = .int k' n:=by
 unfold sameOp at h;split at h
 ·rename_i p q;have:p = q:=by simpa using h
  subst this;exact ⟨k,hx⟩
 ·rename_i k1 p k2 q;have:p = q:=by simpa using h
  subst this;injection hx with _ hx;exact ⟨k2,by rw [<- hx]; rfl⟩
 ·cases h
theorem makeSlice_post {t:TypeId} {x y:Operand} (hop:o.op = .makeSlice t x y) (hc:acalm P want h s o = some (v,ob,b)) (hob:ob) (hr:Rel E s a w g) (hF:RelF E sl bx a w g) (hd:o.dst = some d) (hdN:d < E.N):o.wpIn (Fr r) 9 P a w (PostF E (slApp sl d v b) (bxApp bx d b)) Q:=by
 unfold acalm at hc;rw [hop] at hc;simp only at hc;split at hc
 ·rename_i e kn k n hu hi;split at hc
  ·rename_i j ty z hj hty hz;split at hc
   ·rename_i z0 hz0;split at hc
    ·rename_i hcond;obtain ⟨hjt,hj0,hso⟩:=hcond;simp only [Option.some.injEq,Prod.mk.injEq] at hc;obtain ⟨rfl,rfl,rfl⟩:=hc;cases h1:evalO s x with
     | none=>simp [h1] at hi
     | some q=>
      simp [h1] at hi;have e1:=(hr.eval h1).int hi;obtain ⟨k',e2⟩:=sameOp_eval hso e1;have hob':0 <= n /\ n <= (maxLen:Int) /\ (j.bytes:Int) * n <= 281474976710656:=by
       have:F.fillOk j.bytes n = true:=hob;simpa [F.fillOk] using this
      obtain ⟨b1,b2,b3⟩:=hob';obtain ⟨zv,zi,z1,z2,z3,z4,z5,z6⟩:=zeroCells_sound hz (ctx E g a w) (.slot 0);have hji:zi = j:=by rw [hj] at z1; injection z1 with z1; exact z1.symm
      subst hji;have hmake:=run_make (P:=P) w t e zi zv hu hj z2 k k' n n b1 (Int.le_refl _) b3 (by simp only [maxLen] at b2; omega)
      have hrun:(execOp a.eval o).run P w = .ok (.value (.slice (some ⟨w.heap.size,0,none⟩) n.toNat n.toNat)) (w.alloc (.cells (madeCells zv.cells (n.toNat * zi.size)) e)):=by
       simp only [execOp,hop,Sem.run_bind,e1,e2,hmake];rfl
      refine wpIn_value (by rw [hop]; simp) hrun ?_
      rw [hd];obtain ⟨c1,c2⟩:=decAll_sound (c:=ctx E g a w) (us:=zv.cells.toList) (pl:=.slot 0) hz0 (by simpa using z4) (fun i x y hx hy=>z6 i x y hx (by simpa using hy))
      have hpos:0 < ty.n:=by omega
      have hcell:∀ i:Nat,i < n.toNat * ty.n -> (madeCells zv.cells (n.toNat * zi.size)).toList[i]? = zv.cells.toList[i % ty.n]?:=fun i hi=>by
       have hlt:i % zv.cells.size < zv.cells.size:=Nat.mod_lt _ (by rw [z3,hjt]; exact hpos)
       rw [Array.getElem?_toList,Array.getElem?_toList];simp only [madeCells,Array.getElem?_map];rw [Array.getElem?_range,if_pos (by rw [hjt]; exact hi)]
       simp only [Option.map_some];rw [getElem!_pos zv.cells _ hlt,<- hjt,<- z3,Array.getElem?_eq_getElem hlt]
      have hszm:(madeCells zv.cells (n.toNat * zi.size)).size = n.toNat * ty.n:=by rw [size_madeCells,hjt]
      have hzl:zv.cells.toList.length = ty.n:=by rw [Array.length_toList,z3,hjt]
      exact app_row hF hdN (xs:=F.fill n z0) (us:=(madeCells zv.cells (n.toNat * zi.size)).toList) (w1:=w) (Below.refl _ _) rfl (by simp [F.fill]) (Nat.le_refl _) (by omega) hszm
       (by rw [List.take_of_length_le (by rw [Array.length_toList,hszm]; exact Nat.le_refl _)]) (by rw [Array.length_toList,hszm])
       (fun i y hy=>by
        have hi:i < n.toNat * ty.n:=by have:=(List.getElem?_eq_some_iff.1 hy).1; rwa [Array.length_toList,hszm] at this
        rw [hcell i hi] at hy;have hlt:i % ty.n < (enc ty z0).length:=by rw [enc_length]; exact Nat.mod_lt _ hpos
        exact (c2 (i % ty.n) _ y (List.getElem?_eq_getElem hlt) hy).1)
       (fun i j q x y h2 h3 h4=>by
        have hin:i < n.toNat:=by have:=(List.getElem?_eq_some_iff.1 h2).1; simpa [F.fill] using this
        have hj':j < ty.n:=by have:=(List.getElem?_eq_some_iff.1 h3).1; rwa [enc_length] at this
        have hq:q = z0:=by
         simp only [F.fill] at h2;rw [List.getElem?_replicate,if_pos hin] at h2;injection h2 with h2;exact h2.symm
        subst hq;rw [hcell _ (mul_get hin hj')] at h4;rw [show (i * ty.n + j) % ty.n = j by rw [Nat.add_comm,Nat.add_mul_mod_self_right,Nat.mod_eq_of_lt hj']] at h4
        exact (c2 j x y h3 h4).2)
    ·cases hc
   ·cases hc
  ·cases hc
 ·cases hc
theorem buildSlice_post {t:TypeId} {len:Nat} {parts:Array (Nat × Operand)} (hop:o.op = .buildSlice t len parts) (hc:acalm P want h s o = some (v,ob,b)) (hr:Rel E s a w g) (hF:RelF E sl bx a w g) (hd:o.dst = some d) (hdN:d < E.N):o.wpIn (Fr r) 9 P a w (PostF E (slApp sl d v b) (bxApp bx d b)) Q:=by
 unfold acalm at hc;rw [hop] at hc;simp only at hc;split at hc
 ·rename_i e hu;split at hc
  ·rename_i j ty hj hty;split at hc
   ·rename_i z ps hz hps;split at hc
    ·simp at hc
    ·rename_i hj0;split at hc
     ·simp at hc
     ·rename_i hsmall;split at hc
      ·simp at hc
      ·rename_i hsz0;have hsz:j.size = ty.n:=by simpa using hsz0
       split at hc
       ·rename_i cs hf;split at hc
        ·rename_i xs hds;simp at hc;obtain ⟨rfl,_,rfl⟩:=hc;obtain ⟨zv,zi,z1,z2,z3,z4,z5,z6⟩:=zeroCells_sound hz (ctx E g a w) (.slot 0);have hji:zi = j:=by rw [hj] at z1; injection z1 with z1; exact z1.symm
         subst hji;obtain ⟨vs,ev,hlv,hcv⟩:=evalParts_sound hps hr;obtain ⟨f1,f2,f3⟩:=fill_zeros (c:=ctx E g a w) (pl:=.slot 0) (len * zi.size) z4 z6 z5 (by omega)
         obtain ⟨rs,g1,g2,g3,g4⟩:=fillCells_sound (c:=ctx E g a w) (pl:=.slot 0) (fun _ _ h=>h) ps vs _ cs _ hf hlv f1 f2 f3 hcv
         have hlc:cs.length = len * zi.size:=by
          have hfl:∀ (l:List (Nat × List Cell)) (x y:List Cell),fillCells (fun i=>some (i * zi.size,zi.size)) x l = some y -> y.length = x.length:=by
           intro l;induction l with
           | nil=>intro x y hxy; simp [fillCells] at hxy; rw [hxy]
           | cons q l ih=>
            obtain ⟨qi,qv⟩:=q;intro x y hxy;simp only [fillCells] at hxy;split at hxy
            ·rw [ih _ _ hxy];have hsf:∀ (ys:List Cell) (x:List Cell) (i:Nat),(setFrom x i ys).length = x.length:=by
              intro ys;induction ys with
              | nil=>intro x i; rfl
              | cons y ys ih=>intro x i; simp [setFrom,ih]
             exact hsf _ _ _
            ·simp at hxy
          rw [hfl _ _ _ hf];simp [zerosOf]
         have hrun:(execOp a.eval o).run P w = .ok (.value (.slice (some ⟨w.heap.size,0,none⟩) len len)) (w.alloc (.cells rs e)):=by
          have hmap:(parts.map fun q=>(q.1,a.eval q.2)).toList = vs:=by rw [Array.toList_map,<- ev]
          simp only [execOp,hop,Sem.run_bind];by_cases h0:len * zi.size = 0
          ·have hl0:len = 0:=by rcases Nat.mul_eq_zero.1 h0 with h | h <;> omega
           subst hl0;have hp0:parts.map (fun q=>(q.1,a.eval q.2)) = vs.toArray:=by apply Array.toList_inj.1; rw [hmap]
           have r0:Array.range 0 = (#[]:Array Nat):=rfl;rw [Nat.zero_mul,r0,Array.map_empty] at g1;simp [Instr.buildSlice,run_underlying hu,sizeOf,typeInfo,hj,newRow,hp0,r0,g1]
          ·rw [run_buildSlice w t e len _ rs zi zv hu hj z2 (by omega) h0 (by rw [show (parts.map fun (i,x)=>(i,a.eval x)).toList = vs from hmap]; exact g1)]
           rfl
         refine wpIn_value (by rw [hop]; simp) hrun ?_
         rw [hd];have hrs:rs.toList.length = len * ty.n:=by rw [Array.length_toList,g2,hlc,hsz]
         have hpos:0 < zi.size:=by omega
         have hlen2:len <= 16777216:=Nat.le_trans (Nat.le_mul_of_pos_right _ hpos) (by omega)
         have hcl:cs.length = len * ty.n:=by rw [hlc,hsz]
         have hdec:=decs_get hds;rw [chunks_length] at hdec;exact app_row hF hdN (xs:=xs) (us:=rs.toList) (w1:=w) (Below.refl _ _) rfl hdec.1 (Nat.le_refl _) (by simp only [maxLen]; omega) (by rw [<- Array.length_toList,hrs])
          (by rw [List.take_of_length_le (by omega)]) hrs
          (fun i y hy=>by
           have hi:i < cs.length:=by have:=(List.getElem?_eq_some_iff.1 hy).1; omega
           exact (g4 i _ y (List.getElem?_eq_getElem hi) (by simpa using hy)).1)
          (fun i j q x y h2 h3 h4=>((decsChunks (c:=ctx E g a w) (us:=rs.toList) (pl:=.slot 0) hds (by rw [Array.length_toList,g2]) (by rw [hlc,hsz]) (fun i x y hx hy=>g4 i x y hx (by simpa using hy)) h2).2 j x y h3 h4).2)
        ·simp at hc
       ·simp at hc
   ·simp at hc
  ·simp at hc
 ·simp at hc
theorem plain_mono {c c':Ctx} {p q:Place} {x:Cell} {u:Value} (hp:x.plain = true) (h:CV c p x u) (hk:∀ b i v,c.k b i -> c.w.cell? ⟨b,i,none⟩ = some v -> c'.w.cell? ⟨b,i,none⟩ = some v /\ c'.k b i)
  (hk2:∀ b i v,c.kp b i -> c.w.cell? ⟨b,i,none⟩ = some v -> c'.w.cell? ⟨b,i,none⟩ = some v /\ c'.kp b i):CV c' q x u:=by
 cases x with
 | c x=>exact h
 | v x=>exact h
 | nilS=>exact h
 | lst t l=>exact DV.mono hk h
 | dp ds=>obtain ⟨b,off,e,hc⟩:=h; exact ⟨b,off,e,hc.mono hk2 hk⟩
 | dclo f dss=>obtain ⟨as,e,hl,hc⟩:=h; exact ⟨as,e,hl,fun i q ds hq hd=>(hc i q ds hq hd).mono hk hk⟩
 | clo f caps=>
  cases caps with
  | nil=>exact h
  | cons=>simp [Cell.plain] at hp
 | _=>simp [Cell.plain] at hp
theorem shown_mono {c c':Ctx} {p q:Place} {x:Cell} {u:Value} (hp:x.shown = true) (h:CV c p x u) (hk:∀ b i v,c.k b i -> c.w.cell? ⟨b,i,none⟩ = some v -> c'.w.cell? ⟨b,i,none⟩ = some v /\ c'.k b i):CV c' q x u:=by
 cases x with
 | c x=>exact h
 | v x=>exact h
 | nilS=>exact h
 | lst t l=>exact DV.mono hk h
 | dclo f dss=>obtain ⟨as,e,hl,hc⟩:=h; exact ⟨as,e,hl,fun i q ds hq hd=>(hc i q ds hq hd).mono hk hk⟩
 | clo f caps=>
  cases caps with
  | nil=>exact h
  | cons=>simp [Cell.shown,Cell.plain] at hp
 | _=>simp [Cell.shown,Cell.plain] at hp
def lentCtx (w:World) (K:Nat -> Nat -> Prop):Ctx:=⟨w,K,fun _=>.free,fun _=>0,fun _=>none,fun _ _=>True⟩
theorem behind_sound {K KP:Nat -> Nat -> Prop} (hr:Rel E s a w g) (hK:∀ b i,ok E.base E.k0 g.perm b i -> K b i) (hB:∀ n e cs,s.boxes.lookup n = some (e,cs) -> ∀ i,KP (g.ι n) i) {n off:Nat} {ds:List D} (h:behind s n off = some ds):DPV w KP K (g.ι n) off ds:=by
 unfold behind at h;split at h
 ·rename_i e cs hb;injection h with h; subst h
  obtain ⟨us,hh,hl,hc⟩:=hr.norm hb;intro j d hd
  obtain ⟨a1,a2⟩:=toDs_sound (c:=ctx E g a w) (cs:=cs.drop off) (us:=us.drop off) (pl:=fun i=>.box n (off + i)) (fun i x y hx hy=>by
   rw [List.getElem?_drop] at hx hy; exact hc _ x y hx hy)
  have hj:j < (us.drop off).length:=by have:=(List.getElem?_eq_some_iff.1 hd).1; simp at a1 ⊢; omega
  obtain ⟨b1,b2⟩:=a2 j d _ hd (List.getElem?_eq_getElem hj);refine ⟨(us.drop off)[j],?_,hB n e cs (St.box?_eq hb).1 _,b1,b2.mono fun b i v k1 k2=>⟨k2,hK b i k1⟩⟩
  simp [World.cell?,hh]
 ·cases h
theorem behinds_sound {K KP:Nat -> Nat -> Prop} (hr:Rel E s a w g) (hK:∀ b i,ok E.base E.k0 g.perm b i -> K b i) (hB:∀ n e cs,s.boxes.lookup n = some (e,cs) -> ∀ i,KP (g.ι n) i):∀ {caps:List (Nat × Nat)} {l:List (List D)},behinds s caps = some l ->
  l.length = caps.length /\ ∀ (i:Nat) q ds,caps[i]? = some q -> l[i]? = some ds -> DPV w KP K (g.ι q.1) q.2 ds
 | [],l,h=>by simp [behinds] at h; subst h; simp
 | (n,off) :: r,l,h=>by
  simp only [behinds] at h;split at h
  ·rename_i ds l' h1 h2;injection h with h; subst h
   obtain ⟨a1,a2⟩:=behinds_sound hr hK hB h2;refine ⟨by simp [a1],fun i q ds' hq hd=>?_⟩
   cases i with
   | zero=>simp at hq hd; subst hq hd; exact behind_sound hr hK hB h1
   | succ i=>exact a2 i q ds' (by simpa using hq) (by simpa using hd)
  ·cases h
theorem lend_sound {K:Nat -> Nat -> Prop} (hr:Rel E s a w g) (hK:∀ b i,ok E.base E.k0 g.perm b i -> K b i) {x y:Cell} {b:Bool} {u:Value} {p q:Place} (h:lend s x = some (y,b)) (hB:b = true -> ∀ n e cs,s.boxes.lookup n = some (e,cs) -> ∀ i,K (g.ι n) i)
  (hc:CV (ctx E g a w) p x u) (hp:y.plain = true):CV (lentCtx w K) q y u:=by
 have oth:∀ z:Cell,some (z.copy false (.slot 0 0),false) = some (y,b) -> CV (ctx E g a w) p z u -> CV (lentCtx w K) q y u:=fun z hz hcz=>by
  injection hz with hz;injection hz with h1 h2;subst h1;exact plain_mono hp (hcz.copy (q:=p) (want:=false) (fun h=>by cases h)) (fun b i v k1 k2=>⟨k2,hK b i k1⟩) fun b i v k1 k2=>⟨k2,trivial⟩
 unfold lend at h;split at h
 ·rename_i n off;cases hb:behind s n off with
  | none=>simp [hb] at h
  | some ds=>
   simp [hb] at h;obtain ⟨rfl,rfl⟩:=h;exact ⟨_,_,hc,behind_sound hr hK (fun _ _ _ _ _=>trivial) hb⟩
 ·simp at h; obtain ⟨rfl,rfl⟩:=h;exact hc
 ·rename_i f caps _;cases hb:behinds s caps with
  | none=>simp [hb] at h
  | some l=>
   simp [hb] at h;obtain ⟨rfl,rfl⟩:=h;obtain ⟨a1,a2⟩:=behinds_sound hr hK (hB rfl) hb;have hc':u = _:=hc;refine ⟨caps.map fun q=>(g.ι q.1,q.2),?_,by simp [a1],fun i q ds hq hd=>?_⟩
   ·rw [hc',List.map_map]; rfl
   ·rw [List.getElem?_map] at hq;cases hq':caps[i]? with
    | none=>rw [hq'] at hq; cases hq
    | some q0=>rw [hq'] at hq; injection hq with hq; subst hq; exact a2 i q0 ds hq' hd
 ·rename_i n off len cap t;split at h
  ·rename_i e cs hn;split at h
   ·rename_i l hl;split at h
    ·rename_i hcond;rw [Bool.and_eq_true,Bool.and_eq_true] at hcond;have c1:=Nat.le_of_ble_eq_true hcond.1;have c2:=Nat.le_of_ble_eq_true hcond.2.1;have c3:=Nat.le_of_ble_eq_true hcond.2.2;injection h with h;injection h with h1 h2;subst h1; subst h2;have hu:u = .slice (some ⟨g.ι n,off,none⟩) len cap:=hc;obtain ⟨us,hh,hul,hcs⟩:=hr.norm hn;have hll:l.length = len:=by have:=(decs_get hl).1; rwa [chunks_length] at this
     have hlen2:((cs.drop off).take (len * t.n)).length = len * t.n:=by simp; omega
     have el:=fun (i:Nat) x hx=>decsChunks (c:=ctx E g a w) (us:=(us.drop off).take (len * t.n)) (pl:=fun q=>.box n (off + q)) (i:=i) (x:=x) hl (by simp [hul]) hlen2 (fun q z z' hz hz'=>by
      rw [List.getElem?_take] at hz hz';split at hz
      ·rename_i hq; rw [if_pos hq] at hz'; rw [List.getElem?_drop] at hz hz'; exact hcs _ z z' hz hz'
      ·simp at hz) hx
     have cell:∀ i j,i < l.length -> j < t.n -> ∃ y,us[off + (i * t.n + j)]? = some y /\ w.cell? ⟨g.ι n,off + i * t.n + j,none⟩ = some y:=fun i j hi hj=>by
      have hlt:=mul_get (n:=l.length) hi hj;rw [hll] at hlt;refine ⟨_,List.getElem?_eq_getElem (by omega),?_⟩
      simp only [World.cell?,hh];rw [Nat.add_assoc];simp
     show DV w K (.lst t l) u;rw [hu,<- hll];refine DV.lst t l _ off cap (fun i j=>(us[off + (i * t.n + j)]?).getD undef) (fun i j hi hj=>?_) (fun i j hi hj=>?_) (fun i j x d hx hd=>?_) (by omega) c3
     ·obtain ⟨y,y1,y2⟩:=cell i j hi hj;rw [y1,y2];exact ⟨rfl,hB rfl n e cs (St.box?_eq hn).1 _⟩
     ·obtain ⟨y,y1,y2⟩:=cell i j hi hj;obtain ⟨_,e2⟩:=el i _ (List.getElem?_eq_getElem hi);have hlt:=mul_get (n:=l.length) hi hj;rw [hll] at hlt;have:=(e2 j _ y (List.getElem?_eq_getElem (by rw [enc_length]; exact hj)) (by rw [List.getElem?_take,if_pos hlt,List.getElem?_drop]; exact y1)).1
      rw [y1]; exact this
     ·have hi:=(List.getElem?_eq_some_iff.1 hx).1;have hj:j < t.n:=by have:=(List.getElem?_eq_some_iff.1 hd).1; rwa [enc_length] at this
      obtain ⟨y,y1,y2⟩:=cell i j hi hj;obtain ⟨_,e2⟩:=el i x hx;have hlt:=mul_get (n:=l.length) hi hj;rw [hll] at hlt;have:=(e2 j d y hd (by rw [List.getElem?_take,if_pos hlt,List.getElem?_drop]; exact y1)).2
      rw [y1];exact this.mono fun b i v k1 k2=>⟨k2,hK b i k1⟩
    ·cases h
   ·cases h
  ·cases h
 ·exact oth _ h hc
theorem lends_sound {K:Nat -> Nat -> Prop} (hr:Rel E s a w g) (hK:∀ b i,ok E.base E.k0 g.perm b i -> K b i):∀ {cs ys:List Cell} {b:Bool} {us:List Value} {pl:Nat -> Place},lends s cs = some (ys,b) -> (b = true -> ∀ n e cs,s.boxes.lookup n = some (e,cs) -> ∀ i,K (g.ι n) i) ->
  (∀ (i:Nat) x y,cs[i]? = some x -> us[i]? = some y -> y.oneCell' = true /\ CV (ctx E g a w) (pl i) x y) -> ys.all Cell.plain = true -> us.length = cs.length ->
  us.length = ys.length /\ ∀ (i:Nat) x y,ys[i]? = some x -> us[i]? = some y -> y.oneCell' = true /\ CV (lentCtx w K) (.slot 0 i) x y
 | [],ys,b,us,pl,h,hB,hc,hp,hl=>by simp [lends] at h; obtain ⟨rfl,_⟩:=h; simpa using hl
 | x :: r,ys,b,us,pl,h,hB,hc,hp,hl=>by
  simp only [lends] at h;split at h
  ·rename_i y b1 l c1 h1 h2;injection h with h;injection h with h3 h4;subst h3; subst h4;simp only [List.all_cons,Bool.and_eq_true] at hp
   match us,hl with
   | u :: us,hl=>
    obtain ⟨a1,a2⟩:=lends_sound (us:=us) (pl:=fun i=>pl (i + 1)) hr hK h2 (fun hc1=>hB (by rw [hc1]; simp)) (fun i x y hx hy=>hc (i + 1) x y (by simpa using hx) (by simpa using hy)) hp.2 (by simpa using hl)
    refine ⟨by simp [a1],fun i x' y' hx hy=>?_⟩
    cases i with
    | zero=>
     simp at hx hy; subst hx hy;obtain ⟨k1,k2⟩:=hc 0 x u rfl rfl;exact ⟨k1,lend_sound hr hK h1 (fun hb1=>hB (by rw [hb1]; simp)) k2 hp.1⟩
    | succ i=>
     obtain ⟨k1,k2⟩:=a2 i x' y' (by simpa using hx) (by simpa using hy)
     refine ⟨k1,plain_mono ?_ k2 (fun _ _ _ h1 h2=>⟨h2,h1⟩) (fun _ _ _ h1 h2=>⟨h2,h1⟩)⟩
     have:=hp.2;rw [List.all_eq_true] at this;exact this x' (List.mem_of_getElem? (by simpa using hx))
  ·cases h
theorem evalArgs_sound {K:Nat -> Nat -> Prop} (hr:Rel E s a w g) (hK:∀ b i,ok E.base E.k0 g.perm b i -> K b i):∀ {l:List Operand} {args:List SV} {b:Bool},evalArgs s l = some (args,b) -> (b = true -> ∀ n e cs,s.boxes.lookup n = some (e,cs) -> ∀ i,K (g.ι n) i) -> args.all (fun v=>v.cs.all Cell.plain) = true ->
  args.length = l.length /\ ∀ (i:Nat) x y,args[i]? = some x -> (l.map a.eval)[i]? = some y -> ∃ pl,SVR (lentCtx w K) pl x y
 | [],args,b,h,_,_=>by simp [evalArgs] at h; obtain ⟨rfl,_⟩:=h; simp
 | x :: r,args,b,h,hB,hp=>by
  simp only [evalArgs] at h;split at h
  ·rename_i z hz;split at h
   ·rename_i cs b1 l c1 h1 h2;injection h with h;injection h with h3 h4;subst h3; subst h4;simp only [List.all_cons,Bool.and_eq_true] at hp;obtain ⟨l1,l2⟩:=evalArgs_sound hr hK h2 (fun hc1=>hB (by rw [hc1]; simp)) hp.2
    refine ⟨by simp [l1],fun i q y hq hy=>?_⟩
    cases i with
    | zero=>
     simp at hq hy; subst hq hy;obtain ⟨us,e1,e2,e3,e4⟩:=hr.eval hz;obtain ⟨k1,k2⟩:=lends_sound hr hK h1 (fun hb1=>hB (by rw [hb1]; simp)) e4 hp.1 e3
     exact ⟨_,us,e1,e2,k1,k2⟩
    | succ i=>exact l2 i q y (by simpa using hq) (by simpa using hy)
   ·cases h
  ·cases h
theorem callee_sound {K:Nat -> Nat -> Prop} (hr:Rel E s a w g) (hK:∀ b i,ok E.base E.k0 g.perm b i -> K b i) {f:Operand} {fv:SV} {fn:Nat} {caps:List SV} {b:Bool} (hf:evalO s f = some fv) (h:callee s fv = some (fn,caps,b)) (hB:b = true -> ∀ n e cs,s.boxes.lookup n = some (e,cs) -> ∀ i,K (g.ι n) i) :
  ∃ us:List Value,a.eval f = .func (.func fn) #[] us.toArray /\ us.length = caps.length /\ ∀ (i:Nat) x y,caps[i]? = some x -> us[i]? = some y -> ∃ pl,SVR (lentCtx w K) pl x y:=by
 have dps:∀ (as:List (Nat × Nat)) (l:List (List D)),as.length = l.length -> (∀ (i:Nat) q ds,as[i]? = some q -> l[i]? = some ds -> DPV w (fun _ _=>True) K q.1 q.2 ds) -> ∀ (i:Nat) x y,(l.map fun ds=>one (.dp ds))[i]? = some x -> (as.map fun q=>Value.pointer (some ⟨q.1,q.2,none⟩))[i]? = some y -> ∃ pl,SVR (lentCtx w K) pl x y:=fun as l hl hd i x y hx hy=>by
  rw [List.getElem?_map] at hx hy;cases h1:l[i]? with
  | none=>rw [h1] at hx; cases hx
  | some ds=>
   cases h2:as[i]? with
   | none=>rw [h2] at hy; cases hy
   | some q=>
    rw [h1] at hx; rw [h2] at hy;injection hx with hx; injection hy with hy
    subst hx; subst hy;exact ⟨.slot 0,SVR.of_one rfl ⟨_,_,rfl,hd i q ds h2 h1⟩⟩
 unfold callee at h;split at h
 ·simp at h; obtain ⟨rfl,rfl,rfl⟩:=h;exact ⟨[],(hr.eval hf).one.2,rfl,by simp⟩
 ·rename_i fn' cp _;cases hb:behinds s cp with
  | none=>simp [hb] at h
  | some l=>
   simp [hb] at h;obtain ⟨rfl,rfl,rfl⟩:=h;obtain ⟨a1,a2⟩:=behinds_sound (KP:=fun _ _=>True) hr hK (fun _ _ _ _ _=>trivial) hb
   have e:a.eval f = _:=(hr.eval hf).one.2;refine ⟨(cp.map fun q=>(g.ι q.1,q.2)).map fun q=>Value.pointer (some ⟨q.1,q.2,none⟩),?_,by simp [a1],dps _ _ (by simp [a1]) fun i q ds hq hd=>?_⟩
   ·rw [e,List.map_map]; rfl
   ·rw [List.getElem?_map] at hq;cases hq':cp[i]? with
    | none=>rw [hq'] at hq; cases hq
    | some q0=>rw [hq'] at hq; injection hq with hq; subst hq; exact a2 i q0 ds hq' hd
 ·simp at h; obtain ⟨rfl,rfl,rfl⟩:=h;obtain ⟨as,e,hl,hc⟩:=(hr.eval hf).one.2;exact ⟨_,e,by simp [hl],dps as _ hl fun i q ds hq hd=>(hc i q ds hq hd).mono (fun b i v k1 k2=>⟨k2,trivial⟩) fun b i v k1 k2=>⟨k2,hK b i k1⟩⟩
 ·cases h
def reloc (d:Nat):Perm -> Perm
 | .row (.slot 0 i) tip=>.row (.slot d i) tip
 | .row p tip=>.row p tip
 | _=>.free
theorem okp_reloc {perm:Nat -> Perm} {d b i:Nat} (h:okp perm b i):okp (fun b=>reloc d (perm b)) b i:=by
 unfold okp at h ⊢;dsimp only;cases hp:perm b with
 | free=>exact trivial
 | box n=>rw [hp] at h; exact h.elim
 | row p tip=>
  rw [hp] at h;cases p with
  | slot t j=>
   cases t with
   | zero=>exact h
   | succ t=>exact h
  | box n j=>exact h
theorem res_sound {w w':World} {perm:Nat -> Perm} {rv:SV} {u:Value} (hr:Rel E s a w g) (hb:Below w.heap.size w w') (hlo:∀ b,perm b ≠ .free -> w.heap.size <= b /\ b < w'.heap.size)
  (hres:rv.cs.all Cell.res = true) (hv:SVR ⟨w',ok w.heap.size (ok E.base E.k0 g.perm) perm,perm,fun _=>0,fun _=>none,ok w.heap.size (ok E.base E.k0 g.perm) perm⟩ (.slot 0) rv u) :
  SVR (ctx E ⟨g.ι,fun b=>if b < w.heap.size then g.perm b else reloc d (perm b),g.dy⟩ a w') (.slot d) rv u:=by
 obtain ⟨us,hu,hf,hl,hc⟩:=hv;refine ⟨us,hu,hf,hl,fun i x y hx hy=>⟨(hc i x y hx hy).1,?_⟩⟩
 have h2:=(hc i x y hx hy).2;have hxr:x.res = true:=by rw [List.all_eq_true] at hres; exact hres x (List.mem_of_getElem? hx)
 have hk:∀ b i v,ok w.heap.size (ok E.base E.k0 g.perm) perm b i -> w'.cell? ⟨b,i,none⟩ = some v -> w'.cell? ⟨b,i,none⟩ = some v /\ ok E.base E.k0 (fun b=>if b < w.heap.size then g.perm b else reloc d (perm b)) b i:=fun b i v k1 k2=>by
  refine ⟨k2,?_⟩;have hbase:=hr.base;by_cases hbl:b < w.heap.size
  ·simp only [ok,if_pos hbl] at k1;simp only [ok,okp,if_pos hbl];exact k1
  ·simp only [ok,if_neg hbl] at k1;simp only [ok];rw [if_neg (show ¬ b < E.base by omega)]
   have:=okp_reloc (d:=d) k1;simp only [okp,if_neg hbl] at this ⊢;exact this
 have hk2:∀ b i v,ok w.heap.size (ok E.base E.k0 g.perm) perm b i -> w'.cell? ⟨b,i,none⟩ = some v -> w'.cell? ⟨b,i,none⟩ = some v /\ kpOf E.base E.lent (ok E.base E.k0 (fun b=>if b < w.heap.size then g.perm b else reloc d (perm b))) b i:=fun b i v k1 k2=>⟨k2,.inr (hk b i v k1 k2).2⟩
 cases x with
 | own e t l=>
  obtain ⟨k1,k3,k4⟩:=h2;refine ⟨k1,DV.mono hk k3,fun b hbb=>?_⟩
  have hp:=k4 b hbb;simp only at hp;have hbl:=(hlo b (by rw [hp]; simp)).1
  simp only [ctx];rw [if_neg (by omega),hp]
  rfl
 | c x=>exact plain_mono hxr h2 hk hk2
 | v x=>exact plain_mono hxr h2 hk hk2
 | nilS=>exact plain_mono hxr h2 hk hk2
 | lst t l=>exact plain_mono hxr h2 hk hk2
 | clo f caps=>exact plain_mono hxr h2 hk hk2
 | dp ds=>exact plain_mono hxr h2 hk hk2
 | dclo f dss=>exact plain_mono hxr h2 hk hk2
 | ali=>simp [Cell.res,Cell.plain] at hxr
 | ptr=>simp [Cell.res,Cell.plain] at hxr
 | yld=>simp [Cell.res,Cell.plain] at hxr
 | sp=>simp [Cell.res,Cell.plain] at hxr
 | pe=>simp [Cell.res,Cell.plain] at hxr
 | re=>simp [Cell.res,Cell.plain] at hxr
 | imm=>simp [Cell.res,Cell.plain] at hxr
 | arr=>simp [Cell.res,Cell.plain] at hxr
theorem loose_res {w':World} {perm:Nat -> Perm} {K:Nat -> Nat -> Prop} {q:Cell} {z:Value} {i:Nat} (hr:Rel E s a w g) (hlo:∀ b,perm b ≠ .free -> w.heap.size <= b /\ b < w'.heap.size) (hq:q.loose = true)
  (h:CV ⟨w',ok w.heap.size K perm,perm,fun _=>0,fun _=>none,ok w.heap.size K perm⟩ (.slot 0 i) q z):CV ⟨w',ok w.heap.size (ok E.base E.k0 g.perm) perm,perm,fun _=>0,fun _=>none,ok w.heap.size (ok E.base E.k0 g.perm) perm⟩ (.slot 0 i) q z:=by
 cases q with
 | own e t l=>
  obtain ⟨h1,h2,h3⟩:=h;refine ⟨h1,h2.flat hq fun b j v hb k1 k2=>⟨k2,?_⟩,h3⟩
  have hp:=h3 b hb;have hbl:=(hlo b (by simp only at hp; rw [hp]; simp)).1
  simp only [ok,if_neg (show ¬ b < w.heap.size by omega)] at k1 ⊢
  exact k1
 | c x=>exact h
 | v x=>exact h
 | clo f caps=>
  cases caps with
  | nil=>exact h
  | cons=>simp [Cell.loose,Cell.scal] at hq
 | _=>simp [Cell.loose,Cell.scal] at hq
theorem callV_post {c:Call} {f:Operand} {rv:SV} (hop:o.op = .call c) (hcal:c.callee = .value f) (hc:callV P h s f c.args.toList = some (rv,ob)) (hob:ob)
  (hr:Rel E s a w g) (hF:RelF E sl bx a w g) (hd:o.dst = some d) (hdN:d < E.N) (hvr:rv.refs d = false) :
  o.wpIn (Fr r) 9 P a w (PostF E (slApp sl d rv none) (bxApp bx d none)) Q:=by
 unfold callV at hc;split at hc
 ·rename_i r0 ob0 fv hf;split at hc
  ·rename_i fn caps b as c1 hca hargs;split at hc
   ·rename_i hcond;injection hc with hc;injection hc with h1 h2;subst h1; subst h2;rw [Bool.and_eq_true,Bool.and_eq_true] at hcond;obtain ⟨⟨hpl,hres⟩,hsc⟩:=hcond;obtain ⟨args',⟨hwl,hw⟩,hpl',hent,hcall⟩:=hob
    let K:Nat -> Nat -> Prop:=fun x i=>ok E.base E.k0 g.perm x i \/ ((b || c1) = true /\ ∃ n,g.perm x = .box n)
    have hK:∀ x i,ok E.base E.k0 g.perm x i -> K x i:=fun x i h=>.inl h
    have hB:(b || c1) = true -> ∀ n e cs,s.boxes.lookup n = some (e,cs) -> ∀ i,K (g.ι n) i:=fun hh n e cs hn i=>.inr ⟨hh,n,(hr.boxes n e cs hn).1⟩
    rw [List.all_append,Bool.and_eq_true] at hpl;obtain ⟨hal,hav⟩:=evalArgs_sound hr hK hargs (fun hc1=>hB (by rw [hc1]; simp)) hpl.1
    obtain ⟨us,hfv,hul,huc⟩:=callee_sound hr hK hf hca (fun hb1=>hB (by rw [hb1]; simp))
    have hrun:(execOp a.eval o).run P w = .ok (.enter fn (c.args.toList.map a.eval ++ us).toArray) w:=by
     simp only [execOp,hop,resolve,hcal,hfv,Sem.run_bind,Deferred.ofValue,Sem.run_pure,Result.andThen_ok,invoke];have he:(c.args.map a.eval ++ us.toArray:Array Value) = (c.args.toList.map a.eval ++ us).toArray:=by apply Array.toList_inj.1; simp
     have:=hent (c.args.toList.map a.eval ++ us).toArray w;rw [<- he] at this ⊢;simpa using this
    refine wpIn_enter (by rw [hop]; simp) hrun ?_
    have hall:∀ (i:Nat) x y,(as ++ caps)[i]? = some x -> (c.args.toList.map a.eval ++ us)[i]? = some y -> ∃ pl,SVR (lentCtx w K) pl x y:=fun i x y hx hy=>by
     have hml:(c.args.toList.map a.eval).length = as.length:=by simp [hal]
     by_cases hi:i < as.length
     ·rw [List.getElem?_append_left hi] at hx;rw [List.getElem?_append_left (by omega)] at hy
      exact hav i x y hx hy
     ·rw [List.getElem?_append_right (by omega)] at hx
      rw [List.getElem?_append_right (by omega),hml] at hy
      exact huc _ x y hx hy
    have hcl:=hcall r w K (c.args.toList.map a.eval ++ us) (by rw [<- hwl]; simp [hal,hul]) (fun i x y hx hy=>by
     have hi:i < (as ++ caps).length:=by rw [hwl]; exact (List.getElem?_eq_some_iff.1 hx).1
     obtain ⟨pl,hs⟩:=hall i _ y (List.getElem?_eq_getElem hi) hy;obtain ⟨pl',hs'⟩:=hw i _ x (List.getElem?_eq_getElem hi) hx _ pl y hs;refine hs'.place ?_;rw [List.any_eq_false];intro q hq;rw [List.all_eq_true] at hpl';have:=hpl' x (List.mem_of_getElem? hx);rw [List.all_eq_true] at this;have:=this q hq
     cases q <;> simp_all [Cell.plain,Cell.isOwn])
    refine hcl.mono fun e w' he=>?_
    obtain ⟨u,perm,rfl,hb,hlo,hv⟩:=he;refine ⟨u,rfl,⟨g.ι,fun b=>if b < w.heap.size then g.perm b else reloc d (perm b),g.dy⟩,?_⟩
    rw [hd];refine appF_grow hF hdN hb (fun b hbl=>by rw [if_pos hbl]) (fun b hbl hf=>?_) ?_ hvr
    ·rw [if_neg (by omega)] at hf
     refine (hlo b fun h0=>hf ?_).2
     rw [h0]; rfl
    ·cases hlent:(b || c1) with
     | false=>
      have hKe:∀ x i,K x i -> ok E.base E.k0 g.perm x i:=fun x i h=>by
       rcases h with h | ⟨h,_⟩
       ·exact h
       ·rw [hlent] at h; cases h
      have hkk:∀ b i v,ok w.heap.size K perm b i -> w'.cell? ⟨b,i,none⟩ = some v -> w'.cell? ⟨b,i,none⟩ = some v /\ ok w.heap.size (ok E.base E.k0 g.perm) perm b i:=fun b i v k1 k2=>by
       refine ⟨k2,?_⟩;simp only [ok] at k1 ⊢;split
       ·rename_i hlt; rw [if_pos hlt] at k1; exact hKe _ _ k1
       ·rename_i hlt; rw [if_neg hlt] at k1; exact k1
      exact res_sound hr hb hlo hres (hv.mono (c':=⟨w',ok w.heap.size (ok E.base E.k0 g.perm) perm,perm,fun _=>0,fun _=>none,ok w.heap.size (ok E.base E.k0 g.perm) perm⟩) hkk hkk (fun _ _ _ _ _ _ _ h=>⟨h,rfl⟩) (fun _ _ _ _=>rfl) (fun _ _ _ _ _ h=>h))
     | true=>
      rw [hlent] at hsc;simp at hsc;obtain ⟨us2,e1,e2,e3,e4⟩:=hv;refine res_sound hr hb hlo hres ⟨us2,e1,e2,e3,fun i q z hq hz=>⟨(e4 i q z hq hz).1,loose_res hr hlo ?_ (e4 i q z hq hz).2⟩⟩
      exact hsc q (List.mem_of_getElem? hq)
   ·cases hc
  ·cases hc
 ·cases hc
theorem fresh_notOwn {x:Cell} (h:x.fresh = true):x.isOwn = false:=by cases x <;> first | rfl | simp [Cell.fresh] at h
theorem fresh_target {x:Cell} (h:x.fresh = true):x.target = none:=by cases x <;> first | rfl | simp [Cell.fresh] at h
theorem fresh_mono {c c':Ctx} {p q:Place} {x:Cell} {u:Value} (hx:x.fresh = true) (h:CV c p x u) (hk:∀ b i v,c.k b i -> c.w.cell? ⟨b,i,none⟩ = some v -> c'.w.cell? ⟨b,i,none⟩ = some v /\ c'.k b i) (hm:∀ k u,Imm c.w k u -> Imm c'.w k u):CV c' q x u:=by
 cases x with
 | c x=>exact h
 | v x=>exact h
 | nilS=>exact h
 | lst t l=>exact DV.mono hk h
 | imm k=>exact hm k u h
 | clo f caps=>
  cases caps with
  | nil=>exact h
  | cons=>simp [Cell.fresh] at hx
 | _=>simp [Cell.fresh] at hx
theorem callN_post {c:Call} {f:Operand} {e:Nat} {cs:List Cell} (hop:o.op = .call c) (hcal:c.callee = .value f) (hc:callN P s e cs f c.args.toList = some ob) (hob:ob)
  (hr:Rel E s a w g) (hF:RelF E sl bx a w g) (hd:o.dst = some d) (hdN:d < E.N) :
  o.wpIn (Fr r) 9 P a w (PostF E (slApp sl d ⟨.one,[.ptr d 0]⟩ (some (e,cs))) (bxApp bx d (some (e,cs)))) Q:=by
 unfold callN at hc;split at hc
 ·rename_i fv hf;split at hc
  ·rename_i fn caps b as c1 hca hargs;split at hc
   ·rename_i hcond;injection hc with h2;subst h2;rw [Bool.and_eq_true,Bool.and_eq_true,Bool.not_eq_true'] at hcond;obtain ⟨⟨hpl,hfr⟩,hnl⟩:=hcond;obtain ⟨args',⟨hwl,hw⟩,hpl',hent,hcall⟩:=hob;rw [Bool.or_eq_false_iff] at hnl;obtain ⟨rfl,rfl⟩:=hnl;have hK:∀ x i,ok E.base E.k0 g.perm x i -> ok E.base E.k0 g.perm x i:=fun x i h=>h
    rw [List.all_append,Bool.and_eq_true] at hpl;obtain ⟨hal,hav⟩:=evalArgs_sound hr hK hargs (fun h=>by cases h) hpl.1
    obtain ⟨us,hfv,hul,huc⟩:=callee_sound hr hK hf hca (fun h=>by cases h)
    have hrun:(execOp a.eval o).run P w = .ok (.enter fn (c.args.toList.map a.eval ++ us).toArray) w:=by
     simp only [execOp,hop,resolve,hcal,hfv,Sem.run_bind,Deferred.ofValue,Sem.run_pure,Result.andThen_ok,invoke];have he:(c.args.map a.eval ++ us.toArray:Array Value) = (c.args.toList.map a.eval ++ us).toArray:=by apply Array.toList_inj.1; simp
     have:=hent (c.args.toList.map a.eval ++ us).toArray w;rw [<- he] at this ⊢;simpa using this
    refine wpIn_enter (by rw [hop]; simp) hrun ?_
    have hall:∀ (i:Nat) x y,(as ++ caps)[i]? = some x -> (c.args.toList.map a.eval ++ us)[i]? = some y -> ∃ pl,SVR (lentCtx w (ok E.base E.k0 g.perm)) pl x y:=fun i x y hx hy=>by
     have hml:(c.args.toList.map a.eval).length = as.length:=by simp [hal]
     by_cases hi:i < as.length
     ·rw [List.getElem?_append_left hi] at hx;rw [List.getElem?_append_left (by omega)] at hy
      exact hav i x y hx hy
     ·rw [List.getElem?_append_right (by omega)] at hx
      rw [List.getElem?_append_right (by omega),hml] at hy
      exact huc _ x y hx hy
    have hcl:=hcall r w (ok E.base E.k0 g.perm) (c.args.toList.map a.eval ++ us) (by rw [<- hwl]; simp [hal,hul]) (fun i x y hx hy=>by
     have hi:i < (as ++ caps).length:=by rw [hwl]; exact (List.getElem?_eq_some_iff.1 hx).1
     obtain ⟨pl,hs⟩:=hall i _ y (List.getElem?_eq_getElem hi) hy;obtain ⟨pl',hs'⟩:=hw i _ x (List.getElem?_eq_getElem hi) hx _ pl y hs;refine hs'.place ?_;rw [List.any_eq_false];intro q hq;rw [List.all_eq_true] at hpl';have:=hpl' x (List.mem_of_getElem? hx);rw [List.all_eq_true] at this;have:=this q hq
     cases q <;> simp_all [Cell.plain,Cell.isOwn])
    refine hcl.mono fun ee w' he=>?_
    obtain ⟨b,n0,us1,perm,rfl,hb,hlo,hpb,hheap,hlen,hcv⟩:=he;have hbs:=hlo b (by rw [hpb]; simp)
    refine ⟨_,rfl,?_⟩;rw [hd];rw [Bool.and_eq_true,List.all_eq_true,decide_eq_true_iff] at hfr;obtain ⟨hfr,hesp⟩:=hfr
    let perm':Nat -> Perm:=fun x=>if x < w.heap.size then g.perm x else if x = b then .box d else reloc d (perm x)
    let g':Gh:=⟨fun n=>if n = d then b else g.ι n,perm',g.dy⟩
    have hno:cs.any Cell.isOwn = false:=by
     rw [List.any_eq_false];intro x hx;rw [fresh_notOwn (hfr x hx)];simp
    refine ⟨g',appF_made hF hdN (g':=g') (w':=w') hb (fun n hn=>if_neg hn) (fun x hx=>if_pos hx) (fun x hx hf=>?_) rfl rfl (by show (if d = d then b else g.ι d) = b; rw [if_pos rfl]) (by show (if b < w.heap.size then g.perm b else if b = b then Perm.box d else reloc d (perm b)) = _; rw [if_neg (by omega),if_pos rfl]) (fun x hx=>fresh_target (hfr x hx)) (.mk hesp ⟨_,hheap,hlen,fun i x y hx hy=>⟨(hcv i x y hx hy).1,?_⟩⟩)⟩
    ·by_cases hxb:x = b
     ·subst hxb; exact hbs.2
     ·have hf:perm' x ≠ .free:=hf;simp only [perm'] at hf;rw [if_neg (by omega),if_neg hxb] at hf
      refine (hlo x fun h0=>hf ?_).2
      rw [h0]; rfl
    ·refine fresh_mono (hfr x (List.mem_of_getElem? hx)) (hcv i x y hx hy).2 (fun p j v k1 k2=>⟨k2,?_⟩) (fun _ _ h=>h)
     have k1:ok w.heap.size (ok E.base E.k0 g.perm) perm p j:=k1;show ok E.base E.k0 perm' p j;have hbase:=hr.base;by_cases hpl:p < w.heap.size
     ·simp only [ok,if_pos hpl] at k1;simp only [ok,okp,perm',if_pos hpl];exact k1
     ·simp only [ok,if_neg hpl] at k1;simp only [ok];rw [if_neg (show ¬ p < E.base by omega)]
      by_cases hpb':p = b
      ·subst hpb';simp only [okp,hpb] at k1
      ·have:=okp_reloc (d:=d) k1;simp only [okp,perm',if_neg hpl,if_neg hpb'] at this ⊢;exact this
   ·cases hc
  ·cases hc
 ·cases hc
theorem appF_imm (hF:RelF E sl bx a w g) (hdN:d < E.N) {k:Nat} {u:Value} {ob:Obj} (h1:u.oneCell' = true) (hi:Imm (w.alloc ob) k u):RelF E (slApp sl d ⟨.one,[.imm k]⟩ none) (bxApp bx d none) (a.put (some d) u) (w.alloc ob) ⟨g.ι,g.perm,g.dy⟩:=
 appF_grow hF hdN ((Below.refl _ _).alloc (Nat.le_refl _) _) (fun _ _=>rfl) (fun b hb hf=>by have:=(hF.lo b hf).2; omega) (SVR.of_one h1 hi) rfl
theorem makeMap_post {t:TypeId} (hop:o.op = .makeMap t none) (hc:acalm P want h s o = some (v,ob,b)) (hr:Rel E s a w g) (hF:RelF E sl bx a w g) (hd:o.dst = some d) (hdN:d < E.N):o.wpIn (Fr r) 9 P a w (PostF E (slApp sl d v b) (bxApp bx d b)) Q:=by
 unfold acalm at hc;rw [hop] at hc;simp only at hc;split at hc
 ·simp only [Option.some.injEq,Prod.mk.injEq] at hc;obtain ⟨rfl,rfl,rfl⟩:=hc;have hrun:(execOp a.eval o).run P w = .ok (.value (.map (some w.heap.size))) (w.alloc (.map #[] 0)):=by
   simp only [execOp,hop,Sem.run_bind];rfl
  refine wpIn_value (by rw [hop]; simp) hrun ?_
  rw [hd];exact ⟨_,appF_imm hF hdN rfl ⟨_,rfl,heap_alloc_new w _⟩⟩
 ·cases hc
theorem range_post {t:TypeId} {x:Operand} (hop:o.op = .range t x) (hc:acalm P want h s o = some (v,ob,b)) (hr:Rel E s a w g) (hF:RelF E sl bx a w g) (hd:o.dst = some d) (hdN:d < E.N):o.wpIn (Fr r) 9 P a w (PostF E (slApp sl d v b) (bxApp bx d b)) Q:=by
 unfold acalm at hc;rw [hop] at hc;simp only at hc;split at hc
 ·rename_i kt vt hu hx;simp only [Option.some.injEq,Prod.mk.injEq] at hc;obtain ⟨rfl,rfl,rfl⟩:=hc;obtain ⟨m,e1,hm⟩:=(hr.eval hx).one.2;have hm:w.heap[m]? = some (.map #[] 0):=hm;have hl:m < w.heap.size:=(Array.getElem?_eq_some_iff.1 hm).1;have hrun:(execOp a.eval o).run P w = .ok (.value (.pointer (some ⟨w.heap.size,0,none⟩))) (w.alloc (.mapIter (some m) 0 #[] 0)):=by
   have:=run_range_map (P:=P) w t kt vt m #[] 0 hu hm;simp only [execOp,hop,Sem.run_bind,e1,this];rfl
  refine wpIn_value (by rw [hop]; simp) hrun ?_
  rw [hd];exact ⟨_,appF_imm hF hdN rfl ⟨_,m,rfl,heap_alloc_new w _,(((Below.refl w.heap.size w).alloc (Nat.le_refl _) _).block m hl).trans hm⟩⟩
 ·cases hc
theorem acalm_sound (hc:acalm P want h s o = some (v,ob,b)) (hob:ob) (hr:Rel E s a w g) (hF:RelF E sl bx a w g) (hd:o.dst = some d) (hdN:d < E.N) (hvr:v.refs d = false):o.wpIn (Fr r) 9 P a w (PostF E (slApp sl d v b) (bxApp bx d b)) Q:=by
 have fin:∀ (h:Option Hint),((aval P want h s o.op).map fun q=>(q.1,q.2.P,(none:Option (Nat × List Cell)))) = some (v,ob,b) -> (∀ c,o.op ≠ .defer c) -> o.wpIn (Fr r) 9 P a w (PostF E (slApp sl d v b) (bxApp bx d b)) Q:=fun h hv hnd=>by
  cases h1:aval P want h s o.op with
  | none=>simp [h1] at hv
  | some q=>
   simp only [h1,Option.map_some,Option.some.injEq,Prod.mk.injEq] at hv;obtain ⟨rfl,rfl,rfl⟩:=hv;exact aval_post h1 hob hr hF hd hdN hvr hnd
 have bool:∀ (bb:Bool),(match aval P want none s o.op with
    | some (⟨.one,[.v (.bool x)]⟩,ob)=>some ((⟨.one,[.c (.bool bb)]⟩:SV),ob.P /\ x = bb,(none:Option (Nat × List Cell)))
    | _=>none) = some (v,ob,b) -> (∀ c,o.op ≠ .defer c) -> o.wpIn (Fr r) 9 P a w (PostF E (slApp sl d v b) (bxApp bx d b)) Q:=fun bb hv hnd=>by
  split at hv
  ·rename_i x ob1 h1;simp only [Option.some.injEq,Prod.mk.injEq] at hv;obtain ⟨rfl,rfl,rfl⟩:=hv;obtain ⟨h2,rfl⟩:=hob;obtain ⟨u,k1,k2,_⟩:=aval_sound (pl:=.slot d) h1 h2 hr;exact wpIn_value hnd k1 ⟨g,by rw [hd]; exact appF_put hF hdN (SVR.of_one k2.one.1 k2.one.2) rfl⟩
  ·cases hv
 have hc0:=hc;unfold acalm at hc;split at hc
 ·rename_i e hop; exact alloc_post hop hc0 hr hF hd hdN
 ·rename_i e x hop; exact box_post hop hc0 hr hF hd hdN
 ·rename_i t len parts hop; exact buildSlice_post hop hc0 hr hF hd hdN
 ·rename_i t hop; exact makeMap_post hop hc0 hr hF hd hdN
 ·rename_i t x hop; exact range_post hop hc0 hr hF hd hdN
 ·rename_i t x y hop; exact makeSlice_post hop hc0 hob hr hF hd hdN
 ·rename_i c hop;split at hc
  ·rename_i f hcal;unfold callW at hc;split at hc
   ·rename_i e cs d' hd';rw [hd] at hd';injection hd' with hd'
    subst hd';cases hcv:callN P s e cs f c.args.toList with
    | none=>rw [hcv] at hc; cases hc
    | some q=>
     rw [hcv] at hc;simp only [Option.map_some,Option.some.injEq,Prod.mk.injEq] at hc;obtain ⟨rfl,rfl,rfl⟩:=hc;exact callN_post hop hcal hcv hob hr hF hd hdN
   ·rw [Option.map_eq_some_iff] at hc;obtain ⟨q,hcv,hc⟩:=hc;simp only [Prod.mk.injEq] at hc;obtain ⟨rfl,rfl,rfl⟩:=hc;exact callV_post hop hcal hcv hob hr hF hd hdN hvr
  ·split at hc
   ·exact bool _ hc (by rw [hop]; simp)
   ·exact fin _ hc (by rw [hop]; simp)
 ·rename_i op hop1 hop2 hop3 hop6 hop7 hop5 hop4;have hnd:∀ c,o.op ≠ .defer c:=by
   intro c hcc;rw [hcc] at hc;split at hc
   ·simp [aval] at hc
   ·simp [aval] at hc
  split at hc
  ·exact bool _ hc hnd
  ·exact fin _ hc hnd
end
end Go.Proofs.YthnagpmnoncijaaGreat.M
