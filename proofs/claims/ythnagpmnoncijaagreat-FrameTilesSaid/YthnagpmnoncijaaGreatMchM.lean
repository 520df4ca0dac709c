/- A part of the proof. -/
import Derived.Test.YthnagpmnoncijaaGreatMchL
set_option linter.unusedVariables false
namespace Go.Proofs.YthnagpmnoncijaaGreat.M
open Go Go.RowKit
section
variable {P:Program} {E:Env} {s s':St} {a:Act} {w:World} {g:Gh} {o:Oper} {ob:Prop} {r:Option Nat} {Q:Exit -> Act -> World -> Prop}
theorem appended {sl:Sl} {bx:Bx} {t ty e:TypeId} {j:TypeInfo} {z:Value} {u y:Value} {d:Nat} {us:List Value} {tt:Ty} {xs ys:List tt.T} {q:Place} (hjs:j.size = tt.n) (hr:RelF E sl bx a w g) (hu:P.underlying t = some (.slice e)) (hj:P.info? e = some j) (hz:j.zero = some z) (hzs:z.cells.size = j.size) (hpos:0 < tt.n)
  (ho:w.ownsRow 0 e tt.n u xs.length us) (hx:DV w (ok E.base E.k0 g.perm) (.lst tt xs) u) (hp:∀ b,u.ownBlock = some b -> g.perm b = .row q (xs.length * tt.n))
  (hy:DV w (ok E.base E.k0 g.perm) (.lst tt ys) y) (h63:xs.length + ys.length <= maxLen) (hby:(xs.length + ys.length) * j.bytes <= 140737488355328) (hd:d < E.N)
  (hsl:∀ t x,sl t = some x -> ∀ (i:Nat) c,x.cs[i]? = some c -> (c.isOwn = true -> Place.slot t i ≠ q) /\ ∀ p,c.target = some p -> p ≠ q /\ ∀ m j,p = .box m j -> (bx m).isSome = true)
  (hbx:∀ m x,bx m = some x -> ∀ (i:Nat) c,x.2[i]? = some c -> c.isOwn = true -> Place.box m i ≠ q) :
  ∃ v' w',(Builtin.append_ #[t,t] ty #[u,y]).run P w = .ok v' w' /\ ∃ g',RelF E (upd sl d ⟨.one,[.own e tt (xs ++ ys)]⟩) bx (a.put (some d) v') w' g':=by
 have hfree:g.perm w.heap.size = .free:=by
  cases hq:g.perm w.heap.size with
  | free=>rfl
  | _=>have:=(hr.lo w.heap.size (by rw [hq]; simp)).2; omega
 have hnr:∀ q tip,g.perm w.heap.size ≠ .row q tip:=fun q tip h=>by rw [hfree] at h; cases h
 have known:∀ m,(g.perm (g.ι m) = .box m -> False) -> (bx m).isSome = true -> False:=fun m h hm=>by
  obtain ⟨y,hy⟩:=Option.isSome_iff_exists.1 hm;exact h (hr.boxes m y.1 y.2 hy).1
 have hlen:(xs ++ ys).length = xs.length + ys.length:=List.length_append;have hways0:=append_ways (ty:=ty) (t:=t) (n:=xs.length) (us:=us) hjs hu hj hz hzs (by omega) (by rw [hjs]; exact ho) hy h63 hby
 rw [hjs] at hways0;rcases hways0 with ⟨rfl,hrun⟩ | ⟨news,hnl,hn1,hnd,hways⟩
 ·-- nothing is put behind it: the same slice,under another name
  refine ⟨u,w,hrun,?_⟩
  let mv:Place -> Place:=fun p=>if p = q then .slot d 0 else p
  have hnone:∀ o,w.heap[w.heap.size]? = some o -> immO o = false:=fun o ho=>by have:=(Array.getElem?_eq_some_iff.1 ho).1; omega
  have h3:=hr.turn (mv:=mv) (X:=w.heap.size) (px:=.free) (w':=w) hnone (.inr ⟨rfl,rfl⟩) (.inr rowless_free) (Bel.refl _ _ _) rfl (fun _ _=>rfl) (fun i v _ k=>⟨k,trivial⟩) (sl':=sl) (bx':=bx)
   (fun t x hx=>⟨hx,fun i c hc=>⟨fun ho=>⟨by simp only [mv,if_neg ((hsl t x hx i c hc).1 ho)],hnr _⟩,fun p hp=>⟨⟨by simp only [mv,if_neg ((hsl t x hx i c hc).2 p hp).1],hnr _⟩,fun m j e he=>known m (fun h=>by rw [he,hfree] at h; cases h) (((hsl t x hx i c hc).2 p hp).2 m j e)⟩⟩⟩)
   (fun m x hm=>⟨hm,(fun h=>by
     have:=(hr.boxes m x.1 x.2 hm).1
     rw [h,hfree] at this; cases this),fun i c hc ho=>⟨by simp only [mv,if_neg (hbx m x hm i c hc ho)],hnr _⟩⟩)
  refine ⟨_,h3.put hd (SVR.of_one (by rcases ho.2 with ⟨rfl,_⟩ | ⟨_,_,_,rfl,_⟩ <;> rfl) ?_) rfl⟩
  rw [List.append_nil];exact turn_cell (px:=.free) (mv:=mv) (p:=q) (c:=.own e tt xs) (.inl hr.base) (fun _ _=>rfl) (fun i v _ k=>⟨k,trivial⟩) ⟨⟨us,ho⟩,hx,hp⟩ (fun _=>⟨by simp [mv],hnr _⟩) rfl hnone
 ·-- the cells that the new slice has
  have hus1:∀ (i:Nat) x,us[i]? = some x -> x.oneCell' = true:=fun i x hi=>by
   have hlt:=(List.getElem?_eq_some_iff.1 hi).1;rw [ho.1] at hlt;cases hx with
   | emp=>simp at hlt
   | lst tt xs b off cap u' hc h1 hdd hcap hm=>
    rcases ho.2 with ⟨e1,_⟩ | ⟨gb,cap',cur,e1,_,e3,_,_,_,e7⟩
    ·cases e1
    ·injection e1 with e1 _ _;injection e1 with e1;injection e1 with e1 e2;subst e1; subst e2;have d1:i / tt.n < xs.length:=Nat.div_lt_of_lt_mul (by rw [Nat.mul_comm]; exact hlt)
     have d2:i % tt.n < tt.n:=Nat.mod_lt _ hpos;have d3:i / tt.n * tt.n + i % tt.n = i:=by rw [Nat.mul_comm]; exact Nat.div_add_mod i tt.n
     have hcc:=(hc _ _ d1 d2).1;rw [Nat.zero_add,d3] at hcc;have:w.cell? ⟨b,i,none⟩ = some x:=by
      have hx2:=hi;rw [<- e7,List.getElem?_take,if_pos hlt] at hx2;simp [World.cell?,e3];simpa using hx2
     rw [this] at hcc;injection hcc with hcc;rw [hcc];exact h1 _ _ d1 d2
  have hxd:∀ (i jj:Nat) q x v,xs[i]? = some q -> (enc tt q)[jj]? = some x -> us[i * tt.n + jj]? = some v -> DV w (ok E.base E.k0 g.perm) x v:=fun i jj q x v hq hqx hv=>by
   have hi:=(List.getElem?_eq_some_iff.1 hq).1;cases hx with
   | emp=>simp at hi
   | lst tt xs b off cap u' hc h1 hdd hcap hm=>
    rcases ho.2 with ⟨e1,_⟩ | ⟨gb,cap',cur,e1,_,e3,_,_,_,e7⟩
    ·cases e1
    ·injection e1 with e1 _ _;injection e1 with e1;injection e1 with e1 e2;subst e1; subst e2;have hjj:=(List.getElem?_eq_some_iff.1 hqx).1;rw [enc_length] at hjj;have hcc:=(hc i jj hi hjj).1;rw [Nat.zero_add] at hcc;have:w.cell? ⟨b,i * tt.n + jj,none⟩ = some v:=by
      have hx2:=hv;rw [<- e7,List.getElem?_take,if_pos (mul_get hi hjj)] at hx2;simp [World.cell?,e3];simpa using hx2
     rw [this] at hcc;injection hcc with hcc;rw [hcc];exact hdd i jj q x hq hqx
  have hall1:∀ (i:Nat) x,(us ++ news)[i]? = some x -> x.oneCell' = true:=fun i x hi=>by
   by_cases hlt:i < us.length
   ·rw [List.getElem?_append_left hlt] at hi; exact hus1 i x hi
   ·rw [List.getElem?_append_right (by omega)] at hi; exact hn1 _ x hi
  have halld:∀ (i jj:Nat) q x v,(xs ++ ys)[i]? = some q -> (enc tt q)[jj]? = some x -> (us ++ news)[i * tt.n + jj]? = some v -> DV w (ok E.base E.k0 g.perm) x v:=fun i jj q x v hq hqx hv=>by
   have hjj:=(List.getElem?_eq_some_iff.1 hqx).1;rw [enc_length] at hjj;by_cases hlt:i < xs.length
   ·rw [List.getElem?_append_left hlt] at hq;rw [List.getElem?_append_left (by rw [ho.1]; exact mul_get hlt hjj)] at hv
    exact hxd i jj q x v hq hqx hv
   ·rw [List.getElem?_append_right (by omega)] at hq
    have hmul:xs.length * tt.n <= i * tt.n:=Nat.mul_le_mul_right _ (by omega)
    rw [List.getElem?_append_right (by rw [ho.1]; omega),ho.1] at hv
    refine hnd (i - xs.length) jj q x v hq hqx ?_;rw [Nat.sub_mul,<- hv]
    congr 1
    omega
  have hlu:(us ++ news).length = (xs.length + ys.length) * tt.n:=by rw [List.length_append,ho.1,hnl,Nat.add_mul]
  rcases hways with ⟨gb,cap,cur,rfl,hg,hroom,hcm,hcs,htake,hrun⟩ | ⟨cap,cur,hroom,hcm,hcs,htake,hrun⟩
  ·-- in place
   refine ⟨_,_,hrun,?_⟩;have hpq:=hp gb rfl;have hX:E.base <= gb:=(hr.lo gb (by rw [hpq]; simp)).1.resolve_right fun h=>h.2 _ _ hpq
   have hfit:xs.length * tt.n + news.length <= cur.size:=by rw [hnl,hcs,<- Nat.add_mul]; exact Nat.mul_le_mul_right _ hroom
   let cur':Array Value:=(cur.toList.take (xs.length * tt.n) ++ news ++ cur.toList.drop (xs.length * tt.n + news.length)).toArray
   have hheap:(w.setRow gb cur').heap[gb]? = some (.cells cur' e (0,0)):=setRow_heap w gb cur _ e _ hg;have hoth:∀ b,b ≠ gb -> (w.setRow gb cur').heap[b]? = w.heap[b]?:=fun b hb=>setRow_other w _ b _ hb
   have hszw:(w.setRow gb cur').heap.size = w.heap.size:=by simp [World.setRow]
   have htk:cur'.toList.take ((xs.length + ys.length) * tt.n) = us ++ news:=by
    simp only [cur'];rw [htake,<- hlu];exact List.take_left
   have hcs':cur'.size = cap * tt.n:=by
    simp only [cur',List.size_toArray,List.length_append,List.length_take,List.length_drop,Array.length_toList];omega
   have hget:∀ i,i < (xs.length + ys.length) * tt.n -> cur'[i]? = (us ++ news)[i]?:=fun i hi=>by
    rw [<- htk,List.getElem?_take,if_pos hi]; simp
   have hget0:∀ i,i < xs.length * tt.n -> cur[i]? = us[i]?:=fun i hi=>by
    rw [<- htake,List.getElem?_take,if_pos hi]; simp
   have h2:∀ i v,ok E.base E.k0 g.perm gb i -> w.cell? ⟨gb,i,none⟩ = some v -> (w.setRow gb cur').cell? ⟨gb,i,none⟩ = some v /\ okp (fun _=>Perm.row (.slot d 0) ((xs.length + ys.length) * tt.n)) gb i:=fun i v k1 k2=>by
    simp only [ok,if_neg (show ¬ gb < E.base by omega),okp,hpq] at k1
    have hmul:xs.length * tt.n <= (xs.length + ys.length) * tt.n:=Nat.mul_le_mul_right _ (by omega)
    refine ⟨?_,by simp only [okp]; omega⟩
    have e1:w.cell? ⟨gb,i,none⟩ = cur[i]?:=by simp [World.cell?,hg]
    have e2:(w.setRow gb cur').cell? ⟨gb,i,none⟩ = cur'[i]?:=by simp [World.cell?,hheap]
    rw [e2,hget i (by omega),List.getElem?_append_left (by rw [ho.1]; exact k1),<- hget0 i k1,<- e1]
    exact k2
   have kept:∀ p,p ≠ q -> Kept id g gb p:=fun p hpq'=>⟨rfl,fun tip h=>by rw [hpq] at h; injection h with h; exact hpq' h.symm⟩
   have h3:=hr.turn (mv:=id) (X:=gb) (px:=.row (.slot d 0) ((xs.length + ys.length) * tt.n)) (w':=w.setRow gb cur') (fun o ho=>by rw [hg] at ho; injection ho with ho; subst ho; rfl) (.inl ⟨by rw [hpq]; simp,by simp⟩) (.inl hX) ⟨rfl,rfl,rfl,by omega,fun k hk _=>hoth k (by omega)⟩ hszw hoth h2 (sl':=sl) (bx':=bx)
    (fun t x hx=>⟨hx,fun i c hc=>⟨fun ho=>kept _ ((hsl t x hx i c hc).1 ho),fun p hp=>⟨kept _ ((hsl t x hx i c hc).2 p hp).1,fun m j e he=>known m (fun h=>by rw [he,hpq] at h; cases h) (((hsl t x hx i c hc).2 p hp).2 m j e)⟩⟩⟩)
    (fun m x hm=>⟨hm,(fun h=>by
      have:=(hr.boxes m x.1 x.2 hm).1
      rw [h,hpq] at this; cases this),fun i c hc ho=>kept _ (hbx m x hm i c hc ho)⟩)
   have hk:=turn_k (a:=a) (mv:=id) (g:=g) (.inl hX) hoth h2;refine ⟨_,h3.put hd (SVR.of_one rfl ?_) rfl⟩;have hcell:∀ i,(w.setRow gb cur').cell? ⟨gb,i,none⟩ = cur'[i]?:=fun i=>by simp [World.cell?,hheap]
   refine ⟨⟨us ++ news,by rw [hlu,hlen],.inr ⟨gb,cap,cur',by rw [hlen],Nat.zero_le _,hheap,by omega,hcm,hcs',by rw [hlen]; exact htk⟩⟩,?_,fun b hb=>?_⟩
   ·have:=DV.lst (w:=w.setRow gb cur') (k:=(ctx E (turned id g gb (.row (.slot d 0) ((xs.length + ys.length) * tt.n))) a (w.setRow gb cur')).k) tt (xs ++ ys) gb 0 cap (fun i jj=>(us ++ news)[i * tt.n + jj]?.getD undef)
     (fun i jj hi hjj=>?_) (fun i jj hi hjj=>?_) (fun i jj q x hq hx=>?_) (by omega) hcm
    ·rw [hlen] at this; exact this
    ·rw [hlen] at hi;have hlt:=mul_get hi hjj;refine ⟨?_,?_⟩
     ·rw [Nat.zero_add,hcell,hget _ hlt,List.getElem?_eq_getElem (by omega)]; rfl
     ·simp only [ctx,ok,if_neg (show ¬ gb < E.base by omega),okp,turned,if_true]
      omega
    ·rw [hlen] at hi;have hlt:=mul_get hi hjj;have he:(us ++ news)[i * tt.n + jj]? = some (us ++ news)[i * tt.n + jj]:=List.getElem?_eq_getElem (by omega)
     simp only [he,Option.getD_some];exact hall1 _ _ he
    ·have hi:=(List.getElem?_eq_some_iff.1 hq).1;have hjj:=(List.getElem?_eq_some_iff.1 hx).1;rw [enc_length] at hjj;rw [hlen] at hi;have hlt:=mul_get hi hjj;have he:(us ++ news)[i * tt.n + jj]? = some (us ++ news)[i * tt.n + jj]:=List.getElem?_eq_getElem (by omega)
     simp only [he,Option.getD_some];exact (halld i jj q x _ hq hx he).mono hk
   ·simp [Value.ownBlock] at hb;subst hb;simp [ctx,turned,hlen]
  ·-- in new memory
   refine ⟨_,_,hrun,?_⟩
   let perm:Nat -> Perm:=fun b=>if b = w.heap.size then .row (.slot d 0) ((xs.length + ys.length) * tt.n) else g.perm b
   have hbel:Below w.heap.size w (w.drew.alloc (.cells cur e)):=((Below.refl _ w).drew).alloc (by simp) _
   have h3:=hr.grow (g':=⟨g.ι,perm,g.dy⟩) (w':=w.drew.alloc (.cells cur e)) hbel (fun _ _=>rfl) (fun b hb=>by simp only [perm]; rw [if_neg (by omega)]) (fun b hb hf=>by
    simp only [perm] at hf;split at hf
    ·simp; omega
    ·have:=(hr.lo b hf).2; simp; omega) (fun _ _=>rfl) rfl
   refine ⟨_,h3.put hd (SVR.of_one rfl ?_) rfl⟩;have hc:=newRow_own (E:=E) (g':=⟨g.ι,perm,g.dy⟩) (w:=w) (w1:=w.drew) (a:=a) (p:=.slot d 0) (us:=us ++ news) (xs:=xs ++ ys) (cur:=cur) (cap:=cap) (n:=xs.length + ys.length) (t:=tt) (e:=e) hr.base rfl (fun b hb=>hbel.block b hb) hlen hroom hcm hcs htake hlu (by simp [perm]) hall1
    (fun i jj q x v h2 h3 h4=>(halld i jj q x v h2 h3 h4).mono fun b i z k1 k2=>by
     have hbl:b < w.heap.size:=World.block_lt_of_cell? w ⟨b,i,none⟩ k2;refine ⟨(hbel.cell (p:=⟨b,i,none⟩) hbl).trans k2,?_⟩;simp only [ok,okp,perm] at k1 ⊢;rw [if_neg (show ¬ b = w.heap.size by omega)]
     exact k1)
   exact hc
end
end Go.Proofs.YthnagpmnoncijaaGreat.M
