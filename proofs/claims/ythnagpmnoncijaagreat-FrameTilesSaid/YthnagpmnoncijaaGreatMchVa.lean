/- A part of the proof. -/
import Derived.Test.YthnagpmnoncijaaGreatMchV
set_option linter.unusedVariables false
namespace Go.Proofs.YthnagpmnoncijaaGreat.M
open Go Go.RowKit
def newK (base:Nat) (k:Nat -> Nat -> Prop):Nat -> Nat -> Prop:=ok base k fun _=>.free
def MEnt.Ok (P:Program) (m:MEnt):Prop:=
 m.R.bare = true /\ (∀ args w,(callFunc m.fn args).run P w = .ok (.enter m.fn args) w) /\
 ∀ x y z v,m.F x y = some z -> joinRes (m.R.svs z.1) = some v ->
 ∀ (rd:Option Nat) (w:World) (k:Nat -> Nat -> Prop) (vs:List Value) (b0:Nat) (us:List Value),vs.length = (m.A.svs y).length ->
  (∀ i p q,(m.A.svs y)[i]? = some p -> vs[i]? = some q -> SVR ⟨w,k,fun _=>.free,fun _=>0,fun _=>none,fun b _=>b ≠ b0⟩ (.slot i) p q) ->
  w.heap[b0]? = some (.cells us.toArray m.e (0,0)) -> m.e < spc -> (∀ i,¬ k b0 i) -> us.length = m.t.n ->
  (∀ (i:Nat) d q,(enc m.t x)[i]? = some d -> us[i]? = some q -> q.oneCell' = true /\ DV w k d q) ->
  CallsIn (Fr rd) 9 P m.fn (Value.pointer (some ⟨b0,0,none⟩) :: vs).toArray w fun e w'=>∃ (u:Value) (us':List Value),e = .returned u /\ Bel w.heap.size (fun b=>b = b0) w w' /\
   SVR ⟨w',newK w.heap.size k,fun _=>.free,fun _=>0,fun _=>none,newK w.heap.size k⟩ (.slot 0) v u /\
   w'.heap[b0]? = some (.cells us'.toArray m.e (0,0)) /\ us'.length = m.t.n /\
   ∀ (i:Nat) d q,(enc m.t z.2)[i]? = some d -> us'[i]? = some q -> q.oneCell' = true /\ DV w' (newK w.heap.size k) d q
section
variable {P:Program} {E:Env} {s s':St} {a:Act} {w w':World} {g:Gh} {ρ:Type}
theorem Rel.refill (hr:Rel E s a w g) {n e:Nat} {cs:List Cell} (hb':s.box? n = some (e,cs)) {us':List Value} {t:Ty} {z:t.T} (hbel:Bel w.heap.size (fun b=>b = g.ι n) w w')
  (hh:w'.heap[g.ι n]? = some (.cells us'.toArray e (0,0))) (hl:us'.length = t.n)
  (hc:∀ (i:Nat) d q,(enc t z)[i]? = some d -> us'[i]? = some q -> q.oneCell' = true /\ DV w' (newK w.heap.size (ok E.base E.k0 g.perm)) d q) :
  ∃ g',Rel E (s.refill n e ((enc t z).map D.toC)) a w' g' /\ ∀ b i,newK w.heap.size (ok E.base E.k0 g.perm) b i -> ok E.base E.k0 g'.perm b i:=by
 have hb:=(St.box?_eq hb').1;have hesp:=(St.box?_eq hb').2;have b1:=(hr.boxes n e cs hb).1;obtain ⟨us0,b2,b3,b4⟩:=hr.norm hb';have hnr:∀ q tip,g.perm (g.ι n) ≠ .row q tip:=fun q tip h=>by rw [b1] at h; cases h
 obtain ⟨hX0,hXs⟩:=hr.lo (g.ι n) (by rw [b1]; simp)
 have hX:E.base <= g.ι n \/ E.lent (g.ι n):=hX0.imp id (·.1)
 let w1:=w.setRow (g.ι n) us'.toArray
 have hheap:w1.heap[g.ι n]? = some (.cells us'.toArray e (0,0)):=setRow_heap w _ _ _ e _ b2;have hoth:∀ b,b ≠ g.ι n -> w1.heap[b]? = w.heap[b]?:=fun b hb=>setRow_other w _ b _ hb
 have hsz:w1.heap.size = w.heap.size:=by simp [w1,World.setRow]
 have hbel1:Bel E.base E.lent w w1:=⟨rfl,rfl,rfl,by omega,fun k hk hn=>hoth k (fun e=>by subst e; rcases hX with h | h; omega; exact hn h)⟩
 have hnk:∀ i,¬ ok E.base E.k0 g.perm (g.ι n) i:=fun i k=>by
  by_cases hbb:g.ι n < E.base
  ·simp only [ok,if_pos hbb] at k;exact absurd k (E.hl _ i (hX.resolve_left (by omega)))
  ·simp only [ok,if_neg hbb,okp,b1] at k
 have h2:∀ i v,ok E.base E.k0 g.perm (g.ι n) i -> w.cell? ⟨g.ι n,i,none⟩ = some v -> w1.cell? ⟨g.ι n,i,none⟩ = some v /\ okp (fun _=>Perm.box n) (g.ι n) i:=fun i v k _=>absurd k (hnk i)
 have h3:=hr.toF.turn (mv:=id) (X:=g.ι n) (px:=.box n) (w':=w1) (fun o ho=>by rw [b2] at ho; injection ho with ho; subst ho; rfl) (.inl ⟨by rw [b1]; simp,by simp⟩) (.inr rowless_box) hbel1 hsz hoth h2
  (sl':=fun t=>(delBoxRefs s.slots).lookup t) (bx':=fun m=>if m = n then none else s.boxes.lookup m)
  (fun t x hx=>⟨(delBoxRefs_look hr.uniq.slots hx).1,fun i c hc=>⟨fun _=>⟨rfl,hnr _⟩,fun q hq=>⟨⟨rfl,hnr _⟩,noBox hq ((delBoxRefs_look hr.uniq.slots hx).2 c (List.mem_of_getElem? hc))⟩⟩⟩)
  (fun m q hm=>by
   split at hm
   ·simp at hm
   ·rename_i hmn;refine ⟨hm,fun hc=>hmn ?_,fun i c _ _=>⟨rfl,hnr _⟩⟩
    have:=(hr.boxes m q.1 q.2 hm).1;rw [hc,b1] at this;injection this with this
    exact this.symm)
 have hb2:Below w1.heap.size w1 w':=⟨hbel.os,hbel.tape,hbel.output,by rw [hsz]; exact hbel.size,fun k hk=>by
  by_cases e:k = g.ι n
  ·subst e; rw [hh,hheap]
  ·rw [hoth k e]; exact hbel.block k (by omega) e⟩
 let g2:Gh:=⟨g.ι,fun b=>if b < w.heap.size then (turned id g (g.ι n) (.box n)).perm b else .free,g.dy⟩
 have h4:=h3.grow (g':=g2) hb2 (fun _ _=>rfl) (fun b hb=>by simp only [g2]; rw [if_pos (by omega)]) (fun b hb hf=>by simp only [g2] at hf; rw [if_neg (by omega)] at hf; exact absurd rfl hf) (fun _ _=>rfl) rfl
 have hkk:∀ b i,newK w.heap.size (ok E.base E.k0 g.perm) b i -> ok E.base E.k0 g2.perm b i:=fun b i k=>by
  by_cases hbl:b < w.heap.size
  ·simp only [newK,ok,if_pos hbl] at k;by_cases e:b = g.ι n
   ·subst e; exact absurd k (hnk i)
   ·simp only [ok] at k ⊢;split
    ·rename_i hbb; rw [if_pos hbb] at k; exact k
    ·rename_i hbb;rw [if_neg hbb] at k;simp only [okp,g2,if_pos hbl,turned,if_neg e] at k ⊢;cases hp:g.perm b with
     | free=>simp [Perm.map]
     | box m=>rw [hp] at k; exact k.elim
     | row p tip=>rw [hp] at k; exact k
  ·have:=hr.base;simp only [ok,if_neg (show ¬ b < E.base by omega),okp,g2,if_neg hbl]
 refine ⟨g2,RelF.toRel ⟨hr.uniq.slots.filter _,hr.uniq.boxes.setBox⟩ { h4 with boxes:=fun m e' cs' hm=>?_,nt:=fun m e' cs' hm=>?_ },hkk⟩
 ·rcases lookup_setBox hr.uniq.boxes hm with ⟨rfl,hq⟩ | ⟨hmn,hm'⟩
  ·simp only [Prod.mk.injEq] at hq;obtain ⟨rfl,rfl⟩:=hq;refine ⟨by simp only [g2]; rw [if_pos hXs]; simp [turned],.mk hesp ⟨us',hh,by rw [List.length_map,enc_length]; exact hl,fun i x y hx hy=>?_⟩⟩
   rw [List.getElem?_map] at hx;cases hd:(enc t z)[i]? with
   | none=>rw [hd] at hx; cases hx
   | some d=>
    rw [hd] at hx;injection hx with hx;subst hx;obtain ⟨c1,c2⟩:=hc i d y hd hy;exact ⟨c1,toC_sound (c:=ctx E g2 a w') (c2.mono fun b i v k1 k2=>⟨k2,hkk b i k1⟩)⟩
  ·have hm2:(if m = n then none else s.boxes.lookup m) = some (e',cs'):=by rw [if_neg hmn]; exact hm'
   exact h4.boxes m e' cs' hm2
 ·rcases lookup_setBox hr.uniq.boxes hm with ⟨rfl,hq⟩ | ⟨hmn,hm'⟩
  ·simp only [Prod.mk.injEq] at hq;obtain ⟨rfl,rfl⟩:=hq;intro c hc;obtain ⟨d,_,rfl⟩:=List.mem_map.1 hc;cases d <;> rfl
  ·exact hr.nt m e' cs' hm'
theorem mutArgs_some {m:MEnt} {args:List SV} {n:Nat} {x:m.t.T} {y:m.A.T} (h:mutArgs m s args = some (n,x,y)):∃ r cs,args = one (.ptr n 0) :: r /\ s.box? n = some (m.e,cs) /\ decC m.t cs = some (x,[]) /\ m.A.dec r = some (y,[]):=by
 unfold mutArgs at h;split at h
 ·rename_i n0 r;split at h
  ·rename_i e cs hb;split at h
   ·rename_i he;have he:=Nat.eq_of_beq_eq_true he;subst he;split at h
    ·rename_i x0 y0 h1 h2;injection h with h;injection h with h3 h4;injection h4 with h4 h5;subst h3; subst h4; subst h5;exact ⟨r,cs,rfl,hb,h1,h2⟩
    ·cases h
   ·cases h
  ·cases h
 ·cases h
theorem joinRes_shown {l:List SV} {v:SV} (h:joinRes l = some v) (hl:l.all (fun v=>v.cs.all Cell.shown) = true):v.cs.all Cell.shown = true:=by
 have other:(shapesOf l).map (fun sh=>(⟨.tup sh,l.flatMap (·.cs)⟩:SV)) = some v -> v.cs.all Cell.shown = true:=fun h=>by
  cases hs:shapesOf l with
  | none=>rw [hs] at h; cases h
  | some sh=>
   rw [hs] at h;injection h with h;subst h;rw [List.all_eq_true] at hl ⊢;intro x hx;obtain ⟨v,hv,hxv⟩:=List.mem_flatMap.1 hx;have:=hl v hv;rw [List.all_eq_true] at this;exact this x hxv
 unfold joinRes at h;split at h
 ·injection h with h; subst h
  simpa using hl
 ·exact other h
theorem mutWay_ok {m:MEnt} (hm:m.Ok P):InlOk (ρ:=ρ) P m.fn (mutWay m):=by
 obtain ⟨hR,hent,hm⟩:=hm;refine ⟨hent,fun E s args K y0 hE h rd a w g vs hr htm ⟨hvl,hv⟩=>?_⟩
 unfold mutWay at h;split at h
 ·rename_i n x y hma;obtain ⟨r,cs,rfl,hb,hdx,hdy⟩:=mutArgs_some hma;obtain ⟨z,hz,h⟩:=obind_some h;split at h
  ·rename_i v hj;obtain ⟨u0,vs',rfl⟩:∃ u0 vs',vs = u0 :: vs':=by
    cases vs with
    | nil=>simp at hvl
    | cons u0 vs'=>exact ⟨u0,vs',rfl⟩
   obtain ⟨⟨pl0,h0⟩,_⟩:=hv 0 _ u0 rfl rfl;have hu0:u0 = .pointer (some ⟨g.ι n,0,none⟩):=h0.one.2;subst hu0;have b1:=(hr.boxes n m.e cs (St.box?_eq hb).1).1;obtain ⟨us0,b2,b3,b4⟩:=hr.norm hb;obtain ⟨hX0,hXs⟩:=hr.lo (g.ι n) (by rw [b1]; simp)
   have hX:E.base <= g.ι n \/ E.lent (g.ι n):=hX0.imp id (·.1);have hnk:∀ i,¬ ok E.base E.k0 g.perm (g.ι n) i:=fun i k=>by
    by_cases hbb:g.ι n < E.base
    ·simp only [ok,if_pos hbb] at k;exact absurd k (E.hl _ i (hX.resolve_left (by omega)))
    ·simp only [ok,if_neg hbb,okp,b1] at k
   obtain ⟨d1,d2,d3⟩:=decC_sound (c:=ctx E g a w) (us:=us0) (pl:=fun i=>.box n i) hdx b3 b4
   obtain ⟨w1,w2,w3⟩:=dec_weak hdy;have hlr:r.length = (m.A.svs y).length:=by simpa using w1
   have hvl':vs'.length = r.length:=by simpa using hvl
   have hcall:=hm x y z v hz hj rd w (ok E.base E.k0 g.perm) vs' (g.ι n) us0 (by omega) (fun i p q hp hq=>by
    have hi:i < r.length:=by rw [hlr]; exact (List.getElem?_eq_some_iff.1 hp).1
    obtain ⟨⟨pl,hs⟩,_⟩:=hv (i + 1) r[i] q (by rw [List.getElem?_cons_succ]; exact List.getElem?_eq_getElem hi) (by simpa using hq)
    obtain ⟨pl',us,e1,e2,e3,e4⟩:=w3 i _ p (List.getElem?_eq_getElem hi) hp _ pl q hs;refine ⟨us,e1,e2,e3,fun j c z hc hz=>⟨(e4 j c z hc hz).1,plain_mono ?_ (e4 j c z hc hz).2 (fun b i v k1 k2=>⟨k2,k1⟩) (fun b i v k1 k2=>⟨k2,?_⟩)⟩⟩
    ·have hpl:=svs_plain (a:=m.A) (x:=y) (dec_noOwn hdy);rw [List.all_eq_true] at hpl;have:=hpl p (List.mem_of_getElem? hp);rw [List.all_eq_true] at this;exact this c (List.mem_of_getElem? hc)
    ·show b ≠ g.ι n
     rintro rfl
     rcases k1 with k1 | k1
     ·rcases hX with hX | hX
      ·omega
      ·exact k1.2 hX
     ·exact hnk i k1) b2 (St.box?_eq hb).2 hnk (by rw [b3]; simpa using d1) d3
   refine hcall.mono fun e w' ⟨u,us',he,hbel,hsv,hh,hul,hcu⟩=>?_
   obtain ⟨g',hR',hkk⟩:=hr.refill hb hbel hh hul hcu;have hsh:=joinRes_shown hj (svs_shown hR);refine ⟨u,v,_,g',he,h,hR',⟨fun _=>.slot 0 0,?_⟩,?_⟩
   ·obtain ⟨us,e1,e2,e3,e4⟩:=hsv;refine ⟨us,e1,e2,e3,fun j c z hc hz=>⟨(e4 j c z hc hz).1,shown_mono ?_ (e4 j c z hc hz).2 (fun b i v k1 k2=>⟨k2,hkk b i k1⟩)⟩⟩
    rw [List.all_eq_true] at hsh;exact hsh c (List.mem_of_getElem? hc)
   ·rw [List.any_eq_false];intro c hc;rw [List.all_eq_true] at hsh;have:=hsh c hc;cases c with
    | own e t l=>cases this
    | _=>simp [Cell.isOwn]
  ·cases h
 ·cases h
end
end Go.Proofs.YthnagpmnoncijaaGreat.M
