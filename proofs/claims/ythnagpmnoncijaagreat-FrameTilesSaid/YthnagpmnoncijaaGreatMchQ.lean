/- A part of the proof. -/
import Derived.Test.YthnagpmnoncijaaGreatMchP
set_option linter.unusedVariables false
namespace Go.Proofs.YthnagpmnoncijaaGreat.M
open Go Go.RowKit
section
variable {P:Program} {E:Env} {ops:Array Oper} {N:Nat} {res:List (Option Res)} {s0:St} {b:List Nat} {hints:List (Nat × Hint)}
def Ord (b:List Nat) (i k:Nat):Prop:=(k < i /\ (b.getD i 0).testBit k = true) \/ (i < k /\ (b.getD k 0).testBit i = true)
theorem ord_iff {i k:Nat}:ord b i k = true ↔ Ord b i k:=by
 unfold ord Ord;rw [Bool.or_eq_true,Bool.and_eq_true,Bool.and_eq_true,Nat.blt_eq,Nat.blt_eq]
structure DF (ops:Array Oper) (res:List (Option Res)) (s0:St) (b:List Nat):Prop where
 nosel:noSel ops = true
 edge:∀ (i:Nat) o,ops[i]? = some o -> ∀ j ∈ edgesOf o,j < i
 inj:∀ i k d,i < ops.size -> k < ops.size -> cal res i = true -> cal res k = true -> dstOf ops i = some d -> dstOf ops k = some d -> i = k
 opd:∀ (i:Nat) o t k,ops[i]? = some o -> cal res i = true -> t ∈ opTmps o ++ guardTmp ops o -> k < ops.size -> cal res k = true -> dstOf ops k = some t -> Ord b i k
 rd:∀ (i:Nat) o t k x c,ops[i]? = some o -> cal res i = true -> t ∈ opTmps o ++ guardTmp ops o -> k < ops.size -> k ≠ i -> valAt res k = some x -> dstOf ops k = some t -> c < ops.size -> c ≠ i -> hitAt res c t x = true -> Ord b i c
 rd0:∀ (i:Nat) o t x c,ops[i]? = some o -> cal res i = true -> t ∈ opTmps o ++ guardTmp ops o -> s0.slots.lookup t = some x -> c < ops.size -> c ≠ i -> hitAt res c t x = true -> Ord b i c
 hang:∀ i k q,i < ops.size -> k < ops.size -> cal res i = true -> k ≠ i -> resAt res k = some q -> ((∃ x,q.val = some x /\ hangs ops res i x = true) \/ ∃ y,q.box = some y /\ boxHangs ops res i y.2.2 = true) -> (b.getD k 0).testBit i = true
 hord:∀ c k x t,c < ops.size -> k < ops.size -> k ≠ c -> valAt res k = some x -> dstOf ops k = some t -> hitAt res c t x = true -> Ord b c k
 s0sl:∀ i t x,i < ops.size -> cal res i = true -> s0.slots.lookup t = some x -> hangs ops res i x = false
 s0bx:∀ i n y,i < ops.size -> makes res i = true -> s0.boxes.lookup n = some y -> some n ≠ dstOf ops i /\ boxHangs ops res i y.2 = false
 used:∀ i q n k,i < ops.size -> resAt res i = some q -> n ∈ q.used -> k < ops.size -> k ≠ i -> setsB res k n = true -> Ord b i k
 wused:∀ i q u y,i < ops.size -> resAt res i = some q -> q.wr = some u -> q.box = some y -> y.1 ∈ q.used
 calm:∀ (i:Nat) o,ops[i]? = some o -> cal res i = true -> ∀ j ∈ edgesOf o,cal res j = true
structure DT (P:Program) (ops:Array Oper) (res:List (Option Res)) (b:List Nat):Prop where
 tail:∀ i k,i < ops.size -> cal res i = false -> k < ops.size -> cal res k = true -> (b.getD i 0).testBit k = true \/ lightAt P ops b k = true
 order:∀ i k,i < ops.size -> cal res i = false -> k < i -> cal res k = false -> (b.getD i 0).testBit k = true
theorem DT.of (h:tailOk P ops res b = true):DT P ops res b:=by
 unfold tailOk at h;rw [List.all_eq_true] at h;have high:∀ i,i < ops.size -> cal res i = false -> (∀ k,k < ops.size -> (!cal res k || (b.getD i 0).testBit k || lightAt P ops b k) = true) /\ ∀ k,k < i -> (cal res k || (b.getD i 0).testBit k) = true:=fun i hi hci=>by
  have:=h i (by simpa using hi)
  rw [hci,Bool.false_or,Bool.and_eq_true,List.all_eq_true,List.all_eq_true] at this;exact ⟨fun k hk=>this.1 k (by simpa using hk),fun k hk=>this.2 k (by simpa using hk)⟩
 refine ⟨fun i k hi hci hk hck=>?_,fun i k hi hci hk hck=>?_⟩
 ·have:=(high i hi hci).1 k hk;simpa [hck] using this
 ·have:=(high i hi hci).2 k hk;simpa [hck] using this
theorem cal_some {i:Nat} (h:cal res i = true):∃ q,resAt res i = some q:=Option.isSome_iff_exists.1 h
theorem valAt_cal {k:Nat} {x:SV} (h:valAt res k = some x):∃ q,resAt res k = some q /\ q.val = some x:=by
 unfold valAt at h;cases hq:resAt res k with
 | none=>simp [hq] at h
 | some q=>exact ⟨q,rfl,by simpa [hq] using h⟩
theorem DF.of (h:drawOk ops res s0 b = true):DF ops res s0 b:=by
 unfold drawOk at h;rw [Bool.and_eq_true,List.all_eq_true] at h;obtain ⟨hns,h⟩:=h;have get:∀ i,i < ops.size -> ∃ o,ops[i]? = some o:=fun i hi=>⟨_,Array.getElem?_eq_getElem hi⟩
 have low:∀ i o q,ops[i]? = some o -> resAt res i = some q ->
   (o.dst.isNone = true \/ ∀ k,k < ops.size -> (k == i || !cal res k || dstOf ops k != o.dst) = true) /\
   (∀ t ∈ opTmps o ++ guardTmp ops o,∀ k,k < ops.size -> (!cal res k || dstOf ops k != some t || ord b i k) = true /\ (k ≠ i -> (∀ x,valAt res k = some x -> dstOf ops k = some t -> ∀ c,c < ops.size -> c ≠ i -> hitAt res c t x = true -> ord b i c = true) /\ ∀ x,s0.slots.lookup t = some x -> hitAt res k t x = true -> ord b i k = true)) /\
   (∀ k p,k < ops.size -> k ≠ i -> resAt res k = some p -> (((∃ x,p.val = some x /\ hangs ops res i x = true) \/ ∃ y,p.box = some y /\ boxHangs ops res i y.2.2 = true) -> (b.getD k 0).testBit i = true) /\
    (∀ x t,p.val = some x -> dstOf ops k = some t -> hits q t x = true -> ord b i k = true) /\ ∀ n ∈ q.used,setsB res k n = true -> ord b i k = true) /\
   (∀ p ∈ s0.slots,hangs ops res i p.2 = false) /\
   (makes res i = true -> ∀ y ∈ s0.boxes,some y.1 ≠ o.dst /\ boxHangs ops res i y.2.2 = false) /\
   (∀ u y,q.wr = some u -> q.box = some y -> y.1 ∈ q.used) /\ (∀ j ∈ edgesOf o,cal res j = true):=fun i o q ho hq=>by
  have:=h i (by have:=(Array.getElem?_eq_some_iff.1 ho).1; simpa using this)
  simp only [ho,hq,Bool.and_eq_true] at this;obtain ⟨_,⟨⟨⟨⟨⟨⟨h1,h2⟩,h3⟩,h4⟩,h5⟩,h6⟩,h7⟩⟩:=this;refine ⟨?_,fun t ht k hk=>?_,fun k p hk hki hp=>?_,fun p hp=>?_,fun hm y hy=>?_,fun u y hu hy=>?_,fun j hj=>?_⟩
  ·rw [Bool.or_eq_true,List.all_eq_true] at h1;exact h1.imp id fun h1 k hk=>h1 k (by simpa using hk)
  ·rw [List.all_eq_true] at h2;have:=h2 t ht;rw [List.all_eq_true] at this;have:=this k (by simpa using hk)
   rw [Bool.and_eq_true] at this;obtain ⟨a1,a2⟩:=this;refine ⟨a1,fun hki=>?_⟩
   rw [Bool.or_eq_true] at a2;rcases a2 with a2 | a2
   ·exact absurd (by simpa using a2) hki
   ·rw [Bool.and_eq_true] at a2;obtain ⟨a2,a3⟩:=a2;refine ⟨fun x hx hd c hc hci hh=>?_,fun x hx hh=>?_⟩
    ·rw [hx] at a2;simp only [hd,bne_self_eq_false,Bool.false_or] at a2;rw [List.all_eq_true] at a2;have:=a2 c (by simpa using hc)
     simpa [hci,hh] using this
    ·rw [hx] at a3;simpa [hh] using a3
  ·rw [List.all_eq_true] at h3;have:=h3 k (by simpa using hk)
   simp only [hp] at this;rw [Bool.or_eq_true] at this;rcases this with this | this
   ·exact absurd (by simpa using this) hki
   ·rw [Bool.and_eq_true,Bool.and_eq_true] at this;obtain ⟨⟨c1,c2⟩,c3⟩:=this;refine ⟨fun hh=>?_,fun x t hx ht hh=>?_,fun n hn hs=>?_⟩
    ·rw [Bool.or_eq_true] at c1;rcases c1 with c1 | c1
     ·exfalso;rw [Bool.not_eq_true',Bool.or_eq_false_iff] at c1;rcases hh with ⟨x,hx,hh⟩ | ⟨y,hy,hh⟩
      ·have:=c1.1; rw [hx] at this; simp only at this; rw [hh] at this; cases this
      ·have:=c1.2; rw [hy] at this; simp only at this; rw [hh] at this; cases this
     ·exact c1
    ·rw [Bool.or_eq_true] at c2;rcases c2 with c2 | c2
     ·exfalso;unfold hits at hh;rw [Option.isNone_iff_eq_none.1 c2] at hh;cases hh
     ·rw [hx,ht] at c2;simpa [hh] using c2
    ·rw [List.all_eq_true] at c3;simpa [hs] using c3 n hn
  ·rw [List.all_eq_true] at h4;simpa using h4 p hp
  ·rw [Bool.or_eq_true] at h5;rcases h5 with h5 | h5
   ·rw [hm] at h5; cases h5
   ·rw [List.all_eq_true] at h5;have:=h5 y hy;simpa using this
  ·rw [hu,hy] at h6;simpa using h6
  ·rw [List.all_eq_true] at h7;exact h7 j hj
 refine ⟨hns,fun i o ho j hj=>?_,fun i k d hi hk hci hck h1 h2=>?_,fun i o t k ho hci ht hk hck hd=>?_,fun i o t k x c ho hci ht hk hki hx hd hc hcn hh=>?_,fun i o t x c ho hci ht hx hc hcn hh=>?_,fun i k q hi hk hci hne hq hh=>?_,
  fun c k x t hc hk hkc hx ht hh=>?_,fun i t x hi hci hx=>?_,fun i n y hi hm hn=>?_,fun i q n k hi hq hn hk hki hs=>?_,fun i q u y hi hq hu hy=>?_,fun i o ho hci=>?_⟩
 ·have hi:i < ops.size:=(Array.getElem?_eq_some_iff.1 ho).1;have:=h i (by simpa using hi)
  simp only [ho,Bool.and_eq_true] at this;have:=this.1;rw [List.all_eq_true] at this;simpa using this j hj
 ·obtain ⟨o,ho⟩:=get i hi;obtain ⟨q,hq⟩:=cal_some hci;have e:o.dst = some d:=by simpa [dstOf,ho] using h1
  rcases (low i o q ho hq).1 with h3 | h3
  ·rw [e] at h3; cases h3
  ·have:=h3 k hk;by_cases hki:k = i
   ·exact hki.symm
   ·simp [hki,h2,e,hck] at this
 ·obtain ⟨q,hq⟩:=cal_some hci;have:=((low i o q ho hq).2.1 t ht k hk).1;rw [<- ord_iff];simpa [hd,hck] using this
 ·obtain ⟨q,hq⟩:=cal_some hci;exact ord_iff.1 ((((low i o q ho hq).2.1 t ht k hk).2 hki).1 x hx hd c hc hcn hh)
 ·obtain ⟨q,hq⟩:=cal_some hci;exact ord_iff.1 ((((low i o q ho hq).2.1 t ht c hc).2 hcn).2 x hx hh)
 ·obtain ⟨o,ho⟩:=get i hi;obtain ⟨p,hp⟩:=cal_some hci;exact ((low i o p ho hp).2.2.1 k q hk hne hq).1 hh
 ·obtain ⟨o,ho⟩:=get c hc;unfold hitAt at hh;cases hq:resAt res c with
  | none=>rw [hq] at hh; cases hh
  | some q=>
   rw [hq] at hh;obtain ⟨p,hp,hpx⟩:=valAt_cal hx;exact ord_iff.1 (((low c o q ho hq).2.2.1 k p hk hkc hp).2.1 x t hpx ht hh)
 ·obtain ⟨o,ho⟩:=get i hi;obtain ⟨q,hq⟩:=cal_some hci;exact (low i o q ho hq).2.2.2.1 (t,x) (lookup_mem hx)
 ·obtain ⟨o,ho⟩:=get i hi;have hci:cal res i = true:=by
   unfold makes at hm;unfold cal;cases hq:resAt res i with
   | none=>rw [hq] at hm; cases hm
   | some q=>rfl
  obtain ⟨q,hq⟩:=cal_some hci;have:=(low i o q ho hq).2.2.2.2.1 hm (n,y) (lookup_mem hn);have e:dstOf ops i = o.dst:=by simp [dstOf,ho]
  rw [e];exact this
 ·obtain ⟨o,ho⟩:=get i hi;have:cal res k = true:=by
   unfold setsB at hs;unfold cal;cases hq:resAt res k with
   | none=>rw [hq] at hs; cases hs
   | some q=>rfl
  obtain ⟨p,hp⟩:=cal_some this;exact ord_iff.1 (((low i o q ho hq).2.2.1 k p hk hki hp).2.2 n hn hs)
 ·obtain ⟨o,ho⟩:=get i hi;exact (low i o q ho hq).2.2.2.2.2.1 u y hu hy
 ·obtain ⟨q,hq⟩:=cal_some hci;exact (low i o q ho hq).2.2.2.2.2.2
structure Txt (s0:St) (ops:Array Oper) (res:List (Option Res)) (i:Nat) (s:St):Prop where
 ok:s.Ok
 slots:∀ t x,s.slots.lookup t = some x -> (∃ k,k < i /\ dstOf ops k = some t /\ valAt res k = some x /\ ∀ c,k < c -> c < i -> hitAt res c t x = false) \/
  ((∀ k,k < i -> cal res k = true -> dstOf ops k ≠ some t) /\ s0.slots.lookup t = some x /\ ∀ c,c < i -> hitAt res c t x = false)
 boxes:∀ n y,s.boxes.lookup n = some y -> (∃ k q,k < i /\ resAt res k = some q /\ q.box = some (n,y) /\ ∀ c,k < c -> c < i -> setsB res c n = false) \/
  ((∀ c,c < i -> setsB res c n = false) /\ s0.boxes.lookup n = some y)
theorem Txt.skip {i:Nat} {s:St} (h:Txt s0 ops res i s) (hr:resAt res i = none):Txt s0 ops res (i + 1) s:=by
 have hcf:cal res i = false:=by unfold cal; rw [hr]; rfl
 have hh:∀ t x,hitAt res i t x = false:=fun t x=>by unfold hitAt; rw [hr]
 have hs:∀ n,setsB res i n = false:=fun n=>by unfold setsB; rw [hr]
 refine ⟨h.ok,fun t x hx=>?_,fun n y hy=>?_⟩
 ·rcases h.slots t x hx with ⟨k,c1,c2,c3,c4⟩ | ⟨c1,c2,c3⟩
  ·refine .inl ⟨k,by omega,c2,c3,fun c h1 h2=>?_⟩
   by_cases hci:c = i
   ·subst hci; exact hh _ _
   ·exact c4 c h1 (by omega)
  ·refine .inr ⟨fun k hk hck=>?_,c2,fun c h1=>?_⟩
   ·by_cases hki:k = i
    ·subst hki; rw [hcf] at hck; cases hck
    ·exact c1 k (by omega) hck
   ·by_cases hci:c = i
    ·subst hci; exact hh _ _
    ·exact c3 c (by omega)
 ·rcases h.boxes n y hy with ⟨k,q,c1,c2,c3,c4⟩ | ⟨c1,c2⟩
  ·refine .inl ⟨k,q,by omega,c2,c3,fun c h1 h2=>?_⟩
   by_cases hci:c = i
   ·subst hci; exact hs _
   ·exact c4 c h1 (by omega)
  ·refine .inr ⟨fun c h1=>?_,c2⟩
   by_cases hci:c = i
   ·subst hci; exact hs _
   ·exact c1 c (by omega)
theorem Txt.next {i:Nat} {s s':St} {q:Res} (h:Txt s0 ops res i s) (hq:resAt res i = some q) (hok:s'.Ok)
  (h1:∀ t x,s'.slots.lookup t = some x -> (dstOf ops i = some t /\ q.val = some x) \/ (dstOf ops i ≠ some t /\ s.slots.lookup t = some x /\ hits q t x = false))
  (h2:∀ n y,s'.boxes.lookup n = some y -> q.box = some (n,y) \/ (s.boxes.lookup n = some y /\ ∀ y,q.box = some y -> y.1 ≠ n)):Txt s0 ops res (i + 1) s':=by
 have hv:valAt res i = q.val:=by unfold valAt; rw [hq]; rfl
 have hh:∀ t x,hitAt res i t x = hits q t x:=fun t x=>by unfold hitAt; rw [hq]
 refine ⟨hok,fun t x hx=>?_,fun n y hy=>?_⟩
 ·rcases h1 t x hx with ⟨d1,d2⟩ | ⟨d1,d2,d3⟩
  ·exact .inl ⟨i,by omega,d1,by rw [hv,d2],fun c h1 h2=>by omega⟩
  ·rcases h.slots t x d2 with ⟨k,c1,c2,c3,c4⟩ | ⟨c1,c2,c3⟩
   ·refine .inl ⟨k,by omega,c2,c3,fun c h1 h2=>?_⟩
    by_cases hci:c = i
    ·subst hci; rw [hh]; exact d3
    ·exact c4 c h1 (by omega)
   ·refine .inr ⟨fun k hk hck=>?_,c2,fun c h1=>?_⟩
    ·by_cases hki:k = i
     ·subst hki; exact d1
     ·exact c1 k (by omega) hck
    ·by_cases hci:c = i
     ·subst hci; rw [hh]; exact d3
     ·exact c3 c (by omega)
 ·have hs:q.box ≠ some (n,y) -> (∀ y,q.box = some y -> y.1 ≠ n) -> setsB res i n = false:=fun _ hne=>by
   unfold setsB;rw [hq];cases hb:q.box with
   | none=>simp [hb]
   | some z=>simp [hb,hne z hb]
  rcases h2 n y hy with d1 | ⟨d1,d2⟩
  ·exact .inl ⟨i,q,by omega,hq,d1,fun c h1 h2=>by omega⟩
  ·have hsi:=hs (fun e=>d2 _ e rfl) d2
   rcases h.boxes n y d1 with ⟨k,q',c1,c2,c3,c4⟩ | ⟨c1,c2⟩
   ·refine .inl ⟨k,q',by omega,c2,c3,fun c h1 h2=>?_⟩
    by_cases hci:c = i
    ·subst hci; exact hsi
    ·exact c4 c h1 (by omega)
   ·refine .inr ⟨fun c h1=>?_,c2⟩
    by_cases hci:c = i
    ·subst hci; exact hsi
    ·exact c1 c (by omega)
theorem app_slots' {s:St} (hs:s.Ok) {d:Nat} {v:SV} {bb:Option (Nat × List Cell)} {t:Nat} {x:SV} (hx:(s.app d v bb).slots.lookup t = some x):(t = d /\ x = v) \/ (t ≠ d /\ s.slots.lookup t = some x):=by
 have hx:=app_slots hs hx;unfold slApp at hx;by_cases htd:t = d
 ·simp only [htd,if_true] at hx;injection hx with hx;exact .inl ⟨htd,hx.symm⟩
 ·simp only [htd,if_false] at hx;cases hz:s.slots.lookup t with
  | none=>simp [hz] at hx
  | some z=>
   simp only [hz] at hx;split at hx
   ·cases hx
   ·exact .inr ⟨htd,hx⟩
theorem app_boxes' {s:St} (hs:s.Ok) {d:Nat} {v:SV} {bb:Option (Nat × List Cell)} {n:Nat} {y:Nat × List Cell} (hy:(s.app d v bb).boxes.lookup n = some y):(n = d /\ bb = some y) \/ (s.boxes.lookup n = some y /\ ∀ z,bb = some z -> n ≠ d):=by
 have hy:=app_boxes hs hy;unfold bxApp at hy;cases bb with
 | none=>exact .inr ⟨hy,fun z hz=>by cases hz⟩
 | some bb=>
  simp only at hy;by_cases htd:n = d
  ·simp only [htd,if_true] at hy;exact .inl ⟨htd,hy⟩
  ·simp only [htd,if_false] at hy;cases hz:s.boxes.lookup n with
   | none=>simp [hz] at hy
   | some z=>
    simp only [hz] at hy;split at hy
    ·cases hy
    ·exact .inr ⟨hy,fun _ _=>htd⟩
theorem delO_look {l:List (Nat × SV)} (hu:Uniq l) {u:Option Nat} {t:Nat} {x:SV}:(delO u l).lookup t = some x ↔ l.lookup t = some x /\ ∀ v,u = some v -> t ≠ v /\ x.refs v = false:=by
 cases u with
 | none=>exact ⟨fun h=>⟨h,fun v hv=>by cases hv⟩,fun h=>h.1⟩
 | some v=>
  unfold delO delSlot;constructor
  ·intro h;obtain ⟨h1,h2⟩:=lookup_filter hu h;simp only [Bool.and_eq_true,bne_iff_ne,Bool.not_eq_true'] at h2;exact ⟨h1,fun w hw=>by injection hw with hw; subst hw; exact h2⟩
  ·intro h;refine lookup_of_mem (hu.filter _) (List.mem_filter.2 ⟨lookup_mem h.1,?_⟩);obtain ⟨h1,h2⟩:=h.2 v rfl;simp [h1,h2]
theorem delO_uniq {l:List (Nat × SV)} (hu:Uniq l) {u:Option Nat}:Uniq (delO u l):=by
 cases u with
 | none=>exact hu
 | some v=>exact hu.filter _
theorem dbr_look {l:List (Nat × SV)} (hu:Uniq l) {t:Nat} {x:SV}:(delBoxRefs l).lookup t = some x ↔ l.lookup t = some x /\ x.cs.any Cell.aliBox = false:=by
 unfold delBoxRefs;constructor
 ·intro h;obtain ⟨h1,h2⟩:=lookup_filter hu h;exact ⟨h1,by simpa using h2⟩
 ·intro h;exact lookup_of_mem (hu.filter _) (List.mem_filter.2 ⟨lookup_mem h.1,by simpa using h.2⟩)
theorem putO_look {l:List (Nat × SV)} (hu:Uniq l) {d:Option Nat} {v:Option SV} {t:Nat} {x:SV}:(putO d v l).lookup t = some x ↔
  (d = some t /\ v = some x) \/ (l.lookup t = some x /\ ∀ e y,d = some e -> v = some y -> t ≠ e /\ x.refs e = false):=by
 unfold putO;split
 ·rename_i d v;rw [List.lookup_cons];by_cases htd:t = d
  ·subst htd;simp only [BEq.rfl];constructor
   ·intro h; injection h with h; subst h; exact .inl ⟨trivial,rfl⟩
   ·rintro (⟨_,h⟩ | ⟨_,h⟩)
    ·exact h
    ·exact absurd rfl (h t v rfl rfl).1
  ·have:(t == d) = false:=by simpa using htd
   rw [this];unfold dropRefs;constructor
   ·intro h;obtain ⟨h1,h2⟩:=lookup_filter hu h;simp only [Bool.and_eq_true,bne_iff_ne,Bool.not_eq_true'] at h2;exact .inr ⟨h1,fun e y he hy=>by injection he with he; subst he; exact h2⟩
   ·rintro (⟨h,_⟩ | ⟨h1,h2⟩)
    ·injection h with h; exact absurd h.symm htd
    ·obtain ⟨h3,h4⟩:=h2 d v rfl rfl;exact lookup_of_mem (hu.filter _) (List.mem_filter.2 ⟨lookup_mem h1,by simp [h3,h4]⟩)
 ·rename_i hno;constructor
  ·exact fun h=>.inr ⟨h,fun e y he hy=>(hno e y he hy).elim⟩
  ·rintro (⟨h1,h2⟩ | ⟨h1,_⟩)
   ·exact (hno t x h1 h2).elim
   ·exact h1
theorem putO_uniq {l:List (Nat × SV)} (hu:Uniq l) {d:Option Nat} {v:Option SV}:Uniq (putO d v l):=by
 unfold putO;split
 ·exact hu.put _ _
 ·exact hu
theorem boxO_look {l:List (Nat × Nat × List Cell)} (hu:Uniq l) {y:Option (Nat × Nat × List Cell)} {n:Nat} {z:Nat × List Cell}:(boxO y l).lookup n = some z ↔ y = some (n,z) \/ (l.lookup n = some z /\ ∀ q,y = some q -> q.1 ≠ n):=by
 cases y with
 | none=>exact ⟨fun h=>.inr ⟨h,fun q hq=>by cases hq⟩,fun h=>h.elim (fun h=>by cases h) fun h=>h.1⟩
 | some q=>
  obtain ⟨m,b⟩:=q;show (setBox m b l).lookup n = some z ↔ _;unfold setBox;rw [List.lookup_cons];by_cases hnm:n = m
  ·subst hnm;simp only [BEq.rfl];constructor
   ·intro h; injection h with h; subst h; exact .inl rfl
   ·rintro (h | ⟨_,h⟩)
    ·injection h with h; injection h with _ h; rw [h]
    ·exact absurd rfl (h _ rfl)
  ·have:(n == m) = false:=by simpa using hnm
   simp only [this];constructor
   ·intro h;exact .inr ⟨(lookup_filter hu h).1,fun q hq=>by injection hq with hq; subst hq; exact fun e=>hnm e.symm⟩
   ·rintro (h | ⟨h,_⟩)
    ·injection h with h; injection h with h _; exact absurd h.symm hnm
    ·exact lookup_of_mem (hu.filter _) (List.mem_filter.2 ⟨lookup_mem h,by simpa using hnm⟩)
theorem boxO_uniq {l:List (Nat × Nat × List Cell)} (hu:Uniq l) {y:Option (Nat × Nat × List Cell)}:Uniq (boxO y l):=by
 cases y with
 | none=>exact hu
 | some q=>exact hu.setBox
theorem St.Ok.wr {s:St} (h:s.Ok) (d:Option Nat) (q:Eff):(s.wr d q).Ok:=⟨putO_uniq ((delO_uniq h.slots).filter _),boxO_uniq h.boxes⟩
theorem wr_slots {s:St} (hs:s.Ok) {d:Option Nat} {q:Eff} {u:List Nat} {bx:Option (Nat × Nat × List Cell)} {v:Option SV} {t:Nat} {x:SV}:(s.wr d q).slots.lookup t = some x ↔
  (d = some t /\ q.put = some x) \/ ((s.slots.lookup t = some x /\ hits ⟨v,bx,some q.del,u⟩ t x = false) /\ ∀ e y,d = some e -> q.put = some y -> t ≠ e /\ x.refs e = false):=by
 show (putO d q.put (delBoxRefs (delO q.del s.slots))).lookup t = some x ↔ _;rw [putO_look (show Uniq (delBoxRefs (delO q.del s.slots)) from (delO_uniq hs.slots).filter _),dbr_look (delO_uniq hs.slots),delO_look hs.slots];refine or_congr Iff.rfl (and_congr_left fun _=>?_)
 unfold hits;simp only [Bool.or_eq_false_iff];cases q.del with
 | none=>exact ⟨fun h=>⟨h.1.1,h.2,rfl⟩,fun h=>⟨⟨h.1,fun v hv=>by cases hv⟩,h.2.1⟩⟩
 | some w=>
  simp only [Bool.or_eq_false_iff];exact ⟨fun h=>⟨h.1.1,h.2,by simpa using (h.1.2 w rfl).1,(h.1.2 w rfl).2⟩,fun h=>⟨⟨h.1,fun v hv=>by injection hv with hv; subst hv; exact ⟨by simpa using h.2.2.1,h.2.2.2⟩⟩,h.2.1⟩⟩
theorem aeff_put {s:St} {o:Oper} {q:Eff} {c:Cnd} {d:Nat} (h:aeff P N s o = some (q,c)) (hd:o.dst = some d):q.put ≠ none:=by
 unfold aeff at h;split at h
 ·exfalso;split at h
  ·split at h
   ·split at h
    ·cases h
    ·split at h
     ·rename_i hc;rw [hd] at hc;cases hc.2.2.2
     ·cases h
   ·cases h
  ·split at h
   ·split at h
    ·cases h
    ·split at h
     ·rename_i hc;rw [hd] at hc;cases hc.2.2.2.2.1
     ·cases h
   ·cases h
  ·cases h
 ·split at h
  ·split at h
   ·injection h with h; injection h with h _; subst h; simp
   ·cases h
  ·cases h
 ·split at h
  ·split at h
   ·split at h
    ·split at h
     ·split at h
      ·split at h
       ·cases h
       ·split at h
        ·split at h
         ·injection h with h; injection h with h _; subst h; simp
         ·cases h
        ·cases h
      ·cases h
     ·cases h
    ·cases h
   ·cases h
  ·cases h
 ·cases h
def StepOk (P:Program) (N:Nat) (ops:Array Oper) (hints:List (Nat × Hint)) (s0:St) (res:List (Option Res)) (i:Nat):Prop:=
 ∃ o s,ops[i]? = some o /\ Txt s0 ops res i s /\
  ((∃ d,o.dst = some d /\ wanted s ops o = some false /\ d < N /\ resAt res i = some ⟨some undefSV,none,none,[]⟩) \/
   (∃ q c,wanted s ops o = some true /\ isTail o s = true /\ c.P /\ aeff P N (s.restrict o) o = some (q,c) /\ resAt res i = some ⟨q.put,q.box,some q.del,(s.restrict o).boxes.map (·.1)⟩) \/
   (∃ d,o.dst = some d /\ wanted s ops o = some true /\ d < N /\ ∃ v ob bb,ob /\ acalm P (wantsOwn ops (some d)) (hints.lookup i) (s.restrict o) o = some (v,ob,bb) /\ v.refs d = false /\ resAt res i = some ⟨some v,bb.map fun y=>(d,y),none,(s.restrict o).boxes.map (·.1)⟩))
theorem arunC_facts {tl:List Nat}:∀ (l:List Oper) (i:Nat) (s s':St) (rs:List (Option Res)) (ob:Prop),(∀ j o,l[j]? = some o -> ops[i + j]? = some o) -> (∀ j,j < l.length -> rs[j]? = res[i + j]?) -> arunC P N ops hints tl i l s = some (rs,s',ob) -> ob -> Txt s0 ops res i s ->
  (∀ j,j < l.length -> tl.contains (i + j) = false -> StepOk P N ops hints s0 res (i + j)) /\ (∀ j,j < l.length -> cal res (i + j) = !tl.contains (i + j)) /\ Txt s0 ops res (i + l.length) s' /\ rs.length = l.length
 | [],i,s,s',rs,ob,_,_,h,_,ht=>by
  simp [arunC] at h;obtain ⟨rfl,rfl,_⟩:=h;exact ⟨fun j hj=>by simp at hj,fun j hj=>by simp at hj,ht,rfl⟩
 | o :: l,i,s,s',rs,ob,hl,hres,h,hob,ht=>by
  have ho:ops[i]? = some o:=by simpa using hl 0 o rfl
  have go:∀ {q:Res} {l':List (Option Res)} {s1 s2:St} {ob1:Prop},tl.contains i = false -> rs = some q :: l' -> arunC P N ops hints tl (i + 1) l s1 = some (l',s2,ob1) -> s2 = s' -> ob1 -> (resAt res i = some q -> StepOk P N ops hints s0 res i) -> (resAt res i = some q -> Txt s0 ops res (i + 1) s1) ->
    (∀ j,j < (o :: l).length -> tl.contains (i + j) = false -> StepOk P N ops hints s0 res (i + j)) /\ (∀ j,j < (o :: l).length -> cal res (i + j) = !tl.contains (i + j)) /\ Txt s0 ops res (i + (o :: l).length) s' /\ rs.length = (o :: l).length:=fun {q l' s1 s2 ob1} htc hrs h1 hs2 hob1 hst htx=>by
   subst hrs; subst hs2;have hr0:resAt res i = some q:=by
    have:=hres 0 (by simp)
    simp at this;simp [resAt,<- this]
   obtain ⟨r1,r2,r3,r4⟩:=arunC_facts l (i + 1) s1 s2 l' ob1 (fun j o' hj=>by have:=hl (j + 1) o' (by simpa using hj); rwa [show i + 1 + j = i + (j + 1) from by omega]) (fun j hj=>by have:=hres (j + 1) (by simp; omega); simpa [show i + 1 + j = i + (j + 1) from by omega] using this) h1 hob1 (htx hr0)
   refine ⟨fun j hj hc=>?_,fun j hj=>?_,by rw [List.length_cons,show i + (l.length + 1) = i + 1 + l.length from by omega]; exact r3,by simp [r4]⟩
   ·cases j with
    | zero=>exact hst hr0
    | succ j=>rw [show i + (j + 1) = i + 1 + j from by omega] at hc ⊢; exact r1 j (by simpa using hj) hc
   ·cases j with
    | zero=>rw [Nat.add_zero,cal_of hr0,htc]; rfl
    | succ j=>rw [show i + (j + 1) = i + 1 + j from by omega]; exact r2 j (by simpa using hj)
  simp only [arunC] at h;cases htc:tl.contains i with
  | true=>
   simp only [htc] at h;split at h
   ·rename_i l' s1 ob1 h1;simp only [Option.some.injEq,Prod.mk.injEq] at h;obtain ⟨rfl,rfl,rfl⟩:=h;have hr0:resAt res i = none:=by
     have:=hres 0 (by simp)
     simp at this;simp [resAt,<- this]
    have hcf:cal res i = false:=by unfold cal; rw [hr0]; rfl
    obtain ⟨r1,r2,r3,r4⟩:=arunC_facts l (i + 1) s s1 l' ob1 (fun j o' hj=>by have:=hl (j + 1) o' (by simpa using hj); rwa [show i + 1 + j = i + (j + 1) from by omega]) (fun j hj=>by have:=hres (j + 1) (by simp; omega); simpa [show i + 1 + j = i + (j + 1) from by omega] using this) h1 hob (ht.skip hr0)
    refine ⟨fun j hj hc=>?_,fun j hj=>?_,by rw [List.length_cons,show i + (l.length + 1) = i + 1 + l.length from by omega]; exact r3,by simp [r4]⟩
    ·cases j with
     | zero=>rw [Nat.add_zero,htc] at hc; cases hc
     | succ j=>rw [show i + (j + 1) = i + 1 + j from by omega] at hc ⊢; exact r1 j (by simpa using hj) hc
    ·cases j with
     | zero=>rw [Nat.add_zero,hcf,htc]; rfl
     | succ j=>rw [show i + (j + 1) = i + 1 + j from by omega]; exact r2 j (by simpa using hj)
   ·simp at h
  | false=>
   simp only [htc] at h;have dsto:∀ {d},o.dst = some d -> dstOf ops i = some d:=fun {d} hd=>by simp [dstOf,ho,hd]
   split at h
   ·rename_i hw;split at h
    ·rename_i d hd;split at h
     ·rename_i hdN;split at h
      ·rename_i l' s1 ob1 h1;simp only [Option.some.injEq,Prod.mk.injEq] at h;obtain ⟨rfl,rfl,rfl⟩:=h;refine go htc rfl h1 rfl hob (fun hr0=>⟨o,s,ho,ht,.inl ⟨d,hd,hw,hdN,hr0⟩⟩) fun hr0=>ht.next hr0 (ht.ok.app _ _ _) (fun t x hx=>?_) fun n y hy=>?_
       ·rcases app_slots' ht.ok hx with ⟨rfl,rfl⟩ | ⟨h1,h2⟩
        ·exact .inl ⟨dsto hd,rfl⟩
        ·exact .inr ⟨by rw [dsto hd]; intro e; injection e with e; exact h1 e.symm,h2,rfl⟩
       ·rcases app_boxes' ht.ok hy with ⟨_,h⟩ | ⟨h1,_⟩
        ·cases h
        ·exact .inr ⟨h1,fun y hy=>by cases hy⟩
      ·simp at h
     ·simp at h
    ·simp at h
   ·rename_i hw;split at h
    ·rename_i htl;split at h
     ·rename_i q c hae;split at h
      ·rename_i l' s1 ob1 h1;simp only [Option.some.injEq,Prod.mk.injEq] at h;obtain ⟨rfl,rfl,rfl⟩:=h;refine go htc rfl h1 rfl hob.2 (fun hr0=>⟨o,s,ho,ht,.inr (.inl ⟨q,c,hw,htl,hob.1,hae,hr0⟩)⟩) fun hr0=>ht.next hr0 (ht.ok.wr _ _) (fun t x hx=>?_) fun n y hy=>?_
       ·rcases (wr_slots ht.ok).1 hx with ⟨h1,h2⟩ | ⟨⟨h1,h2⟩,h3⟩
        ·exact .inl ⟨dsto h1,h2⟩
        ·by_cases hdt:dstOf ops i = some t
         ·have hd:o.dst = some t:=by simpa [dstOf,ho] using hdt
          cases hp:q.put with
          | none=>exact absurd hp (aeff_put hae hd)
          | some y=>exact absurd rfl (h3 t y hd hp).1
         ·exact .inr ⟨hdt,h1,h2⟩
       ·rcases (boxO_look ht.ok.boxes).1 hy with h1 | ⟨h1,h2⟩
        ·exact .inl h1
        ·exact .inr ⟨h1,h2⟩
      ·simp at h
     ·simp at h
    ·split at h
     ·rename_i d hd;split at h
      ·rename_i hdN;split at h
       ·rename_i v obv bb hac;split at h
        ·simp at h
        ·rename_i hvr;split at h
         ·rename_i l' s1 ob1 h1;simp only [Option.some.injEq,Prod.mk.injEq] at h;obtain ⟨rfl,rfl,rfl⟩:=h;refine go htc rfl h1 rfl hob.2 (fun hr0=>⟨o,s,ho,ht,.inr (.inr ⟨d,hd,hw,hdN,v,obv,bb,hob.1,hac,by simpa using hvr,hr0⟩)⟩) fun hr0=>ht.next hr0 (ht.ok.app _ _ _) (fun t x hx=>?_) fun n y hy=>?_
          ·rcases app_slots' ht.ok hx with ⟨rfl,rfl⟩ | ⟨h1,h2⟩
           ·exact .inl ⟨dsto hd,rfl⟩
           ·exact .inr ⟨by rw [dsto hd]; intro e; injection e with e; exact h1 e.symm,h2,rfl⟩
          ·rcases app_boxes' ht.ok hy with ⟨rfl,h⟩ | ⟨h1,h2⟩
           ·subst h; exact .inl rfl
           ·refine .inr ⟨h1,fun z hz=>?_⟩
            cases hbb:bb with
            | none=>rw [hbb] at hz; cases hz
            | some w=>
             rw [hbb] at hz;simp at hz;subst hz;exact fun e=>h2 w hbb e.symm
         ·simp at h
       ·simp at h
      ·simp at h
     ·simp at h
   ·simp at h
end
end Go.Proofs.YthnagpmnoncijaaGreat.M
