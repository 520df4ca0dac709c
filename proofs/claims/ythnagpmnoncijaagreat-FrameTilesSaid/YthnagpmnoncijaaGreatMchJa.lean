/- A part of the proof. -/
import Derived.Test.YthnagpmnoncijaaGreatMchK
set_option linter.unusedVariables false
namespace Go.Proofs.YthnagpmnoncijaaGreat.M
open Go Go.RowKit
def Cell.offQ (q:Place) (c:Cell):Bool:=
 match c.target with
 | some q'=>decide (q' ≠ q)
 | none=>true
def Place.inSlot (q:Place) (t:Nat):Bool:=
 match q with
 | .slot t' _=>t' == t
 | .box _ _=>false
def Place.inBox (q:Place) (n:Nat):Bool:=
 match q with
 | .box n' _=>n' == n
 | .slot _ _=>false
def St.yielded (s:St) (q:Place) (c:Cell):List (Nat × Nat × List Cell):=
 match q with
 | .box n j=>match s.boxes.lookup n with
  | some (e,cs)=>setBox n (e,cs.set j c) s.boxes
  | none=>s.boxes
 | .slot _ _=>s.boxes
def St.pullAt (s:St) (d i:Nat):St:=
 match s.slots.lookup d with
 | some v=>match v.cs[i]? with
  | some (.ali q _ _ _)=>match s.at? q with
   | some (.own e t l)=>match !q.inSlot d && (v.cs.set i (.own e t l)).all (fun c=>c.offQ q) with
    | true=>⟨(d,⟨v.sh,v.cs.set i (.own e t l)⟩) :: s.slots.filter (fun p=>p.1 != d && (!q.inSlot p.1 && p.2.cs.all (fun c=>c.offQ q))),s.yielded q (.lst t l)⟩
    | false=>s
   | _=>s
  | _=>s
 | none=>s
def St.pullL (d:Nat):List Nat -> St -> St
 | [],s=>s
 | i :: r,s=>St.pullL d r (s.pullAt d i)
def St.pull (s:St) (d:Nat):St:=
 match s.slots.lookup d with
 | some v=>St.pullL d (List.range v.cs.length) s
 | none=>s
theorem inSlot_f {q:Place} {t:Nat} (h:q.inSlot t = false) (k:Nat):Place.slot t k ≠ q:=fun e=>by
 subst e;simp [Place.inSlot] at h
theorem inBox_f {q:Place} {n:Nat} (h:q.inBox n = false) (k:Nat):Place.box n k ≠ q:=fun e=>by
 subst e;simp [Place.inBox] at h
variable {E:Env} {s:St} {a:Act} {w:World} {g:Gh}
theorem Rel.pullAt (hr:Rel E s a w g) (d i:Nat):∃ g',Rel E (s.pullAt d i) a w g':=by
 unfold St.pullAt;split
 ·rename_i v hv;split
  ·rename_i q e0 t0 l0 hi;split
   ·rename_i e t l hat;split
    ·rename_i hall;rw [Bool.and_eq_true,Bool.not_eq_true'] at hall;obtain ⟨hqd,hall⟩:=hall;obtain ⟨us,e1,e2,e3,e4⟩:=hr.slots d v hv;have hil:=(List.getElem?_eq_some_iff.1 hi).1;have hy:=List.getElem?_eq_getElem (show i < us.length by omega)
     obtain ⟨hone,hcv⟩:=e4 i _ _ hi hy;obtain ⟨u0,c1,hown⟩:=hr.at_sound hat;rw [hcv.1] at c1;injection c1 with c1;subst c1;generalize us[i] = y at *
     have hP:∀ b,y.ownBlock = some b -> g.perm b = .row q (l.length * t.n):=hown.2.2
     let P':Nat -> Perm:=fun b=>if y.ownBlock = some b then .row (.slot d i) (l.length * t.n) else g.perm b
     let g':Gh:={ g with perm:=P' }
     have P1:∀ {b},y.ownBlock = some b -> P' b = .row (.slot d i) (l.length * t.n):=fun hb=>if_pos hb
     have P2:∀ {b},y.ownBlock ≠ some b -> P' b = g.perm b:=fun hb=>if_neg hb
     have hk:ok E.base E.k0 P' = ok E.base E.k0 g.perm:=by
      funext b x
      by_cases hb:y.ownBlock = some b
      ·simp only [ok,okp,P1 hb,hP b hb]
      ·simp only [ok,okp,P2 hb]
     have hck:(ctx E g' a w).k = (ctx E g a w).k:=hk;have hckp:(ctx E g' a w).kp = (ctx E g a w).kp:=by show kpOf _ _ _ = kpOf _ _ _; rw [show ok E.base E.k0 g'.perm = ok E.base E.k0 g.perm from hk]
     have keep:∀ {p:Place} {x:Cell} {u:Value},CV (ctx E g a w) p x u -> x.offQ q = true -> (x.isOwn = true -> p ≠ q) -> CV (ctx E g' a w) p x u:=fun {p x u} h ho hp=>by
      refine h.mono (fun b i v h1 h2=>⟨h2,by rw [hck]; exact h1⟩) (fun b i v h1 h2=>⟨h2,by rw [hckp]; exact h1⟩) (fun q2 b tip hq hb=>⟨?_,rfl⟩) (fun _ _=>rfl) (fun _ _ _ h=>h)
      show P' b = _;by_cases hbb:y.ownBlock = some b
      ·have h1:=hP b hbb;rw [show g.perm b = .row q2 tip from hb] at h1;injection h1 with h1 h2;rcases hq with ⟨hq1,hq2⟩ | hq
       ·exact absurd (hq2 ▸ h1) (hp hq1)
       ·unfold Cell.offQ at ho;rw [hq] at ho;simp at ho;exact absurd h1 ho
      ·rw [P2 hbb];exact hb
     have hnew:CV (ctx E g' a w) (.slot d i) (.own e t l) y:=⟨hown.1,by rw [hck]; exact hown.2.1,fun b hb=>P1 hb⟩
     have hsrc:∀ n e' cs,(s.yielded q (.lst t l)).lookup n = some (e',cs) -> s.boxes.lookup n = some (e',cs) /\ q.inBox n = false \/ ∃ j cs0,q = .box n j /\ s.boxes.lookup n = some (e',cs0) /\ cs = cs0.set j (.lst t l) /\ cs0[j]? = some (.own e t l):=fun n e' cs hn=>by
      cases q with
      | slot t0 j0=>exact .inl ⟨hn,rfl⟩
      | box m j=>
       simp only [St.yielded] at hn;split at hn
       ·rename_i e2 cs2 hb2;rcases lookup_setBox hr.uniq.boxes hn with ⟨rfl,hq2⟩ | ⟨hmn,hm'⟩
        ·injection hq2 with h1 h2;subst h1;refine .inr ⟨j,cs2,rfl,hb2,h2,?_⟩;simp only [St.at?] at hat;cases hbx:s.box? n with
         | none=>rw [hbx] at hat; cases hat
         | some p=>
          have h3:=(St.box?_eq hbx).1;rw [hb2] at h3;injection h3 with h3;subst h3;rw [hbx] at hat;exact hat
        ·exact .inl ⟨hm',by simp only [Place.inBox]; rw [beq_eq_false_iff_ne]; exact fun h=>hmn h.symm⟩
       ·rename_i hb2;refine .inl ⟨hn,?_⟩;simp only [Place.inBox];rw [beq_eq_false_iff_ne];intro h;subst h;rw [hb2] at hn;cases hn
     have huq:Uniq (s.yielded q (.lst t l)):=by
      cases q with
      | slot t0 j0=>exact hr.uniq.boxes
      | box m j=>
       simp only [St.yielded];split
       ·exact hr.uniq.boxes.setBox
       ·exact hr.uniq.boxes
     refine ⟨g',⟨⟨(hr.uniq.slots.filter _).cons fun p hp=>?_,huq⟩,fun t1 x hx=>?_,fun n e' cs hn=>?_,fun n e' cs hn=>?_,fun b hb=>?_,hr.below,hr.base,hr.size,hr.defers,fun l0 o hl0=>?_,hr.li,hr.dyn⟩⟩
     ·have:=(List.mem_filter.1 hp).2;simp at this;exact this.1
     ·simp only [List.lookup_cons] at hx;by_cases ht:t1 = d
      ·subst ht;simp at hx;subst hx;refine ⟨us,e1,e2,by simp [e3],fun k c z hc hz=>?_⟩
       simp only [List.getElem?_set] at hc;split at hc
       ·rename_i hik;subst hik;injection hc with hc;subst hc;rw [hy] at hz;injection hz with hz;subst hz;exact ⟨hone,hnew⟩
       ·rename_i hik;refine ⟨(e4 k c z hc hz).1,keep (e4 k c z hc hz).2 ?_ (fun _=>inSlot_f hqd k)⟩
        rw [List.all_eq_true] at hall;refine hall c (List.mem_of_getElem? (i:=k) ?_);rw [List.getElem?_set,if_neg hik];exact hc
      ·have hb2:(t1 == d) = false:=by simpa using ht
       simp only [hb2] at hx;obtain ⟨k1,k2⟩:=lookup_filter hr.uniq.slots hx;simp only [Bool.and_eq_true,List.all_eq_true] at k2;obtain ⟨us',f1,f2,f3,f4⟩:=hr.slots t1 x k1;exact ⟨us',f1,f2,f3,fun k c z hc hz=>⟨(f4 k c z hc hz).1,keep (f4 k c z hc hz).2 (k2.2.2 c (List.mem_of_getElem? hc)) (fun _=>inSlot_f (by simpa using k2.2.1) k)⟩⟩
     ·rcases hsrc n e' cs hn with ⟨k1,hnm⟩ | ⟨j,cs0,rfl,k1,rfl,hj0⟩
      ·obtain ⟨h1,h2⟩:=hr.boxes n e' cs k1;refine ⟨?_,h2.mono rfl rfl (fun _=>rfl) fun k c z hc _ hcv=>keep (hcv c hc) ?_ (fun _=>inBox_f hnm k)⟩
       ·show P' (g.ι n) = _;rw [P2 fun hb=>by have:=hP _ hb; rw [h1] at this; cases this]
        exact h1
       ·unfold Cell.offQ;rw [hr.nt n e' cs k1 c (List.mem_of_getElem? hc)]
      ·obtain ⟨h1,h2⟩:=hr.boxes n e' cs0 k1
       refine ⟨?_,h2.mono rfl (by simp) (fun he=>by
        obtain ⟨_,rfl,_⟩:=h2.2 he;rcases j with _ | j
        ·injection hj0 with hj0; cases hj0
        ·cases hj0) fun k c z hc _ hcv=>?_⟩
       ·show P' (g.ι n) = _;rw [P2 fun hb=>by have:=hP _ hb; rw [h1] at this; cases this]
        exact h1
       ·simp only [List.getElem?_set] at hc;split at hc
        ·rename_i hjk;subst hjk;split at hc
         ·injection hc with hc;subst hc;have m2:=hcv _ hj0;show DV w (ctx E g' a w).k (.lst t l) z;rw [hck];exact m2.2.1
         ·cases hc
        ·rename_i hjk;refine keep (hcv c hc) ?_ (fun _ e=>hjk (by injection e with _ e; exact e.symm))
         unfold Cell.offQ;rw [hr.nt n e' cs0 k1 c (List.mem_of_getElem? hc)]
     ·rcases hsrc n e' cs hn with ⟨k1,hnm⟩ | ⟨j,cs0,rfl,k1,rfl,hj0⟩
      ·exact hr.nt n e' cs k1
      ·intro c hc;rcases List.mem_or_eq_of_mem_set hc with hc | rfl
       ·exact hr.nt n e' cs0 k1 c hc
       ·rfl
     ·by_cases hbb:y.ownBlock = some b
      ·obtain ⟨q1,q2⟩:=hr.lo b (by rw [hP b hbb]; simp)
       exact ⟨.inl (q1.resolve_right fun h=>h.2 _ _ (hP b hbb)),q2⟩
      ·have hb':P' b ≠ .free:=hb;rw [P2 hbb] at hb';show (_ \/ (_ /\ (P' b).rowless)) /\ _;rw [P2 hbb];exact hr.lo b hb'
     ·obtain ⟨q1,q2⟩:=hr.ko l0 o hl0;refine ⟨q1,?_⟩;show P' l0 = .free;rw [P2 fun hb=>by have:=hP _ hb; rw [q2] at this; cases this]
      exact q2
    ·exact ⟨g,hr⟩
   ·exact ⟨g,hr⟩
  ·exact ⟨g,hr⟩
 ·exact ⟨g,hr⟩
theorem Rel.pullL {d:Nat}:∀ (l:List Nat) {s:St} {g:Gh},Rel E s a w g -> ∃ g',Rel E (St.pullL d l s) a w g'
 | [],s,g,hr=>⟨g,hr⟩
 | i :: r,s,g,hr=>by
  obtain ⟨g1,h1⟩:=hr.pullAt d i;exact Rel.pullL r h1
theorem Rel.pull (hr:Rel E s a w g) (d:Nat):∃ g',Rel E (s.pull d) a w g':=by
 unfold St.pull;split
 ·exact Rel.pullL _ hr
 ·exact ⟨g,hr⟩
end Go.Proofs.YthnagpmnoncijaaGreat.M
