/- A region that draws its order: every order comes to what the text's order comes to. -/
import Derived.Test.YtfejdcdomgeogaaMchO
set_option linter.unusedVariables false
namespace Go.Proofs.Ytfejdcdomgeogaa.M
open Go Go.RowKit

structure Res where
  val : SV
  box : Option (Nat × List Cell)
  used : List Nat

def opTmps (o : Oper) : List Nat := o.op.operands.toList.filterMap fun
  | .tmp t => some t
  | _ => none

def guardTmp (ops : Array Oper) (o : Oper) : List Nat :=
  match o.guard with
  | none => []
  | some (j, _) => match (ops[j]?).bind (·.dst) with
    | some d => [d]
    | none => []

def St.restrict (s : St) (o : Oper) : St :=
  let sl := s.slots.filter fun q => (opTmps o).contains q.1
  ⟨sl, s.boxes.filter fun q => sl.any fun p => p.2.mentions q.1⟩

/-- The operations that only set their temporaries, in the text's order, each from what it reads alone; those of the writing end are passed by. -/
def arunC (P : Program) (N : Nat) (ops : Array Oper) (hints : List (Nat × Hint)) (tl : List Nat) : Nat → List Oper → St → Option (List (Option Res) × St × Prop)
  | _, [], s => some ([], s, True)
  | i, o :: r, s => match tl.contains i with
    | true => match arunC P N ops hints tl (i + 1) r s with
      | some (l, s', ob) => some (none :: l, s', ob)
      | none => none
    | false => match wanted s ops o, o.dst with
      | some false, some d => if d < N then match arunC P N ops hints tl (i + 1) r (s.app d undefSV none) with
          | some (l, s', ob) => some (some ⟨undefSV, none, []⟩ :: l, s', ob)
          | none => none
        else none
      | some true, some d => if d < N then match acalm P (wantsOwn ops (some d)) (hints.lookup i) (s.restrict o) o with
          | some (v, ob, b) => if v.refs d then none else match arunC P N ops hints tl (i + 1) r (s.app d v b) with
            | some (l, s', ob') => some (some ⟨v, b, (s.restrict o).boxes.map (·.1)⟩ :: l, s', ob ∧ ob')
            | none => none
          | none => none
        else none
      | _, _ => none

def edgesOf (o : Oper) : List Nat := (o.after.toList.filter (Region.binds .any)).map (·.on)

/-- Of each operation those that surely come ahead of it, as bits. -/
def befs : List Oper → List Nat → List Nat
  | [], acc => acc
  | o :: r, acc => befs r (acc ++ [(edgesOf o).foldl (fun s j => s ||| 2 ^ j ||| acc.getD j 0) 0])

def dstOf (ops : Array Oper) (k : Nat) : Option Nat := (ops[k]?).bind (·.dst)

def resAt (res : List (Option Res)) (k : Nat) : Option Res := (res[k]?).bind id

/-- Whether a value, or a variable, hangs on operation i's own names. -/
def hangs (ops : Array Oper) (res : List (Option Res)) (i : Nat) (v : SV) : Bool :=
  match dstOf ops i with
  | some d => v.refs d || (match resAt res i with | some q => q.box.isSome && v.mentions d | none => false)
  | none => false

def boxHangs (ops : Array Oper) (res : List (Option Res)) (i : Nat) (cs : List Cell) : Bool :=
  match dstOf ops i with
  | some d => (match resAt res i with | some q => q.box.isSome && cs.any (Cell.mentions d) | none => false)
  | none => false

/-- An operation that hangs not on the world, and turns nothing of it: it may be taken as soon as it may come up. -/
def light (o : Oper) : Bool :=
  match o.op with
  | .move _ => true
  | .assign _ => true
  | .extract _ _ => true
  | .slice _ _ _ _ _ => true
  | _ => false

def lightAt (ops : Array Oper) (b : List Nat) (i : Nat) : Bool :=
  match ops[i]? with
  | some o => light o && (List.range ops.size).all fun j => j == i || (b.getD i 0).testBit j || match ops[j]? with
      | some oj => (edgesOf oj).contains i || o.apart ops oj
      | none => true
  | none => false

/-- It is not of the writing end. -/
def cal (res : List (Option Res)) (i : Nat) : Bool := (resAt res i).isSome

/-- No operation waits for others, or is put off. -/
def noSel (ops : Array Oper) : Bool := ops.all fun o => match o.op with
  | .select _ _ => false
  | .defer _ => false
  | _ => true

theorem noSel_spec {ops : Array Oper} (h : noSel ops = true) {j : Nat} {o : Oper} (ho : ops[j]? = some o) : (∀ cs b, o.op ≠ .select cs b) ∧ ∀ c, o.op ≠ .defer c := by
  have := Array.all_eq_true_iff_forall_mem.1 h o (Array.mem_of_getElem? ho)
  exact ⟨fun cs b e => by simp [e] at this, fun c e => by simp [e] at this⟩

def drawOk (ops : Array Oper) (res : List (Option Res)) (s : St) (b : List Nat) : Bool :=
  noSel ops && (List.range ops.size).all fun i => match ops[i]? with
    | none => false
    | some o =>
      ((edgesOf o).all fun j => j < i) &&
      (if cal res i then
        o.dst.isSome &&
        ((List.range ops.size).all fun k => k == i || !cal res k || dstOf ops k != o.dst) &&
        ((opTmps o ++ guardTmp ops o).all fun t => (List.range ops.size).all fun k => !cal res k || dstOf ops k != some t || (k < i && (b.getD i 0).testBit k) || (i < k && (b.getD k 0).testBit i)) &&
        ((List.range ops.size).all fun k => k == i || (match resAt res k with
          | some q => (!(hangs ops res i q.val || (match q.box with | some y => boxHangs ops res i y.2 | none => false))) || (b.getD k 0).testBit i
          | none => true)) &&
        (s.slots.all fun q => !hangs ops res i q.2) &&
        (match resAt res i with
          | some q => !q.box.isSome || s.boxes.all fun y => some y.1 != o.dst && !boxHangs ops res i y.2.2
          | none => true) &&
        (match resAt res i with
          | some q => q.used.all fun n => (List.range ops.size).all fun k => dstOf ops k != some n || (match resAt res k with | some p => !p.box.isSome | none => true) || (k < i && (b.getD i 0).testBit k)
          | none => true) &&
        (edgesOf o).all fun j => cal res j
      else ((List.range ops.size).all fun k => !cal res k || (b.getD i 0).testBit k || lightAt ops b k) && (List.range i).all fun k => cal res k || (b.getD i 0).testBit k)

/-- The writing end. -/
def tailOf (ops : Array Oper) (res : List (Option Res)) : List Nat := (List.range ops.size).filter fun i => !cal res i

def Closed (ops : Array Oper) (L : Nat → Prop) : Prop := ∀ (i : Nat) o, ops[i]? = some o → L i → ∀ j ∈ edgesOf o, L j

theorem testBit_or_pow {x j k : Nat} (h : (x ||| 2 ^ j).testBit k = true) : x.testBit k = true ∨ k = j := by
  rw [Nat.testBit_or, Bool.or_eq_true] at h
  rcases h with h | h
  · exact .inl h
  · right
    rw [Nat.testBit_two_pow] at h
    simpa using (of_decide_eq_true h).symm

theorem befs_sound {ops : Array Oper} {L : Nat → Prop} (hL : Closed ops L) : ∀ (l : List Oper) (acc : List Nat), (∀ j, l[j]? = ops[acc.length + j]?) → (∀ (i b : Nat), acc[i]? = some b → ∀ k, b.testBit k = true → L i → L k) →
    ∀ (i b : Nat), (befs l acc)[i]? = some b → ∀ k, b.testBit k = true → L i → L k
  | [], acc, _, h, i, b, hb => h i b hb
  | o :: r, acc, hl, h, i, b, hb => by
    refine befs_sound hL r _ (fun j => ?_) ?_ i b hb
    · have := hl (j + 1)
      rw [List.getElem?_cons_succ] at this
      rw [this]
      congr 1
      simp
      omega
    · intro i b hb k hk hi
      by_cases hlt : i < acc.length
      · rw [List.getElem?_append_left hlt] at hb
        exact h i b hb k hk hi
      · rw [List.getElem?_append_right (by omega)] at hb
        have hi0 : i - acc.length = 0 := by
          have := (List.getElem?_eq_some_iff.1 hb).1
          simp at this
          omega
        rw [hi0] at hb
        simp at hb
        have ho : ops[i]? = some o := by
          have := hl 0
          simp at this
          rw [show i = acc.length from by omega, ← this]
        have hed := hL i o ho hi
        have key : ∀ (es : List Nat) (x : Nat), (∀ j ∈ es, L j) → (∀ k, x.testBit k = true → L k) → ∀ k, (es.foldl (fun s j => s ||| 2 ^ j ||| acc.getD j 0) x).testBit k = true → L k := by
          intro es
          induction es with
          | nil => intro x _ hx k hk; exact hx k hk
          | cons j es ih =>
            intro x hes hx k hk
            refine ih _ (fun j' hj' => hes j' (by simp [hj'])) (fun k' hk' => ?_) k hk
            rw [Nat.testBit_or, Bool.or_eq_true] at hk'
            rcases hk' with hk' | hk'
            · rcases testBit_or_pow hk' with h1 | h1
              · exact hx k' h1
              · rw [h1]; exact hes j (by simp)
            · rw [List.getD_eq_getElem?_getD] at hk'
              cases hq : acc[j]? with
              | none => rw [hq] at hk'; simp at hk'
              | some y => rw [hq] at hk'; exact h j y hq k' hk' (hes j (by simp))
        rw [← hb] at hk
        exact key _ 0 hed (by simp) k hk

section
variable {P : Program} {E : Env} {ops : Array Oper} {N : Nat} {res : List (Option Res)} {s0 : St} {b : List Nat} {hints : List (Nat × Hint)}

def ixOf (ops : Array Oper) (res : List (Option Res)) (t : Nat) : Option Nat := (List.range ops.size).find? fun k => cal res k && dstOf ops k == some t

def slS (s0 : St) (ops : Array Oper) (res : List (Option Res)) (L : Nat → Bool) : Sl := fun t =>
  match ixOf ops res t with
  | some k => if L k then (resAt res k).map (·.val) else s0.slots.lookup t
  | none => s0.slots.lookup t

def bxS (s0 : St) (ops : Array Oper) (res : List (Option Res)) (L : Nat → Bool) : Bx := fun n =>
  match ixOf ops res n with
  | some k => if L k then (match resAt res k with
      | some q => (match q.box with
        | some y => some y
        | none => s0.boxes.lookup n)
      | none => s0.boxes.lookup n) else s0.boxes.lookup n
  | none => s0.boxes.lookup n

theorem cal_of {q : Res} {i : Nat} (h : resAt res i = some q) : cal res i = true := by unfold cal; rw [h]; rfl

theorem ixOf_some {t k : Nat} (h : ixOf ops res t = some k) : k < ops.size ∧ cal res k = true ∧ dstOf ops k = some t := by
  unfold ixOf at h
  have h1 := List.find?_some h
  have h2 := List.mem_of_find?_eq_some h
  simp only [Bool.and_eq_true, beq_iff_eq] at h1
  exact ⟨by simpa using h2, h1⟩

theorem ixOf_none {t : Nat} (h : ixOf ops res t = none) : ∀ k, k < ops.size → cal res k = true → dstOf ops k ≠ some t := fun k hk hc e => by
  unfold ixOf at h
  rw [List.find?_eq_none] at h
  have := h k (by simpa using hk)
  simp [e, hc] at this

end
end Go.Proofs.Ytfejdcdomgeogaa.M
