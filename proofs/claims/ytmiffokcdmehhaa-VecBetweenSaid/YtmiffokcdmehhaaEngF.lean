/- The operations that make memory, and those that write; the run of a list of operations. Definitions alone. -/
import Derived.Test.YtmiffokcdmehhaaEngE
set_option linter.unusedVariables false
namespace Go.Proofs.Ytmiffokcdmehhaa.E
open Go Go.RowKit

def Cell.plain : Cell → Bool
  | .v _ => true
  | .nilS => true
  | .lst _ => true
  | .clo _ [] => true
  | _ => false

def Cell.res : Cell → Bool
  | .own .. => true
  | c => c.plain

def evalArgs (s : St) : List Operand → Option (List SV)
  | [] => some []
  | x :: r => match evalO s x with
    | some v => (evalArgs s r).map (⟨v.sh, copyCells false (fun _ => .slot 0 0) 0 v.cs⟩ :: ·)
    | none => none

def toDs : List Cell → Option (List D)
  | [] => some []
  | c :: r => match c.toD with
    | some d => (toDs r).map (d :: ·)
    | none => none

def chunks (sz : Nat) : Nat → List D → List (List D)
  | 0, _ => []
  | n + 1, l => l.take sz :: chunks sz n (l.drop sz)

def zerosOf (z : List Cell) (n : Nat) : List Cell := (List.range n).map fun i => (z[i % z.length]?).getD .nilS

/-- Operations that set their temporary and may make a variable of that name; nothing else turns. -/
def acalm (P : Program) (want : Bool) (h : Option Hint) (s : St) (o : Oper) : Option (SV × Prop × Option (Nat × List Cell)) :=
  match o.op with
  | .alloc e => match o.dst, zeroCells P e with
    | some d, some z => some (⟨.one, [.ptr d 0]⟩, True, some (e, z))
    | _, _ => none
  | .box e x => match o.dst, evalO s x with
    | some d, some ⟨.one, [c]⟩ => if c.mentions d then none else some (⟨.one, [.ptr d 0]⟩, True, some (e, [c.copy false (.slot 0 0)]))
    | some d, some ⟨.agg, cs⟩ => if cs.any (Cell.mentions d) then none else some (⟨.one, [.ptr d 0]⟩, True, some (e, copyCells false (fun _ => .slot 0 0) 0 cs))
    | _, _ => none
  | .buildSlice t len parts => match P.underlying t with
    | some (.slice e) => match P.info? e, zeroCells P e, evalParts s parts.toList with
      | some j, some z, some ps => if j.size = 0 then none else if len * j.size > 2 ^ 24 then none else
        match fillCells (fun i => some (i * j.size, j.size)) (zerosOf z (len * j.size)) ps with
        | some cs => match toDs cs with
          | some ds => some (⟨.one, [.own e j.size (chunks j.size len ds)]⟩, True, none)
          | none => none
        | none => none
      | _, _, _ => none
    | _ => none
  | .call c => match c.callee, h with
    | .value f, some (.call r) => match evalO s f, evalArgs s c.args.toList with
      | some ⟨.one, [.clo fn []]⟩, some args => if args.all (fun v => v.cs.all Cell.plain) && r.cs.all Cell.res then some (r, PureC P fn args r, none) else none
      | _, _ => none
    | .builtin _, some (.val v) => match aval P want none s o.op with
      | some (v', ob) => if v.cs.any Cell.isOwn then none else some (v, ob ∧ v' = v, none)
      | none => none
    | _, _ => (aval P want h s o.op).map fun q => (q.1, q.2, none)
  | op => match h with
    | some (.val v) => match op with
      | .index .. => (aval P want h s op).map fun q => (q.1, q.2, none)
      | _ => match aval P want none s op with
        | some (v', ob) => if v.cs.any Cell.isOwn then none else some (v, ob ∧ v' = v, none)
        | none => none
    | some (.bool b) => match aval P want none s op with
      | some (⟨.one, [.v (.bool c)]⟩, ob) => some (⟨.one, [.v (.bool b)]⟩, ob ∧ c = b, none)
      | _ => none
    | _ => (aval P want h s op).map fun q => (q.1, q.2, none)

def dropRefs (d : Nat) (l : List (Nat × SV)) : List (Nat × SV) := l.filter fun q => q.1 != d && !q.2.refs d
def dropMentions (d : Nat) (l : List (Nat × SV)) : List (Nat × SV) := l.filter fun q => !q.2.mentions d
def dropBox (d : Nat) (l : List (Nat × Nat × List Cell)) : List (Nat × Nat × List Cell) := l.filter fun q => q.1 != d && !q.2.2.any (Cell.mentions d)

/-- The state behind such an operation. -/
def St.app (s : St) (d : Nat) (v : SV) : Option (Nat × List Cell) → St
  | none => { s with slots := (d, v) :: dropRefs d s.slots }
  | some b => { slots := (d, v) :: dropRefs d (dropMentions d s.slots), boxes := (d, b) :: dropBox d s.boxes }

/-- What an operation that was passed by leaves. -/
def undefSV : SV := ⟨.tup [], []⟩

def SV.asks (v : SV) (b : Bool) : Option Bool :=
  match v with
  | ⟨.tup [], []⟩ => some false
  | ⟨.one, [.v (.bool c)]⟩ => some (c == b)
  | _ => none

def wanted (s : St) (ops : Array Oper) (o : Oper) : Option Bool :=
  match o.guard with
  | none => some true
  | some (j, b) => match (ops[j]?).bind (·.dst) with
    | some d => match s.slots.lookup d with
      | some v => v.asks b
      | none => none
    | none => none

/-- Whether a temporary is handed to append as what grows. -/
def wantsOwn (ops : Array Oper) (d : Option Nat) : Bool :=
  match d with
  | none => false
  | some d => ops.any fun o => match o.op with
    | .call c => match c.callee, c.args.toList with
      | .builtin .append, .tmp t :: _ => t == d
      | _, _ => false
    | _ => false

def storeCell : Cell → Cell
  | .ali _ _ _ xs => .lst xs
  | c => c

def spliceCells (cs : List Cell) (off : Nat) (ys : List Cell) : List Cell := cs.take off ++ ys ++ cs.drop (off + ys.length)

def setBox (n : Nat) (b : Nat × List Cell) (l : List (Nat × Nat × List Cell)) : List (Nat × Nat × List Cell) := (n, b) :: l.filter fun q => q.1 != n
def delSlot (t : Nat) (l : List (Nat × SV)) : List (Nat × SV) := l.filter fun q => q.1 != t && !q.2.refs t
def Cell.aliBox : Cell → Bool
  | .ali (.box _ _) _ _ _ => true
  | _ => false
def delBoxRefs (l : List (Nat × SV)) : List (Nat × SV) := l.filter fun q => !q.2.cs.any Cell.aliBox

/-- Operations that write. -/
def atail (P : Program) (N : Nat) (s : St) (o : Oper) : Option (St × Prop) :=
  match o.op with
  | .store t ad x => match evalO s ad, evalO s x with
    | some ⟨.one, [.ptr n off]⟩, some v => match s.boxes.lookup n, P.info? t with
      | some (e, cs), some j => match v.sh with
        | .tup _ => none
        | _ => if v.cs.length = j.size ∧ (v.sh.isAgg = true ∨ v.cs.length = 1) ∧ off + v.cs.length ≤ cs.length ∧ o.dst = none then
            match x with
            | .tmp t0 => some ({ slots := delBoxRefs (if v.cs.any Cell.isOwn then delSlot t0 s.slots else s.slots), boxes := setBox n (e, spliceCells cs off (v.cs.map storeCell)) s.boxes }, True)
            | _ => some ({ slots := delBoxRefs s.slots, boxes := setBox n (e, spliceCells cs off (v.cs.map storeCell)) s.boxes }, True)
          else none
      | _, _ => none
    | _, _ => none
  | .assign (.tmp t) => match o.dst, s.slots.lookup t with
    | some d, some v => if d < N ∧ t ≠ d ∧ v.cs.all (fun c => c.target.isNone) = true then some ({ s with slots := (d, v) :: dropRefs d (delBoxRefs (delSlot t s.slots)) }, True) else none
    | _, _ => none
  | .call c => match c.callee, c.args.toList, c.argTypes.toList, o.dst with
    | .builtin .append, [x, y], [t, t'], some d => if t = t' ∧ d < N then
        match P.underlying t with
        | some (.slice e) => match P.info? e, evalO s x, evalO s y with
          | some j, some ⟨.one, [cx]⟩, some ⟨.one, [cy]⟩ => match cy.list, j.zero with
            | some ys, some z => if j.size = 0 ∨ z.cells.size ≠ j.size then none else
              match cx, x with
              | .nilS, _ => some ({ s with slots := (d, ⟨.one, [.own e j.size ys]⟩) :: dropRefs d (delBoxRefs (delSlot d s.slots)) }, ys.length ≤ maxLen ∧ ys.length * j.bytes ≤ 140737488355328 ∧ ∀ q ∈ ys, q.length = j.size)
              | .own e' sz xs, .tmp tx => if e' = e ∧ sz = j.size ∧ tx ≠ d then
                  some ({ s with slots := (d, ⟨.one, [.own e j.size (xs ++ ys)]⟩) :: dropRefs d (delBoxRefs (delSlot tx s.slots)) }, xs.length + ys.length ≤ maxLen ∧ (xs.length + ys.length) * j.bytes ≤ 140737488355328 ∧ ∀ q ∈ ys, q.length = j.size)
                else none
              | .ali (.slot t0 _) e' sz xs, _ => if e' = e ∧ sz = j.size ∧ t0 ≠ d then
                  some ({ s with slots := (d, ⟨.one, [.own e j.size (xs ++ ys)]⟩) :: dropRefs d (delBoxRefs (delSlot t0 s.slots)) }, xs.length + ys.length ≤ maxLen ∧ (xs.length + ys.length) * j.bytes ≤ 140737488355328 ∧ ∀ q ∈ ys, q.length = j.size)
                else none
              | .ali (.box n i) e' sz xs, _ => match s.boxes.lookup n with
                | some (be, cs) => if e' = e ∧ sz = j.size then
                    some ({ slots := (d, ⟨.one, [.own e j.size (xs ++ ys)]⟩) :: dropRefs d (delBoxRefs s.slots), boxes := setBox n (be, cs.set i (.lst xs)) s.boxes }, xs.length + ys.length ≤ maxLen ∧ (xs.length + ys.length) * j.bytes ≤ 140737488355328 ∧ ∀ q ∈ ys, q.length = j.size)
                  else none
                | none => none
              | _, _ => none
            | _, _ => none
          | _, _, _ => none
        | _ => none
      else none
    | _, _, _, _ => none
  | _ => none

def isTail (o : Oper) (s : St) : Bool :=
  match o.op with
  | .store .. => true
  | .assign (.tmp t) => match s.slots.lookup t with
    | some v => v.cs.any Cell.isOwn
    | none => false
  | .call c => match c.callee with
    | .builtin .append => true
    | _ => false
  | _ => false

/-- One operation, whatever it is. -/
def astep (P : Program) (N : Nat) (ops : Array Oper) (h : Option Hint) (s : St) (o : Oper) : Option (St × Prop) :=
  match wanted s ops o with
  | some false => match o.dst with
    | some d => if d < N then some (s.app d undefSV none, True) else none
    | none => some (s, True)
  | some true => if isTail o s then atail P N s o else
    match o.dst with
    | some d => if d < N then match acalm P (wantsOwn ops (some d)) h s o with
        | some (v, ob, b) => if v.refs d then none else some (s.app d v b, ob)
        | none => none
      else none
    | none => none
  | none => none

def arun (P : Program) (N : Nat) (ops : Array Oper) (hints : List (Nat × Hint)) : Nat → List Oper → St → Option (St × Prop)
  | _, [], s => some (s, True)
  | i, o :: r, s => match astep P N ops (hints.lookup i) s o with
    | some (s', ob) => match arun P N ops hints (i + 1) r s' with
      | some (s'', ob') => some (s'', ob ∧ ob')
      | none => none
    | none => none

/-- What is kept at a region's end. -/
def St.keep (s : St) (l m : List Nat) : Option St :=
  match l.mapM (fun t => (s.slots.lookup t).map (t, ·)), m.mapM (fun n => (s.boxes.lookup n).map (n, ·)) with
  | some sl, some bx => if sl.any (fun q => q.2.cs.any fun c => c.target.isSome) then none else some ⟨sl, bx⟩
  | _, _ => none

end Go.Proofs.Ytmiffokcdmehhaa.E
