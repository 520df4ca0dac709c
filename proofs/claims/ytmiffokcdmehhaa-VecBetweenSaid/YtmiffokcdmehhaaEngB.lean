/- The abstract machine's operations, as functions that can be reckoned. Definitions alone. -/
import Derived.Test.YtmiffokcdmehhaaEngA
set_option linter.unusedVariables false
namespace Go.Proofs.Ytmiffokcdmehhaa.E
open Go Go.RowKit

inductive Hint where
  | call (r : SV)
  | elem (cs : List D)
  | val (s : SV)
  | bin (v : Value)
  | bool (b : Bool)

def Cell.toD : Cell → Option D
  | .v x => some (.v x)
  | .nilS => some (.lst [])
  | .lst xs => some (.lst xs)
  | .own _ _ xs => some (.lst xs)
  | .ali _ _ _ xs => some (.lst xs)
  | _ => none

def D.toC : D → Cell
  | .v x => .v x
  | .lst xs => .lst xs

def Cell.list : Cell → Option (List (List D))
  | .nilS => some []
  | .lst xs => some xs
  | .own _ _ xs => some xs
  | .ali _ _ _ xs => some xs
  | _ => none

/-- Which cells may be handed on and copied at will. -/
def Cell.copy (want : Bool) (p : Place) : Cell → Cell
  | .own e sz xs => if want then .ali p e sz xs else .lst xs
  | .ali q e sz xs => if want then .ali q e sz xs else .lst xs
  | c => c

def copyCells (want : Bool) (pl : Nat → Place) : Nat → List Cell → List Cell
  | _, [] => []
  | i, c :: r => c.copy want (pl i) :: copyCells want pl (i + 1) r

def Cell.isOwn : Cell → Bool
  | .own .. => true
  | _ => false

def Cell.refs (d : Nat) : Cell → Bool
  | .ali (.slot t _) _ _ _ => t == d
  | _ => false

def Cell.mentions (n : Nat) : Cell → Bool
  | .ptr m _ => m == n
  | .sp m _ _ _ => m == n
  | .clo _ caps => caps.any fun q => q.1 == n
  | .ali (.box m _) _ _ _ => m == n
  | _ => false

def constCell : Value → Option Cell
  | .slice none 0 0 => some .nilS
  | .agg _ => none
  | .tuple _ => none
  | x => some (.v x)

def constCells : List Value → Option (List Cell)
  | [] => some []
  | x :: r => (constCell x).bind fun c => (constCells r).map (c :: ·)

def constSV : Value → Option SV
  | .agg cs => (constCells cs.toList).map fun l => ⟨.agg, l⟩
  | .tuple _ => none
  | x => (constCell x).map fun c => ⟨.one, [c]⟩

def evalO (s : St) : Operand → Option SV
  | .tmp t => s.slots.lookup t
  | .const v => constSV v
  | .func f => some ⟨.one, [.clo f []]⟩
  | .global _ => none

def SV.exact (s : SV) : Option Value :=
  match s with
  | ⟨.one, [.v x]⟩ => some x
  | _ => none

def exactCells : List Cell → Option (List Value)
  | [] => some []
  | .v x :: r => (exactCells r).map (x :: ·)
  | _ :: _ => none

def SV.exactAll (s : SV) : Option Value :=
  match s with
  | ⟨.one, [.v x]⟩ => some x
  | ⟨.agg, cs⟩ => (exactCells cs).map fun l => .agg l.toArray
  | _ => none

def SV.int? (s : SV) : Option (IntKind × Int) :=
  match s with
  | ⟨.one, [.v (.int k n)]⟩ => some (k, n)
  | _ => none

def SV.bool? (s : SV) : Option Bool :=
  match s with
  | ⟨.one, [.v (.bool b)]⟩ => some b
  | _ => none

def evalP {α : Type} (P : Program) : Sem α → Option α
  | .pure a => some a
  | .program k => evalP P (k P)
  | _ => none

def isAggT (P : Program) (t : TypeId) : Option Bool :=
  match P.underlying t with
  | some (.struct _) => some true
  | some (.array _ _) => some true
  | some _ => some false
  | none => none

def sized (P : Program) (t : TypeId) : Bool :=
  match P.info? t with
  | some j => j.size != 0
  | none => false

/-- A part of some cells, as a value of type t. -/
def partSV (P : Program) (t : TypeId) (cs : List Cell) (off : Nat) : Option SV :=
  match isAggT P t, P.info? t with
  | some true, some i => if off + i.size ≤ cs.length then some ⟨.agg, (cs.drop off).take i.size⟩ else none
  | some false, some _ => match cs[off]? with
    | some c => some ⟨.one, [c]⟩
    | none => none
  | _, _ => none

def ofValue : Value → Option SV
  | .int k n => some ⟨.one, [.v (.int k n)]⟩
  | .bool b => some ⟨.one, [.v (.bool b)]⟩
  | .string b => some ⟨.one, [.v (.string b)]⟩
  | _ => none

def zeroCells (P : Program) (t : TypeId) : Option (List Cell) :=
  match P.info? t with
  | some i => match i.zero with
    | some z => if z.cells.size = i.size then constCells z.cells.toList else none
    | none => none
  | none => none

def setFrom : List Cell → Nat → List Cell → List Cell
  | cs, _, [] => cs
  | cs, i, c :: r => setFrom (cs.set i c) (i + 1) r

def fillCells (place : Nat → Option (Nat × Nat)) : List Cell → List (Nat × List Cell) → Option (List Cell)
  | cells, [] => some cells
  | cells, (i, v) :: rest =>
    match place i with
    | none => none
    | some (off, size) => if v.length = size ∧ off + v.length ≤ cells.length then fillCells place (setFrom cells off v) rest else none

def evalParts (s : St) : List (Nat × Operand) → Option (List (Nat × List Cell))
  | [] => some []
  | (i, x) :: r => match evalO s x with
    | some ⟨.one, [c]⟩ => (evalParts s r).map ((i, [c.copy false (.slot 0 0)]) :: ·)
    | some ⟨.agg, cs⟩ => (evalParts s r).map ((i, copyCells false (fun _ => .slot 0 0) 0 cs) :: ·)
    | _ => none

def tupPart : List (Bool × Nat) → List Cell → Nat → Option SV
  | [], _, _ => none
  | (b, k) :: r, cs, 0 => if b then some ⟨.agg, cs.take k⟩ else some ⟨.one, cs.take 1⟩
  | (b, k) :: r, cs, n + 1 => tupPart r (cs.drop (if b then k else 1)) n

def opIx (s : St) : Option Operand → Option (Option Int)
  | none => some none
  | some x => match (evalO s x).bind SV.int? with
    | some (_, n) => some (some n)
    | none => none

def exacts (s : St) : List Operand → Option (List Value)
  | [] => some []
  | x :: r => match (evalO s x).bind SV.exact with
    | some v => (exacts s r).map (v :: ·)
    | none => none

def intBin (P : Program) (op : BinOp) (t : TypeId) (k k' : IntKind) (a b : Int) : Option (SV × Prop) :=
  match op with
  | .quo => if k = k' then some (⟨.one, [.v (.int k (k.wrap (a.tdiv b)))]⟩, b ≠ 0) else none
  | .rem => if k = k' then some (⟨.one, [.v (.int k (a.tmod b))]⟩, b ≠ 0) else none
  | .shl => some (⟨.one, [.v (.int k (k.wrap (a * 2 ^ (min b.toNat k.bits))))]⟩, 0 ≤ b)
  | .shr => some (⟨.one, [.v (.int k (a.fdiv (2 ^ (min b.toNat k.bits))))]⟩, 0 ≤ b)
  | op => match evalP P (binOp op t (.int k a) (.int k' b)) with
    | some v => (ofValue v).map (·, True)
    | none => none

/-- Operations that leave the world as it is. -/
def aval (P : Program) (want : Bool) (h : Option Hint) (s : St) : Op → Option (SV × Prop)
  | .move x => match x with
    | .tmp t => (s.slots.lookup t).map fun v => (⟨v.sh, copyCells want (.slot t) 0 v.cs⟩, True)
    | x => (evalO s x).map fun v => (v, True)
  | .assign x => match x with
    | .tmp t => match s.slots.lookup t with
      | some v => if v.cs.any Cell.isOwn then none else some (v, True)
      | none => none
    | x => (evalO s x).map fun v => (v, True)
  | .pick c a b => match (evalO s c).bind SV.bool? with
    | some true => (evalO s a).map fun v => (⟨v.sh, copyCells false (fun _ => .slot 0 0) 0 v.cs⟩, True)
    | some false => (evalO s b).map fun v => (⟨v.sh, copyCells false (fun _ => .slot 0 0) 0 v.cs⟩, True)
    | none => none
  | .build t parts => match zeroCells P t, evalParts s parts.toList with
    | some z, some ps => match P.underlying t with
      | some (.struct fields) => match fields.toList.mapM (fun f => (P.info? f.type).map fun i => (f.offset, i.size)) with
        | some places => (fillCells (fun i => places[i]?) z ps).map fun cs => (⟨.agg, cs⟩, True)
        | none => none
      | some (.array _ e) => match P.info? e with
        | some j => (fillCells (fun i => some (i * j.size, j.size)) z ps).map fun cs => (⟨.agg, cs⟩, True)
        | none => none
      | _ => none
    | _, _ => none
  | .load t x => match evalO s x with
    | some ⟨.one, [.ptr n off]⟩ => match s.boxes.lookup n with
      | some (_, cs) => (partSV P t cs off).map fun v => (⟨v.sh, copyCells want (fun i => .box n (off + i)) 0 v.cs⟩, True)
      | none => none
    | some ⟨.one, [.dp ds]⟩ => (partSV P t (ds.map D.toC) 0).map fun v => (v, True)
    | _ => none
  | .nilCheck x => match evalO s x with
    | some ⟨.one, [.ptr n off]⟩ => some (⟨.one, [.ptr n off]⟩, True)
    | some ⟨.one, [.dp ds]⟩ => some (⟨.one, [.dp ds]⟩, True)
    | some ⟨.one, [.clo f c]⟩ => some (⟨.one, [.clo f c]⟩, True)
    | _ => none
  | .binOp op t x y _ => match h with
    | some (.bin v) => match (evalO s x).bind SV.exactAll, (evalO s y).bind SV.exactAll, ofValue v with
      | some a, some b, some r => some (r, ∀ w : World, (do eqGuard op t x y a b; binOp op t a b : Sem Value).run P w = .ok v w)
      | _, _, _ => none
    | _ => match evalO s x, evalO s y with
      | some ⟨.one, [.clo _ _]⟩, some ⟨.one, [.v .nilFunc]⟩ => match op, P.underlying t with
        | .eql, some (.func _ _ _) => some (⟨.one, [.v (.bool false)]⟩, True)
        | .neq, some (.func _ _ _) => some (⟨.one, [.v (.bool true)]⟩, True)
        | _, _ => none
      | some ⟨.one, [.v (.int k a)]⟩, some ⟨.one, [.v (.int k' b)]⟩ => intBin P op t k k' a b
      | some ⟨.one, [.v (.bool a)]⟩, some ⟨.one, [.v (.bool b)]⟩ => match op, P.underlying t with
        | .eql, some .bool => some (⟨.one, [.v (.bool (a == b))]⟩, True)
        | .neq, some .bool => some (⟨.one, [.v (.bool (!(a == b)))]⟩, True)
        | _, _ => none
      | some ⟨.one, [.v (.string a)]⟩, some ⟨.one, [.v (.string b)]⟩ => match op with
        | .eql => some (⟨.one, [.v (.bool (a.toList == b.toList))]⟩, True)
        | .neq => some (⟨.one, [.v (.bool !(a.toList == b.toList))]⟩, True)
        | _ => none
      | _, _ => none
  | .unOp op _ x => match (evalO s x).bind SV.exact with
    | some v => match evalP P (Op.unary op v) with
      | some r => (ofValue r).map (·, True)
      | none => none
    | none => none
  | .convert src dst x => match evalO s x with
    | some ⟨.one, [.v (.int k n)]⟩ => match P.underlying src, P.underlying dst with
      | some _, some (.int k') => some (⟨.one, [.v (.int k' (k'.wrap n))]⟩, True)
      | _, _ => none
    | _ => none
  | .makeFunc fn first captured => match fn, first.toList with
    | .func f, [] => match captured.toList.mapM (fun x => match evalO s x with | some ⟨.one, [.ptr n off]⟩ => some (n, off) | _ => none) with
      | some caps => some (⟨.one, [.clo f caps]⟩, True)
      | none => none
    | _, _ => none
  | .slice t x lo hi none => match evalO s x, opIx s lo, opIx s hi, P.underlying t with
    | some ⟨.one, [c]⟩, some l, some h, some (.slice e) => match c.list, P.info? e with
      | some xs, some j => some (⟨.one, [.lst ((xs.take (h.getD xs.length).toNat).drop (l.getD 0).toNat)]⟩,
          0 ≤ l.getD 0 ∧ l.getD 0 ≤ h.getD xs.length ∧ h.getD xs.length ≤ xs.length ∧ ∀ e ∈ xs, e.length = j.size)
      | _, _ => none
    | some ⟨.one, [.ptr n off]⟩, some l, some h, some (.array len e) => (P.info? e).map fun j =>
        (⟨.one, [.sp n (off + (l.getD 0).toNat * j.size) ((h.getD len).toNat - (l.getD 0).toNat) (len - (l.getD 0).toNat)]⟩, 0 ≤ l.getD 0 ∧ l.getD 0 < len ∧ l.getD 0 ≤ h.getD len ∧ h.getD len ≤ len)
    | _, _, _, _ => none
  | .sliceToArrayPointer t x => match P.underlying t, evalO s x with
    | some (.array n _), some ⟨.one, [.sp b off len cap]⟩ => if n ≤ len then some (⟨.one, [.ptr b off]⟩, True) else none
    | _, _ => none
  | .fieldAddr t x f => match P.underlying t with
    | some (.struct fields) => match fields[f]?, evalO s x with
      | some fd, some ⟨.one, [.ptr n off]⟩ => if sized P fd.type then some (⟨.one, [.ptr n (off + fd.offset)]⟩, True) else none
      | some fd, some ⟨.one, [.dp ds]⟩ => if sized P fd.type then some (⟨.one, [.dp (ds.drop fd.offset)]⟩, True) else none
      | _, _ => none
    | _ => none
  | .field t x f => match P.underlying t with
    | some (.struct fields) => match fields[f]?, evalO s x with
      | some fd, some ⟨.agg, cs⟩ => (partSV P fd.type cs fd.offset).map fun v => (⟨v.sh, copyCells false (fun _ => .slot 0 0) 0 v.cs⟩, True)
      | _, _ => none
    | _ => none
  | .indexAddr t x ix => match (evalO s ix).bind SV.int?, evalO s x, P.underlying t with
    | some (_, i), some ⟨.one, [.ptr n off]⟩, some (.array len e) => (P.info? e).map fun j => (⟨.one, [.ptr n (off + i.toNat * j.size)]⟩, 0 ≤ i ∧ i < len)
    | some (_, i), some ⟨.one, [.dp ds]⟩, some (.array len e) => (P.info? e).map fun j => (⟨.one, [.dp (ds.drop (i.toNat * j.size))]⟩, 0 ≤ i ∧ i < len)
    | some (_, i), some ⟨.one, [c]⟩, some (.slice e) => match h, c.list, P.info? e with
      | some (.elem cs), some xs, some j => some (⟨.one, [.dp cs]⟩, 0 ≤ i ∧ xs[i.toNat]? = some cs ∧ cs.length = j.size)
      | _, _, _ => none
    | _, _, _ => none
  | .index t x ix => match (evalO s ix).bind SV.int?, evalO s x, P.underlying t with
    | some (_, i), some ⟨.agg, cs⟩, some (.array len e) => match P.info? e, isAggT P e with
      | some j, some true => if cs.length = len * j.size then some (⟨.agg, copyCells false (fun _ => .slot 0 0) 0 ((cs.drop (i.toNat * j.size)).take j.size)⟩, 0 ≤ i ∧ i < len) else none
      | some j, some false => match h with
        | some (.val ⟨.one, [.v x]⟩) => some (⟨.one, [.v x]⟩, 0 ≤ i ∧ i < len ∧ cs[i.toNat * j.size]? = some (.v x))
        | _ => match cs[i.toNat * j.size]? with
          | some c => some (⟨.one, [c.copy false (.slot 0 0)]⟩, 0 ≤ i ∧ i < len)
          | none => none
      | _, _ => none
    | _, _, _ => none
  | .extract x k => match evalO s x with
    | some ⟨.tup l, cs⟩ => (tupPart l cs k).map fun v => (⟨v.sh, copyCells false (fun _ => .slot 0 0) 0 v.cs⟩, True)
    | _ => none
  | .call c => match c.callee with
    | .builtin .len => match c.args.toList, c.argTypes.toList with
      | [x], [t] => match evalO s x, P.underlying t with
        | some ⟨.one, [.v (.string b)]⟩, some .string => some (⟨.one, [.v (.int .i64 b.size)]⟩, True)
        | some _, some (.array n _) => some (⟨.one, [.v (.int .i64 n)]⟩, True)
        | some ⟨.one, [c]⟩, some (.slice _) => c.list.map fun xs => (⟨.one, [.v (.int .i64 xs.length)]⟩, True)
        | _, _ => none
      | _, _ => none
    | .builtin .min => match exacts s c.args.toList with
      | some vs => match evalP P (Builtin.min_ c.argTypes 0 vs.toArray) with
        | some r => (ofValue r).map (·, True)
        | none => none
      | none => none
    | .builtin .max => match exacts s c.args.toList with
      | some vs => match evalP P (Builtin.max_ c.argTypes 0 vs.toArray) with
        | some r => (ofValue r).map (·, True)
        | none => none
      | none => none
    | _ => none
  | _ => none

end Go.Proofs.Ytmiffokcdmehhaa.E
