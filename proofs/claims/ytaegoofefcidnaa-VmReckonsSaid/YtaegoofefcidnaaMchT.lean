/- Functions reckoned: what a function's arguments and results are, a table of functions, and the reckoner. Definitions alone. -/
import Derived.Test.YtaegoofefcidnaaMchS
set_option linter.unusedVariables false
namespace Go.Proofs.Ytaegoofefcidnaa.M
open Go Go.RowKit

/-- What is handed to a function, or back: one thing, or some. -/
inductive AT where
  | val (agg : Bool) (t : Ty)
  | dp (t : Ty)
  | dpf (f : Nat) (caps : AT)
  | own (e : Nat) (t : Ty)
  | fn (f : Nat) (caps : AT)
  | nil
  | cons (a b : AT)

@[reducible] def AT.T : AT → Type
  | .val _ t => t.T
  | .dp t => t.T
  | .dpf _ c => c.T
  | .own _ t => List t.T
  | .fn _ c => c.T
  | .nil => Unit
  | .cons a b => a.T × b.T

/-- What lies in captured variables. -/
def AT.dss : (a : AT) → a.T → List (List D)
  | .val _ t, x => [enc t x]
  | .dp _, _ => [[]]
  | .dpf _ _, _ => [[]]
  | .own _ _, _ => [[]]
  | .fn f c, x => [[.clo f (c.dss x)]]
  | .nil, _ => []
  | .cons a b, x => a.dss x.1 ++ b.dss x.2

def shapeB : Bool → Shape
  | true => .agg
  | false => .one

def AT.svs : (a : AT) → a.T → List SV
  | .val g t, x => [⟨shapeB g, (enc t x).map D.toC⟩]
  | .dp t, x => [one (.dp (enc t x))]
  | .dpf f c, x => [one (.dp [.clo f (c.dss x)])]
  | .own e t, x => [one (.own e t x)]
  | .fn f c, x => [one (.dclo f (c.dss x))]
  | .nil, _ => []
  | .cons a b, x => a.svs x.1 ++ b.svs x.2

def AT.decD : (a : AT) → List (List D) → Option (a.T × List (List D))
  | .val _ t, ds :: r => match decC t (ds.map D.toC) with
    | some (x, _) => some (x, r)
    | none => none
  | .fn f c, (.clo f' dss :: _) :: r => match Nat.beq f' f with
    | true => match c.decD dss with
      | some (x, []) => some (x, r)
      | _ => none
    | false => none
  | .nil, l => some ((), l)
  | .cons a b, l => match a.decD l with
    | some (x, r) => match b.decD r with
      | some (y, r') => some ((x, y), r')
      | none => none
    | none => none
  | _, _ => none

def AT.dec : (a : AT) → List SV → Option (a.T × List SV)
  | .val g t, v :: r => match v.sh, g with
    | .agg, true => match decC t v.cs with
      | some (x, []) => some (x, r)
      | _ => none
    | .one, false => match decC t v.cs with
      | some (x, []) => some (x, r)
      | _ => none
    | _, _ => none
  | .dp t, v :: r => match v with
    | ⟨.one, [.dp ds]⟩ => match decC t (ds.map D.toC) with
      | some (x, _) => some (x, r)
      | none => none
    | _ => none
  | .dpf f c, v :: r => match v with
    | ⟨.one, [.dp (.clo f' dss :: _)]⟩ => match Nat.beq f' f with
      | true => match c.decD dss with
        | some (x, []) => some (x, r)
        | _ => none
      | false => none
    | _ => none
  | .own _ _, _ :: _ => none
  | .fn f c, v :: r => match v with
    | ⟨.one, [.clo f' []]⟩ => match Nat.beq f' f with
      | true => match c.decD [] with
        | some (x, []) => some (x, r)
        | _ => none
      | false => none
    | ⟨.one, [.dclo f' dss]⟩ => match Nat.beq f' f with
      | true => match c.decD dss with
        | some (x, []) => some (x, r)
        | _ => none
      | false => none
    | _ => none
  | .nil, l => some ((), l)
  | .cons a b, l => match a.dec l with
    | some (x, r) => match b.dec r with
      | some (y, r') => some ((x, y), r')
      | none => none
    | none => none
  | _, [] => none

/-- No rows of one's own are handed. -/
def AT.noOwn : AT → Bool
  | .own _ _ => false
  | .cons a b => a.noOwn && b.noOwn
  | _ => true

/-- What is handed back, of values that are read. -/
def AT.decR : (a : AT) → List SV → Option (a.T × List SV)
  | .own _ t, v :: r => match v.sh with
    | .one => match decC (.list t) v.cs with
      | some (x, []) => some (x, r)
      | _ => none
    | _ => none
  | .own _ _, [] => none
  | .cons (.own _ t) b, v :: r => match v.sh with
    | .one => match decC (.list t) v.cs with
      | some (x, []) => match b.dec r with
        | some (y, r') => some ((x, y), r')
        | none => none
      | _ => none
    | _ => none
  | a, l => a.dec l

def Cell.isRow (e : Nat) (t : Ty) : Cell → Bool
  | .own e' t' _ => Nat.beq e' e && decide (t' = t)
  | .nilS => true
  | _ => false

/-- A row of one's own comes first, or none comes. -/
def ownHead : AT → List ResultVar → List SV → Bool
  | .own e t, .tmp _ :: _, ⟨.one, [c]⟩ :: _ => c.isRow e t
  | .own _ _, _, _ => false
  | .cons (.own e t) b, .tmp _ :: _, ⟨.one, [c]⟩ :: _ => c.isRow e t && b.noOwn
  | a, _, _ => a.noOwn

/-- A function of the table. -/
structure Ent where
  fn : Nat
  A : AT
  R : AT
  F : A.T → Option R.T

def fnBody (f : Func) : Code := f.body.getD .skip

section
variable {ρ : Type}

def callE : List Ent → Nat → List SV → (SV → Option ρ) → Option ρ
  | [], _, _, _ => none
  | e :: T, fn, args, K => match Nat.beq e.fn fn with
    | true => match e.A.dec args with
      | some (y, []) => obind (e.F y) fun x => match joinRes (e.R.svs x) with
        | some r => K r
        | none => none
      | _ => callE T fn args K
    | false => callE T fn args K

/-- A result that is reckoned has a name of its own. -/
def share (v : SV) (K : SV → Option ρ) : Option ρ :=
  match v with
  | ⟨.one, [.v (.int k e)]⟩ => bnd e fun n => K ⟨.one, [.v (.int k n)]⟩
  | ⟨.one, [.v (.bool e)]⟩ => bnd e fun n => K ⟨.one, [.v (.bool n)]⟩
  | ⟨.one, [.v (.string e)]⟩ => bnd e fun n => K ⟨.one, [.v (.string n)]⟩
  | ⟨.one, [.lst t l]⟩ => bnd l fun n => K ⟨.one, [.lst t n]⟩
  | ⟨.one, [.own e t l]⟩ => bnd l fun n => K ⟨.one, [.own e t n]⟩
  | v => K v

def gd (c : Cnd) (x : Option ρ) : Option ρ :=
  match c with
  | .ok => x
  | .chk b => bgd b x
  | .pr _ => none

def SV.boolV? (v : SV) : Option Bool :=
  match v with
  | ⟨.one, [.v (.bool b)]⟩ => some b
  | _ => none

/-- An answer that others hang on: known either way. -/
def fork (g : Bool) (v : SV) (K : SV → Option ρ) : Option ρ :=
  match g with
  | false => K v
  | true => match v.boolV? with
    | some b => bite b (K ⟨.one, [.c (.bool true)]⟩) (K ⟨.one, [.c (.bool false)]⟩)
    | none => K v

def reckons : Op → Bool
  | .binOp .. => true
  | .unOp .. => true
  | .convert .. => true
  | .slice .. => true
  | .call .. => true
  | _ => false

/-- The element that an index asks for. -/
def elemOf (P : Program) (want : Bool) (s : St) : Op → Option ((t : Ty) × Option t.T)
  | .indexAddr t x ix => match (evalO s ix).bind SV.int?, evalO s x, P.underlying t with
    | some (_, _, i), some ⟨.one, [c]⟩, some (.slice e) => match want with
      | true => none
      | false => match tyOf P 8 e with
        | some ty => match c.list ty with
          | some xs => some ⟨ty, F.get xs i⟩
          | none => none
        | none => none
    | some (false, _, i), some ⟨.one, [.dp ds]⟩, some (.array len e) => match tyOf P 8 e with
      | some ty => match decs ty (chunks ty.n len ((ds.map D.toC).take (len * ty.n))) with
        | some xs => some ⟨ty, F.get xs i⟩
        | none => none
      | none => none
    | _, _, _ => none
  | .load _ x => match evalO s x with
    | some ⟨.one, [.pe n off ty len i _]⟩ => match s.boxes.lookup n with
      | some (_, cs) => match decs ty (chunks ty.n len ((cs.drop off).take (len * ty.n))) with
        | some xs => some ⟨ty, F.get xs i⟩
        | none => none
      | none => none
    | some ⟨.one, [.re q ty i _]⟩ => match s.at? q with
      | some c => match c.list ty with
        | some xs => some ⟨ty, F.get xs i⟩
        | none => none
      | none => none
    | _ => none
  | .index t x ix => match (evalO s ix).bind SV.int?, evalO s x, P.underlying t with
    | some (false, _, i), some ⟨.agg, cs⟩, some (.array len e) => match tyOf P 8 e with
      | some ty => match decs ty (chunks ty.n len cs) with
        | some xs => some ⟨ty, F.get xs i⟩
        | none => none
      | none => none
    | _, _, _ => none
  | _ => none

/-- The element that is written. -/
def storeElem (s : St) : Op → Option ((t : Ty) × Option t.T)
  | .store _ ad _ => match evalO s ad with
    | some ⟨.one, [.re q ty i _]⟩ => match s.at? q with
      | some c => match c.list ty with
        | some xs => some ⟨ty, F.get xs i⟩
        | none => none
      | none => none
    | _ => none
  | _ => none

def calmFin (P : Program) (want : Bool) (s : St) (o : Oper) (K : SV → Option (Nat × List Cell) → Option ρ) (h : Option Hint) : Option ρ :=
  match acalm P want h s o with
  | some (v, _, b) => K v b
  | none => none

def calmVal (P : Program) (g want : Bool) (s : St) (o : Oper) (op : Op) (K : SV → Option (Nat × List Cell) → Option ρ) (v : SV) : Option ρ :=
  match g with
  | true => match v.boolV? with
    | some b => bite b (calmFin P want s o K (some (.bool true))) (calmFin P want s o K (some (.bool false)))
    | none => K v none
  | false => match reckons op with
    | true => share v fun v' => K v' none
    | false => K v none

def calmGen (P : Program) (g want : Bool) (s : St) (o : Oper) (op : Op) (K : SV → Option (Nat × List Cell) → Option ρ) : Option ρ :=
  match elemOf P want s op with
  | some ⟨t, q⟩ => obind q fun e => calmFin P want s o K (some (.elem t e))
  | none => match aval P want none s op with
    | some (v, c) => gd c (calmVal P g want s o op K v)
    | none => none

def calm (T : List Ent) (P : Program) (g want : Bool) (s : St) (o : Oper) (K : SV → Option (Nat × List Cell) → Option ρ) : Option ρ :=
  match o.op with
  | .alloc _ => calmFin P want s o K none
  | .box _ _ => calmFin P want s o K none
  | .buildSlice _ _ _ => calmFin P want s o K none
  | .makeSlice t x _ => match P.underlying t, (evalO s x).bind SV.int? with
    | some (.slice e), some (_, _, n) => match P.info? e with
      | some j => gd (.chk (F.fillOk j.bytes n)) (calmFin P want s o K none)
      | none => none
    | _, _ => none
  | .call c => match c.callee with
    | .value f => match evalO s f with
      | some fv => match callee s fv, evalArgs s c.args.toList with
        | some (fn, caps, _), some (as, _) => callE T fn (as ++ caps) fun r => fork g r fun r' => calmFin P want s o K (some (.call r' True))
        | _, _ => none
      | none => none
    | _ => calmGen P g want s o o.op K
  | _ => calmGen P g want s o o.op K

/-- Whether others hang on what a temporary holds. -/
def guards (ops : Array Oper) (d : Nat) : Bool := ops.any fun o => match o.guard with
  | none => false
  | some (j, _) => match dstOf ops j with
    | some e => e == d
    | none => false

def shareHead (s : St) (K : St → Option ρ) : Option ρ :=
  match s.slots with
  | [] => K s
  | (d, v) :: r => share v fun v' => K { s with slots := (d, v') :: r }

/-- Those who are not called by what they promise, but gone through: by their number, from a state and arguments on. -/
abbrev Inl (ρ : Type) := Nat → Option (St → List SV → (SV → St → Option ρ) → Option ρ)

def evalIn (s : St) : List Operand → Option (List SV)
  | [] => some []
  | x :: r => match evalO s x, evalIn s r with
    | some v, some l => some (⟨v.sh, copyCells false (fun _ => .slot 0 0) 0 v.cs⟩ :: l)
    | _, _ => none

/-- A call that is gone through. -/
def inlOf (I : Inl ρ) (s : St) (o : Oper) : Option ((St → List SV → (SV → St → Option ρ) → Option ρ) × List SV) :=
  match o.op with
  | .call c => match c.callee with
    | .value f => match evalO s f with
      | some ⟨.one, [.clo fn caps]⟩ => match I fn with
        | some g => match evalIn s c.args.toList with
          | some as => some (g, as ++ caps.map fun q => one (.ptr q.1 q.2))
          | none => none
        | none => none
      | _ => none
    | _ => none
  | _ => none

def isInl (I : Inl ρ) (s : St) (o : Oper) : Bool :=
  match inlOf I s o with
  | some _ => true
  | none => false

/-- On, from what was handed back. -/
def takeIn (N : Nat) (o : Oper) (K : St → Option ρ) (v : SV) (s : St) : Option ρ :=
  match o.dst with
  | some d => if d < N then match v.refs d with
      | true => none
      | false => K (s.app d v none)
    else none
  | none => none

def evT (T : List Ent) (P : Program) (N : Nat) (I : Inl ρ) (ops : Array Oper) : List Oper → St → (St → Option ρ) → Option ρ
  | [], s, K => K s
  | o :: r, s, K => match wanted s ops o with
    | some false => match o.dst with
      | some d => if d < N then evT T P N I ops r (s.app d undefSV none) K else none
      | none => evT T P N I ops r s K
    | some true => match inlOf I s o with
      | some (g, as) => g s as (takeIn N o fun s' => shareHead s' fun s'' => evT T P N I ops r s'' K)
      | none => match isTail o s with
        | true => match storeElem s o.op with
          | some ⟨t, q⟩ => obind q fun e => match atail P N (some (.elem t e)) s o with
            | some (s', _) => shareHead s' fun s'' => evT T P N I ops r s'' K
            | none => none
          | none => match atail P N none s o with
            | some (s', c) => gd c (match o.op with
              | .call _ => shareHead s' fun s'' => evT T P N I ops r s'' K
              | _ => evT T P N I ops r s' K)
            | none => none
        | false => match o.dst with
          | some d => if d < N then calm T P (guards ops d) (wantsOwn ops (some d)) s o fun v b => match v.refs d with
              | true => none
              | false => evT T P N I ops r (s.app d v b) K
            else none
          | none => none
    | none => none

/-- Whether an operation surely comes behind one of the writing end. -/
def behindTl (b tl : List Nat) (i : Nat) : Bool := tl.any fun j => (b.getD i 0).testBit j

/-- What is calm, in the text's order; the writing end is put by. -/
def evC (T : List Ent) (P : Program) (N : Nat) (I : Inl ρ) (ops : Array Oper) (b : List Nat) : List Oper → Nat → List Nat → St → List (Option Res) → (St → List (Option Res) → Option ρ) → Option ρ
  | [], _, _, s, acc, K => K s acc
  | o :: r, i, tl, s, acc, K => match behindTl b tl i with
    | true => evC T P N I ops b r (i + 1) (tl ++ [i]) s (acc ++ [none]) K
    | false => match wanted s ops o with
      | some false => match o.dst with
        | some d => if d < N then evC T P N I ops b r (i + 1) tl (s.app d undefSV none) (acc ++ [some ⟨undefSV, none, []⟩]) K else none
        | none => none
      | some true => match isInl I s o || isTail o s with
        | true => evC T P N I ops b r (i + 1) (tl ++ [i]) s (acc ++ [none]) K
        | false => match o.dst with
          | some d => if d < N then calm T P (guards ops d) (wantsOwn ops (some d)) (s.restrict o) o fun v x => match v.refs d with
              | true => none
              | false => evC T P N I ops b r (i + 1) tl (s.app d v x) (acc ++ [some ⟨v, x, (s.restrict o).boxes.map (·.1)⟩]) K
            else none
          | none => none
      | none => none

def evR (T : List Ent) (P : Program) (N : Nat) (I : Inl ρ) (draw : Bool) (ops : Array Oper) (s : St) (K : St → Option ρ) : Option ρ :=
  match draw with
  | false => evT T P N I ops ops.toList s fun s' => K s'.clean
  | true => evC T P N I ops (befs ops.toList []) ops.toList 0 [] s [] fun s1 res => match drawOk ops res s (befs ops.toList []) with
    | true => evT T P N I ops ((tailOf ops res).filterMap fun j => ops[j]?) s1 fun s2 => K s2.clean
    | false => none
end

/-! ### Pieces of code that are reckoned by themselves -/
inductive CT where
  | dat (t : Ty)
  | own (e : Nat) (t : Ty)
  | ptr (n off : Nat)
  | clo (f : Nat) (caps : List (Nat × Nat))
  | kint (k : IntKind) (n : Int)
  | kbool (b : Bool)
  | fn (f : Nat) (a : AT)
  | dp (t : Ty)
  | nils

/-- What one adds to the rest. -/
@[reducible] def CT.add : CT → Type → Type
  | .dat t, R => t.T × R
  | .own _ t, R => List t.T × R
  | .fn _ a, R => a.T × R
  | .dp t, R => t.T × R
  | _, R => R

def CT.emb {R : Type} : (c : CT) → c.add R → List Cell × R
  | .dat t, x => ((enc t x.1).map D.toC, x.2)
  | .own e t, x => ([.own e t x.1], x.2)
  | .ptr n off, x => ([.ptr n off], x)
  | .clo f caps, x => ([.clo f caps], x)
  | .kint k n, x => ([.c (.int k n)], x)
  | .kbool b, x => ([.c (.bool b)], x)
  | .fn f a, x => ([.dclo f (a.dss x.1)], x.2)
  | .dp t, x => ([.dp (enc t x.1)], x.2)
  | .nils, x => ([.nilS], x)

def eqCaps : List (Nat × Nat) → List (Nat × Nat) → Bool
  | [], [] => true
  | (a, b) :: r, (c, d) :: r' => Nat.beq a c && (Nat.beq b d && eqCaps r r')
  | _, _ => false

def CT.dec {R : Type} : (c : CT) → List Cell → Option ((R → c.add R) × List Cell)
  | .dat t, cs => match decC t cs with
    | some (x, r) => some (fun y => (x, y), r)
    | none => none
  | .own e t, x :: r => match x with
    | .nilS => some (fun y => ([], y), r)
    | .own e' t' l => if h : t' = t then (match Nat.beq e' e with
      | true => some (fun y => (h ▸ l, y), r)
      | false => none) else none
    | _ => none
  | .ptr n off, .ptr n' off' :: r => match Nat.beq n' n && Nat.beq off' off with
    | true => some (fun y => y, r)
    | false => none
  | .clo f caps, .clo f' caps' :: r => match Nat.beq f' f && eqCaps caps' caps with
    | true => some (fun y => y, r)
    | false => none
  | .kint k n, x :: r => match x.val? with
    | some (true, .int k' n') => if k' = k ∧ n' = n then some (fun y => y, r) else none
    | _ => none
  | .kbool b, x :: r => match x.val? with
    | some (true, .bool b') => if b' = b then some (fun y => y, r) else none
    | _ => none
  | .fn f a, .dclo f' dss :: r => match Nat.beq f' f with
    | true => match a.decD dss with
      | some (x, []) => some (fun y => (x, y), r)
      | _ => none
    | false => none
  | .dp t, .dp ds :: r => match decC t (ds.map D.toC) with
    | some (x, _) => some (fun y => (x, y), r)
    | none => none
  | .nils, .nilS :: r => some (fun y => y, r)
  | _, _ => none

@[reducible] def ctsT : List CT → Type → Type
  | [], R => R
  | c :: cs, R => c.add (ctsT cs R)

def ctsEmb {R : Type} : (l : List CT) → ctsT l R → List Cell × R
  | [], x => ([], x)
  | c :: cs, x => match c.emb x with
    | (l, y) => match ctsEmb cs y with
      | (l', z) => (l ++ l', z)

def ctsDec {R : Type} : (l : List CT) → List Cell → Option (R → ctsT l R)
  | [], [] => some fun y => y
  | [], _ => none
  | c :: cs, l => match c.dec (R := ctsT cs R) l with
    | some (f, r) => match ctsDec (R := R) cs r with
      | some h => some fun y => f (h y)
      | none => none
    | none => none

/-- A part of a state: a temporary, or a variable. -/
inductive It where
  | slot (t : Nat) (agg : Bool) (cs : List CT)
  | box (n e : Nat) (cs : List CT)

def It.cs : It → List CT
  | .slot _ _ cs => cs
  | .box _ _ cs => cs

/-- What a state is, at some place. -/
abbrev VT := List It

@[reducible] def VT.T : VT → Type
  | [] => Unit
  | .slot _ _ cs :: r => ctsT cs (VT.T r)
  | .box _ _ cs :: r => ctsT cs (VT.T r)

def VT.dec (s : St) : (v : VT) → Option (VT.T v)
  | [] => some ()
  | .slot t g cs :: r => match s.slots.lookup t with
    | some v => match v.sh, g with
      | .agg, true => match ctsDec (R := VT.T r) cs v.cs with
        | some f => match VT.dec s r with
          | some y => some (f y)
          | none => none
        | none => none
      | .one, false => match ctsDec (R := VT.T r) cs v.cs with
        | some f => match VT.dec s r with
          | some y => some (f y)
          | none => none
        | none => none
      | _, _ => none
    | none => none
  | .box n e cs :: r => match s.boxes.lookup n with
    | some (e', c) => match Nat.beq e' e with
      | true => match ctsDec (R := VT.T r) cs c with
        | some f => match VT.dec s r with
          | some y => some (f y)
          | none => none
        | none => none
      | false => none
    | none => none

def VT.emb : (v : VT) → VT.T v → St
  | [], _ => ⟨[], []⟩
  | .slot t g cs :: r, x => match ctsEmb (R := VT.T r) cs x with
    | (l, y) => match VT.emb r y with
      | s => { s with slots := (t, ⟨shapeB g, l⟩) :: s.slots }
  | .box n e cs :: r, x => match ctsEmb (R := VT.T r) cs x with
    | (l, y) => match VT.emb r y with
      | s => { s with boxes := (n, e, l) :: s.boxes }

/-- Ways out. -/
inductive Out where
  | normal
  | ret
  | exit (i : Nat)

def Out.ex : Out → Exit
  | .normal => .normal
  | .ret => .ret
  | .exit i => .exit i

def Out.is : Out → Exit → Bool
  | .normal, .normal => true
  | .ret, .ret => true
  | .exit i, .exit j => Nat.beq j i
  | _, _ => false

@[reducible] def XT : List (Out × VT) → Type
  | [] => Empty
  | [q] => VT.T q.2
  | q :: r => VT.T q.2 ⊕ XT r

def outOf : (l : List (Out × VT)) → XT l → Exit × St
  | [q], x => (q.1.ex, VT.emb q.2 x)
  | q :: q' :: r, .inl x => (q.1.ex, VT.emb q.2 x)
  | q :: q' :: r, .inr x => outOf (q' :: r) x

def toOut : (l : List (Out × VT)) → Exit → St → Option (XT l)
  | [], _, _ => none
  | [q], e, s => match q.1.is e with
    | true => VT.dec s q.2
    | false => none
  | q :: q' :: r, e, s => match q.1.is e with
    | true => match VT.dec s q.2 with
      | some x => some (.inl x)
      | none => none
    | false => match toOut (q' :: r) e s with
      | some x => some (.inr x)
      | none => none

/-- On behind each way out. -/
def caseOut {ρ : Type} : (l : List (Out × VT)) → XT l → (Exit → St → Option ρ) → Option ρ
  | [], _, _ => none
  | [q], x, k => k q.1.ex (VT.emb q.2 x)
  | q :: q' :: r, x, k => osum x (fun y => k q.1.ex (VT.emb q.2 y)) (fun z => caseOut (q' :: r) z k)

structure Seg where
  V : VT
  X : List (Out × VT)
  F : VT.T V → Option (XT X)

section
variable {ρ : Type}

def loopU : Nat → (St → (Exit → St → Option ρ) → Option ρ) → St → (Exit → St → Option ρ) → Option ρ
  | 0, _, _, _ => none
  | n + 1, f, s, k => f s fun e s' => match e with
    | .normal => loopU n f s' k
    | e => k e s'

/-- The piece for a place that a state fits. -/
def segIn (s : St) : List (Nat × Seg) → Nat → Option ((g : Seg) × VT.T g.V)
  | [], _ => none
  | (p, g) :: r, q => match Nat.beq p q with
    | true => match VT.dec s g.V with
      | some v => some ⟨g, v⟩
      | none => segIn s r q
    | false => segIn s r q

def ev (T : List Ent) (P : Program) (N U : Nat) (G : List (Nat × Seg)) (I : Inl ρ) : Code → Nat → St → (Exit → St → Option ρ) → Option ρ
  | c, p, s, k => match segIn s G p with
    | some ⟨g, v⟩ => obind (g.F v) fun x => caseOut g.X x k
    | none => match c with
      | .skip => k .normal s
      | .region _ ops draw => evR T P N I draw ops s fun s' => k .normal s'
      | .seq a b => ev T P N U G I a (2 * p) s fun e s' => match e with
        | .normal => ev T P N U G I b (2 * p + 1) s' k
        | e => k e s'
      | .cond x a b => match (evalO s x).bind SV.bool? with
        | some (true, true) => ev T P N U G I a (2 * p) s k
        | some (true, false) => ev T P N U G I b (2 * p + 1) s k
        | some (false, c) => bite c (ev T P N U G I a (2 * p) s k) (ev T P N U G I b (2 * p + 1) s k)
        | none => none
      | .block i a => ev T P N U G I a (2 * p) s fun e s' => match e with
        | .exit j => match Nat.beq j i with
          | true => k .normal s'
          | false => k (.exit j) s'
        | e => k e s'
      | .loop a => loopU U (fun s' k' => ev T P N U G I a (2 * p) s' k') s k
      | .exit i => k (.exit i) s
      | .ret => k .ret s
      | _ => none

/-! ### Names of those who wait -/
def Place.ren (f : Nat → Nat) : Place → Place
  | .slot t i => .slot (f t) i
  | .box n i => .box (f n) i

def Place.far : Place → Bool
  | .slot t _ => Nat.ble lim t
  | .box n _ => Nat.ble lim n

def Cell.ren (f : Nat → Nat) : Cell → Cell
  | .ali q e t l => .ali (q.ren f) e t l
  | .ptr n off => .ptr (f n) off
  | .sp n off len cap t => .sp (f n) off len cap t
  | .pe n off t len i fo => .pe (f n) off t len i fo
  | .re q t i fo => .re (q.ren f) t i fo
  | .clo g caps => .clo g (caps.map fun q => (f q.1, q.2))
  | x => x

/-- It names those who wait alone. -/
def Cell.far : Cell → Bool
  | .ali q _ _ _ => q.far
  | .ptr n _ => Nat.ble lim n
  | .sp n _ _ _ _ => Nat.ble lim n
  | .pe n _ _ _ _ _ => Nat.ble lim n
  | .re q _ _ _ => q.far
  | .clo _ caps => caps.all fun q => Nat.ble lim q.1
  | _ => true

def SV.ren (f : Nat → Nat) (v : SV) : SV := ⟨v.sh, v.cs.map (Cell.ren f)⟩

def upN (n : Nat) : Nat := n + lim
def downN (n : Nat) : Nat := n - lim

def St.up (s : St) : St := ⟨s.slots.map fun q => (upN q.1, q.2.ren upN), s.boxes.map fun q => (upN q.1, q.2.1, q.2.2.map (Cell.ren upN))⟩
def St.down (s : St) : St := ⟨(s.slots.filter fun q => Nat.ble lim q.1 && q.2.cs.all Cell.far).map fun q => (downN q.1, q.2.ren downN), (s.boxes.filter fun q => Nat.ble lim q.1 && q.2.2.all Cell.far).map fun q => (downN q.1, q.2.1, q.2.2.map (Cell.ren downN))⟩

/-- A function begins: its arguments, and all that waits. -/
def St.enter (s : St) (args : List SV) : St := ⟨fnSlots 0 (args.map (SV.ren upN)) ++ s.up.slots, s.up.boxes⟩

/-- What is handed back, in the names of him who waited. -/
def outSV (v : SV) : Option SV :=
  match (copyCells false (fun _ => .slot 0 0) 0 v.cs).all Cell.far with
  | true => some ⟨v.sh, (copyCells false (fun _ => .slot 0 0) 0 v.cs).map (Cell.ren downN)⟩
  | false => none

def outSVs : List SV → Option (List SV)
  | [] => some []
  | v :: r => match outSV v, outSVs r with
    | some x, some l => some (x :: l)
    | _, _ => none

structure InlF where
  fn : Nat
  c : Code
  N : Nat
  U : Nat
  rs : List ResultVar
  G : List (Nat × Seg)

def finIn (P : Program) (rs : List ResultVar) (K : SV → St → Option ρ) (s : St) : Option ρ :=
  match resOf P s rs with
  | some l => match outSVs l with
    | some l' => match joinRes l' with
      | some v => K v s.down
      | none => none
    | none => none
  | none => none

def inlRun (T : List Ent) (P : Program) (I : Inl ρ) (q : InlF) (s : St) (args : List SV) (K : SV → St → Option ρ) : Option ρ :=
  match Nat.ble args.length q.N with
  | true => ev T P q.N q.U q.G I q.c 1 (s.enter args) fun e s' => match e with
    | .normal => finIn P q.rs K s'
    | .ret => finIn P q.rs K s'
    | _ => none
  | false => none

def inlFind : List InlF → Nat → Option InlF
  | [], _ => none
  | q :: r, fn => match Nat.beq q.fn fn with
    | true => some q
    | false => inlFind r fn

def inlTab (T : List Ent) (P : Program) (L : List InlF) : Nat → Inl ρ
  | 0, _ => none
  | k + 1, fn => match inlFind L fn with
    | some q => some (inlRun T P (inlTab T P L k) q)
    | none => none

def lendSVs (s : St) : List SV → Option (List SV)
  | [] => some []
  | v :: r => match lends s v.cs, lendSVs s r with
    | some (cs, _), some l => some (⟨v.sh, cs⟩ :: l)
    | _, _ => none

/-- What a function hands back. -/
def fin (P : Program) (rs : List ResultVar) (R : AT) (e : Exit) (s : St) : Option R.T :=
  let go : Option R.T := match resOf P s rs with
    | some l => match lendSVs s l with
      | some l' => match l'.all (fun v => v.cs.all Cell.plain) && ownHead R rs l with
        | true => match R.decR l' with
          | some (x, []) => some x
          | _ => none
        | false => none
      | none => none
    | none => none
  match e with
  | .normal => go
  | .ret => go
  | _ => none

/-- A loop's round: on, or out. -/
def roundK (V : VT) (X : List (Out × VT)) (again : VT.T V → Option (XT X)) (e : Exit) (s : St) : Option (XT X) :=
  match e with
  | .normal => match VT.dec s V with
    | some v => again v
    | none => none
  | e => toOut X e s
end
end Go.Proofs.Ytaegoofefcidnaa.M
