/- An abstract machine for Go functions whose data are read as values: its states, and what they say of the machine's own. Definitions alone. -/
import Derived.RangeFuncNested
import Derived.OrdersIn
import Derived.Below
import Derived.Laws.AppendOwn
import Derived.Deep.MidRow
import Derived.KernelRfl
namespace Go.Proofs.Ytmiffokcdmehhaa.E
open Go Go.RowKit

/-- What an element of a slice holds, cell by cell. -/
inductive D where
  | v (x : Value)
  | lst (xs : List (List D))

/-- Where a cell lies: in a temporary, or in a variable in memory. -/
inductive Place where
  | slot (t i : Nat)
  | box (n i : Nat)
  deriving DecidableEq

inductive Cell where
  | v (x : Value)
  | nilS
  | lst (xs : List (List D))
  | own (e sz : Nat) (xs : List (List D))
  | ali (p : Place) (e sz : Nat) (xs : List (List D))
  | ptr (n off : Nat)
  | dp (cs : List D)
  | sp (n off len cap : Nat)
  | clo (f : Nat) (caps : List (Nat × Nat))

/-- The place that a cell names. -/
def Cell.target : Cell → Option Place
  | .ali q _ _ _ => some q
  | _ => none

inductive Shape where
  | one
  | agg
  | tup (l : List (Bool × Nat))

def Shape.isAgg : Shape → Bool
  | .agg => true
  | _ => false

structure SV where
  sh : Shape
  cs : List Cell

structure St where
  slots : List (Nat × SV)
  boxes : List (Nat × Nat × List Cell)

/-- Each name stands once. -/
def Uniq {α : Type} (l : List (Nat × α)) : Prop := (l.map (·.1)).Nodup

structure St.Ok (s : St) : Prop where
  slots : Uniq s.slots
  boxes : Uniq s.boxes

def comps : List (Bool × Nat) → List Value → List Value
  | [], _ => []
  | (true, k) :: r, us => .agg (us.take k).toArray :: comps r (us.drop k)
  | (false, _) :: r, us => us.headD undef :: comps r (us.drop 1)

def Shape.mk : Shape → List Value → Value
  | .one, us => us.headD undef
  | .agg, us => .agg us.toArray
  | .tup l, us => .tuple (comps l us).toArray

def flat : Value → List Value
  | .agg cs => cs.toList
  | .tuple vs => vs.toList.flatMap fun v => v.cells.toList
  | v => [v]

inductive Perm where
  | free
  | box (n : Nat)
  | row (p : Place) (tip : Nat)

structure Gh where
  ι : Nat → Nat
  perm : Nat → Perm

structure Env where
  N : Nat
  base : Nat
  w0 : World
  k0 : Nat → Nat → Prop
  ko : List (Nat × Obj)
  ds : List Deferred

def okp (perm : Nat → Perm) (b i : Nat) : Prop :=
  match perm b with
  | .free => True
  | .box _ => False
  | .row _ tip => i < tip

def ok (base : Nat) (k0 : Nat → Nat → Prop) (perm : Nat → Perm) (b i : Nat) : Prop :=
  if b < base then k0 b i else okp perm b i

inductive DV (w : World) (k : Nat → Nat → Prop) : D → Value → Prop
  | v (x : Value) (h : x.oneCell' = true) : DV w k (.v x) x
  | emp (a : Option Addr) (cap : Nat) (h : cap ≤ maxLen) : DV w k (.lst []) (.slice a 0 cap)
  | lst (xs : List (List D)) (b off cap sz : Nat) (u : Nat → Nat → Value)
      (hs : ∀ e ∈ xs, e.length = sz)
      (hc : ∀ i j, i < xs.length → j < sz → w.cell? ⟨b, off + i * sz + j, none⟩ = some (u i j) ∧ k b (off + i * sz + j))
      (h1 : ∀ i j, i < xs.length → j < sz → (u i j).oneCell' = true)
      (hd : ∀ i j e d, xs[i]? = some e → e[j]? = some d → DV w k d (u i j))
      (hcap : xs.length ≤ cap) (hm : cap ≤ maxLen) : DV w k (.lst xs) (.slice (some ⟨b, off, none⟩) xs.length cap)

structure Ctx where
  w : World
  k : Nat → Nat → Prop
  perm : Nat → Perm
  ι : Nat → Nat
  conc : Place → Option Value

def CV (c : Ctx) (p : Place) : Cell → Value → Prop
  | .v x, u => u = x
  | .nilS, u => u = .slice none 0 0
  | .lst xs, u => DV c.w c.k (.lst xs) u
  | .own e sz xs, u => (∃ us, c.w.ownsRow 0 e sz u xs.length us) ∧ (∀ x ∈ xs, x.length = sz) ∧ DV c.w c.k (.lst xs) u ∧ ∀ b, u.ownBlock = some b → c.perm b = .row p (xs.length * sz)
  | .ali q e sz xs, u => c.conc q = some u ∧ (∃ us, c.w.ownsRow 0 e sz u xs.length us) ∧ (∀ x ∈ xs, x.length = sz) ∧ DV c.w c.k (.lst xs) u ∧ ∀ b, u.ownBlock = some b → c.perm b = .row q (xs.length * sz)
  | .ptr n off, u => u = .pointer (some ⟨c.ι n, off, none⟩)
  | .dp cs, u => ∃ b off, u = .pointer (some ⟨b, off, none⟩) ∧ ∀ j d, cs[j]? = some d → ∃ x, c.w.cell? ⟨b, off + j, none⟩ = some x ∧ c.k b (off + j) ∧ x.oneCell' = true ∧ DV c.w c.k d x
  | .sp n off len cap, u => u = .slice (some ⟨c.ι n, off, none⟩) len cap
  | .clo f caps, u => u = .func (.func f) #[] (caps.map fun q => .pointer (some ⟨c.ι q.1, q.2, none⟩)).toArray

/-- A value: its cells one by one. -/
def SVR (c : Ctx) (pl : Nat → Place) (s : SV) (u : Value) : Prop :=
  ∃ us : List Value, u = s.sh.mk us ∧ flat u = us ∧ us.length = s.cs.length ∧ ∀ i x y, s.cs[i]? = some x → us[i]? = some y → y.oneCell' = true ∧ CV c (pl i) x y

def concAt (a : Act) (w : World) (ι : Nat → Nat) : Place → Option Value
  | .slot t i => (flat (a.tmps.getD t undef))[i]?
  | .box n i => w.cell? ⟨ι n, i, none⟩

def ctx (E : Env) (g : Gh) (a : Act) (w : World) : Ctx := ⟨w, ok E.base E.k0 g.perm, g.perm, g.ι, concAt a w g.ι⟩

structure Rel (E : Env) (s : St) (a : Act) (w : World) (g : Gh) : Prop where
  uniq : s.Ok
  slots : ∀ t x, s.slots.lookup t = some x → SVR (ctx E g a w) (.slot t) x (a.tmps.getD t undef)
  boxes : ∀ n e cs, s.boxes.lookup n = some (e, cs) → g.perm (g.ι n) = .box n ∧ ∃ us : List Value, w.heap[g.ι n]? = some (.cells us.toArray e (0, 0)) ∧ us.length = cs.length ∧
    ∀ i x y, cs[i]? = some x → us[i]? = some y → y.oneCell' = true ∧ CV (ctx E g a w) (.box n i) x y
  nt : ∀ n e cs, s.boxes.lookup n = some (e, cs) → ∀ c ∈ cs, c.target = none
  lo : ∀ b, g.perm b ≠ .free → E.base ≤ b ∧ b < w.heap.size
  below : Below E.base E.w0 w
  base : E.base ≤ w.heap.size
  size : a.tmps.size = E.N
  defers : a.defers = E.ds
  ko : ∀ l o, (l, o) ∈ E.ko → w.heap[l]? = some o ∧ g.perm l = .free

/-- The fence of all our walks: every function, whatever depth. -/
def Fr (r : Option Nat) : Fence := { fn := fun _ => True, depth := none, alive := false, round := r }

def AWp (P : Program) (r : Option Nat) (E : Env) (c : Code) (s : St) (Q : Exit → St → Prop) : Prop :=
  ∀ a w g, Rel E s a w g → c.wpIn (Fr r) 9 P (fun e a' w' => ∃ s' g', Q e s' ∧ Rel E s' a' w' g') a w

/-- What a function without state answers: of these arguments, this result; nothing that was there has turned. -/
def PureC (P : Program) (f : Nat) (args : List SV) (r : SV) : Prop :=
  (∀ args w, (callFunc f args).run P w = .ok (.enter f args) w) ∧
  ∀ (rd : Option Nat) (w : World) (k : Nat → Nat → Prop) (vs : List Value), vs.length = args.length →
    (∀ i x y, args[i]? = some x → vs[i]? = some y → SVR ⟨w, k, fun _ => .free, fun _ => 0, fun _ => none⟩ (.slot i) x y) →
    CallsIn (Fr rd) 9 P f vs.toArray w fun e w' => ∃ u perm, e = .returned u ∧ Below w.heap.size w w' ∧ (∀ b, perm b ≠ .free → w.heap.size ≤ b ∧ b < w'.heap.size) ∧
      SVR ⟨w', ok w.heap.size k perm, perm, fun _ => 0, fun _ => none⟩ (.slot 0) r u

end Go.Proofs.Ytmiffokcdmehhaa.E
