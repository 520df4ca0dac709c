/- What a row's arguments are, read as values. -/
import Derived.Test.YtmiffokcdmehhaaEngU
import Derived.OpenShut
import Derived.ChangeOld
import Derived.Carry
set_option linter.unusedVariables false
namespace Go.Proofs.Ytmiffokcdmehhaa.E
open Go Go.RowKit

/-- What a cell may hold. -/
inductive Lf where
  | i (k : IntKind)
  | b
  | s
  | l (ls : List Lf)

def all2 {α β : Type} (R : α → β → Prop) : List α → List β → Prop
  | [], [] => True
  | a :: as, b :: bs => R a b ∧ all2 R as bs
  | _, _ => False

def inR (k : IntKind) (x : Int) : Prop := (Lit.int k x).wf = true

inductive LfOk : Lf → D → Prop
  | i {k : IntKind} (x : Int) (h : inR k x) : LfOk (.i k) (.v (.int k x))
  | b (x : Bool) : LfOk .b (.v (.bool x))
  | s (x : ByteArray) (h : x.size ≤ maxLen) : LfOk .s (.v (.string x))
  | l {ls : List Lf} (xs : List (List D)) (h : xs.length ≤ maxLen) (hl : ∀ x ∈ xs, x.length = ls.length) (hx : ∀ x ∈ xs, ∀ (j : Nat) y d, ls[j]? = some y → x[j]? = some d → LfOk y d) : LfOk (.l ls) (.lst xs)

theorem LfOk.int {k : IntKind} {d : D} (h : LfOk (.i k) d) : ∃ x, d = .v (.int k x) ∧ inR k x := by cases h; exact ⟨_, rfl, by assumption⟩
theorem LfOk.bool {d : D} (h : LfOk .b d) : ∃ x, d = .v (.bool x) := by cases h; exact ⟨_, rfl⟩
theorem LfOk.str {d : D} (h : LfOk .s d) : ∃ x : ByteArray, d = .v (.string x) ∧ x.size ≤ maxLen := by cases h; exact ⟨_, rfl, by assumption⟩

def leafFs (f : TypeId → Option (List Lf)) : List Field → Nat → Option (List Lf)
  | [], _ => some []
  | g :: r, o => if g.offset = o then match f g.type with
      | some ls => (leafFs f r (o + ls.length)).map (ls ++ ·)
      | none => none
    else none

def leavesOf (P : Program) : Nat → TypeId → Option (List Lf)
  | 0, _ => none
  | n + 1, t => match P.underlying t with
    | some .bool => some [.b]
    | some (.int k) => some [.i k]
    | some .string => some [.s]
    | some (.slice e) => match leavesOf P n e with
      | some ls => if ls.length = P.cellsOf e ∧ 0 < ls.length then some [.l ls] else none
      | none => none
    | some (.struct fs) => match leafFs (fun u => match leavesOf P n u with
        | some ls => if ls.length = P.cellsOf u then some ls else none
        | none => none) fs.toList 0 with
      | some ls => if ls.length = P.cellsOf t then some ls else none
      | none => none
    | some (.array m e) => match leavesOf P n e with
      | some ls => if ls.length = P.cellsOf e ∧ m * ls.length = P.cellsOf t then some (List.replicate m ls).flatten else none
      | none => none
    | _ => none

theorem all2_cons {α β : Type} {R : α → β → Prop} {a : α} {as : List α} {bs : List β} (h : all2 R (a :: as) bs) : ∃ b r, bs = b :: r ∧ R a b ∧ all2 R as r := by
  cases bs with
  | nil => exact h.elim
  | cons b r => exact ⟨b, r, rfl, h.1, h.2⟩

theorem all2_nil {α β : Type} {R : α → β → Prop} {bs : List β} (h : all2 R [] bs) : bs = [] := by
  cases bs with
  | nil => rfl
  | cons b r => exact h.elim

theorem all2_append {α β : Type} {R : α → β → Prop} : ∀ {as as' : List α} {bs bs' : List β}, all2 R as bs → all2 R as' bs' → all2 R (as ++ as') (bs ++ bs')
  | [], _, bs, _, h, h' => by rw [all2_nil h]; exact h'
  | a :: as, _, bs, _, h, h' => by
    obtain ⟨b, r, rfl, h1, h2⟩ := all2_cons h
    exact ⟨h1, all2_append h2 h'⟩

theorem all2_length {α β : Type} {R : α → β → Prop} : ∀ {as : List α} {bs : List β}, all2 R as bs → bs.length = as.length
  | [], bs, h => by rw [all2_nil h]; rfl
  | a :: as, bs, h => by
    obtain ⟨b, r, rfl, h1, h2⟩ := all2_cons h
    simp [all2_length h2]

theorem all2_of_get {α β : Type} {R : α → β → Prop} : ∀ {as : List α} {bs : List β}, bs.length = as.length → (∀ (j : Nat) a b, as[j]? = some a → bs[j]? = some b → R a b) → all2 R as bs
  | [], [], _, _ => trivial
  | a :: as, b :: bs, hl, h => ⟨h 0 a b rfl rfl, all2_of_get (by simpa using hl) fun j x y hx hy => h (j + 1) x y (by simpa using hx) (by simpa using hy)⟩
  | [], _ :: _, hl, _ => by simp at hl
  | _ :: _, [], hl, _ => by simp at hl

theorem all2_get {α β : Type} {R : α → β → Prop} : ∀ {as : List α} {bs : List β}, all2 R as bs → ∀ (j : Nat) a b, as[j]? = some a → bs[j]? = some b → R a b
  | [], bs, h, j, a, b, ha, _ => by simp at ha
  | x :: as, bs, h, j, a, b, ha, hb => by
    obtain ⟨y, r, rfl, h1, h2⟩ := all2_cons h
    cases j with
    | zero => simp at ha hb; subst ha hb; exact h1
    | succ j => exact all2_get h2 j a b (by simpa using ha) (by simpa using hb)

theorem LfOk.lst {ls : List Lf} {d : D} (h : LfOk (.l ls) d) : ∃ xs, d = .lst xs ∧ xs.length ≤ maxLen ∧ ∀ x ∈ xs, all2 LfOk ls x := by
  cases h with
  | l xs h hl hx => exact ⟨xs, rfl, h, fun x hm => all2_of_get (hl x hm) (hx x hm)⟩

theorem map_of {α : Type} {f : α → List D} {ok : α → Prop} {R : List D → Prop} (hR : ∀ x, R x → ∃ y, x = f y ∧ ok y) : ∀ {xs : List (List D)}, (∀ x ∈ xs, R x) → ∃ ys : List α, xs = ys.map f ∧ ∀ y ∈ ys, ok y
  | [], _ => ⟨[], rfl, by simp⟩
  | x :: xs, h => by
    obtain ⟨y, rfl, h1⟩ := hR x (h x (by simp))
    obtain ⟨ys, rfl, h2⟩ := map_of hR (xs := xs) (fun z hz => h z (by simp [hz]))
    exact ⟨y :: ys, rfl, by simp [h1]; exact h2⟩

def any2 : Nat → Nat → Prop := fun _ _ => True

/-- Cells and what they are read as. -/
def CellsD (w : World) (us : List Value) (ds : List D) : Prop := us.length = ds.length ∧ ∀ (j : Nat) u x, us[j]? = some u → ds[j]? = some x → u.oneCell' = true ∧ DV w any2 x u

theorem CellsD.append {w : World} {us us' : List Value} {ds ds' : List D} (h : CellsD w us ds) (h' : CellsD w us' ds') : CellsD w (us ++ us') (ds ++ ds') := by
  refine ⟨by simp [h.1, h'.1], fun j u x hu hx => ?_⟩
  by_cases hj : j < us.length
  · rw [List.getElem?_append_left hj] at hu
    rw [List.getElem?_append_left (by rw [← h.1]; exact hj)] at hx
    exact h.2 j u x hu hx
  · rw [List.getElem?_append_right (by omega)] at hu
    rw [List.getElem?_append_right (by rw [← h.1]; omega), ← h.1] at hx
    exact h'.2 _ u x hu hx

section
variable {H : Type} {enc : TypeId × Value → H} {P : Program} {w : World} {sp : Nat → Bool} {hd : Bool}

theorem cells_get {a : Addr} {n : Nat} {cs : List Value} (h : w.cells? 0 a n = some cs) : cs.length = n ∧ ∀ j u, cs[j]? = some u → w.cell? (a.add j) = some u := by
  unfold World.cells? at h
  rw [if_pos (Nat.zero_le _)] at h
  have hl := mapM_some_length h
  simp at hl
  refine ⟨hl, fun j u hj => ?_⟩
  have hlt : j < n := by have := (List.getElem?_eq_some_iff.1 hj).1; omega
  have := mapM_some_get h j j (by rw [List.getElem?_range hlt])
  rw [this, hj]

/-- The parts of a struct, one behind the other. -/
theorem fields_read {f : TypeId → Option (List Lf)} {g : TypeId → List Value → Option (DataW H × List MemPlace)} {cs : List Value}
    (ih : ∀ t us x ls, g t us = some x → f t = some ls → ∃ ds, CellsD w us ds ∧ all2 LfOk ls ds) (hf : ∀ t ls, f t = some ls → ls.length = P.cellsOf t) :
    ∀ (fs : List Field) (o : Nat) (xs : List (DataW H × List MemPlace)) (ls : List Lf), fs.mapM (fun q => g q.type ((cs.drop q.offset).take (P.cellsOf q.type))) = some xs → leafFs f fs o = some ls →
      ∃ ds, CellsD w ((cs.drop o).take ls.length) ds ∧ all2 LfOk ls ds
  | [], o, xs, ls, h, hl => by
    simp [leafFs] at hl
    subst hl
    exact ⟨[], ⟨by simp, fun j u x hu => by simp at hu⟩, trivial⟩
  | q :: fs, o, xs, ls, h, hl => by
    simp only [leafFs] at hl
    split at hl
    · rename_i ho
      split at hl
      · rename_i l1 h1
        cases h2 : leafFs f fs (o + l1.length) with
        | none => simp [h2] at hl
        | some l2 =>
          simp [h2] at hl
          subst hl
          rw [List.mapM_cons] at h
          cases hg : g q.type ((cs.drop q.offset).take (P.cellsOf q.type)) with
          | none => simp [hg] at h
          | some x =>
            cases hr : fs.mapM (fun q => g q.type ((cs.drop q.offset).take (P.cellsOf q.type))) with
            | none => simp [hg, hr] at h
            | some xs' =>
              obtain ⟨d1, c1, a1⟩ := ih _ _ _ _ hg h1
              obtain ⟨d2, c2, a2⟩ := fields_read ih hf fs _ _ _ hr h2
              refine ⟨d1 ++ d2, ?_, all2_append a1 a2⟩
              have hc := hf _ _ h1
              rw [ho, ← hc] at c1
              have : (cs.drop o).take (l1.length + l2.length) = (cs.drop o).take l1.length ++ (cs.drop (o + l1.length)).take l2.length := by
                rw [List.take_add, List.drop_drop]
              rw [List.length_append, this]
              exact c1.append c2
      · simp at hl
    · simp at hl

/-- The elements of an array. -/
theorem items_read {g : List Value → Option (DataW H × List MemPlace)} {cs : List Value} {l1 : List Lf} {sz : Nat} (hsz : l1.length = sz)
    (ih : ∀ us x, g us = some x → ∃ ds, CellsD w us ds ∧ all2 LfOk l1 ds) :
    ∀ (m o : Nat) (xs : List (DataW H × List MemPlace)), (List.range' o m).mapM (fun i => g ((cs.drop (i * sz)).take sz)) = some xs →
      ∃ ds, CellsD w ((cs.drop (o * sz)).take (m * sz)) ds ∧ all2 LfOk (List.replicate m l1).flatten ds
  | 0, o, xs, h => ⟨[], ⟨by simp, fun j u x hu => by simp at hu⟩, by simp [all2]⟩
  | m + 1, o, xs, h => by
    rw [List.range'_succ, List.mapM_cons] at h
    cases hg : g ((cs.drop (o * sz)).take sz) with
    | none => simp [hg] at h
    | some x =>
      cases hr : (List.range' (o + 1) m).mapM (fun i => g ((cs.drop (i * sz)).take sz)) with
      | none => simp [hg, hr] at h
      | some xs' =>
        obtain ⟨d1, c1, a1⟩ := ih _ _ hg
        obtain ⟨d2, c2, a2⟩ := items_read hsz ih m (o + 1) _ hr
        refine ⟨d1 ++ d2, ?_, ?_⟩
        · have e1 : (m + 1) * sz = sz + m * sz := by rw [Nat.add_mul]; omega
          have e2 : (o + 1) * sz = o * sz + sz := by rw [Nat.add_mul]; omega
          rw [e1, List.take_add, List.drop_drop, ← e2]
          exact c1.append c2
        · rw [List.replicate_succ, List.flatten_cons]
          exact all2_append a1 a2

theorem CellsD.one {u : Value} {d : D} (h1 : u.oneCell' = true) (h2 : DV w any2 d u) : CellsD w [u] [d] := by
  refine ⟨rfl, fun j x y hx hy => ?_⟩
  cases j with
  | zero => simp at hx hy; subst hx hy; exact ⟨h1, h2⟩
  | succ j => simp at hx

/-- A slice. -/
theorem slice_read {a : Addr} {e : TypeId} {len cap : Nat} {l1 : List Lf} {xs : List (DataW H × List MemPlace)} {f : List Value → Option (DataW H × List MemPlace)} (hlen : l1.length = P.cellsOf e) (h0 : 0 < l1.length) (hlc : len ≤ cap) (hcm : cap ≤ maxLen)
    (ih : ∀ us q, f us = some q → ∃ ds, CellsD w us ds ∧ all2 LfOk l1 ds)
    (hm : (List.range len).mapM (fun i => (w.cells? 0 (a.add (i * P.cellsOf e)) (P.cellsOf e)).bind f) = some xs) : ∃ ds, CellsD w [.slice (some a) len cap] ds ∧ all2 LfOk [.l l1] ds := by
  have hxl := mapM_some_length hm
  rw [List.length_range] at hxl
  have each : ∀ i, ∃ q : List Value × List D, i < len → w.cells? 0 (a.add (i * P.cellsOf e)) (P.cellsOf e) = some q.1 ∧ CellsD w q.1 q.2 ∧ all2 LfOk l1 q.2 := fun i => by
    by_cases hi : i < len
    · have hg := mapM_some_get hm i i (by rw [List.getElem?_range hi])
      cases hc : w.cells? 0 (a.add (i * P.cellsOf e)) (P.cellsOf e) with
      | none =>
        rw [hc] at hg
        have hg := hg.symm
        simp only [Option.bind_none, List.getElem?_eq_none_iff] at hg
        omega
      | some us =>
        rw [hc] at hg
        simp only [Option.bind_some] at hg
        cases hq : f us with
        | none =>
          rw [hq] at hg
          have hg := hg.symm
          rw [List.getElem?_eq_none_iff] at hg
          omega
        | some q =>
          obtain ⟨ds, c1, c2⟩ := ih us q hq
          exact ⟨(us, ds), fun _ => ⟨rfl, c1, c2⟩⟩
    · exact ⟨([], []), fun h => absurd h hi⟩
  obtain ⟨Q, hQ⟩ := Classical.axiomOfChoice each
  have hget : ∀ (i : Nat) e', ((List.range len).map fun i => (Q i).2)[i]? = some e' → i < len ∧ e' = (Q i).2 := fun i e' he => by
    rw [List.getElem?_map] at he
    by_cases hi : i < len
    · rw [List.getElem?_range hi] at he; injection he with he; exact ⟨hi, he.symm⟩
    · rw [List.getElem?_eq_none (by simp; omega)] at he; cases he
  refine ⟨[.lst ((List.range len).map fun i => (Q i).2)], CellsD.one rfl ?_, .l _ (by simp; omega) (fun x hx => ?_) (fun x hx j y d hy hd => ?_), trivial⟩
  · by_cases hl0 : len = 0
    · subst hl0
      exact .emp _ _ hcm
    · have hcell : ∀ i j, i < len → j < P.cellsOf e → w.cell? ((a.add (i * P.cellsOf e)).add j) = some ((Q i).1.getD j undef) := fun i j hi hj => by
        obtain ⟨h1, h2, h3⟩ := hQ i hi
        obtain ⟨c1, c2⟩ := cells_get h1
        refine c2 j _ ?_
        rw [List.getD_eq_getElem?_getD, List.getElem?_eq_getElem (by omega)]
        rfl
      have hspot : a.spot = none := by simpa [Addr.add] using World.cell?_spot (hcell 0 0 (by omega) (by omega))
      obtain ⟨b, off, spot⟩ := a
      simp only at hspot
      subst hspot
      have hlen' : ((List.range len).map fun i => (Q i).2).length = len := by simp
      have key := DV.lst (w := w) (k := any2) ((List.range len).map fun i => (Q i).2) b off cap (P.cellsOf e) (fun i j => (Q i).1.getD j undef) (fun x hx => by
          obtain ⟨i, hi, rfl⟩ := List.mem_map.1 hx
          obtain ⟨_, _, h3⟩ := hQ i (by simpa using hi)
          rw [all2_length h3, hlen]) (fun i j hi hj => ⟨by
            have := hcell i j (by simpa using hi) hj
            rwa [Addr.add_mid, Addr.add_mid] at this, trivial⟩) (fun i j hi hj => by
          obtain ⟨h1, h2, h3⟩ := hQ i (by simpa using hi)
          have hl := (cells_get h1).1
          have hu : (Q i).1[j]? = some ((Q i).1.getD j undef) := by rw [List.getD_eq_getElem?_getD, List.getElem?_eq_getElem (by omega)]; rfl
          have hd : ∃ d, (Q i).2[j]? = some d := ⟨_, List.getElem?_eq_getElem (by rw [← h2.1]; omega)⟩
          obtain ⟨d, hd⟩ := hd
          exact (h2.2 j _ d hu hd).1) (fun i j e' d he hd => by
          obtain ⟨hi, rfl⟩ := hget i e' he
          obtain ⟨h1, h2, h3⟩ := hQ i hi
          have hj : j < (Q i).2.length := (List.getElem?_eq_some_iff.1 hd).1
          have hu : (Q i).1[j]? = some ((Q i).1.getD j undef) := by rw [List.getD_eq_getElem?_getD, List.getElem?_eq_getElem (by rw [h2.1]; exact hj)]; rfl
          exact (h2.2 j _ d hu hd).2) (by rw [hlen']; exact hlc) hcm
      rw [hlen'] at key
      exact key
  · obtain ⟨i, hi, rfl⟩ := List.mem_map.1 hx
    obtain ⟨_, _, h3⟩ := hQ i (by simpa using hi)
    exact all2_length h3
  · obtain ⟨i, hi, rfl⟩ := List.mem_map.1 hx
    obtain ⟨_, _, h3⟩ := hQ i (by simpa using hi)
    exact all2_get h3 j y d hy hd

/-- WHAT CAME IN IS A VALUE OF ITS TYPE. -/
theorem readD : ∀ (fuel n : Nat) (t : TypeId) (cs : List Value) (x : DataW H × List MemPlace) (ls : List Lf), DataW.trod enc P w 0 sp hd fuel t cs = some x → leavesOf P n t = some ls → ∃ ds, CellsD w cs ds ∧ all2 LfOk ls ds := by
  intro fuel
  induction fuel with
  | zero => intro n t cs x ls h; simp [DataW.trod] at h
  | succ fuel ih =>
    intro n t cs x ls h hl
    cases n with
    | zero => simp [leavesOf] at hl
    | succ n =>
      unfold leavesOf at hl
      unfold DataW.trod at h
      cases hu : P.underlying t with
      | none => simp [hu] at hl
      | some td =>
        simp only [hu] at h hl
        cases td with
        | bool =>
          simp at hl; subst hl
          rcases cs with _ | ⟨c, _ | ⟨c2, r⟩⟩ <;> simp at h
          cases c <;> simp at h
          rename_i b
          exact ⟨[.v (.bool b)], CellsD.one rfl (.v _ rfl), .b b, trivial⟩
        | int k =>
          simp at hl; subst hl
          rcases cs with _ | ⟨c, _ | ⟨c2, r⟩⟩ <;> simp at h
          cases c <;> simp at h
          rename_i k' m
          obtain ⟨⟨rfl, hw⟩, _⟩ := h
          exact ⟨[.v (.int k' m)], CellsD.one rfl (.v _ rfl), .i m hw, trivial⟩
        | string =>
          simp at hl; subst hl
          rcases cs with _ | ⟨c, _ | ⟨c2, r⟩⟩ <;> simp at h
          cases c <;> simp at h
          rename_i b
          exact ⟨[.v (.string b)], CellsD.one rfl (.v _ rfl), .s b h.1, trivial⟩
        | «struct» fs =>
          simp only at hl h
          split at hl
          · rename_i l1 h1
            split at hl
            · rename_i hlen
              injection hl with hl; subst hl
              split at h
              · rename_i hcs
                cases hm : fs.toList.mapM (fun f => DataW.trod enc P w 0 sp hd fuel f.type ((cs.drop f.offset).take (P.cellsOf f.type))) with
                | none => simp [hm] at h
                | some xs =>
                  obtain ⟨ds, c, a⟩ := fields_read (w := w) (P := P) (g := fun t us => DataW.trod enc P w 0 sp hd fuel t us) (cs := cs)
                    (f := fun u => match leavesOf P n u with
                      | some ls => if ls.length = P.cellsOf u then some ls else none
                      | none => none)
                    (fun t us x ls hg hf => by
                      split at hf
                      · rename_i l2 h2
                        split at hf
                        · injection hf with hf; subst hf; exact ih n t us x l2 hg h2
                        · cases hf
                      · cases hf)
                    (fun t ls hf => by
                      split at hf
                      · split at hf
                        · injection hf with hf; subst hf; assumption
                        · cases hf
                      · cases hf) fs.toList 0 xs l1 hm h1
                  rw [List.drop_zero, hlen, ← hcs, List.take_length] at c
                  exact ⟨ds, c, a⟩
              · cases h
            · cases hl
          · cases hl
        | array m e =>
          simp only at hl h
          split at hl
          · rename_i l1 h1
            split at hl
            · rename_i hlen
              injection hl with hl; subst hl
              split at h
              · rename_i hcs
                cases hm : (List.range m).mapM (fun i => DataW.trod enc P w 0 sp hd fuel e ((cs.drop (i * P.cellsOf e)).take (P.cellsOf e))) with
                | none => simp [hm] at h
                | some xs =>
                  rw [List.range_eq_range'] at hm
                  obtain ⟨ds, c, a⟩ := items_read (w := w) (g := fun us => DataW.trod enc P w 0 sp hd fuel e us) (cs := cs) hlen.1 (fun us x hg => ih n e us x l1 hg h1) m 0 xs hm
                  have e1 : m * P.cellsOf e = cs.length := by rw [← hlen.1, hlen.2, hcs]
                  rw [Nat.zero_mul, List.drop_zero, e1, List.take_length] at c
                  exact ⟨ds, c, a⟩
              · cases h
            · cases hl
          · cases hl
        | slice e =>
          simp only at hl h
          split at hl
          · rename_i l1 h1
            split at hl
            · rename_i hlen
              injection hl with hl; subst hl
              rcases cs with _ | ⟨c, _ | ⟨c2, r⟩⟩
              · cases h
              · cases c with
                | slice a len cap =>
                  cases a with
                  | none =>
                    cases len with
                    | zero =>
                      cases cap with
                      | zero => exact ⟨[.lst []], CellsD.one rfl (.emp none 0 (Nat.zero_le _)), .l [] (Nat.zero_le _) (by simp) (by simp), trivial⟩
                      | succ cap => cases h
                    | succ len => cases h
                  | some a =>
                    dsimp only at h
                    split at h
                    · rename_i hb
                      obtain ⟨_, hlc, hcm⟩ := hb
                      cases hm : (List.range len).mapM (fun i => (w.cells? 0 (a.add (i * P.cellsOf e)) (P.cellsOf e)).bind (DataW.trod enc P w 0 sp hd fuel e)) with
                      | none => simp [hm] at h
                      | some xs => exact slice_read hlen.1 hlen.2 hlc hcm (fun us q hq => ih n e us q l1 hq h1) hm
                    · cases h
                | _ => cases h
              · cases c <;> first | (cases h; done) | (rename_i aa bb cc; cases aa <;> first | (cases h; done) | (cases bb <;> first | (cases h; done) | (cases cc <;> cases h)))
            · cases hl
          · cases hl
        | _ => simp at hl
end
end Go.Proofs.Ytmiffokcdmehhaa.E
