/- Rules by place: the code is named by where it lies in the program, never written out. -/
import Derived.Test.YtmiffokcdmehhaaEngS
set_option linter.unusedVariables false
namespace Go.Proofs.Ytmiffokcdmehhaa.E
open Go Go.RowKit

def fnBody (f : Func) : Code := f.body.getD .skip

/-- What a piece of code is. -/
def kd : Code → Nat
  | .skip => 0
  | .region _ _ false => 1
  | .region _ _ true => 2
  | .seq _ _ => 3
  | .cond _ _ _ => 4
  | .block _ _ => 5
  | .loop _ => 6
  | .exit _ => 7
  | .ret => 8
  | .rangeFunc _ _ _ _ => 9
  | _ => 99

def sl : Code → Code
  | .seq a _ => a
  | .cond _ a _ => a
  | .block _ a => a
  | .loop a => a
  | c => c

def sr : Code → Code
  | .seq _ b => b
  | .cond _ _ b => b
  | c => c

def cx : Code → Operand
  | .cond x _ _ => x
  | _ => .func 0

def bi : Code → Nat
  | .block i _ => i
  | .exit i => i
  | _ => 0

def opsOf : Code → Array Oper
  | .region _ ops _ => ops
  | _ => #[]

@[reducible] def ci (k : IntKind) (x : Int) : Cell := .v (.int k x)
@[reducible] def cb (b : Bool) : Cell := .v (.bool b)
@[reducible] def di (k : IntKind) (x : Int) : D := .v (.int k x)
@[reducible] def db (b : Bool) : D := .v (.bool b)
@[reducible] def one (c : Cell) : SV := ⟨.one, [c]⟩
@[reducible] def agg (l : List Cell) : SV := ⟨.agg, l⟩

/-- A cell said less of: an empty row is one's own, or just a row; one's own is a row. -/
def convCell : Option (Option (Nat × Nat)) → Cell → Cell
  | some (some (e, sz)), .nilS => .own e sz []
  | some none, .nilS => .lst []
  | some none, .own _ _ xs => .lst xs
  | _, c => c

def convs (f : Nat → Option (Option (Nat × Nat))) : Nat → List Cell → List Cell
  | _, [] => []
  | i, c :: r => convCell (f i) c :: convs f (i + 1) r

def St.convAll (f : Bool → Nat → Nat → Option (Option (Nat × Nat))) (s : St) : St :=
  ⟨s.slots.map fun q => (q.1, ⟨q.2.sh, convs (f false q.1) 0 q.2.cs⟩), s.boxes.map fun q => (q.1, q.2.1, convs (f true q.1) 0 q.2.2)⟩

def bnd {α β : Type} (e : α) (f : α → Option β) : Option β := f e

theorem bnd_some {α β : Type} {e : α} {f : α → Option β} {r : β} (h : bnd e f = some r) : ∃ v, e = v ∧ f v = some r := ⟨e, rfl, h⟩
theorem bind_some {α β : Type} {e : Option α} {f : α → Option β} {r : β} (h : e.bind f = some r) : ∃ v, e = some v ∧ f v = some r := by
  cases e with
  | none => simp at h
  | some v => exact ⟨v, rfl, h⟩
theorem guard_some {β : Type} {p : Prop} [Decidable p] {x : Option β} {r : β} (h : (if p then x else none) = some r) : p ∧ x = some r := by
  split at h
  · exact ⟨‹_›, h⟩
  · cases h
theorem fork_some {β : Type} {b : Bool} {x y : Option β} {r : β} (h : (if b = true then x else y) = some r) : (b = true ∧ x = some r) ∨ (b = false ∧ y = some r) := by
  cases b with
  | true => exact .inl ⟨rfl, by simpa using h⟩
  | false => exact .inr ⟨rfl, by simpa using h⟩

theorem top_some {α : Type} {e r : α} (h : some e = some r) : r = e := (Option.some.inj h).symm

theorem ix_map {α β : Type} {f : α → β} {l : List α} {i : Nat} {v : α} (h : l[i]? = some v) : (l.map f)[i * 1]? = some (f v) := by rw [Nat.mul_one, List.getElem?_map, h]; rfl

theorem len_map {α β : Type} {f : α → β} {l : List α} {v : Int} (h : ((l.length : Nat) : Int) = v) : one (ci .i64 (((l.map f).length : Nat) : Int)) = one (ci .i64 v) := by rw [List.length_map, h]

def encI (k : IntKind) (x : Int) : List D := [di k x]
def encB (x : Bool) : List D := [db x]
def encS (x : ByteArray) : List D := [.v (.string x)]
def encL {α : Type} (f : α → List D) (x : List α) : List D := [.lst (x.map f)]

theorem elem_map {α : Type} {xs : List α} {i : Nat} {q : α} {enc : α → List D} (h : xs[i]? = some q) : (xs.map enc)[i]? = some (enc q) := by rw [List.getElem?_map, h]; rfl

section
variable {P : Program} {r : Option Nat} {E : Env} {s s₂ : St} {R : Exit → St → Prop} {c : Code} {N m0 : Nat} {hints : List (Nat × Hint)} {l m : List Nat} {ob : Prop}

theorem thenN {K : St → Prop} (h : K s) : thenQ K R .normal s := h
theorem thenC {d : Code} {Q : Exit → St → Prop} (h : AWp P r E d s Q) : thenQ (fun s => AWp P r E d s Q) R .normal s := h
theorem thenRet {K : St → Prop} (h : R .ret s) : thenQ K R .ret s := h
theorem thenExit {K : St → Prop} {j : Nat} (h : R (.exit j) s) : thenQ K R (.exit j) s := h
theorem blkN {i : Nat} (h : R .normal s) : inBlockQ i R .normal s := h
theorem blkRet {i : Nat} (h : R .ret s) : inBlockQ i R .ret s := h
theorem blkHit {i j : Nat} (hj : j = i) (h : R .normal s) : inBlockQ i R (.exit j) s := by simp only [inBlockQ]; rw [if_pos hj]; exact h
theorem blkMiss {i j : Nat} (hj : Nat.beq j i = false) (h : R (.exit j) s) : inBlockQ i R (.exit j) s := by
  have : j ≠ i := Nat.ne_of_beq_eq_false hj
  simp only [inBlockQ]; rw [if_neg this]; exact h

theorem goSeq (hk : kd c = 3) (h : AWp P r E (sl c) s (thenQ (fun s => AWp P r E (sr c) s R) R)) : AWp P r E c s R := by
  cases c <;> first | exact AWp.seq h | (exfalso; revert hk; unfold kd; first | decide | (split <;> simp_all))

theorem goSeqJ {K : St → Prop} (hk : kd c = 3) (hj : ∀ s', K s' → AWp P r E (sr c) s' R) (h : AWp P r E (sl c) s (thenQ K R)) : AWp P r E c s R :=
  goSeq hk (h.mono fun e s' hq => by
    cases e with
    | normal => exact hj s' hq
    | _ => exact hq)

theorem goReg (hk : kd c = 1) (hN : N = E.N) (h1 : aregion P N (opsOf c) hints l m s = some (s₂, ob)) (hob : ob) (hl : l.Nodup) (hm : m.Nodup) (hQ : R .normal s₂) : AWp P r E c s R := by
  cases c with
  | region id ops d =>
    cases d with
    | false => exact AWp.reg hN h1 hob hl hm hQ
    | true => cases hk
  | _ => cases hk

theorem goDraw (hk : kd c = 2) (hN : N = E.N) (hmo : P.follows .mixedOrders = true) (h1 : adraw P N (opsOf c) hints m0 l m s = some (s₂, ob)) (hob : ob) (hl : l.Nodup) (hm : m.Nodup) (hQ : R .normal s₂) : AWp P none E c s R := by
  cases c with
  | region id ops d =>
    cases d with
    | true => exact AWp.draw hN hmo h1 hob hl hm hQ
    | false => cases hk
  | _ => cases hk

theorem goCondT (hk : kd c = 4) (hx : (evalO s (cx c)).bind SV.bool? = some true) (h : AWp P r E (sl c) s R) : AWp P r E c s R := by
  cases c with
  | region id ops d => cases d <;> cases hk
  | cond x a b => exact AWp.cond hx h
  | _ => cases hk

theorem goCondF (hk : kd c = 4) (hx : (evalO s (cx c)).bind SV.bool? = some false) (h : AWp P r E (sr c) s R) : AWp P r E c s R := by
  cases c with
  | region id ops d => cases d <;> cases hk
  | cond x a b => exact AWp.cond hx h
  | _ => cases hk

theorem goSkip (hk : kd c = 0) (h : R .normal s) : AWp P r E c s R := by
  cases c with
  | region id ops d => cases d <;> cases hk
  | skip => exact AWp.skip h
  | _ => cases hk

theorem goRet (hk : kd c = 8) (h : R .ret s) : AWp P r E c s R := by
  cases c with
  | region id ops d => cases d <;> cases hk
  | ret => exact AWp.ret h
  | _ => cases hk

theorem goExit {i : Nat} (hk : kd c = 7) (hi : bi c = i) (h : R (.exit i) s) : AWp P r E c s R := by
  cases c with
  | region id ops d => cases d <;> cases hk
  | exit j => cases hi; exact AWp.exit h
  | _ => cases hk

theorem goBlock {i : Nat} (hk : kd c = 5) (hi : bi c = i) (h : AWp P r E (sl c) s (inBlockQ i R)) : AWp P r E c s R := by
  cases c with
  | region id ops d => cases d <;> cases hk
  | block j a => cases hi; exact AWp.block h
  | _ => cases hk

theorem goLoop1 (hk : kd c = 6) (h : Loops P r E (sl c) R s) : AWp P r E c s R := by
  cases c with
  | region id ops d => cases d <;> cases hk
  | loop a => exact AWp.loop h
  | _ => cases hk

theorem roundC {d : Code} (h : AWp P r E d s (thenQ (Loops P r E d R) R)) : Loops P r E d R s := Loops.mk h

theorem goLoop {K : Nat → St → Prop} {n : Nat} (hk : kd c = 6) (h0 : K n s) (hz : ∀ s', ¬ K 0 s') (hs : ∀ n s', K (n + 1) s' → AWp P r E (sl c) s' (thenQ (K n) R)) : AWp P r E c s R := by
  refine goLoop1 hk ?_
  have : ∀ n s, K n s → Loops P r E (sl c) R s := by
    intro n
    induction n with
    | zero => intro s h; exact absurd h (hz s)
    | succ n ih => intro s h; exact .step s (K n) (hs n s h) ih
  exact this n s h0

/-! ### Arrivals -/
theorem lookup_mapv {α β : Type} {h : Nat → α → β} : ∀ (l : List (Nat × α)) (t : Nat), (l.map fun q => (q.1, h q.1 q.2)).lookup t = (l.lookup t).map (h t)
  | [], t => rfl
  | (k, x) :: l, t => by
    simp only [List.map_cons, List.lookup_cons]
    by_cases hq : t = k
    · subst hq; simp
    · have hb : (t == k) = false := by simpa using hq
      simp only [hb]
      exact lookup_mapv l t

theorem convs_get {f : Nat → Option (Option (Nat × Nat))} : ∀ (cs : List Cell) (i j : Nat), (convs f i cs)[j]? = (cs[j]?).map (convCell (f (i + j)))
  | [], i, j => by simp [convs]
  | c :: r, i, 0 => by simp [convs]
  | c :: r, i, j + 1 => by simp only [convs, List.getElem?_cons_succ]; rw [convs_get r (i + 1) j, show i + 1 + j = i + (j + 1) from by omega]

theorem convs_len {f : Nat → Option (Option (Nat × Nat))} : ∀ (cs : List Cell) (i : Nat), (convs f i cs).length = cs.length
  | [], i => rfl
  | c :: r, i => by simp [convs, convs_len r (i + 1)]

theorem CV.conv {x : Ctx} {p : Place} {c : Cell} {u : Value} {o : Option (Option (Nat × Nat))} (h : CV x p c u) : CV x p (convCell o c) u := by
  unfold convCell
  split
  · rename_i e sz
    have hu : u = .slice none 0 0 := h
    subst hu
    exact ⟨⟨[], by simp, .inl ⟨rfl, rfl⟩⟩, by simp, DV.emp none 0 (Nat.zero_le _), fun b hb => by simp [Value.ownBlock] at hb⟩
  · have hu : u = .slice none 0 0 := h
    subst hu
    exact DV.emp none 0 (Nat.zero_le _)
  · exact h.2.2.1
  · exact h

theorem convCell_target {o : Option (Option (Nat × Nat))} {c : Cell} (h : c.target = none) : (convCell o c).target = none := by
  unfold convCell; split <;> first | rfl | exact h

theorem Rel.conv {f : Bool → Nat → Nat → Option (Option (Nat × Nat))} {a : Act} {w : World} {g : Gh} (h : Rel E s a w g) : Rel E (s.convAll f) a w g := by
  refine { h with uniq := ⟨?_, ?_⟩, slots := fun t x hx => ?_, boxes := fun n e cs hn => ?_, nt := fun n e cs hn c hc => ?_ }
  · have := h.uniq.slots
    unfold Uniq at this ⊢
    simpa [St.convAll, List.map_map, Function.comp_def] using this
  · have := h.uniq.boxes
    unfold Uniq at this ⊢
    simpa [St.convAll, List.map_map, Function.comp_def] using this
  · simp only [St.convAll] at hx
    rw [lookup_mapv (h := fun t (v : SV) => (⟨v.sh, convs (f false t) 0 v.cs⟩ : SV))] at hx
    cases hq : s.slots.lookup t with
    | none => rw [hq] at hx; cases hx
    | some y =>
      rw [hq] at hx; injection hx with hx; subst hx
      obtain ⟨us, e1, e2, e3, e4⟩ := h.slots t y hq
      refine ⟨us, e1, e2, by simp only [convs_len]; exact e3, fun i q z hq' hz => ?_⟩
      simp only [convs_get, Nat.zero_add] at hq'
      cases hy : y.cs[i]? with
      | none => rw [hy] at hq'; cases hq'
      | some q0 =>
        rw [hy] at hq'; injection hq' with hq'; subst hq'
        exact ⟨(e4 i q0 z hy hz).1, (e4 i q0 z hy hz).2.conv⟩
  · simp only [St.convAll] at hn
    rw [lookup_mapv (h := fun n (b : Nat × List Cell) => (b.1, convs (f true n) 0 b.2))] at hn
    cases hq : s.boxes.lookup n with
    | none => rw [hq] at hn; cases hn
    | some y =>
      rw [hq] at hn; injection hn with hn
      obtain ⟨rfl, rfl⟩ := Prod.mk.inj hn
      obtain ⟨h1, us, h2, h3, h4⟩ := h.boxes n y.1 y.2 hq
      refine ⟨h1, us, h2, by rw [convs_len]; exact h3, fun i q z hq' hz => ?_⟩
      rw [convs_get, Nat.zero_add] at hq'
      cases hy : y.2[i]? with
      | none => rw [hy] at hq'; cases hq'
      | some q0 =>
        rw [hy] at hq'; injection hq' with hq'; subst hq'
        exact ⟨(h4 i q0 z hy hz).1, (h4 i q0 z hy hz).2.conv⟩
  · simp only [St.convAll] at hn
    rw [lookup_mapv (h := fun n (b : Nat × List Cell) => (b.1, convs (f true n) 0 b.2))] at hn
    cases hq : s.boxes.lookup n with
    | none => rw [hq] at hn; cases hn
    | some y =>
      rw [hq] at hn; injection hn with hn
      obtain ⟨rfl, rfl⟩ := Prod.mk.inj hn
      obtain ⟨j, hj⟩ := List.mem_iff_getElem?.1 hc
      rw [convs_get] at hj
      cases hy : y.2[j]? with
      | none => rw [hy] at hj; cases hj
      | some q0 =>
        rw [hy] at hj; injection hj with hj; subst hj
        exact convCell_target (h.nt n y.1 y.2 hq q0 (List.mem_of_getElem? hy))

/-- What is left of a state where ways meet. -/
def St.fit (l m : List Nat) (cv : List ((Bool × Nat × Nat) × Option (Nat × Nat))) (s : St) : Option St := (s.keep l m).map fun s => s.convAll fun b t i => cv.lookup (b, t, i)

theorem fit_sound {cv : List ((Bool × Nat × Nat) × Option (Nat × Nat))} {s' : St} {a : Act} {w : World} {g : Gh} (h : s.fit l m cv = some s') (hul : l.Nodup) (hum : m.Nodup) (hr : Rel E s a w g) : Rel E s' a w g := by
  unfold St.fit at h
  cases hk : s.keep l m with
  | none => rw [hk] at h; cases h
  | some s1 =>
    rw [hk] at h; injection h with h; subst h
    exact (keep_sound hk hul hum hr).conv

/-- A fitting arrival. -/
def Fit (l m : List Nat) (K : St → Prop) (s : St) : Prop := ∃ cv s', s.fit l m cv = some s' ∧ K s'

theorem Fit.mk {K : St → Prop} {s' : St} (cv : List ((Bool × Nat × Nat) × Option (Nat × Nat))) (hk : K s') (h : s.fit l m cv = some s') : Fit l m K s := ⟨cv, s', h, hk⟩

theorem goSeqK {K : St → Prop} (hk : kd c = 3) (hl : l.Nodup) (hm : m.Nodup) (hj : ∀ s', K s' → AWp P r E (sr c) s' R) (h : AWp P r E (sl c) s (thenQ (Fit l m K) R)) : AWp P r E c s R :=
  goSeqJ hk (fun s' ⟨cv, s1, h1, h2⟩ => AWp.weaken (fun _ _ _ => fit_sound h1 hl hm) (hj s1 h2)) h

theorem goLoopK {K : Nat → St → Prop} {n : Nat} (hk : kd c = 6) (hl : l.Nodup) (hm : m.Nodup) (h0 : Fit l m (K n) s) (hz : ∀ s', ¬ K 0 s') (hs : ∀ n s', K (n + 1) s' → AWp P r E (sl c) s' (thenQ (Fit l m (K n)) R)) : AWp P r E c s R :=
  goLoop (K := fun n => Fit l m (K n)) hk h0 (fun s' ⟨_, s1, _, h2⟩ => hz s1 h2) (fun n s' ⟨cv, s1, h1, h2⟩ => AWp.weaken (fun _ _ _ => fit_sound h1 hl hm) (hs n s1 h2))

theorem retOk {rs : List ResultVar} {v : SV} (h : (retVal P s rs).map SV.noNil = some v) : RetQ P rs v .ret s := h
theorem retOkN {rs : List ResultVar} {v : SV} (h : (retVal P s rs).map SV.noNil = some v) : RetQ P rs v .normal s := h

theorem fnOf {f : Nat} {fn : Func} {args : List SV} {v : SV} {n : Nat} (hf : P.funcs[f]? = some fn) (hname : (fn.name == "runtime.NumGoroutine") = false) (hb : fn.body = some (fnBody fn)) (hn : fn.ntmps = n) (hlen : Nat.ble args.length n = true) (hpl : args.all (fun v => v.cs.all Cell.plain) = true) {rs : List ResultVar} (hrs : fn.results.toList = rs)
    {s : St} (hs : ⟨fnSlots 0 args, []⟩ = s) (h : ∀ E : Env, n = E.N → AWp P none E (fnBody fn) s (RetQ P rs v)) : PureC P f args v :=
  PureC.of hf hname hb (by rw [hn]; exact Nat.le_of_ble_eq_true hlen) hpl fun E h1 h2 h3 => by
    subst hn hrs hs
    exact h E h1.symm
end
end Go.Proofs.Ytmiffokcdmehhaa.E
