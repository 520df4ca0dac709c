/- A region that draws its order: whatever comes up next. -/
import Derived.Test.YtfejdcdomgeogaaMchQ
set_option linter.unusedVariables false
namespace Go.Proofs.Ytfejdcdomgeogaa.M
open Go Go.RowKit

def unl (L : Nat → Bool) : Nat → Nat
  | 0 => 0
  | n + 1 => unl L n + (if L n then 0 else 1)

theorem unl_zero {L : Nat → Bool} : ∀ {n : Nat}, unl L n = 0 → ∀ k, k < n → L k = true
  | 0, _, k, h => by omega
  | n + 1, h, k, hk => by
    simp only [unl] at h
    by_cases hn : L n = true
    · by_cases hkn : k = n
      · rw [hkn]; exact hn
      · exact unl_zero (n := n) (by omega) k (by omega)
    · simp [hn] at h

theorem unl_set {L L' : Nat → Bool} {i : Nat} (h : ∀ k, L' k = if k = i then true else L k) (hi : L i = false) : ∀ n, (i < n → unl L' n + 1 ≤ unl L n) ∧ (n ≤ i → unl L' n = unl L n)
  | 0 => ⟨fun h => by omega, fun _ => rfl⟩
  | n + 1 => by
    obtain ⟨h1, h2⟩ := unl_set h hi n
    refine ⟨fun hin => ?_, fun hin => ?_⟩
    · simp only [unl]
      by_cases hni : n = i
      · subst hni
        rw [h2 (Nat.le_refl _), h n, if_pos rfl, hi]
        simp
      · rw [h n, if_neg hni]
        have := h1 (by omega)
        omega
    · simp only [unl]
      have e : L' n = L n := by rw [h n, if_neg (by omega)]
      rw [h2 (by omega), e]

theorem unl_tail {L : Nat → Bool} {m : Nat} : ∀ n, (∀ k, m ≤ k → k < n → L k = false) → n - m ≤ unl L n
  | 0, _ => by omega
  | n + 1, h => by
    have := unl_tail (m := m) n (fun k h1 h2 => h k h1 (by omega))
    simp only [unl]
    by_cases hmn : m ≤ n
    · rw [h n hmn (by omega)]
      simp
      omega
    · omega

/-! ### Operations that hang not on the world -/
def WF {α : Type} (P : Program) (m : Sem α) : Prop := (∃ v, ∀ w, m.run P w = .ok v w) ∨ ∀ w x w', m.run P w ≠ .ok x w'

theorem and_ok {α β : Type} {r : Result α} {f : α → World → Result β} {x : β} {w' : World} (h : r.andThen f = .ok x w') : ∃ y w1, r = .ok y w1 ∧ f y w1 = .ok x w' := by
  cases r with
  | ok y w1 => exact ⟨y, w1, rfl, h⟩
  | halt y w1 => cases h

theorem wf_pure {α : Type} {P : Program} (x : α) : WF P (pure x : Sem α) := .inl ⟨x, fun _ => rfl⟩
theorem wf_stuck {α : Type} {P : Program} (x : String) : WF P (stuck x : Sem α) := .inr fun w y w' h => by cases h
theorem wf_bind {α β : Type} {P : Program} {m : Sem α} {f : α → Sem β} (h1 : WF P m) (h2 : ∀ x, WF P (f x)) : WF P (m >>= f) := by
  rcases h1 with ⟨v, h1⟩ | h1
  · rcases h2 v with ⟨u, h2⟩ | h2
    · exact .inl ⟨u, fun w => by rw [Sem.run_bind, h1, Result.andThen_ok, h2]⟩
    · exact .inr fun w x w' h => by rw [Sem.run_bind, h1, Result.andThen_ok] at h; exact h2 _ _ _ h
  · refine .inr fun w x w' h => ?_
    rw [Sem.run_bind] at h
    cases hr : m.run P w with
    | ok y w1 => exact h1 _ _ _ hr
    | halt y w1 => rw [hr] at h; cases h
theorem wf_never {α β : Type} {P : Program} {m : Sem α} {f : α → Sem β} (h2 : ∀ x w y w', (f x).run P w ≠ .ok y w') : WF P (m >>= f) := by
  refine .inr fun w x w' h => ?_
  rw [Sem.run_bind] at h
  cases hr : m.run P w with
  | ok y w1 => rw [hr] at h; exact h2 _ _ _ _ h
  | halt y w1 => rw [hr] at h; cases h
theorem panic_never {α : Type} {P : Program} (e : RuntimeError) : ∀ w (x : α) w', (runtimePanic e : Sem α).run P w ≠ .ok x w' := by
  intro w x w' h
  unfold runtimePanic at h
  rw [Sem.run_bind] at h
  simp only [Go.program] at h
  cases e with
  | typeAssertion i c a m =>
    simp only [Sem.run_bind] at h
    obtain ⟨_, _, _, h⟩ := and_ok h
    obtain ⟨_, _, _, h⟩ := and_ok h
    obtain ⟨_, _, _, h⟩ := and_ok h
    cases h
  | panicNil =>
    simp only [Sem.run_bind] at h
    obtain ⟨_, _, _, h⟩ := and_ok h
    obtain ⟨_, _, _, h⟩ := and_ok h
    obtain ⟨_, _, _, h⟩ := and_ok h
    cases h
  | _ => obtain ⟨_, _, _, h⟩ := and_ok h; cases h
theorem wf_bounds {α : Type} {P : Program} (k : IntKind) (x y : Int) (c : BoundsCode) : WF P (boundsPanic k x y c : Sem α) := by
  unfold boundsPanic
  dsimp only
  split
  · exact wf_never fun _ => panic_never _
  · exact wf_never fun _ => panic_never _
theorem wf_under {P : Program} (t : TypeId) : WF P (underlying t) := by
  unfold Go.underlying
  cases h : P.underlying t with
  | some d => exact .inl ⟨d, fun w => by rw [Sem.run_bind]; simp [Go.program, Sem.run, h]⟩
  | none => exact .inr fun w x w' hh => by rw [Sem.run_bind] at hh; simp [Go.program, Sem.run, h, stuck] at hh
theorem wf_size {P : Program} (t : TypeId) : WF P (sizeOf t) := by
  unfold Go.sizeOf Go.typeInfo
  refine wf_bind ?_ fun _ => wf_pure _
  cases h : P.info? t with
  | some d => exact .inl ⟨d, fun w => by rw [Sem.run_bind]; simp [Go.program, Sem.run, h]⟩
  | none => exact .inr fun w x w' hh => by rw [Sem.run_bind] at hh; simp [Go.program, Sem.run, h, stuck] at hh
theorem wf_int {P : Program} (v : Value) : WF P (asIntOf v) := by
  unfold asIntOf
  split
  · exact wf_pure _
  · exact .inr fun w x w' h => by cases h
  · exact wf_stuck _
theorem wf_addr {P : Program} (v : Value) : WF P (asAddr v) := by
  unfold asAddr
  split
  · exact wf_pure _
  · exact .inr fun w x w' => panic_never _ w x w'
  · exact wf_stuck _
theorem wf_sure {P : Program} (v : Value) : WF P (Instr.sureAddr v) := by
  unfold Instr.sureAddr
  split
  · exact wf_pure _
  · exact wf_stuck _
theorem wf_bound {P : Program} (x : Value) (y : Nat) (c : BoundsCode) : WF P (Instr.sliceBound x y c) := by
  unfold Instr.sliceBound
  refine wf_bind (wf_int _) fun q => ?_
  obtain ⟨k, i⟩ := q
  dsimp only
  split
  · exact wf_pure _
  · exact wf_bounds _ _ _ _
theorem wf_slbounds {P : Program} (g : Bool) (l c : Nat) (lo hi mx : Option Value) : WF P (Instr.sliceBounds g l c lo hi mx) := by
  unfold Instr.sliceBounds
  have l3 : ∀ (m h : Nat), WF P (have __do_jp := fun l => (pure (l, h, m) : Sem (Nat × Nat × Nat)); match lo with
      | some v => do
        let l ← Instr.sliceBound v h (if mx.isSome = true then BoundsCode.slice3C else BoundsCode.sliceB)
        __do_jp l
      | none => do
        let l ← pure 0
        __do_jp l) := fun m h => by
    cases lo with
    | some v => exact wf_bind (wf_bound _ _ _) fun _ => wf_pure _
    | none => exact wf_bind (wf_pure _) fun _ => wf_pure _
  cases mx with
  | some u => cases hi with
    | some v => exact wf_bind (wf_bound _ _ _) fun m => wf_bind (wf_bound _ _ _) fun h => l3 m h
    | none => exact wf_bind (wf_bound _ _ _) fun m => wf_bind (wf_stuck _) fun h => l3 m h
  | none => cases hi with
    | some v => exact wf_bind (wf_pure _) fun m => wf_bind (wf_bound _ _ _) fun h => l3 m h
    | none => exact wf_bind (wf_pure _) fun m => wf_bind (wf_pure _) fun h => l3 m h
theorem wf_slice {P : Program} (t : TypeId) (x : Value) (lo hi mx : Option Value) : WF P (Instr.slice t x lo hi mx) := by
  unfold Instr.slice
  refine wf_bind (wf_under _) fun d => ?_
  split
  · split
    · exact wf_bind (wf_stuck _) fun _ => wf_bind (wf_slbounds _ _ _ _ _ _) fun q => wf_pure _
    · exact wf_bind (wf_slbounds _ _ _ _ _ _) fun q => wf_pure _
  · exact wf_bind (wf_slbounds _ _ _ _ _ _) fun q => wf_bind (wf_size _) fun _ => wf_pure _
  · refine wf_bind (wf_addr _) fun a => wf_bind (wf_under _) fun d => ?_
    split
    · exact wf_bind (wf_slbounds _ _ _ _ _ _) fun q => wf_bind (wf_size _) fun _ => wf_pure _
    · exact wf_stuck _
  · exact wf_stuck _
theorem wf_sliceAt {P : Program} (t : TypeId) (x : Value) (lo hi mx : Option Value) : WF P (Instr.sliceAt t x lo hi mx) := by
  unfold Instr.sliceAt
  refine wf_bind (wf_under _) fun d => ?_
  split
  · exact wf_bind (wf_sure _) fun a => wf_bind (wf_slbounds _ _ _ _ _ _) fun q => wf_bind (wf_size _) fun _ => wf_pure _
  · exact wf_slice _ _ _ _ _

theorem wf_light {P : Program} {o : Oper} (h : light o = true) (ρ : Operand → Value) : (∃ v, ∀ w, (execOp ρ o).run P w = .ok (.value v) w) ∨ ∀ w x w', (execOp ρ o).run P w ≠ .ok x w' := by
  have val : ∀ {m : Sem Value}, WF P m → (∃ v, ∀ w, ((do pure (Next.value (← m)) : Sem Next)).run P w = .ok (.value v) w) ∨ ∀ w x w', ((do pure (Next.value (← m)) : Sem Next)).run P w ≠ .ok x w' := fun {m} hm => by
    rcases hm with ⟨v, hm⟩ | hm
    · exact .inl ⟨v, fun w => by rw [Sem.run_bind, hm]; rfl⟩
    · refine .inr fun w x w' h => ?_
      rw [Sem.run_bind] at h
      obtain ⟨y, w1, h1, _⟩ := and_ok h
      exact hm _ _ _ h1
  unfold light at h
  unfold execOp
  split at h
  · rename_i x e; rw [e]; exact .inl ⟨ρ x, fun _ => rfl⟩
  · rename_i x e; rw [e]; exact .inl ⟨ρ x, fun _ => rfl⟩
  · rename_i x i e
    rw [e]
    refine val ?_
    unfold Instr.extract
    split
    · split
      · exact wf_pure _
      · exact wf_stuck _
    · exact wf_stuck _
  · rename_i t x lo hi mx e
    rw [e]
    exact val (wf_sliceAt _ _ _ _ _)
  · cases h

theorem light_runs {P : Program} {r : Option Nat} {o : Oper} {a : Act} {w : World} {K : Act → World → Prop} (h : light o = true) (hw : o.wpIn (Fr r) 9 P a w K (fun _ _ _ => False)) :
    ∃ v, (∀ w', (execOp a.eval o).run P w' = .ok (.value v) w') ∧ K (a.put o.dst v) w := by
  unfold Oper.wpIn at hw
  have hw := hw.2
  rw [Oper.semAt_eq _ _ _ (fun c e => by unfold light at h; rw [e] at h; cases h)] at hw
  rcases wf_light (P := P) h a.eval with ⟨v, hv⟩ | hn
  · rw [hv w] at hw
    exact ⟨v, hv, hw⟩
  · exfalso
    generalize hr : (execOp a.eval o).run P w = q at hw
    cases q with
    | ok x w' => exact hn _ _ _ hr
    | halt x w' => cases x <;> exact hw

theorem light_about {P : Program} {o : Oper} (h : light o = true) (ρ : Operand → Value) (w : World) : o.about P w ρ = none := by
  unfold light at h
  unfold Oper.about
  split at h
  · rename_i x e; rw [e]
  · rename_i x e; rw [e]
  · rename_i x i e; rw [e]
  · rename_i t x lo hi mx e; rw [e]
  · cases h

section
variable {F : Fence} {n : Nat} {P : Program} {ops : Array Oper} {Q : Exit → Act → World → Prop}

theorem put_ahead {j : Nat} {oi oj : Oper} {v : Value} (hj : ops[j]? = some oj) (hap : oi.apart ops oj = true) (hsi : ∀ cs b, oi.op ≠ .select cs b) (hsj : ∀ cs b, oj.op ≠ .select cs b) (hdj : ∀ c, oj.op ≠ .defer c)
    (hQ : ∀ c a w, ¬ Q (.panic c) a w) {K : Act → World → Prop} {a : Act} {w : World} (hy : Yields P ops oi v a) (h : wpOpIn F n P ops Q j K (a.put oi.dst v) w) :
    wpOpIn F n P ops Q j (fun a' w' => Yields P ops oi v a' ∧ K (a'.put oi.dst v) w') a w := by
  obtain ⟨h1, h2, h3⟩ := Oper.apart_spec hap
  have keep : ∀ b : Act, Yields P ops oi v b → ∀ u, Yields P ops oi v (b.put oj.dst u) := fun b hb u => hb.of_same (execOp_put oi hsi b oj.dst u h3) (wanted_put oi b oj.dst u h3)
  unfold wpOpIn at *
  simp only [hj] at *
  rw [wanted_put oj a oi.dst v h1, about_put oj w a oi.dst v h1] at h
  split
  · rename_i hw
    simp only [hw, if_true] at h
    unfold Oper.wpIn at *
    rw [about_put oj w a oi.dst v h1, Oper.semAt_eq _ _ _ hdj, execOp_put oj hsj a oi.dst v h1] at h
    rw [Oper.semAt_eq _ _ _ hdj]
    obtain ⟨h0, h⟩ := h
    refine ⟨h0, ?_⟩
    generalize (execOp a.eval oj).run P w = q at *
    cases q with
    | halt x w' =>
      cases x <;> simp only [Oper.uponIn] at h ⊢
      exact absurd h (hQ _ _ _)
    | ok x w' =>
      cases x <;> simp only [Oper.uponIn] at h ⊢
      case value u => exact ⟨keep a hy u, by rw [← Act.put_comm a v u h2]; exact h⟩
      case skip => exact ⟨keep a hy _, by rw [← Act.put_comm a v undef h2]; exact h⟩
      case defer d =>
        refine ⟨keep { a with defers := d :: a.defers } (hy.of_same rfl rfl) _, ?_⟩
        rw [← Act.put_comm _ v undef h2, ← Act.put_defers]
        exact h
      case row => exact ⟨h.1, RowsIn.mono h.2 fun u w'' he => ⟨keep a hy u, by rw [← Act.put_comm a v u h2]; exact he⟩⟩
      case enter =>
        refine ⟨h.1, CallsIn.mono h.2 fun e w'' he => ?_⟩
        cases e with
        | returned u => exact ⟨keep a hy u, by rw [← Act.put_comm a v u h2]; exact he⟩
        | panicked c => exact absurd he (hQ _ _ _)
        | outgrown => exact he
      case round =>
        refine ⟨h.1, RoundIn.mono h.2 fun e w'' he => ?_⟩
        cases e with
        | returned u => exact ⟨keep a hy u, by rw [← Act.put_comm a v u h2]; exact he⟩
        | panicked c => exact absurd he (hQ _ _ _)
        | outgrown => exact he
  · rename_i hw
    simp only [hw] at h
    exact ⟨h.1, keep a hy _, by rw [← Act.put_comm a v undef h2]; exact h.2⟩

theorem light_op {i : Nat} {o : Oper} {v : Value} {a : Act} (hl : light o = true) (hi : ops[i]? = some o) (hy : Yields P ops o v a) {K : Act → World → Prop} {w : World} (h : K (a.put o.dst v) w) : wpOpIn F n P ops Q i K a w := by
  unfold Go.wpOpIn
  simp only [hi]
  rcases hy with ⟨hw, hv⟩ | ⟨hw, rfl⟩
  · rw [if_pos hw]
    unfold Oper.wpIn
    rw [Oper.semAt_eq _ _ _ (fun c e => by unfold light at hl; rw [e] at hl; cases hl), hv w]
    exact ⟨fun f hf => (by rw [light_about hl] at hf; cases hf), h⟩
  · rw [if_neg (by rw [hw]; decide)]
    exact ⟨fun f hf => (by rw [light_about hl] at hf; cases hf), h⟩

/-- One that hangs not on the world may be taken as soon as it may come up. -/
theorem take_light {i : Nat} {oi : Oper} {v : Value} (hl : light oi = true) (hi : ops[i]? = some oi) (hns : noSel ops = true) (hQ : ∀ c a w, ¬ Q (.panic c) a w) : ∀ (fuel : Nat) (listed : Array Bool) (a : Act) (w : World),
    (∀ j oj, ops[j]? = some oj → j ≠ i → listed.getD j true = false → i ∉ edgesOf oj → oi.apart ops oj = true) → i ∈ Region.ready .any ops listed → Yields P ops oi v a →
    wpAnyIn F n P .any ops Q fuel (listed.setIfInBounds i true) (a.put oi.dst v) w → wpAnyIn F n P .any ops Q (fuel + 1) listed a w := by
  intro fuel
  induction fuel with
  | zero =>
    intro listed a w hap hr hy H
    refine ⟨fun h => (by rw [h] at hr; cases hr), fun j hj => ?_⟩
    by_cases hji : j = i
    · subst hji; exact light_op hl hi hy H
    · have := ready_mono hj hji
      rw [H.1] at this
      cases this
  | succ fuel ih =>
    intro listed a w hap hr hy H
    refine ⟨fun h => (by rw [h] at hr; cases hr), fun j hj => ?_⟩
    by_cases hji : j = i
    · subst hji; exact light_op hl hi hy H
    · obtain ⟨hjl, oj, hoj, hje⟩ := mem_ready.1 hj
      have hij : i ∉ edgesOf oj := fun hm => by
        unfold edgesOf at hm
        obtain ⟨e, he, rfl⟩ := List.mem_map.1 hm
        rw [List.mem_filter] at he
        have h1 := hje e (by simpa using he.1) he.2
        have h0 := (mem_ready.1 hr).1
        rw [Array.getD_eq_getD_getElem?] at h0 h1
        cases hq : listed[e.on]? with
        | none => rw [hq] at h1; simp at h1
        | some x => rw [hq] at h0 h1; simp at h0 h1; rw [h0] at h1; cases h1
      have h2 := put_ahead hoj (hap j oj hoj hji hjl hij) (noSel_spec hns hi).1 (noSel_spec hns hoj).1 (noSel_spec hns hoj).2 hQ hy (H.2 j (ready_mono hj hji))
      refine wpOpIn_mono (fun a' w' h3 => ih (listed.setIfInBounds j true) a' w' (fun k ok hk hki hun hno => ?_) (ready_mono hr (Ne.symm hji)) h3.1 ?_) h2
      · refine hap k ok hk hki ?_ hno
        by_cases hjk : j = k
        · subst hjk; exact hjl
        · rw [getD_set_ne true hjk] at hun; exact hun
      · rw [Array.setIfInBounds_comm _ _ hji]
        exact h3.2
end

section
variable {P : Program} {E : Env} {ops : Array Oper} {N : Nat} {res : List (Option Res)} {s0 s1 s2 : St} {b : List Nat} {hints : List (Nat × Hint)} {ob : Prop} {r : Option Nat} {Q : Exit → Act → World → Prop}

theorem ready_iff {i : Nat} {listed : Array Bool} : i ∈ Region.ready .any ops listed ↔ listed.getD i true = false ∧ ∃ o, ops[i]? = some o ∧ ∀ j ∈ edgesOf o, listed.getD j false = true := by
  rw [mem_ready]
  refine and_congr_right fun _ => exists_congr fun o => and_congr_right fun _ => ?_
  unfold edgesOf
  constructor
  · intro h j hj
    obtain ⟨e, he, rfl⟩ := List.mem_map.1 hj
    rw [List.mem_filter] at he
    exact h e (by simpa using he.1) he.2
  · intro h e he hb
    exact h e.on (List.mem_map.2 ⟨e, List.mem_filter.2 ⟨by simpa using he, hb⟩, rfl⟩)

theorem getD_tf {listed : Array Bool} {i : Nat} : listed.getD i true = false ↔ i < listed.size ∧ listed.getD i false = false := by
  rw [Array.getD_eq_getD_getElem?, Array.getD_eq_getD_getElem?]
  cases h : listed[i]? with
  | none =>
    have : listed.size ≤ i := Array.getElem?_eq_none_iff.1 h
    simp
    omega
  | some x =>
    have := (Array.getElem?_eq_some_iff.1 h).1
    simp [this]

theorem set_getD {listed : Array Bool} {i k : Nat} (hi : i < listed.size) : (listed.setIfInBounds i true).getD k false = if k = i then true else listed.getD k false := by
  rw [Array.getD_eq_getD_getElem?, Array.getD_eq_getD_getElem?, Array.getElem?_setIfInBounds]
  by_cases h : i = k
  · subst h; simp [hi]
  · rw [if_neg h, if_neg (Ne.symm h)]

/-- What comes ahead of an operation that may come up has come. -/
theorem before_listed (hb : b = befs ops.toList []) {listed : Array Bool} (hc : Closed ops fun k => listed.getD k false = true) {i k : Nat} {o : Oper} (ho : ops[i]? = some o) (he : ∀ j ∈ edgesOf o, listed.getD j false = true) (hk : (b.getD i 0).testBit k = true) : listed.getD k false = true ∨ k = i := by
  have hc' : Closed ops fun k => listed.getD k false = true ∨ k = i := fun j oj hj hl q hq => by
    rcases hl with hl | hl
    · exact .inl (hc j oj hj hl q hq)
    · subst hl
      rw [ho] at hj
      injection hj with hj
      subst hj
      exact .inl (he q hq)
  subst hb
  rw [List.getD_eq_getElem?_getD] at hk
  cases hq : (befs ops.toList [])[i]? with
  | none => rw [hq] at hk; simp at hk
  | some y =>
    rw [hq] at hk
    exact befs_sound hc' ops.toList [] (fun j => by simp) (by simp) i y hq k hk (.inr rfl)

theorem closed_set {listed : Array Bool} {i : Nat} (hc : Closed ops fun k => listed.getD k false = true) (hi : i ∈ Region.ready .any ops listed) : Closed ops fun k => (listed.setIfInBounds i true).getD k false = true := fun k ok hk hlk j hj => by
  rw [ready_iff, getD_tf] at hi
  obtain ⟨⟨hisz, _⟩, o, ho, he⟩ := hi
  have hset : ∀ k, (listed.setIfInBounds i true).getD k false = if k = i then true else listed.getD k false := fun k => set_getD hisz
  simp only [hset] at hlk ⊢
  by_cases hki : k = i
  · subst hki
    rw [ho] at hk; injection hk with hk; subst hk
    split
    · rfl
    · exact he j hj
  · rw [if_neg hki] at hlk
    split
    · rfl
    · exact hc k ok hk hlk j hj

theorem unl_filter {L : Nat → Bool} : ∀ n, ((List.range n).filter fun k => !L k).length = unl L n
  | 0 => rfl
  | n + 1 => by
    rw [List.range_succ, List.filter_append, List.length_append, unl_filter n]
    simp only [unl]
    cases h : L n <;> simp [h]

/-- The writing end: one behind the other. -/
theorem tail_sound {Kp : St → Prop} (hd : DF ops res s0 b) (hb : b = befs ops.toList []) : ∀ (js : List Nat) (l : List Oper) (fuel : Nat) (s : St) (listed : Array Bool) (a : Act) (w : World) (g : Gh), js.filterMap (fun j => ops[j]?) = l → (∀ j ∈ js, j < ops.size) → js.Pairwise (fun p q => p < q ∧ (b.getD q 0).testBit p = true) → listed.size = ops.size → Closed ops (fun k => listed.getD k false = true) →
    (∀ k, k < ops.size → (listed.getD k false = true ↔ k ∉ js)) → js.length ≤ fuel → Goes P r E ops Kp l s → Rel E s a w g → (∀ s2 a' w' g', Kp s2 → Rel E s2 a' w' g' → Q .normal a' w') → wpAnyIn (Fr r) 9 P .any ops Q fuel listed a w
  | [], l, fuel, s, listed, a, w, g, hl, hjs, hpw, hls, hclosed, hlk, hf, h, hr, hQ => by
    simp at hl
    subst hl
    refine wpAnyIn_done (List.eq_nil_iff_forall_not_mem.2 fun j hj => ?_) (hQ s a w g h hr) fuel
    rw [ready_iff, getD_tf] at hj
    have := (hlk j (by omega)).2 (by simp)
    rw [hj.1.2] at this
    cases this
  | j :: js, l, fuel, s, listed, a, w, g, hl, hjs, hpw, hls, hclosed, hlk, hf, h, hr, hQ => by
    obtain ⟨f, rfl⟩ : ∃ f, fuel = f + 1 := ⟨fuel - 1, by simp at hf; omega⟩
    have hjz : j < ops.size := hjs j (by simp)
    obtain ⟨o, ho⟩ : ∃ o, ops[j]? = some o := ⟨_, Array.getElem?_eq_getElem hjz⟩
    simp only [List.filterMap_cons, ho] at hl
    subst hl
    rw [List.pairwise_cons] at hpw
    obtain ⟨hp1, hp2⟩ := hpw
    have hready : j ∈ Region.ready .any ops listed := by
      rw [ready_iff, getD_tf]
      refine ⟨⟨by omega, ?_⟩, o, ho, fun q hq => ?_⟩
      · cases hc : listed.getD j false with
        | false => rfl
        | true => exact absurd (List.mem_cons_self) ((hlk j hjz).1 hc)
      · have h1 := hd.edge j o ho q hq
        rw [hlk q (by omega)]
        intro hm
        rcases List.mem_cons.1 hm with rfl | hm
        · omega
        · have := (hp1 q hm).1; omega
    refine ⟨(fun h0 => by rw [h0] at hready; cases hready), fun i' hi' => ?_⟩
    have hii : i' = j := by
      rw [ready_iff, getD_tf] at hi'
      obtain ⟨⟨h1, h2⟩, o', ho', he'⟩ := hi'
      have hm : i' ∈ j :: js := by
        refine Classical.byContradiction fun hn => ?_
        rw [(hlk i' (by omega)).2 hn] at h2
        cases h2
      rcases List.mem_cons.1 hm with rfl | hm
      · rfl
      · have hbit := (hp1 i' hm).2
        rcases before_listed hb hclosed ho' he' hbit with h3 | h3
        · exact absurd (List.mem_cons_self) ((hlk j hjz).1 h3)
        · exact h3.symm
    subst hii
    unfold wpOpIn
    rw [ho]
    refine h a w g _ Q hr fun s3 a' w' g' h' hr' => ?_
    have hnot : i' ∉ js := fun hm => by have := (hp1 i' hm).1; omega
    exact tail_sound hd hb js _ f s3 _ a' w' g' rfl (fun q hq => hjs q (by simp [hq])) hp2 (by simpa using hls) (closed_set hclosed hready)
      (fun k hk => by
        rw [set_getD (by omega)]
        by_cases hki : k = i'
        · subst hki; simp [hnot]
        · rw [if_neg hki, hlk k hk]; simp [hki]) (by simp at hf; omega) h' hr' hQ

/-- An operation that sets its temporary alone comes up. -/
theorem calm_step (hN : N = E.N) (hd : DF ops res s0 b) (hb : b = befs ops.toList []) {i : Nat} (hstep : StepOk P N ops hints s0 res i) {listed : Array Bool} {a : Act} {w : World} {g : Gh} (hls : listed.size = ops.size) (hc : Closed ops fun k => listed.getD k false = true)
    (hi : i ∈ Region.ready .any ops listed) (hci : cal res i = true) (hF : RelF E (slS s0 ops res fun k => listed.getD k false) (bxS s0 ops res fun k => listed.getD k false) a w g) {K : Act → World → Prop}
    (hK : ∀ a' w' g', RelF E (slS s0 ops res fun k => (listed.setIfInBounds i true).getD k false) (bxS s0 ops res fun k => (listed.setIfInBounds i true).getD k false) a' w' g' → K a' w') : wpOpIn (Fr r) 9 P ops Q i K a w := by
  rw [ready_iff, getD_tf] at hi
  obtain ⟨⟨hisz, hiun⟩, o, ho, he⟩ := hi
  have hin : i < ops.size := by omega
  have bl : ∀ k, (b.getD i 0).testBit k = true → listed.getD k false = true ∨ k = i := fun k hk => before_listed hb hc ho he hk
  obtain ⟨o', d, s, ho', hdst, htx, hcase⟩ := hstep
  have heo : o' = o := by rw [ho] at ho'; injection ho' with ho'; exact ho'.symm
  subst heo
  have hdi : dstOf ops i = some d := by simp [dstOf, ho, hdst]
  -- what it reads is there
  have look : ∀ t x, t ∈ opTmps o' ++ guardTmp ops o' → s.slots.lookup t = some x → slS s0 ops res (fun k => listed.getD k false) t = some x := fun t x ht hx => by
    rcases htx.slots t x hx with ⟨k, q, c1, c2, c3, c4⟩ | ⟨c1, c2⟩
    · obtain ⟨e1, e2⟩ : k < i ∧ (b.getD i 0).testBit k = true := by
        rcases hd.opd i o' t k ho hci ht (by omega) (cal_of c3) c2 with h | h
        · exact h
        · omega
      have hlk : listed.getD k false = true := by
        rcases bl k e2 with h | h
        · exact h
        · omega
      unfold slS
      cases hi : ixOf ops res t with
      | none => exact absurd c2 (ixOf_none hi k (by omega) (cal_of c3))
      | some k' =>
        obtain ⟨d1, d0, d2⟩ := ixOf_some hi
        have := hd.inj k k' t (by omega) d1 (cal_of c3) d0 c2 d2
        subst this
        simp only [hlk, if_true, c3, Option.map_some, c4]
    · unfold slS
      cases hi : ixOf ops res t with
      | none => exact c2
      | some k' =>
        obtain ⟨d1, d0, d2⟩ := ixOf_some hi
        rcases hd.opd i o' t k' ho hci ht d1 d0 d2 with ⟨e1, _⟩ | ⟨e1, e2⟩
        · exact absurd d2 (c1 k' e1 d0)
        · -- it is set behind: not yet
          have hun : listed.getD k' false = false := by
            cases hl : listed.getD k' false with
            | false => rfl
            | true =>
              obtain ⟨ok, hok⟩ : ∃ ok, ops[k']? = some ok := ⟨ops[k']'(by omega), Array.getElem?_eq_getElem (by omega)⟩
              rcases before_listed hb hc hok (fun j hj => hc k' ok hok hl j hj) e2 with h | h
              · rw [hiun] at h; cases h
              · omega
          simp only [hun, Bool.false_eq_true, if_false]
          exact c2
  have hw : ∀ c, wanted s ops o' = some c → Region.wanted o' (yielded ops a.tmps) = c := fun c hc' => by
    unfold wanted at hc'
    unfold Region.wanted
    cases hg : o'.guard with
    | none => simp [hg] at hc'; simp [hc']
    | some q =>
      obtain ⟨j, bb⟩ := q
      simp only [hg] at hc'
      split at hc'
      · rename_i dd hdd
        split at hc'
        · rename_i x hl
          have hlk := look dd x (List.mem_append_right _ (by simp [guardTmp, hg, hdd])) (look_some hl).2
          have k := hF.slots dd x hlk
          rw [tv_own (look_some hl).1] at k
          exact asks_tmp k hc' hdd
        · simp at hc'
      · simp at hc'
  -- the next state
  have hset : ∀ k, (listed.setIfInBounds i true).getD k false = if k = i then true else listed.getD k false := fun k => set_getD hisz
  -- nothing that is there hangs on its name
  have noHang : ∀ t x, slS s0 ops res (fun k => listed.getD k false) t = some x → hangs ops res i x = false := fun t x hx => by
    unfold slS at hx
    have s0case : s0.slots.lookup t = some x → hangs ops res i x = false := hd.s0sl i t x hin hci
    cases hi : ixOf ops res t with
    | none => simp only [hi] at hx; exact s0case hx
    | some k =>
      obtain ⟨d1, d0, d2⟩ := ixOf_some hi
      simp only [hi] at hx
      split at hx
      · rename_i hlk
        cases hq : resAt res k with
        | none => simp [hq] at hx
        | some q =>
          simp [hq] at hx
          subst hx
          by_cases hh : hangs ops res i q.val = true
          · exfalso
            have hki : k ≠ i := by rintro rfl; rw [hiun] at hlk; cases hlk
            have hbit := hd.hang i k q hin d1 hci hki hq (.inl hh)
            -- k has come, so i has
            have hko : ∃ ok, ops[k]? = some ok := ⟨ops[k]'(by omega), Array.getElem?_eq_getElem (by omega)⟩
            obtain ⟨ok, hok⟩ := hko
            rcases before_listed hb hc hok (fun j hj => hc k ok hok hlk j hj) hbit with h | h
            · rw [hiun] at h; cases h
            · exact hki h.symm
          · simpa using hh
      · exact s0case hx
  have noHangB : ∀ n y, bxS s0 ops res (fun k => listed.getD k false) n = some y → boxHangs ops res i y.2 = false := fun n y hy => by
    unfold bxS at hy
    have s0case : s0.boxes.lookup n = some y → boxHangs ops res i y.2 = false := fun h => by
      cases hq : resAt res i with
      | none => simp [boxHangs, hdi, hq]
      | some q =>
        cases hqb : q.box with
        | none => simp [boxHangs, hdi, hq, hqb]
        | some z => exact (hd.s0bx i q n y hin hq (by rw [hqb]; rfl) h).2
    cases hi : ixOf ops res n with
    | none => simp only [hi] at hy; exact s0case hy
    | some k =>
      obtain ⟨d1, d0, d2⟩ := ixOf_some hi
      simp only [hi] at hy
      split at hy
      · rename_i hlk
        cases hq : resAt res k with
        | none => simp only [hq] at hy; exact s0case hy
        | some q =>
          simp only [hq] at hy
          cases hqb : q.box with
          | none => simp only [hqb] at hy; exact s0case hy
          | some z =>
            simp only [hqb] at hy
            injection hy with hy
            subst hy
            by_cases hh : boxHangs ops res i z.2 = true
            · exfalso
              have hki : k ≠ i := by rintro rfl; rw [hiun] at hlk; cases hlk
              have hbit := hd.hang i k q hin d1 hci hki hq (.inr ⟨z, hqb, hh⟩)
              obtain ⟨ok, hok⟩ : ∃ ok, ops[k]? = some ok := ⟨ops[k]'(by omega), Array.getElem?_eq_getElem (by omega)⟩
              rcases before_listed hb hc hok (fun j hj => hc k ok hok hlk j hj) hbit with h | h
              · rw [hiun] at h; cases h
              · exact hki h.symm
            · simpa using hh
      · exact s0case hy
  have sl_other : ∀ t x, t ≠ d → slS s0 ops res (fun k => (listed.setIfInBounds i true).getD k false) t = some x → slS s0 ops res (fun k => listed.getD k false) t = some x := fun t x ht hx => by
    unfold slS at hx ⊢
    cases hi : ixOf ops res t with
    | none => simp only [hi] at hx ⊢; exact hx
    | some k =>
      obtain ⟨d1, d0, d2⟩ := ixOf_some hi
      have hki : k ≠ i := by rintro rfl; rw [hdi] at d2; injection d2 with d2; exact ht d2.symm
      simp only [hi] at hx ⊢
      simp only [hset, hki, if_false] at hx
      exact hx
  have ixd : ixOf ops res d = some i := by
    cases hi : ixOf ops res d with
    | none => exact absurd hdi (ixOf_none hi i hin hci)
    | some k =>
      obtain ⟨d1, d0, d2⟩ := ixOf_some hi
      rw [hd.inj i k d hin d1 hci d0 hdi d2]
  unfold wpOpIn
  rw [ho]
  rcases hcase with ⟨hw0, hdN, hr0⟩ | ⟨hw1, hdN, v, obv, bb, hov, hac, hvr, hres⟩
  · simp only [hw false hw0, Bool.false_eq_true, if_false]
    rw [hdst]
    refine ⟨fun _ _ => trivial, hK _ w g ((appF_put hF (by rw [← hN]; exact hdN) undef_svr rfl).weak (fun t x hx => ?_) (fun n y hy => ?_))⟩
    · unfold slApp
      by_cases htd : t = d
      · subst htd
        unfold slS at hx
        simp only [ixd, hset, if_true, hr0, Option.map_some] at hx
        simp only [if_true]
        exact hx
      · simp only [htd, if_false]
        have hx' := sl_other t x htd hx
        have hnh := noHang t x hx'
        simp only [hangs, hdi, hr0, Bool.or_eq_false_iff] at hnh
        simp only [hx', hnh.1, Option.isSome_none, Bool.false_and, Bool.or_self, Bool.false_eq_true, if_false]
    · unfold bxApp
      simp only
      unfold bxS at hy ⊢
      cases hi : ixOf ops res n with
      | none => simp only [hi] at hy ⊢; exact hy
      | some k =>
        simp only [hi] at hy ⊢
        by_cases hki : k = i
        · subst hki
          simp only [hset, if_true, hr0] at hy
          simp only [hiun, Bool.false_eq_true, if_false]
          exact hy
        · simp only [hset, hki, if_false] at hy
          exact hy
  · simp only [hw true hw1, if_true]
    -- from what it reads alone
    have hsub : Rel E (s.restrict o') a w g := by
      refine RelF.toRel ⟨htx.ok.slots.filter _, htx.ok.boxes.filter _⟩ (hF.weak (fun t x hx => ?_) (fun n y hy => ?_))
      · obtain ⟨c1, c2⟩ := lookup_filter htx.ok.slots hx
        exact look t x (List.mem_append_left _ (by simpa using c2)) c1
      · have hmem : n ∈ (s.restrict o').boxes.map (·.1) := List.mem_map.2 ⟨(n, y), lookup_mem hy, rfl⟩
        obtain ⟨c1, _⟩ := lookup_filter htx.ok.boxes hy
        rcases htx.boxes n y c1 with ⟨k, q, e1, e2, e3, e4⟩ | e2
        · obtain ⟨_, f2⟩ := hd.used i _ n k q hin hres hmem (by omega) e2 e3 (by rw [e4]; rfl)
          have hlk : listed.getD k false = true := by
            rcases bl k f2 with h | h
            · exact h
            · omega
          unfold bxS
          cases hi : ixOf ops res n with
          | none => exact absurd e2 (ixOf_none hi k (by omega) (cal_of e3))
          | some k' =>
            obtain ⟨d1, d0, d2⟩ := ixOf_some hi
            have := hd.inj k k' n (by omega) d1 (cal_of e3) d0 e2 d2
            subst this
            simp only [hlk, if_true, e3, e4]
        · unfold bxS
          cases hi : ixOf ops res n with
          | none => exact e2
          | some k' =>
            obtain ⟨d1, d0, d2⟩ := ixOf_some hi
            simp only
            split
            · cases hq : resAt res k' with
              | none => exact e2
              | some q =>
                cases hqb : q.box with
                | none => simp only [hqb]; exact e2
                | some y' =>
                  have := (hd.s0bx k' q n y d1 hq (by rw [hqb]; rfl) e2).1
                  rw [d2] at this
                  exact absurd rfl this
            · exact e2
    refine Oper.wpIn_mono (fun a' w' hp => ?_) (acalm_sound hac hov hsub hF hdst (by rw [← hN]; exact hdN) hvr)
    obtain ⟨g', hg'⟩ := hp
    refine hK a' w' g' (hg'.weak (fun t x hx => ?_) (fun n y hy => ?_))
    · unfold slApp
      by_cases htd : t = d
      · subst htd
        unfold slS at hx
        simp only [ixd, hset, if_true, hres, Option.map_some] at hx
        simp only [if_true]
        exact hx
      · simp only [htd, if_false]
        have hx' := sl_other t x htd hx
        have hnh := noHang t x hx'
        simp only [hangs, hdi, hres, Bool.or_eq_false_iff] at hnh
        simp only [hx', hnh.1, hnh.2, Bool.or_self]
        simp
    · unfold bxApp
      cases hbb : bb with
      | none =>
        simp only
        unfold bxS at hy ⊢
        cases hi : ixOf ops res n with
        | none => simp only [hi] at hy ⊢; exact hy
        | some k =>
          simp only [hi] at hy ⊢
          by_cases hki : k = i
          · subst hki
            simp only [hset, if_true, hres, hbb] at hy
            simp only [hiun, Bool.false_eq_true, if_false]
            exact hy
          · simp only [hset, hki, if_false] at hy
            exact hy
      | some bv =>
        simp only
        by_cases hnd : n = d
        · subst hnd
          unfold bxS at hy
          simp only [ixd, hset, if_true, hres, hbb] at hy
          simp only [if_true]
          exact hy
        · simp only [hnd, if_false]
          have hy' : bxS s0 ops res (fun k => listed.getD k false) n = some y := by
            unfold bxS at hy ⊢
            cases hi : ixOf ops res n with
            | none => simp only [hi] at hy ⊢; exact hy
            | some k =>
              obtain ⟨d1, d0, d2⟩ := ixOf_some hi
              have hki : k ≠ i := by rintro rfl; rw [hdi] at d2; injection d2 with d2; exact hnd d2.symm
              simp only [hi] at hy ⊢
              simp only [hset, hki, if_false] at hy
              exact hy
          have hnh := noHangB n y hy'
          simp only [boxHangs, hdi, hres, hbb, Option.isSome_some, Bool.true_and] at hnh
          simp only [hy', hnh]
          simp

/-- The whole. -/
theorem draw_sound (hN : N = E.N) (hd : DF ops res s0 b) (hb : b = befs ops.toList []) (hstep : ∀ i, i < ops.size → cal res i = true → StepOk P N ops hints s0 res i) (hend : Txt s0 ops res ops.size s1) {Kp : St → Prop} (htail : Goes P r E ops Kp ((tailOf ops res).filterMap fun j => ops[j]?) s1)
    (hQp : ∀ c a w, ¬ Q (.panic c) a w) (hQ : ∀ s2 a' w' g', Kp s2 → Rel E s2 a' w' g' → Q .normal a' w') : ∀ (fuel : Nat) (listed : Array Bool) (a : Act) (w : World) (g : Gh), listed.size = ops.size → Closed ops (fun k => listed.getD k false = true) → (∀ k, listed.getD k false = true → cal res k = true) →
      unl (fun k => listed.getD k false) ops.size ≤ fuel → RelF E (slS s0 ops res fun k => listed.getD k false) (bxS s0 ops res fun k => listed.getD k false) a w g → wpAnyIn (Fr r) 9 P .any ops Q fuel listed a w := by
  -- where all that sets its temporary alone has come, the text's state is there
  have toEnd : ∀ {listed : Array Bool} {a : Act} {w : World} {g : Gh}, (∀ k, k < ops.size → cal res k = true → listed.getD k false = true) → RelF E (slS s0 ops res fun k => listed.getD k false) (bxS s0 ops res fun k => listed.getD k false) a w g → Rel E s1 a w g := fun hall hF => by
    refine RelF.toRel hend.ok (hF.weak (fun t x hx => ?_) (fun n y hy => ?_))
    · rcases hend.slots t x hx with ⟨k, q, c1, c2, c3, c4⟩ | ⟨c1, c2⟩
      · unfold slS
        cases hi : ixOf ops res t with
        | none => exact absurd c2 (ixOf_none hi k c1 (cal_of c3))
        | some k' =>
          obtain ⟨d1, d0, d2⟩ := ixOf_some hi
          have := hd.inj k k' t c1 d1 (cal_of c3) d0 c2 d2
          subst this
          simp only [hall k c1 (cal_of c3), if_true, c3, Option.map_some, c4]
      · unfold slS
        cases hi : ixOf ops res t with
        | none => exact c2
        | some k' =>
          obtain ⟨d1, d0, d2⟩ := ixOf_some hi
          exact absurd d2 (c1 k' d1 d0)
    · rcases hend.boxes n y hy with ⟨k, q, c1, c2, c3, c4⟩ | c2
      · unfold bxS
        cases hi : ixOf ops res n with
        | none => exact absurd c2 (ixOf_none hi k c1 (cal_of c3))
        | some k' =>
          obtain ⟨d1, d0, d2⟩ := ixOf_some hi
          have := hd.inj k k' n c1 d1 (cal_of c3) d0 c2 d2
          subst this
          simp only [hall k c1 (cal_of c3), if_true, c3, c4]
      · unfold bxS
        cases hi : ixOf ops res n with
        | none => exact c2
        | some k' =>
          obtain ⟨d1, d0, d2⟩ := ixOf_some hi
          simp only [hall k' d1 d0, if_true]
          cases hq : resAt res k' with
          | none => exact c2
          | some q =>
            cases hqb : q.box with
            | none => simp only [hqb]; exact c2
            | some y' =>
              have := (hd.s0bx k' q n y d1 hq (by rw [hqb]; rfl) c2).1
              rw [d2] at this
              exact absurd rfl this
  -- the writing end, where all that is calm has come
  have writes : ∀ {fuel : Nat} {listed : Array Bool} {a : Act} {w : World} {g : Gh}, listed.size = ops.size → Closed ops (fun k => listed.getD k false = true) → (∀ k, listed.getD k false = true → cal res k = true) → (∀ k, k < ops.size → cal res k = true → listed.getD k false = true) →
      unl (fun k => listed.getD k false) ops.size ≤ fuel → RelF E (slS s0 ops res fun k => listed.getD k false) (bxS s0 ops res fun k => listed.getD k false) a w g → wpAnyIn (Fr r) 9 P .any ops Q fuel listed a w := fun {fuel listed a w g} hls hc hlm hall hu hF => by
    have e : tailOf ops res = (List.range ops.size).filter fun k => !listed.getD k false := by
      unfold tailOf
      refine List.filter_congr fun k hk => ?_
      have hk : k < ops.size := by simpa using hk
      cases hcl : cal res k with
      | true => rw [hall k hk hcl]
      | false =>
        cases hl : listed.getD k false with
        | false => rfl
        | true => rw [hlm k hl] at hcl; cases hcl
    refine tail_sound (r := r) (Q := Q) hd hb (tailOf ops res) _ fuel s1 listed a w g rfl (fun j hj => ?_) ?_ hls hc (fun k hk => ?_) ?_ htail (toEnd hall hF) hQ
    · unfold tailOf at hj
      rw [List.mem_filter] at hj
      simpa using hj.1
    · have hlt : (tailOf ops res).Pairwise (· < ·) := (List.pairwise_lt_range).filter _
      refine hlt.imp_of_mem fun {p q} hp hq hpq => ⟨hpq, ?_⟩
      unfold tailOf at hp hq
      rw [List.mem_filter] at hp hq
      exact hd.order q p (by simpa using hq.1) (by simpa using hq.2) hpq (by simpa using hp.2)
    · unfold tailOf
      rw [List.mem_filter]
      constructor
      · intro h1 h2
        rw [hlm k h1] at h2
        simp at h2
      · intro h1
        refine hall k hk ?_
        cases hcl : cal res k with
        | true => rfl
        | false => exact absurd ⟨by simpa using hk, by simp [hcl]⟩ h1
    · rw [e, unl_filter]
      exact hu
  intro fuel
  induction fuel with
  | zero =>
    intro listed a w g hls hc hlm hu hF
    exact writes hls hc hlm (fun k hk _ => unl_zero (Nat.le_zero.1 hu) k hk) hu hF
  | succ fuel ih =>
    intro listed a w g hls hc hlm hu hF
    have less : ∀ i, i ∈ Region.ready .any ops listed → unl (fun k => (listed.setIfInBounds i true).getD k false) ops.size ≤ fuel := fun i hi => by
      rw [ready_iff, getD_tf] at hi
      have := (unl_set (L := fun k => listed.getD k false) (L' := fun k => (listed.setIfInBounds i true).getD k false) (i := i) (fun k => set_getD hi.1.1) hi.1.2 ops.size).1 (by omega)
      omega
    have more : ∀ i, i ∈ Region.ready .any ops listed → cal res i = true → ∀ k, (listed.setIfInBounds i true).getD k false = true → cal res k = true := fun i hi hci k hk => by
      rw [ready_iff, getD_tf] at hi
      rw [set_getD hi.1.1] at hk
      by_cases hki : k = i
      · rw [hki]; exact hci
      · rw [if_neg hki] at hk; exact hlm k hk
    by_cases hlt : ∃ i, i ∈ Region.ready .any ops listed ∧ cal res i = true ∧ lightAt ops b i = true
    · -- one that hangs not on the world is taken first
      obtain ⟨i, hi, hci, hli⟩ := hlt
      have hi' := hi
      rw [ready_iff, getD_tf] at hi'
      obtain ⟨⟨hisz, hiun⟩, o, ho, he⟩ := hi'
      have hin : i < ops.size := by omega
      unfold lightAt at hli
      simp only [ho, Bool.and_eq_true, List.all_eq_true] at hli
      obtain ⟨hl, hfree⟩ := hli
      have hst := calm_step (r := r) (Q := fun _ _ _ => False) hN hd hb (hstep i hin hci) hls hc hi hci hF (K := fun a' w' => ∃ g', RelF E (slS s0 ops res fun k => (listed.setIfInBounds i true).getD k false) (bxS s0 ops res fun k => (listed.setIfInBounds i true).getD k false) a' w' g') (fun a' w' g' h => ⟨g', h⟩)
      obtain ⟨v, hy, g', hF'⟩ : ∃ v, Yields P ops o v a ∧ ∃ g', RelF E (slS s0 ops res fun k => (listed.setIfInBounds i true).getD k false) (bxS s0 ops res fun k => (listed.setIfInBounds i true).getD k false) (a.put o.dst v) w g' := by
        unfold wpOpIn at hst
        simp only [ho] at hst
        cases hw : Region.wanted o (yielded ops a.tmps) with
        | true =>
          simp only [hw, if_true] at hst
          obtain ⟨v, hv, hk⟩ := light_runs hl hst
          exact ⟨v, .inl ⟨hw, hv⟩, hk⟩
        | false =>
          simp only [hw, Bool.false_eq_true, if_false] at hst
          exact ⟨undef, .inr ⟨hw, rfl⟩, hst.2⟩
      refine take_light hl ho hd.nosel hQp fuel listed a w (fun j oj hj hji hjl hno => ?_) hi hy (ih _ _ _ g' (by simpa using hls) (closed_set hc hi) (more i hi hci) (less i hi) hF')
      have hjs : j < ops.size := (Array.getElem?_eq_some_iff.1 hj).1
      have h1 := hfree j (by simpa using hjs)
      rw [getD_tf] at hjl
      simp only [hj, Bool.or_eq_true, beq_iff_eq, hji, false_or] at h1
      rcases h1 with h1 | h1 | h1
      · rcases before_listed hb hc ho he h1 with h2 | h2
        · rw [hjl.2] at h2; cases h2
        · exact absurd h2 hji
      · exact absurd (by simpa using h1) hno
      · exact h1
    · -- all that is calm and hangs on the world comes up in whatever order
      by_cases hall : ∀ k, k < ops.size → cal res k = true → listed.getD k false = true
      · exact writes hls hc hlm hall hu hF
      · have first : ∀ k, k < ops.size → cal res k = true → (∀ k', k' < k → cal res k' = true → listed.getD k' false = true) → listed.getD k false = false → k ∈ Region.ready .any ops listed := fun k hk hck hbef hun => by
          rw [ready_iff, getD_tf]
          exact ⟨⟨by omega, hun⟩, ops[k], Array.getElem?_eq_getElem hk, fun j hj => hbef j (hd.edge k _ (Array.getElem?_eq_getElem hk) j hj) (hd.calm k _ (Array.getElem?_eq_getElem hk) hck j hj)⟩
        have least : ∀ n k, k < n → k < ops.size → cal res k = true → listed.getD k false = false → ∃ k', k' < ops.size ∧ cal res k' = true ∧ listed.getD k' false = false ∧ k' ∈ Region.ready .any ops listed := by
          intro n
          induction n with
          | zero => intro k hk; omega
          | succ n ihn =>
            intro k hkn hk hck hun
            by_cases hbef : ∀ k', k' < k → cal res k' = true → listed.getD k' false = true
            · exact ⟨k, hk, hck, hun, first k hk hck hbef hun⟩
            · obtain ⟨k', hb'⟩ := Classical.not_forall.1 hbef
              obtain ⟨h1, h2⟩ := Classical.not_imp.1 hb'
              obtain ⟨h3, h4⟩ := Classical.not_imp.1 h2
              exact ihn k' (by omega) (by omega) h3 (by simpa using h4)
        obtain ⟨k0, hk0⟩ := Classical.not_forall.1 hall
        obtain ⟨h1, h2⟩ := Classical.not_imp.1 hk0
        obtain ⟨h3, h4⟩ := Classical.not_imp.1 h2
        obtain ⟨k1, e1, e2, e3, e4⟩ := least (k0 + 1) k0 (by omega) h1 h3 (by simpa using h4)
        refine ⟨fun h0 => (by rw [h0] at e4; cases e4), fun i hi => ?_⟩
        have hi' := hi
        rw [ready_iff, getD_tf] at hi'
        obtain ⟨⟨hisz, hiun⟩, o, ho, he⟩ := hi'
        have hin : i < ops.size := by omega
        cases hci : cal res i with
        | true => exact calm_step hN hd hb (hstep i hin hci) hls hc hi hci hF fun a' w' g' hF' => ih _ a' w' g' (by simpa using hls) (closed_set hc hi) (more i hi hci) (less i hi) hF'
        | false =>
          exfalso
          rcases hd.tail i k1 hin hci e1 e2 with h5 | h5
          · rcases before_listed hb hc ho he h5 with h6 | h6
            · rw [e3] at h6; cases h6
            · rw [h6] at e2; rw [hci] at e2; cases e2
          · exact hlt ⟨k1, e4, e2, h5⟩
end
end Go.Proofs.Ytfejdcdomgeogaa.M
