/- A region that draws its order: the rule. -/
import Derived.Test.YtepifmbnajpgeaaMchR
set_option linter.unusedVariables false
namespace Go.Proofs.Ytepifmbnajpgeaa.M
open Go Go.RowKit

theorem getD_repl {n k : Nat} : (Array.replicate n false).getD k false = false := by
  rw [Array.getD_eq_getD_getElem?, Array.getElem?_replicate]
  split <;> rfl

section
variable {P : Program} {E : Env} {ops : Array Oper} {N : Nat} {s s₂ : St} {hints hints2 : List (Nat × Hint)} {tl : List Nat} {ob : Prop} {r : Option Nat} {R : Exit → St → Prop} {id : Nat}

theorem Rel.drew {a : Act} {w : World} {g : Gh} (h : Rel E s a w g) : Rel E s a { w with drawn := w.drawn + 1 } g := by
  have hc : ∀ q, concAt g.dy.out a { w with drawn := w.drawn + 1 } g.ι q = concAt g.dy.out a w g.ι q := fun q => by cases q <;> rfl
  refine { h with slots := fun t x hx => ?_, boxes := fun n e cs hn => ?_, below := ?_ }
  · exact (h.slots t x hx).mono (fun _ _ _ h1 h2 => ⟨h2, h1⟩) (fun _ _ _ _ _ _ _ h => ⟨h, rfl⟩) (fun _ _ _ _ => rfl) (fun y q v hy hq hv => by
      show concAt g.dy.out a { w with drawn := w.drawn + 1 } g.ι q = some v
      rw [hc]; exact hv)
  · obtain ⟨h1, us, h2, h3, h4⟩ := h.boxes n e cs hn
    refine ⟨h1, us, h2, h3, fun i x y hx hy => ⟨(h4 i x y hx hy).1, (h4 i x y hx hy).2.mono (fun _ _ _ h1 h2 => ⟨h2, h1⟩) (fun _ _ _ _ h => ⟨h, rfl⟩) (fun _ _ => rfl) (fun q v hq hv => ?_)⟩⟩
    show concAt g.dy.out a { w with drawn := w.drawn + 1 } g.ι q = some v
    rw [hc]; exact hv
  · exact h.below.drew

theorem AWp.draw (hN : N = E.N) (hmo : P.follows .mixedOrders = true) {res : List (Option Res)} {s1 : St} (hc : arunC P N ops hints tl 0 ops.toList s = some (res, s1, ob)) (hob : ob) (hok : drawOk ops res s (befs ops.toList []) = true)
    (ht : Goes P r E ops (fun s' => R .normal s'.clean) ((tailOf ops res).filterMap fun j => ops[j]?) s1) :
    AWp P r E (.region id ops true) s R := by
  intro a w g hr
  have hdf := DF.of hok
  have hlen : ops.toList.length = ops.size := by simp
  obtain ⟨f1, f0, f2, f3⟩ := arunC_facts (s0 := s) (res := res) ops.toList 0 s s1 res ob (fun j o hj => by simpa using hj) (fun j hj => by simp) hc hob ⟨hr.uniq, fun t x hx => .inr ⟨fun k hk => by omega, hx, fun c hc => by omega⟩, fun n y hy => .inr ⟨fun c hc => by omega, hy⟩⟩
  rw [hlen] at f1 f2 f0
  have hcode : (Code.region id ops true).wpIn (Fr r) 9 P (fun e a' w' => e = .normal ∧ ∃ s' g', R e s' ∧ Rel E s' a' w' g') a w := by
    refine wpIn_region_any hmo ?_
    have hr' := hr.drew
    refine draw_sound (hints := hints) (res := res) (s0 := s) (s1 := s1) hN hdf rfl (fun i hi hci => ?_) (by simpa using f2) ht (fun c a' w' h => by cases h.1) (fun s2 a' w' g' hk hr2 => ?_) ops.size _ a _ g (by simp) (fun i o ho hl => ?_) (fun i hi => ?_) ?_ ?_
    · have h0 := f0 i hi
      rw [Nat.zero_add, hci] at h0
      simpa using f1 i hi (by rw [Nat.zero_add]; simpa using h0.symm)
    · exact ⟨rfl, _, g', hk, clean_sound hr2⟩
    · have hl' : (Array.replicate ops.size false).getD i false = true := hl
      rw [getD_repl] at hl'; cases hl'
    · have hi' : (Array.replicate ops.size false).getD i false = true := hi
      rw [getD_repl] at hi'; cases hi'
    · have : ∀ n, unl (fun k => (Array.replicate ops.size false).getD k false) n ≤ n := by
        intro n
        induction n with
        | zero => exact Nat.le_refl _
        | succ n ih => simp only [unl]; split <;> omega
      exact this _
    · refine hr'.toF.weak (fun t x hx => ?_) (fun n y hy => ?_)
      · rcases (slS_iff hdf).1 hx with ⟨k, _, _, _, h, _⟩ | ⟨_, h, _⟩
        · rw [getD_repl] at h; cases h
        · exact h
      · rcases bxS_iff.1 hy with ⟨k, q, _, h, _⟩ | ⟨_, h⟩
        · have h : (Array.replicate ops.size false).getD k false = true := h
          rw [getD_repl] at h; cases h
        · exact h
  exact wpIn_mono hcode (fun e a' w' h => h.2)
end
end Go.Proofs.Ytepifmbnajpgeaa.M
