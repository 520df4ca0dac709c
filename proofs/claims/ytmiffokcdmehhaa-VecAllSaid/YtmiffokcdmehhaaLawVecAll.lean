/- VecAll holds. -/
import Derived.Test.YtmiffokcdmehhaaLawVecs
set_option linter.unusedVariables false
namespace Go.Proofs.Ytmiffokcdmehhaa.vecAll
open Go Go.RowKit Go.Proofs.Ytmiffokcdmehhaa.M Go.Proofs.Ytmiffokcdmehhaa.G

theorem held {x m : Int} (hm : 0 ≤ m) : F.eq (F.min (F.max x (-m)) m) x = decide (-m ≤ x ∧ x ≤ m) := by
  rw [f_min, f_max, f_eq]
  by_cases h : -m ≤ x ∧ x ≤ m
  · rw [decide_eq_true (by omega), decide_eq_true h]
  · rw [decide_eq_false (by omega), decide_eq_false h]

def rightV (v : Vtx) : Bool := decide (((-32768 ≤ v.1 ∧ v.1 ≤ 32768) ∧ (-32768 ≤ v.2.1 ∧ v.2.1 ≤ 32768) ∧ (-32768 ≤ v.2.2.1 ∧ v.2.2.1 ≤ 32768) ∧ (-32768 ≤ v.2.2.2.1 ∧ v.2.2.2.1 ≤ 32768) ∧ (-4096 ≤ v.2.2.2.2.1 ∧ v.2.2.2.2.1 ≤ 4096) ∧ (-4096 ≤ v.2.2.2.2.2.1 ∧ v.2.2.2.2.2.1 ≤ 4096) ∧ (-4096 ≤ v.2.2.2.2.2.2.1 ∧ v.2.2.2.2.2.2.1 ≤ 4096) ∧ (-4096 ≤ v.2.2.2.2.2.2.2 ∧ v.2.2.2.2.2.2.2 ≤ 4096)) ∧ 0 < v.2.2.2.1)

theorem vec_right (v : Vtx) : vec_Right v = some (rightV v) := by
  have e1 : ∀ x, F.eq (F.min (F.max x (-32768)) 32768) x = decide (-32768 ≤ x ∧ x ≤ 32768) := fun x => held (m := 32768) (by decide)
  have e2 : ∀ x, F.eq (F.min (F.max x (-4096)) 4096) x = decide (-4096 ≤ x ∧ x ≤ 4096) := fun x => held (m := 4096) (by decide)
  unfold vec_Right vec_row vec_held
  rw [ob_some, bnd_eq, bnd_eq, bnd_eq, bnd_eq, bnd_eq, bnd_eq, bnd_eq, bnd_eq, bnd_eq, bnd_eq, bnd_eq, bnd_eq, bnd_eq, bnd_eq, bnd_eq, bnd_eq, ob_some, bnd_eq]
  dsimp only
  rw [e1, e1, e1, e1, e2, e2, e2, e2]
  unfold rightV
  rw [Bool.decide_and]
  simp only [F.both, ← Bool.decide_and]
  by_cases h : (-32768 ≤ v.1 ∧ v.1 ≤ 32768) ∧ (-32768 ≤ v.2.1 ∧ v.2.1 ≤ 32768) ∧ (-32768 ≤ v.2.2.1 ∧ v.2.2.1 ≤ 32768) ∧ (-32768 ≤ v.2.2.2.1 ∧ v.2.2.2.1 ≤ 32768) ∧ (-4096 ≤ v.2.2.2.2.1 ∧ v.2.2.2.2.1 ≤ 4096) ∧ (-4096 ≤ v.2.2.2.2.2.1 ∧ v.2.2.2.2.2.1 ≤ 4096) ∧ (-4096 ≤ v.2.2.2.2.2.2.1 ∧ v.2.2.2.2.2.2.1 ≤ 4096) ∧ (-4096 ≤ v.2.2.2.2.2.2.2 ∧ v.2.2.2.2.2.2.2 ≤ 4096)
  · rw [decide_eq_true h, bite_t, bnd_eq]
    by_cases hw : 0 < v.2.2.2.1
    · rw [gt_t hw, decide_eq_true ⟨h, hw⟩]
    · rw [gt_f (by omega), decide_eq_false (fun k => hw k.2)]
  · rw [decide_eq_false h, bite_f, decide_eq_false (fun k => h k.1)]

theorem within (x : Int) : glazierref04_within x 32768 = some (decide (-32768 ≤ x ∧ x ≤ 32768)) := by
  unfold glazierref04_within
  rw [bnd_eq, negI (by decide), bnd_eq]
  by_cases h : -32768 ≤ x
  · rw [ge_t h, bite_t, bnd_eq]
    by_cases h2 : x ≤ 32768
    · rw [le_t h2, decide_eq_true ⟨h, h2⟩]
    · rw [le_f (by omega), decide_eq_false (fun k => h2 k.2)]
  · rw [ge_f (by omega), bite_f, decide_eq_false (fun k => h k.1)]

theorem ref_right (v : Vtx) : glazierref04_Right v = some (rightV v) := by
  have no : (¬ (((-32768 ≤ v.1 ∧ v.1 ≤ 32768) ∧ (-32768 ≤ v.2.1 ∧ v.2.1 ≤ 32768) ∧ (-32768 ≤ v.2.2.1 ∧ v.2.2.1 ≤ 32768) ∧ (-32768 ≤ v.2.2.2.1 ∧ v.2.2.2.1 ≤ 32768) ∧ (-4096 ≤ v.2.2.2.2.1 ∧ v.2.2.2.2.1 ≤ 4096) ∧ (-4096 ≤ v.2.2.2.2.2.1 ∧ v.2.2.2.2.2.1 ≤ 4096) ∧ (-4096 ≤ v.2.2.2.2.2.2.1 ∧ v.2.2.2.2.2.2.1 ≤ 4096) ∧ (-4096 ≤ v.2.2.2.2.2.2.2 ∧ v.2.2.2.2.2.2.2 ≤ 4096)) ∧ 0 < v.2.2.2.1)) → some false = some (rightV v) := fun h => by
    unfold rightV
    rw [decide_eq_false h]
  unfold glazierref04_Right
  rw [bnd_eq]
  by_cases a1 : v.2.2.2.2.1 < -4096
  · rw [lt_t a1, bite_t]; exact no fun k => by have := k.1.2.2.2.2.1.1; omega
  rw [lt_f (by omega), bite_f, bnd_eq]
  by_cases a2 : 4096 < v.2.2.2.2.1
  · rw [gt_t a2, bite_t]; exact no fun k => by have := k.1.2.2.2.2.1.2; omega
  rw [gt_f (by omega), bite_f, bnd_eq]
  by_cases b1 : v.2.2.2.2.2.1 < -4096
  · rw [lt_t b1, bite_t]; exact no fun k => by have := k.1.2.2.2.2.2.1.1; omega
  rw [lt_f (by omega), bite_f, bnd_eq]
  by_cases b2 : 4096 < v.2.2.2.2.2.1
  · rw [gt_t b2, bite_t]; exact no fun k => by have := k.1.2.2.2.2.2.1.2; omega
  rw [gt_f (by omega), bite_f, bnd_eq]
  by_cases c1 : v.2.2.2.2.2.2.1 < -4096
  · rw [lt_t c1, bite_t]; exact no fun k => by have := k.1.2.2.2.2.2.2.1.1; omega
  rw [lt_f (by omega), bite_f, bnd_eq]
  by_cases c2 : 4096 < v.2.2.2.2.2.2.1
  · rw [gt_t c2, bite_t]; exact no fun k => by have := k.1.2.2.2.2.2.2.1.2; omega
  rw [gt_f (by omega), bite_f, bnd_eq]
  by_cases d1 : v.2.2.2.2.2.2.2 < -4096
  · rw [lt_t d1, bite_t]; exact no fun k => by have := k.1.2.2.2.2.2.2.2.1; omega
  rw [lt_f (by omega), bite_f, bnd_eq]
  by_cases d2 : 4096 < v.2.2.2.2.2.2.2
  · rw [gt_t d2, bite_t]; exact no fun k => by have := k.1.2.2.2.2.2.2.2.2; omega
  rw [gt_f (by omega), bite_f, within, ob_some, within, ob_some, within, ob_some]
  by_cases x1 : -32768 ≤ v.1 ∧ v.1 ≤ 32768
  · rw [decide_eq_true x1, bite_t]
    by_cases x2 : -32768 ≤ v.2.1 ∧ v.2.1 ≤ 32768
    · rw [decide_eq_true x2, bite_t]
      by_cases x3 : -32768 ≤ v.2.2.1 ∧ v.2.2.1 ≤ 32768
      · rw [decide_eq_true x3, bite_t, bnd_eq]
        by_cases w1 : 1 ≤ v.2.2.2.1
        · rw [ge_t w1, bite_t, bnd_eq]
          by_cases w2 : v.2.2.2.1 ≤ 32768
          · rw [le_t w2]
            unfold rightV
            rw [decide_eq_true ⟨⟨x1, x2, x3, ⟨by omega, w2⟩, ⟨by omega, by omega⟩, ⟨by omega, by omega⟩, ⟨by omega, by omega⟩, ⟨by omega, by omega⟩⟩, by omega⟩]
          · rw [le_f (by omega)]; exact no fun k => by have := k.1.2.2.2.1.2; omega
        · rw [ge_f (by omega), bite_f]; exact no fun k => by have := k.2; omega
      · rw [decide_eq_false x3, bite_f]; exact no fun k => x3 k.1.2.2.1
    · rw [decide_eq_false x2, bite_f]; exact no fun k => x2 k.1.2.1
  · rw [decide_eq_false x1, bite_f]; exact no fun k => x1 k.1.1

theorem small_C (v : Vtx) : ∃ r, glazierref04_Small v = some r ∧ okB r := by
  have t1 := tmod_lt (a := v.1) (m := 1048577) (by decide)
  have t2 := tmod_lt (a := v.2.1) (m := 1048577) (by decide)
  have t3 := tmod_lt (a := v.2.2.1) (m := 1048577) (by decide)
  have t4 := tmod_lt (a := v.2.2.2.1) (m := 1048577) (by decide)
  have t5 := tmod_lt (a := v.2.2.2.2.1) (m := 1048577) (by decide)
  have t6 := tmod_lt (a := v.2.2.2.2.2.1) (m := 1048577) (by decide)
  have t7 := tmod_lt (a := v.2.2.2.2.2.2.1) (m := 1048577) (by decide)
  have t8 := tmod_lt (a := v.2.2.2.2.2.2.2) (m := 1048577) (by decide)
  unfold glazierref04_Small
  simp only [bnd_eq]
  refine ⟨_, rfl, ⟨?_, ?_⟩, ⟨?_, ?_⟩, ⟨?_, ?_⟩, ⟨?_, ?_⟩, ⟨?_, ?_⟩, ⟨?_, ?_⟩, ⟨?_, ?_⟩, ⟨?_, ?_⟩⟩ <;> (simp only [F.rem]; omega)

theorem shown (fl : Nat) : glazierlaw04_shown fl = some true := by
  unfold glazierlaw04_shown
  rw [vec_between fl (a := (0, (0, (0, (2, (0, (0, (0, 0)))))))) (b := (0, (0, ((-6), (2, (0, (0, (0, 0)))))))) (by refine ⟨⟨?_, ?_⟩, ⟨?_, ?_⟩, ⟨?_, ?_⟩, ⟨?_, ?_⟩, ⟨?_, ?_⟩, ⟨?_, ?_⟩, ⟨?_, ?_⟩, ⟨?_, ?_⟩⟩ <;> decide) (by refine ⟨⟨?_, ?_⟩, ⟨?_, ?_⟩, ⟨?_, ?_⟩, ⟨?_, ?_⟩, ⟨?_, ?_⟩, ⟨?_, ?_⟩, ⟨?_, ?_⟩, ⟨?_, ?_⟩⟩ <;> decide)]
  decide +kernel

theorem eq8r (a : Vtx) : F.both (F.eq a.1 a.1) (F.both (F.eq a.2.1 a.2.1) (F.both (F.eq a.2.2.1 a.2.2.1) (F.both (F.eq a.2.2.2.1 a.2.2.2.1) (F.both (F.eq a.2.2.2.2.1 a.2.2.2.2.1) (F.both (F.eq a.2.2.2.2.2.1 a.2.2.2.2.2.1) (F.both (F.eq a.2.2.2.2.2.2.1 a.2.2.2.2.2.2.1) (F.eq a.2.2.2.2.2.2.2 a.2.2.2.2.2.2.2))))))) = true := by
  rw [eq_t rfl, eq_t rfl, eq_t rfl, eq_t rfl, eq_t rfl, eq_t rfl, eq_t rfl, eq_t rfl]; rfl

theorem beqr (b : Bool) : F.beq b b = true := by cases b <;> rfl

theorem law (x0 : (Ty.pair (.int .i64) (.pair (.int .i64) (.pair (.int .i64) (.pair (.int .i64) (.pair (.int .i64) (.pair (.int .i64) (.pair (.int .i64) (.int .i64)))))))).T)
    (x1 : (Ty.pair (.pair (.int .i64) (.pair (.int .i64) (.pair (.int .i64) (.pair (.int .i64) (.pair (.int .i64) (.pair (.int .i64) (.pair (.int .i64) (.int .i64)))))))) (.pair (.int .i64) (.pair (.int .i64) (.pair (.int .i64) (.pair (.int .i64) (.pair (.int .i64) (.pair (.int .i64) (.pair (.int .i64) (.int .i64))))))))).T)
    (x2 : (Ty.int .i64).T) (h0 : okT _ x0) (h1 : okT _ x1) (h2 : okT (.int .i64) x2) : ∃ fl, glazierlaw04_VecAll fl x0 x1 x2 = some true := by
  refine ⟨130, ?_⟩
  unfold glazierlaw04_VecAll
  obtain ⟨a, ea, ha⟩ := small_C x1.1
  obtain ⟨b, eb, hb⟩ := small_C x1.2
  rw [shown, ob_some, ea, ob_some, eb, ob_some, vec_between 130 ha hb, ob_some, ref_between (Nat.le_refl 130) ha hb, ob_some, bite_t, vec_right, ob_some, ref_right, ob_some, bnd_eq, beqr, bite_t, vec_right, ob_some, ref_right, ob_some, bnd_eq, beqr, bite_t, vec_dist ha, ob_some, ref_dist ha, ob_some, bnd_eq, eq_t rfl, bite_t, bnd_eq, eq8r, bite_t, bnd_eq, beqr]
end Go.Proofs.Ytmiffokcdmehhaa.vecAll
