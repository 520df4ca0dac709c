/- Each Go function comes to its plain one: printed by program. Part 3. -/
import Derived.Test.YtmiffokcdmehhaaWalkV12
import Derived.Test.YtmiffokcdmehhaaProg
set_option linter.unusedVariables false
namespace Go.Proofs.Ytmiffokcdmehhaa.G
open Go Go.RowKit Go.Proofs.Ytmiffokcdmehhaa.E

theorem glazierref04_Between_ok (fl : Nat) (x0 : T_api_Vec) (x1 : T_api_Vec) (x2 : Int) (r : T_api_Vec × Bool) (h : glazierref04_Between fl x0 x1 x2 = some r) : PureC Try.prog 14 [agg [ci .i64 (x0.c0), ci .i64 (x0.c1), ci .i64 (x0.c2), ci .i64 (x0.c3), ci .i64 (x0.c4), ci .i64 (x0.c5), ci .i64 (x0.c6), ci .i64 (x0.c7)], agg [ci .i64 (x1.c0), ci .i64 (x1.c1), ci .i64 (x1.c2), ci .i64 (x1.c3), ci .i64 (x1.c4), ci .i64 (x1.c5), ci .i64 (x1.c6), ci .i64 (x1.c7)], one (ci .i64 (x2))] (⟨.tup [(true, 8), (false, 1)], [ci .i64 (r.1.c0), ci .i64 (r.1.c1), ci .i64 (r.1.c2), ci .i64 (r.1.c3), ci .i64 (r.1.c4), ci .i64 (r.1.c5), ci .i64 (r.1.c6), ci .i64 (r.1.c7), cb r.2]⟩) := by
  refine fnOf (fn := Try.f14) (n := 122) (rs := [ResultVar.cell 6 24, ResultVar.tmp 7]) (s := ⟨[(0, agg [ci .i64 (x0.c0), ci .i64 (x0.c1), ci .i64 (x0.c2), ci .i64 (x0.c3), ci .i64 (x0.c4), ci .i64 (x0.c5), ci .i64 (x0.c6), ci .i64 (x0.c7)]), (1, agg [ci .i64 (x1.c0), ci .i64 (x1.c1), ci .i64 (x1.c2), ci .i64 (x1.c3), ci .i64 (x1.c4), ci .i64 (x1.c5), ci .i64 (x1.c6), ci .i64 (x1.c7)]), (2, one (ci .i64 (x2)))], []⟩) (by kernel_rfl) (by kernel_rfl) (by kernel_rfl) (by kernel_rfl) (by kernel_rfl) (by kernel_rfl) (by kernel_rfl) (by kernel_rfl) (fun E hN => ?_)
  unfold glazierref04_Between at h
  refine goSeq (by kernel_rfl) ?_
  refine goReg (N := 122) (hints := []) (l := [2, 3, 4, 6]) (m := [3, 4, 6]) (s₂ := ⟨[(2, one (ci .i64 (x2))), (3, one (.ptr 3 0)), (4, one (.ptr 4 0)), (6, one (.ptr 6 0))], [(3, 24, [ci .i64 (x0.c0), ci .i64 (x0.c1), ci .i64 (x0.c2), ci .i64 (x0.c3), ci .i64 (x0.c4), ci .i64 (x0.c5), ci .i64 (x0.c6), ci .i64 (x0.c7)]), (4, 24, [ci .i64 (x1.c0), ci .i64 (x1.c1), ci .i64 (x1.c2), ci .i64 (x1.c3), ci .i64 (x1.c4), ci .i64 (x1.c5), ci .i64 (x1.c6), ci .i64 (x1.c7)]), (6, 24, [ci .i64 0, ci .i64 0, ci .i64 0, ci .i64 0, ci .i64 0, ci .i64 0, ci .i64 0, ci .i64 0])]⟩) (ob := True ∧ True ∧ True ∧ True ∧ True) (by kernel_rfl) hN (by kernel_rfl) ⟨trivial, trivial, trivial, trivial, trivial⟩ (by decide) (by decide) ?_
  refine thenC ?_
  refine goSeq (by kernel_rfl) ?_
  obtain ⟨q1, hq1, h⟩ := bind_some h
  refine goReg (N := 122) (hints := [(2, .call (one (ci .i64 (q1))))]) (l := [2, 3, 4, 6, 8]) (m := [3, 4, 6]) (s₂ := ⟨[(2, one (ci .i64 (x2))), (3, one (.ptr 3 0)), (4, one (.ptr 4 0)), (6, one (.ptr 6 0)), (8, one (ci .i64 (q1)))], [(3, 24, [ci .i64 (x0.c0), ci .i64 (x0.c1), ci .i64 (x0.c2), ci .i64 (x0.c3), ci .i64 (x0.c4), ci .i64 (x0.c5), ci .i64 (x0.c6), ci .i64 (x0.c7)]), (4, 24, [ci .i64 (x1.c0), ci .i64 (x1.c1), ci .i64 (x1.c2), ci .i64 (x1.c3), ci .i64 (x1.c4), ci .i64 (x1.c5), ci .i64 (x1.c6), ci .i64 (x1.c7)]), (6, 24, [ci .i64 0, ci .i64 0, ci .i64 0, ci .i64 0, ci .i64 0, ci .i64 0, ci .i64 0, ci .i64 0])]⟩) (ob := True ∧ True ∧ PureC Try.prog 17 [one (ci .i64 (x2)), agg [ci .i64 (x0.c0), ci .i64 (x0.c1), ci .i64 (x0.c2), ci .i64 (x0.c3), ci .i64 (x0.c4), ci .i64 (x0.c5), ci .i64 (x0.c6), ci .i64 (x0.c7)]] (one (ci .i64 (q1))) ∧ True ∧ True) (by kernel_rfl) hN (by kernel_rfl) ⟨trivial, trivial, (glazierref04_Dist_ok (x2) x0 _ hq1), trivial, trivial⟩ (by decide) (by decide) ?_
  refine thenC ?_
  refine goSeq (by kernel_rfl) ?_
  obtain ⟨q2, hq2, h⟩ := bind_some h
  refine goReg (N := 122) (hints := [(2, .call (one (ci .i64 (q2))))]) (l := [2, 3, 4, 6, 8, 9]) (m := [3, 4, 6]) (s₂ := ⟨[(2, one (ci .i64 (x2))), (3, one (.ptr 3 0)), (4, one (.ptr 4 0)), (6, one (.ptr 6 0)), (8, one (ci .i64 (q1))), (9, one (ci .i64 (q2)))], [(3, 24, [ci .i64 (x0.c0), ci .i64 (x0.c1), ci .i64 (x0.c2), ci .i64 (x0.c3), ci .i64 (x0.c4), ci .i64 (x0.c5), ci .i64 (x0.c6), ci .i64 (x0.c7)]), (4, 24, [ci .i64 (x1.c0), ci .i64 (x1.c1), ci .i64 (x1.c2), ci .i64 (x1.c3), ci .i64 (x1.c4), ci .i64 (x1.c5), ci .i64 (x1.c6), ci .i64 (x1.c7)]), (6, 24, [ci .i64 0, ci .i64 0, ci .i64 0, ci .i64 0, ci .i64 0, ci .i64 0, ci .i64 0, ci .i64 0])]⟩) (ob := True ∧ True ∧ PureC Try.prog 17 [one (ci .i64 (x2)), agg [ci .i64 (x1.c0), ci .i64 (x1.c1), ci .i64 (x1.c2), ci .i64 (x1.c3), ci .i64 (x1.c4), ci .i64 (x1.c5), ci .i64 (x1.c6), ci .i64 (x1.c7)]] (one (ci .i64 (q2))) ∧ True ∧ True) (by kernel_rfl) hN (by kernel_rfl) ⟨trivial, trivial, (glazierref04_Dist_ok (x2) x1 _ hq2), trivial, trivial⟩ (by decide) (by decide) ?_
  refine thenC ?_
  refine goSeq (by kernel_rfl) ?_
  refine goSeq (by kernel_rfl) ?_
  rcases fork_some h with ⟨c7, h⟩ | ⟨c7, h⟩
  · skip
    refine goReg (N := 122) (hints := [(2, .bool true)]) (l := [3, 4, 6, 8, 9, 31]) (m := [3, 4, 6]) (s₂ := ⟨[(3, one (.ptr 3 0)), (4, one (.ptr 4 0)), (6, one (.ptr 6 0)), (8, one (ci .i64 (q1))), (9, one (ci .i64 (q2))), (31, one (cb true))], [(3, 24, [ci .i64 (x0.c0), ci .i64 (x0.c1), ci .i64 (x0.c2), ci .i64 (x0.c3), ci .i64 (x0.c4), ci .i64 (x0.c5), ci .i64 (x0.c6), ci .i64 (x0.c7)]), (4, 24, [ci .i64 (x1.c0), ci .i64 (x1.c1), ci .i64 (x1.c2), ci .i64 (x1.c3), ci .i64 (x1.c4), ci .i64 (x1.c5), ci .i64 (x1.c6), ci .i64 (x1.c7)]), (6, 24, [ci .i64 0, ci .i64 0, ci .i64 0, ci .i64 0, ci .i64 0, ci .i64 0, ci .i64 0, ci .i64 0])]⟩) (ob := True ∧ True ∧ (True ∧ (decide ((x2) < 0)) = true) ∧ True ∧ True ∧ True ∧ True ∧ True ∧ True ∧ True ∧ True ∧ True ∧ True ∧ True ∧ True) (by kernel_rfl) hN (by kernel_rfl) ⟨trivial, trivial, ⟨trivial, c7⟩, trivial, trivial, trivial, trivial, trivial, trivial, trivial, trivial, trivial, trivial, trivial, trivial⟩ (by decide) (by decide) ?_
    refine thenC ?_
    refine goCondT (by kernel_rfl) (by kernel_rfl) ?_
    refine goSeq (by kernel_rfl) ?_
    refine goReg (N := 122) (hints := []) (l := [6, 7]) (m := [6]) (s₂ := ⟨[(6, one (.ptr 6 0)), (7, one (cb false))], [(6, 24, [ci .i64 0, ci .i64 0, ci .i64 0, ci .i64 0, ci .i64 0, ci .i64 0, ci .i64 0, ci .i64 0])]⟩) (ob := True ∧ True ∧ True ∧ True) (by kernel_rfl) hN (by kernel_rfl) ⟨trivial, trivial, trivial, trivial⟩ (by decide) (by decide) ?_
    refine thenC ?_
    refine goRet (by kernel_rfl) ?_
    refine thenRet ?_
    obtain rfl := top_some h
    exact retOk (by kernel_rfl)
  · skip
    rcases fork_some h with ⟨c8, h⟩ | ⟨c8, h⟩
    · skip
      refine goReg (N := 122) (hints := [(2, .bool false), (6, .bool true)]) (l := [3, 4, 6, 8, 9, 31]) (m := [3, 4, 6]) (s₂ := ⟨[(3, one (.ptr 3 0)), (4, one (.ptr 4 0)), (6, one (.ptr 6 0)), (8, one (ci .i64 (q1))), (9, one (ci .i64 (q2))), (31, one (cb true))], [(3, 24, [ci .i64 (x0.c0), ci .i64 (x0.c1), ci .i64 (x0.c2), ci .i64 (x0.c3), ci .i64 (x0.c4), ci .i64 (x0.c5), ci .i64 (x0.c6), ci .i64 (x0.c7)]), (4, 24, [ci .i64 (x1.c0), ci .i64 (x1.c1), ci .i64 (x1.c2), ci .i64 (x1.c3), ci .i64 (x1.c4), ci .i64 (x1.c5), ci .i64 (x1.c6), ci .i64 (x1.c7)]), (6, 24, [ci .i64 0, ci .i64 0, ci .i64 0, ci .i64 0, ci .i64 0, ci .i64 0, ci .i64 0, ci .i64 0])]⟩) (ob := True ∧ True ∧ (True ∧ (decide ((x2) < 0)) = false) ∧ True ∧ True ∧ True ∧ (True ∧ (decide ((x2) > 4)) = true) ∧ True ∧ True ∧ True ∧ True ∧ True ∧ True ∧ True ∧ True) (by kernel_rfl) hN (by kernel_rfl) ⟨trivial, trivial, ⟨trivial, c7⟩, trivial, trivial, trivial, ⟨trivial, c8⟩, trivial, trivial, trivial, trivial, trivial, trivial, trivial, trivial⟩ (by decide) (by decide) ?_
      refine thenC ?_
      refine goCondT (by kernel_rfl) (by kernel_rfl) ?_
      refine goSeq (by kernel_rfl) ?_
      refine goReg (N := 122) (hints := []) (l := [6, 7]) (m := [6]) (s₂ := ⟨[(6, one (.ptr 6 0)), (7, one (cb false))], [(6, 24, [ci .i64 0, ci .i64 0, ci .i64 0, ci .i64 0, ci .i64 0, ci .i64 0, ci .i64 0, ci .i64 0])]⟩) (ob := True ∧ True ∧ True ∧ True) (by kernel_rfl) hN (by kernel_rfl) ⟨trivial, trivial, trivial, trivial⟩ (by decide) (by decide) ?_
      refine thenC ?_
      refine goRet (by kernel_rfl) ?_
      refine thenRet ?_
      obtain rfl := top_some h
      exact retOk (by kernel_rfl)
    · skip
      rcases fork_some h with ⟨c9, h⟩ | ⟨c9, h⟩
      · skip
        refine goReg (N := 122) (hints := [(2, .bool false), (6, .bool false), (10, .bool true)]) (l := [3, 4, 6, 8, 9, 31]) (m := [3, 4, 6]) (s₂ := ⟨[(3, one (.ptr 3 0)), (4, one (.ptr 4 0)), (6, one (.ptr 6 0)), (8, one (ci .i64 (q1))), (9, one (ci .i64 (q2))), (31, one (cb true))], [(3, 24, [ci .i64 (x0.c0), ci .i64 (x0.c1), ci .i64 (x0.c2), ci .i64 (x0.c3), ci .i64 (x0.c4), ci .i64 (x0.c5), ci .i64 (x0.c6), ci .i64 (x0.c7)]), (4, 24, [ci .i64 (x1.c0), ci .i64 (x1.c1), ci .i64 (x1.c2), ci .i64 (x1.c3), ci .i64 (x1.c4), ci .i64 (x1.c5), ci .i64 (x1.c6), ci .i64 (x1.c7)]), (6, 24, [ci .i64 0, ci .i64 0, ci .i64 0, ci .i64 0, ci .i64 0, ci .i64 0, ci .i64 0, ci .i64 0])]⟩) (ob := True ∧ True ∧ (True ∧ (decide ((x2) < 0)) = false) ∧ True ∧ True ∧ True ∧ (True ∧ (decide ((x2) > 4)) = false) ∧ True ∧ True ∧ True ∧ (True ∧ (decide ((q1) < 0)) = true) ∧ True ∧ True ∧ True ∧ True) (by kernel_rfl) hN (by kernel_rfl) ⟨trivial, trivial, ⟨trivial, c7⟩, trivial, trivial, trivial, ⟨trivial, c8⟩, trivial, trivial, trivial, ⟨trivial, c9⟩, trivial, trivial, trivial, trivial⟩ (by decide) (by decide) ?_
        refine thenC ?_
        refine goCondT (by kernel_rfl) (by kernel_rfl) ?_
        refine goSeq (by kernel_rfl) ?_
        refine goReg (N := 122) (hints := []) (l := [6, 7]) (m := [6]) (s₂ := ⟨[(6, one (.ptr 6 0)), (7, one (cb false))], [(6, 24, [ci .i64 0, ci .i64 0, ci .i64 0, ci .i64 0, ci .i64 0, ci .i64 0, ci .i64 0, ci .i64 0])]⟩) (ob := True ∧ True ∧ True ∧ True) (by kernel_rfl) hN (by kernel_rfl) ⟨trivial, trivial, trivial, trivial⟩ (by decide) (by decide) ?_
        refine thenC ?_
        refine goRet (by kernel_rfl) ?_
        refine thenRet ?_
        obtain rfl := top_some h
        exact retOk (by kernel_rfl)
      · skip
        rcases fork_some h with ⟨c10, h⟩ | ⟨c10, h⟩
        · skip
          refine goReg (N := 122) (hints := [(2, .bool false), (6, .bool false), (10, .bool false), (13, .bool true)]) (l := [3, 4, 6, 8, 9, 31]) (m := [3, 4, 6]) (s₂ := ⟨[(3, one (.ptr 3 0)), (4, one (.ptr 4 0)), (6, one (.ptr 6 0)), (8, one (ci .i64 (q1))), (9, one (ci .i64 (q2))), (31, one (cb true))], [(3, 24, [ci .i64 (x0.c0), ci .i64 (x0.c1), ci .i64 (x0.c2), ci .i64 (x0.c3), ci .i64 (x0.c4), ci .i64 (x0.c5), ci .i64 (x0.c6), ci .i64 (x0.c7)]), (4, 24, [ci .i64 (x1.c0), ci .i64 (x1.c1), ci .i64 (x1.c2), ci .i64 (x1.c3), ci .i64 (x1.c4), ci .i64 (x1.c5), ci .i64 (x1.c6), ci .i64 (x1.c7)]), (6, 24, [ci .i64 0, ci .i64 0, ci .i64 0, ci .i64 0, ci .i64 0, ci .i64 0, ci .i64 0, ci .i64 0])]⟩) (ob := True ∧ True ∧ (True ∧ (decide ((x2) < 0)) = false) ∧ True ∧ True ∧ True ∧ (True ∧ (decide ((x2) > 4)) = false) ∧ True ∧ True ∧ True ∧ (True ∧ (decide ((q1) < 0)) = false) ∧ True ∧ True ∧ (True ∧ (decide ((q2) ≥ 0)) = true) ∧ True) (by kernel_rfl) hN (by kernel_rfl) ⟨trivial, trivial, ⟨trivial, c7⟩, trivial, trivial, trivial, ⟨trivial, c8⟩, trivial, trivial, trivial, ⟨trivial, c9⟩, trivial, trivial, ⟨trivial, c10⟩, trivial⟩ (by decide) (by decide) ?_
          refine thenC ?_
          refine goCondT (by kernel_rfl) (by kernel_rfl) ?_
          refine goSeq (by kernel_rfl) ?_
          refine goReg (N := 122) (hints := []) (l := [6, 7]) (m := [6]) (s₂ := ⟨[(6, one (.ptr 6 0)), (7, one (cb false))], [(6, 24, [ci .i64 0, ci .i64 0, ci .i64 0, ci .i64 0, ci .i64 0, ci .i64 0, ci .i64 0, ci .i64 0])]⟩) (ob := True ∧ True ∧ True ∧ True) (by kernel_rfl) hN (by kernel_rfl) ⟨trivial, trivial, trivial, trivial⟩ (by decide) (by decide) ?_
          refine thenC ?_
          refine goRet (by kernel_rfl) ?_
          refine thenRet ?_
          obtain rfl := top_some h
          exact retOk (by kernel_rfl)
        · skip
          refine goReg (N := 122) (hints := [(2, .bool false), (6, .bool false), (10, .bool false), (13, .bool false)]) (l := [3, 4, 6, 8, 9, 31]) (m := [3, 4, 6]) (s₂ := ⟨[(3, one (.ptr 3 0)), (4, one (.ptr 4 0)), (6, one (.ptr 6 0)), (8, one (ci .i64 (q1))), (9, one (ci .i64 (q2))), (31, one (cb false))], [(3, 24, [ci .i64 (x0.c0), ci .i64 (x0.c1), ci .i64 (x0.c2), ci .i64 (x0.c3), ci .i64 (x0.c4), ci .i64 (x0.c5), ci .i64 (x0.c6), ci .i64 (x0.c7)]), (4, 24, [ci .i64 (x1.c0), ci .i64 (x1.c1), ci .i64 (x1.c2), ci .i64 (x1.c3), ci .i64 (x1.c4), ci .i64 (x1.c5), ci .i64 (x1.c6), ci .i64 (x1.c7)]), (6, 24, [ci .i64 0, ci .i64 0, ci .i64 0, ci .i64 0, ci .i64 0, ci .i64 0, ci .i64 0, ci .i64 0])]⟩) (ob := True ∧ True ∧ (True ∧ (decide ((x2) < 0)) = false) ∧ True ∧ True ∧ True ∧ (True ∧ (decide ((x2) > 4)) = false) ∧ True ∧ True ∧ True ∧ (True ∧ (decide ((q1) < 0)) = false) ∧ True ∧ True ∧ (True ∧ (decide ((q2) ≥ 0)) = false) ∧ True) (by kernel_rfl) hN (by kernel_rfl) ⟨trivial, trivial, ⟨trivial, c7⟩, trivial, trivial, trivial, ⟨trivial, c8⟩, trivial, trivial, trivial, ⟨trivial, c9⟩, trivial, trivial, ⟨trivial, c10⟩, trivial⟩ (by decide) (by decide) ?_
          refine thenC ?_
          refine goCondF (by kernel_rfl) (by kernel_rfl) ?_
          refine goSkip (by kernel_rfl) ?_
          refine thenC ?_
          refine goSeq (by kernel_rfl) ?_
          refine goReg (N := 122) (hints := []) (l := [3, 4, 6, 8, 9, 10]) (m := [3, 4, 6, 10]) (s₂ := ⟨[(3, one (.ptr 3 0)), (4, one (.ptr 4 0)), (6, one (.ptr 6 0)), (8, one (ci .i64 (q1))), (9, one (ci .i64 (q2))), (10, one (.ptr 10 0))], [(3, 24, [ci .i64 (x0.c0), ci .i64 (x0.c1), ci .i64 (x0.c2), ci .i64 (x0.c3), ci .i64 (x0.c4), ci .i64 (x0.c5), ci .i64 (x0.c6), ci .i64 (x0.c7)]), (4, 24, [ci .i64 (x1.c0), ci .i64 (x1.c1), ci .i64 (x1.c2), ci .i64 (x1.c3), ci .i64 (x1.c4), ci .i64 (x1.c5), ci .i64 (x1.c6), ci .i64 (x1.c7)]), (6, 24, [ci .i64 0, ci .i64 0, ci .i64 0, ci .i64 0, ci .i64 0, ci .i64 0, ci .i64 0, ci .i64 0]), (10, 24, [ci .i64 0, ci .i64 0, ci .i64 0, ci .i64 0, ci .i64 0, ci .i64 0, ci .i64 0, ci .i64 0])]⟩) (ob := True ∧ True ∧ True ∧ True) (by kernel_rfl) hN (by kernel_rfl) ⟨trivial, trivial, trivial, trivial⟩ (by decide) (by decide) ?_
          refine thenC ?_
          refine goSeq (by kernel_rfl) ?_
          obtain ⟨v11, ev11, h⟩ := bnd_some h
          obtain ⟨q12, hq12, h⟩ := bind_some h
          refine goDraw (N := 122) (m0 := 15) (hints := [(8, .val (one (ci .i64 v11))), (12, .call (one (ci .i64 (q12))))]) (l := [3, 4, 6, 8, 9, 10]) (m := [3, 4, 6, 10]) (s₂ := ⟨[(3, one (.ptr 3 0)), (4, one (.ptr 4 0)), (6, one (.ptr 6 0)), (8, one (ci .i64 (q1))), (9, one (ci .i64 (q2))), (10, one (.ptr 10 0))], [(3, 24, [ci .i64 (x0.c0), ci .i64 (x0.c1), ci .i64 (x0.c2), ci .i64 (x0.c3), ci .i64 (x0.c4), ci .i64 (x0.c5), ci .i64 (x0.c6), ci .i64 (x0.c7)]), (4, 24, [ci .i64 (x1.c0), ci .i64 (x1.c1), ci .i64 (x1.c2), ci .i64 (x1.c3), ci .i64 (x1.c4), ci .i64 (x1.c5), ci .i64 (x1.c6), ci .i64 (x1.c7)]), (6, 24, [ci .i64 0, ci .i64 0, ci .i64 0, ci .i64 0, ci .i64 0, ci .i64 0, ci .i64 0, ci .i64 0]), (10, 24, [ci .i64 ((IntKind.wrap .i64 ((x0.c0) + (q12)))), ci .i64 0, ci .i64 0, ci .i64 0, ci .i64 0, ci .i64 0, ci .i64 0, ci .i64 0])]⟩) (ob := (True ∧ True ∧ True ∧ True ∧ True ∧ True ∧ True ∧ True ∧ (True ∧ one (ci .i64 ((IntKind.wrap .i64 (((IntKind.wrap .i64 ((x1.c0) - (x0.c0)))) * (q1))))) = one (ci .i64 v11)) ∧ True ∧ True ∧ True ∧ PureC Try.prog 21 [one (ci .i64 (v11)), one (ci .i64 ((IntKind.wrap .i64 ((q1) - (q2)))))] (one (ci .i64 (q12))) ∧ True ∧ True ∧ True) ∧ (True ∧ True)) (by kernel_rfl) hN (by kernel_rfl) (by kernel_rfl) ⟨⟨trivial, trivial, trivial, trivial, trivial, trivial, trivial, trivial, ⟨trivial, congrArg (fun x => one (ci .i64 x)) ev11⟩, trivial, trivial, trivial, (glazierref01_Down_ok fl (v11) ((IntKind.wrap .i64 ((q1) - (q2)))) _ hq12), trivial, trivial, trivial⟩, ⟨trivial, trivial⟩⟩ (by decide) (by decide) ?_
          refine thenC ?_
          refine goSeq (by kernel_rfl) ?_
          obtain ⟨v13, ev13, h⟩ := bnd_some h
          obtain ⟨q14, hq14, h⟩ := bind_some h
          refine goDraw (N := 122) (m0 := 15) (hints := [(8, .val (one (ci .i64 v13))), (12, .call (one (ci .i64 (q14))))]) (l := [3, 4, 6, 8, 9, 10]) (m := [3, 4, 6, 10]) (s₂ := ⟨[(3, one (.ptr 3 0)), (4, one (.ptr 4 0)), (6, one (.ptr 6 0)), (8, one (ci .i64 (q1))), (9, one (ci .i64 (q2))), (10, one (.ptr 10 0))], [(3, 24, [ci .i64 (x0.c0), ci .i64 (x0.c1), ci .i64 (x0.c2), ci .i64 (x0.c3), ci .i64 (x0.c4), ci .i64 (x0.c5), ci .i64 (x0.c6), ci .i64 (x0.c7)]), (4, 24, [ci .i64 (x1.c0), ci .i64 (x1.c1), ci .i64 (x1.c2), ci .i64 (x1.c3), ci .i64 (x1.c4), ci .i64 (x1.c5), ci .i64 (x1.c6), ci .i64 (x1.c7)]), (6, 24, [ci .i64 0, ci .i64 0, ci .i64 0, ci .i64 0, ci .i64 0, ci .i64 0, ci .i64 0, ci .i64 0]), (10, 24, [ci .i64 ((IntKind.wrap .i64 ((x0.c0) + (q12)))), ci .i64 ((IntKind.wrap .i64 ((x0.c1) + (q14)))), ci .i64 0, ci .i64 0, ci .i64 0, ci .i64 0, ci .i64 0, ci .i64 0])]⟩) (ob := (True ∧ True ∧ True ∧ True ∧ True ∧ True ∧ True ∧ True ∧ (True ∧ one (ci .i64 ((IntKind.wrap .i64 (((IntKind.wrap .i64 ((x1.c1) - (x0.c1)))) * (q1))))) = one (ci .i64 v13)) ∧ True ∧ True ∧ True ∧ PureC Try.prog 21 [one (ci .i64 (v13)), one (ci .i64 ((IntKind.wrap .i64 ((q1) - (q2)))))] (one (ci .i64 (q14))) ∧ True ∧ True ∧ True) ∧ (True ∧ True)) (by kernel_rfl) hN (by kernel_rfl) (by kernel_rfl) ⟨⟨trivial, trivial, trivial, trivial, trivial, trivial, trivial, trivial, ⟨trivial, congrArg (fun x => one (ci .i64 x)) ev13⟩, trivial, trivial, trivial, (glazierref01_Down_ok fl (v13) ((IntKind.wrap .i64 ((q1) - (q2)))) _ hq14), trivial, trivial, trivial⟩, ⟨trivial, trivial⟩⟩ (by decide) (by decide) ?_
          refine thenC ?_
          refine goSeq (by kernel_rfl) ?_
          obtain ⟨v15, ev15, h⟩ := bnd_some h
          obtain ⟨q16, hq16, h⟩ := bind_some h
          refine goDraw (N := 122) (m0 := 15) (hints := [(8, .val (one (ci .i64 v15))), (12, .call (one (ci .i64 (q16))))]) (l := [3, 4, 6, 8, 9, 10]) (m := [3, 4, 6, 10]) (s₂ := ⟨[(3, one (.ptr 3 0)), (4, one (.ptr 4 0)), (6, one (.ptr 6 0)), (8, one (ci .i64 (q1))), (9, one (ci .i64 (q2))), (10, one (.ptr 10 0))], [(3, 24, [ci .i64 (x0.c0), ci .i64 (x0.c1), ci .i64 (x0.c2), ci .i64 (x0.c3), ci .i64 (x0.c4), ci .i64 (x0.c5), ci .i64 (x0.c6), ci .i64 (x0.c7)]), (4, 24, [ci .i64 (x1.c0), ci .i64 (x1.c1), ci .i64 (x1.c2), ci .i64 (x1.c3), ci .i64 (x1.c4), ci .i64 (x1.c5), ci .i64 (x1.c6), ci .i64 (x1.c7)]), (6, 24, [ci .i64 0, ci .i64 0, ci .i64 0, ci .i64 0, ci .i64 0, ci .i64 0, ci .i64 0, ci .i64 0]), (10, 24, [ci .i64 ((IntKind.wrap .i64 ((x0.c0) + (q12)))), ci .i64 ((IntKind.wrap .i64 ((x0.c1) + (q14)))), ci .i64 ((IntKind.wrap .i64 ((x0.c2) + (q16)))), ci .i64 0, ci .i64 0, ci .i64 0, ci .i64 0, ci .i64 0])]⟩) (ob := (True ∧ True ∧ True ∧ True ∧ True ∧ True ∧ True ∧ True ∧ (True ∧ one (ci .i64 ((IntKind.wrap .i64 (((IntKind.wrap .i64 ((x1.c2) - (x0.c2)))) * (q1))))) = one (ci .i64 v15)) ∧ True ∧ True ∧ True ∧ PureC Try.prog 21 [one (ci .i64 (v15)), one (ci .i64 ((IntKind.wrap .i64 ((q1) - (q2)))))] (one (ci .i64 (q16))) ∧ True ∧ True ∧ True) ∧ (True ∧ True)) (by kernel_rfl) hN (by kernel_rfl) (by kernel_rfl) ⟨⟨trivial, trivial, trivial, trivial, trivial, trivial, trivial, trivial, ⟨trivial, congrArg (fun x => one (ci .i64 x)) ev15⟩, trivial, trivial, trivial, (glazierref01_Down_ok fl (v15) ((IntKind.wrap .i64 ((q1) - (q2)))) _ hq16), trivial, trivial, trivial⟩, ⟨trivial, trivial⟩⟩ (by decide) (by decide) ?_
          refine thenC ?_
          refine goSeq (by kernel_rfl) ?_
          obtain ⟨v17, ev17, h⟩ := bnd_some h
          obtain ⟨q18, hq18, h⟩ := bind_some h
          refine goDraw (N := 122) (m0 := 15) (hints := [(8, .val (one (ci .i64 v17))), (12, .call (one (ci .i64 (q18))))]) (l := [3, 4, 6, 8, 9, 10]) (m := [3, 4, 6, 10]) (s₂ := ⟨[(3, one (.ptr 3 0)), (4, one (.ptr 4 0)), (6, one (.ptr 6 0)), (8, one (ci .i64 (q1))), (9, one (ci .i64 (q2))), (10, one (.ptr 10 0))], [(3, 24, [ci .i64 (x0.c0), ci .i64 (x0.c1), ci .i64 (x0.c2), ci .i64 (x0.c3), ci .i64 (x0.c4), ci .i64 (x0.c5), ci .i64 (x0.c6), ci .i64 (x0.c7)]), (4, 24, [ci .i64 (x1.c0), ci .i64 (x1.c1), ci .i64 (x1.c2), ci .i64 (x1.c3), ci .i64 (x1.c4), ci .i64 (x1.c5), ci .i64 (x1.c6), ci .i64 (x1.c7)]), (6, 24, [ci .i64 0, ci .i64 0, ci .i64 0, ci .i64 0, ci .i64 0, ci .i64 0, ci .i64 0, ci .i64 0]), (10, 24, [ci .i64 ((IntKind.wrap .i64 ((x0.c0) + (q12)))), ci .i64 ((IntKind.wrap .i64 ((x0.c1) + (q14)))), ci .i64 ((IntKind.wrap .i64 ((x0.c2) + (q16)))), ci .i64 ((IntKind.wrap .i64 ((x0.c3) + (q18)))), ci .i64 0, ci .i64 0, ci .i64 0, ci .i64 0])]⟩) (ob := (True ∧ True ∧ True ∧ True ∧ True ∧ True ∧ True ∧ True ∧ (True ∧ one (ci .i64 ((IntKind.wrap .i64 (((IntKind.wrap .i64 ((x1.c3) - (x0.c3)))) * (q1))))) = one (ci .i64 v17)) ∧ True ∧ True ∧ True ∧ PureC Try.prog 21 [one (ci .i64 (v17)), one (ci .i64 ((IntKind.wrap .i64 ((q1) - (q2)))))] (one (ci .i64 (q18))) ∧ True ∧ True ∧ True) ∧ (True ∧ True)) (by kernel_rfl) hN (by kernel_rfl) (by kernel_rfl) ⟨⟨trivial, trivial, trivial, trivial, trivial, trivial, trivial, trivial, ⟨trivial, congrArg (fun x => one (ci .i64 x)) ev17⟩, trivial, trivial, trivial, (glazierref01_Down_ok fl (v17) ((IntKind.wrap .i64 ((q1) - (q2)))) _ hq18), trivial, trivial, trivial⟩, ⟨trivial, trivial⟩⟩ (by decide) (by decide) ?_
          refine thenC ?_
          refine goSeq (by kernel_rfl) ?_
          refine goSeq (by kernel_rfl) ?_
          refine goReg (N := 122) (hints := []) (l := [3, 4, 6, 8, 9, 10, 11]) (m := [3, 4, 6, 10]) (s₂ := ⟨[(3, one (.ptr 3 0)), (4, one (.ptr 4 0)), (6, one (.ptr 6 0)), (8, one (ci .i64 (q1))), (9, one (ci .i64 (q2))), (10, one (.ptr 10 0)), (11, one (ci .i64 0))], [(3, 24, [ci .i64 (x0.c0), ci .i64 (x0.c1), ci .i64 (x0.c2), ci .i64 (x0.c3), ci .i64 (x0.c4), ci .i64 (x0.c5), ci .i64 (x0.c6), ci .i64 (x0.c7)]), (4, 24, [ci .i64 (x1.c0), ci .i64 (x1.c1), ci .i64 (x1.c2), ci .i64 (x1.c3), ci .i64 (x1.c4), ci .i64 (x1.c5), ci .i64 (x1.c6), ci .i64 (x1.c7)]), (6, 24, [ci .i64 0, ci .i64 0, ci .i64 0, ci .i64 0, ci .i64 0, ci .i64 0, ci .i64 0, ci .i64 0]), (10, 24, [ci .i64 ((IntKind.wrap .i64 ((x0.c0) + (q12)))), ci .i64 ((IntKind.wrap .i64 ((x0.c1) + (q14)))), ci .i64 ((IntKind.wrap .i64 ((x0.c2) + (q16)))), ci .i64 ((IntKind.wrap .i64 ((x0.c3) + (q18)))), ci .i64 0, ci .i64 0, ci .i64 0, ci .i64 0])]⟩) (ob := True ∧ True) (by kernel_rfl) hN (by kernel_rfl) ⟨trivial, trivial⟩ (by decide) (by decide) ?_
          refine thenC ?_
          refine goBlock (i := 0) (by kernel_rfl) (by kernel_rfl) ?_
          refine goLoop1 (by kernel_rfl) ?_
          refine roundC ?_
          refine goSeq (by kernel_rfl) ?_
          refine goSeq (by kernel_rfl) ?_
          refine goReg (N := 122) (hints := []) (l := [3, 4, 6, 8, 9, 10, 11, 95]) (m := [3, 4, 6, 10]) (s₂ := ⟨[(3, one (.ptr 3 0)), (4, one (.ptr 4 0)), (6, one (.ptr 6 0)), (8, one (ci .i64 (q1))), (9, one (ci .i64 (q2))), (10, one (.ptr 10 0)), (11, one (ci .i64 0)), (95, one (cb true))], [(3, 24, [ci .i64 (x0.c0), ci .i64 (x0.c1), ci .i64 (x0.c2), ci .i64 (x0.c3), ci .i64 (x0.c4), ci .i64 (x0.c5), ci .i64 (x0.c6), ci .i64 (x0.c7)]), (4, 24, [ci .i64 (x1.c0), ci .i64 (x1.c1), ci .i64 (x1.c2), ci .i64 (x1.c3), ci .i64 (x1.c4), ci .i64 (x1.c5), ci .i64 (x1.c6), ci .i64 (x1.c7)]), (6, 24, [ci .i64 0, ci .i64 0, ci .i64 0, ci .i64 0, ci .i64 0, ci .i64 0, ci .i64 0, ci .i64 0]), (10, 24, [ci .i64 ((IntKind.wrap .i64 ((x0.c0) + (q12)))), ci .i64 ((IntKind.wrap .i64 ((x0.c1) + (q14)))), ci .i64 ((IntKind.wrap .i64 ((x0.c2) + (q16)))), ci .i64 ((IntKind.wrap .i64 ((x0.c3) + (q18)))), ci .i64 0, ci .i64 0, ci .i64 0, ci .i64 0])]⟩) (ob := True ∧ True ∧ True) (by kernel_rfl) hN (by kernel_rfl) ⟨trivial, trivial, trivial⟩ (by decide) (by decide) ?_
          refine thenC ?_
          refine goCondT (by kernel_rfl) (by kernel_rfl) ?_
          refine goSkip (by kernel_rfl) ?_
          refine thenC ?_
          refine goSeq (by kernel_rfl) ?_
          refine goBlock (i := 1) (by kernel_rfl) (by kernel_rfl) ?_
          obtain ⟨v53, ev53, h⟩ := bnd_some h
          obtain ⟨q54, hq54, h⟩ := bind_some h
          refine goDraw (N := 122) (m0 := 23) (hints := [(15, .val (one (ci .i64 v53))), (19, .call (one (ci .i64 (q54))))]) (l := [3, 4, 6, 8, 9, 10, 11]) (m := [3, 4, 6, 10]) (s₂ := ⟨[(3, one (.ptr 3 0)), (4, one (.ptr 4 0)), (6, one (.ptr 6 0)), (8, one (ci .i64 (q1))), (9, one (ci .i64 (q2))), (10, one (.ptr 10 0)), (11, one (ci .i64 0))], [(3, 24, [ci .i64 (x0.c0), ci .i64 (x0.c1), ci .i64 (x0.c2), ci .i64 (x0.c3), ci .i64 (x0.c4), ci .i64 (x0.c5), ci .i64 (x0.c6), ci .i64 (x0.c7)]), (4, 24, [ci .i64 (x1.c0), ci .i64 (x1.c1), ci .i64 (x1.c2), ci .i64 (x1.c3), ci .i64 (x1.c4), ci .i64 (x1.c5), ci .i64 (x1.c6), ci .i64 (x1.c7)]), (6, 24, [ci .i64 0, ci .i64 0, ci .i64 0, ci .i64 0, ci .i64 0, ci .i64 0, ci .i64 0, ci .i64 0]), (10, 24, [ci .i64 ((IntKind.wrap .i64 ((x0.c0) + (q12)))), ci .i64 ((IntKind.wrap .i64 ((x0.c1) + (q14)))), ci .i64 ((IntKind.wrap .i64 ((x0.c2) + (q16)))), ci .i64 ((IntKind.wrap .i64 ((x0.c3) + (q18)))), ci .i64 ((IntKind.wrap .i64 ((x0.c4) + (q54)))), ci .i64 0, ci .i64 0, ci .i64 0])]⟩) (ob := (True ∧ True ∧ True ∧ (0 ≤ (0 : Int) ∧ (0 : Int) < 4) ∧ True ∧ True ∧ True ∧ (0 ≤ (0 : Int) ∧ (0 : Int) < 4) ∧ True ∧ True ∧ True ∧ (0 ≤ (0 : Int) ∧ (0 : Int) < 4) ∧ True ∧ True ∧ True ∧ (True ∧ one (ci .i64 ((IntKind.wrap .i64 (((IntKind.wrap .i64 ((x1.c4) - (x0.c4)))) * (q1))))) = one (ci .i64 v53)) ∧ True ∧ True ∧ True ∧ PureC Try.prog 21 [one (ci .i64 (v53)), one (ci .i64 ((IntKind.wrap .i64 ((q1) - (q2)))))] (one (ci .i64 (q54))) ∧ True ∧ True ∧ (0 ≤ (0 : Int) ∧ (0 : Int) < 4) ∧ True) ∧ (True ∧ True)) (by kernel_rfl) hN (by kernel_rfl) (by kernel_rfl) ⟨⟨trivial, trivial, trivial, (by decide), trivial, trivial, trivial, (by decide), trivial, trivial, trivial, (by decide), trivial, trivial, trivial, ⟨trivial, congrArg (fun x => one (ci .i64 x)) ev53⟩, trivial, trivial, trivial, (glazierref01_Down_ok fl (v53) ((IntKind.wrap .i64 ((q1) - (q2)))) _ hq54), trivial, trivial, (by decide), trivial⟩, ⟨trivial, trivial⟩⟩ (by decide) (by decide) ?_
          refine blkN ?_
          refine thenC ?_
          refine goReg (N := 122) (hints := []) (l := [3, 4, 6, 8, 9, 10, 11]) (m := [3, 4, 6, 10]) (s₂ := ⟨[(3, one (.ptr 3 0)), (4, one (.ptr 4 0)), (6, one (.ptr 6 0)), (8, one (ci .i64 (q1))), (9, one (ci .i64 (q2))), (10, one (.ptr 10 0)), (11, one (ci .i64 1))], [(3, 24, [ci .i64 (x0.c0), ci .i64 (x0.c1), ci .i64 (x0.c2), ci .i64 (x0.c3), ci .i64 (x0.c4), ci .i64 (x0.c5), ci .i64 (x0.c6), ci .i64 (x0.c7)]), (4, 24, [ci .i64 (x1.c0), ci .i64 (x1.c1), ci .i64 (x1.c2), ci .i64 (x1.c3), ci .i64 (x1.c4), ci .i64 (x1.c5), ci .i64 (x1.c6), ci .i64 (x1.c7)]), (6, 24, [ci .i64 0, ci .i64 0, ci .i64 0, ci .i64 0, ci .i64 0, ci .i64 0, ci .i64 0, ci .i64 0]), (10, 24, [ci .i64 ((IntKind.wrap .i64 ((x0.c0) + (q12)))), ci .i64 ((IntKind.wrap .i64 ((x0.c1) + (q14)))), ci .i64 ((IntKind.wrap .i64 ((x0.c2) + (q16)))), ci .i64 ((IntKind.wrap .i64 ((x0.c3) + (q18)))), ci .i64 ((IntKind.wrap .i64 ((x0.c4) + (q54)))), ci .i64 0, ci .i64 0, ci .i64 0])]⟩) (ob := True ∧ True ∧ True ∧ True) (by kernel_rfl) hN (by kernel_rfl) ⟨trivial, trivial, trivial, trivial⟩ (by decide) (by decide) ?_
          refine thenN (roundC ?_)
          refine goSeq (by kernel_rfl) ?_
          refine goSeq (by kernel_rfl) ?_
          refine goReg (N := 122) (hints := []) (l := [3, 4, 6, 8, 9, 10, 11, 95]) (m := [3, 4, 6, 10]) (s₂ := ⟨[(3, one (.ptr 3 0)), (4, one (.ptr 4 0)), (6, one (.ptr 6 0)), (8, one (ci .i64 (q1))), (9, one (ci .i64 (q2))), (10, one (.ptr 10 0)), (11, one (ci .i64 1)), (95, one (cb true))], [(3, 24, [ci .i64 (x0.c0), ci .i64 (x0.c1), ci .i64 (x0.c2), ci .i64 (x0.c3), ci .i64 (x0.c4), ci .i64 (x0.c5), ci .i64 (x0.c6), ci .i64 (x0.c7)]), (4, 24, [ci .i64 (x1.c0), ci .i64 (x1.c1), ci .i64 (x1.c2), ci .i64 (x1.c3), ci .i64 (x1.c4), ci .i64 (x1.c5), ci .i64 (x1.c6), ci .i64 (x1.c7)]), (6, 24, [ci .i64 0, ci .i64 0, ci .i64 0, ci .i64 0, ci .i64 0, ci .i64 0, ci .i64 0, ci .i64 0]), (10, 24, [ci .i64 ((IntKind.wrap .i64 ((x0.c0) + (q12)))), ci .i64 ((IntKind.wrap .i64 ((x0.c1) + (q14)))), ci .i64 ((IntKind.wrap .i64 ((x0.c2) + (q16)))), ci .i64 ((IntKind.wrap .i64 ((x0.c3) + (q18)))), ci .i64 ((IntKind.wrap .i64 ((x0.c4) + (q54)))), ci .i64 0, ci .i64 0, ci .i64 0])]⟩) (ob := True ∧ True ∧ True) (by kernel_rfl) hN (by kernel_rfl) ⟨trivial, trivial, trivial⟩ (by decide) (by decide) ?_
          refine thenC ?_
          refine goCondT (by kernel_rfl) (by kernel_rfl) ?_
          refine goSkip (by kernel_rfl) ?_
          refine thenC ?_
          refine goSeq (by kernel_rfl) ?_
          refine goBlock (i := 1) (by kernel_rfl) (by kernel_rfl) ?_
          obtain ⟨v57, ev57, h⟩ := bnd_some h
          obtain ⟨q58, hq58, h⟩ := bind_some h
          refine goDraw (N := 122) (m0 := 23) (hints := [(15, .val (one (ci .i64 v57))), (19, .call (one (ci .i64 (q58))))]) (l := [3, 4, 6, 8, 9, 10, 11]) (m := [3, 4, 6, 10]) (s₂ := ⟨[(3, one (.ptr 3 0)), (4, one (.ptr 4 0)), (6, one (.ptr 6 0)), (8, one (ci .i64 (q1))), (9, one (ci .i64 (q2))), (10, one (.ptr 10 0)), (11, one (ci .i64 1))], [(3, 24, [ci .i64 (x0.c0), ci .i64 (x0.c1), ci .i64 (x0.c2), ci .i64 (x0.c3), ci .i64 (x0.c4), ci .i64 (x0.c5), ci .i64 (x0.c6), ci .i64 (x0.c7)]), (4, 24, [ci .i64 (x1.c0), ci .i64 (x1.c1), ci .i64 (x1.c2), ci .i64 (x1.c3), ci .i64 (x1.c4), ci .i64 (x1.c5), ci .i64 (x1.c6), ci .i64 (x1.c7)]), (6, 24, [ci .i64 0, ci .i64 0, ci .i64 0, ci .i64 0, ci .i64 0, ci .i64 0, ci .i64 0, ci .i64 0]), (10, 24, [ci .i64 ((IntKind.wrap .i64 ((x0.c0) + (q12)))), ci .i64 ((IntKind.wrap .i64 ((x0.c1) + (q14)))), ci .i64 ((IntKind.wrap .i64 ((x0.c2) + (q16)))), ci .i64 ((IntKind.wrap .i64 ((x0.c3) + (q18)))), ci .i64 ((IntKind.wrap .i64 ((x0.c4) + (q54)))), ci .i64 ((IntKind.wrap .i64 ((x0.c5) + (q58)))), ci .i64 0, ci .i64 0])]⟩) (ob := (True ∧ True ∧ True ∧ (0 ≤ (1 : Int) ∧ (1 : Int) < 4) ∧ True ∧ True ∧ True ∧ (0 ≤ (1 : Int) ∧ (1 : Int) < 4) ∧ True ∧ True ∧ True ∧ (0 ≤ (1 : Int) ∧ (1 : Int) < 4) ∧ True ∧ True ∧ True ∧ (True ∧ one (ci .i64 ((IntKind.wrap .i64 (((IntKind.wrap .i64 ((x1.c5) - (x0.c5)))) * (q1))))) = one (ci .i64 v57)) ∧ True ∧ True ∧ True ∧ PureC Try.prog 21 [one (ci .i64 (v57)), one (ci .i64 ((IntKind.wrap .i64 ((q1) - (q2)))))] (one (ci .i64 (q58))) ∧ True ∧ True ∧ (0 ≤ (1 : Int) ∧ (1 : Int) < 4) ∧ True) ∧ (True ∧ True)) (by kernel_rfl) hN (by kernel_rfl) (by kernel_rfl) ⟨⟨trivial, trivial, trivial, (by decide), trivial, trivial, trivial, (by decide), trivial, trivial, trivial, (by decide), trivial, trivial, trivial, ⟨trivial, congrArg (fun x => one (ci .i64 x)) ev57⟩, trivial, trivial, trivial, (glazierref01_Down_ok fl (v57) ((IntKind.wrap .i64 ((q1) - (q2)))) _ hq58), trivial, trivial, (by decide), trivial⟩, ⟨trivial, trivial⟩⟩ (by decide) (by decide) ?_
          refine blkN ?_
          refine thenC ?_
          refine goReg (N := 122) (hints := []) (l := [3, 4, 6, 8, 9, 10, 11]) (m := [3, 4, 6, 10]) (s₂ := ⟨[(3, one (.ptr 3 0)), (4, one (.ptr 4 0)), (6, one (.ptr 6 0)), (8, one (ci .i64 (q1))), (9, one (ci .i64 (q2))), (10, one (.ptr 10 0)), (11, one (ci .i64 2))], [(3, 24, [ci .i64 (x0.c0), ci .i64 (x0.c1), ci .i64 (x0.c2), ci .i64 (x0.c3), ci .i64 (x0.c4), ci .i64 (x0.c5), ci .i64 (x0.c6), ci .i64 (x0.c7)]), (4, 24, [ci .i64 (x1.c0), ci .i64 (x1.c1), ci .i64 (x1.c2), ci .i64 (x1.c3), ci .i64 (x1.c4), ci .i64 (x1.c5), ci .i64 (x1.c6), ci .i64 (x1.c7)]), (6, 24, [ci .i64 0, ci .i64 0, ci .i64 0, ci .i64 0, ci .i64 0, ci .i64 0, ci .i64 0, ci .i64 0]), (10, 24, [ci .i64 ((IntKind.wrap .i64 ((x0.c0) + (q12)))), ci .i64 ((IntKind.wrap .i64 ((x0.c1) + (q14)))), ci .i64 ((IntKind.wrap .i64 ((x0.c2) + (q16)))), ci .i64 ((IntKind.wrap .i64 ((x0.c3) + (q18)))), ci .i64 ((IntKind.wrap .i64 ((x0.c4) + (q54)))), ci .i64 ((IntKind.wrap .i64 ((x0.c5) + (q58)))), ci .i64 0, ci .i64 0])]⟩) (ob := True ∧ True ∧ True ∧ True) (by kernel_rfl) hN (by kernel_rfl) ⟨trivial, trivial, trivial, trivial⟩ (by decide) (by decide) ?_
          refine thenN (roundC ?_)
          refine goSeq (by kernel_rfl) ?_
          refine goSeq (by kernel_rfl) ?_
          refine goReg (N := 122) (hints := []) (l := [3, 4, 6, 8, 9, 10, 11, 95]) (m := [3, 4, 6, 10]) (s₂ := ⟨[(3, one (.ptr 3 0)), (4, one (.ptr 4 0)), (6, one (.ptr 6 0)), (8, one (ci .i64 (q1))), (9, one (ci .i64 (q2))), (10, one (.ptr 10 0)), (11, one (ci .i64 2)), (95, one (cb true))], [(3, 24, [ci .i64 (x0.c0), ci .i64 (x0.c1), ci .i64 (x0.c2), ci .i64 (x0.c3), ci .i64 (x0.c4), ci .i64 (x0.c5), ci .i64 (x0.c6), ci .i64 (x0.c7)]), (4, 24, [ci .i64 (x1.c0), ci .i64 (x1.c1), ci .i64 (x1.c2), ci .i64 (x1.c3), ci .i64 (x1.c4), ci .i64 (x1.c5), ci .i64 (x1.c6), ci .i64 (x1.c7)]), (6, 24, [ci .i64 0, ci .i64 0, ci .i64 0, ci .i64 0, ci .i64 0, ci .i64 0, ci .i64 0, ci .i64 0]), (10, 24, [ci .i64 ((IntKind.wrap .i64 ((x0.c0) + (q12)))), ci .i64 ((IntKind.wrap .i64 ((x0.c1) + (q14)))), ci .i64 ((IntKind.wrap .i64 ((x0.c2) + (q16)))), ci .i64 ((IntKind.wrap .i64 ((x0.c3) + (q18)))), ci .i64 ((IntKind.wrap .i64 ((x0.c4) + (q54)))), ci .i64 ((IntKind.wrap .i64 ((x0.c5) + (q58)))), ci .i64 0, ci .i64 0])]⟩) (ob := True ∧ True ∧ True) (by kernel_rfl) hN (by kernel_rfl) ⟨trivial, trivial, trivial⟩ (by decide) (by decide) ?_
          refine thenC ?_
          refine goCondT (by kernel_rfl) (by kernel_rfl) ?_
          refine goSkip (by kernel_rfl) ?_
          refine thenC ?_
          refine goSeq (by kernel_rfl) ?_
          refine goBlock (i := 1) (by kernel_rfl) (by kernel_rfl) ?_
          obtain ⟨v61, ev61, h⟩ := bnd_some h
          obtain ⟨q62, hq62, h⟩ := bind_some h
          refine goDraw (N := 122) (m0 := 23) (hints := [(15, .val (one (ci .i64 v61))), (19, .call (one (ci .i64 (q62))))]) (l := [3, 4, 6, 8, 9, 10, 11]) (m := [3, 4, 6, 10]) (s₂ := ⟨[(3, one (.ptr 3 0)), (4, one (.ptr 4 0)), (6, one (.ptr 6 0)), (8, one (ci .i64 (q1))), (9, one (ci .i64 (q2))), (10, one (.ptr 10 0)), (11, one (ci .i64 2))], [(3, 24, [ci .i64 (x0.c0), ci .i64 (x0.c1), ci .i64 (x0.c2), ci .i64 (x0.c3), ci .i64 (x0.c4), ci .i64 (x0.c5), ci .i64 (x0.c6), ci .i64 (x0.c7)]), (4, 24, [ci .i64 (x1.c0), ci .i64 (x1.c1), ci .i64 (x1.c2), ci .i64 (x1.c3), ci .i64 (x1.c4), ci .i64 (x1.c5), ci .i64 (x1.c6), ci .i64 (x1.c7)]), (6, 24, [ci .i64 0, ci .i64 0, ci .i64 0, ci .i64 0, ci .i64 0, ci .i64 0, ci .i64 0, ci .i64 0]), (10, 24, [ci .i64 ((IntKind.wrap .i64 ((x0.c0) + (q12)))), ci .i64 ((IntKind.wrap .i64 ((x0.c1) + (q14)))), ci .i64 ((IntKind.wrap .i64 ((x0.c2) + (q16)))), ci .i64 ((IntKind.wrap .i64 ((x0.c3) + (q18)))), ci .i64 ((IntKind.wrap .i64 ((x0.c4) + (q54)))), ci .i64 ((IntKind.wrap .i64 ((x0.c5) + (q58)))), ci .i64 ((IntKind.wrap .i64 ((x0.c6) + (q62)))), ci .i64 0])]⟩) (ob := (True ∧ True ∧ True ∧ (0 ≤ (2 : Int) ∧ (2 : Int) < 4) ∧ True ∧ True ∧ True ∧ (0 ≤ (2 : Int) ∧ (2 : Int) < 4) ∧ True ∧ True ∧ True ∧ (0 ≤ (2 : Int) ∧ (2 : Int) < 4) ∧ True ∧ True ∧ True ∧ (True ∧ one (ci .i64 ((IntKind.wrap .i64 (((IntKind.wrap .i64 ((x1.c6) - (x0.c6)))) * (q1))))) = one (ci .i64 v61)) ∧ True ∧ True ∧ True ∧ PureC Try.prog 21 [one (ci .i64 (v61)), one (ci .i64 ((IntKind.wrap .i64 ((q1) - (q2)))))] (one (ci .i64 (q62))) ∧ True ∧ True ∧ (0 ≤ (2 : Int) ∧ (2 : Int) < 4) ∧ True) ∧ (True ∧ True)) (by kernel_rfl) hN (by kernel_rfl) (by kernel_rfl) ⟨⟨trivial, trivial, trivial, (by decide), trivial, trivial, trivial, (by decide), trivial, trivial, trivial, (by decide), trivial, trivial, trivial, ⟨trivial, congrArg (fun x => one (ci .i64 x)) ev61⟩, trivial, trivial, trivial, (glazierref01_Down_ok fl (v61) ((IntKind.wrap .i64 ((q1) - (q2)))) _ hq62), trivial, trivial, (by decide), trivial⟩, ⟨trivial, trivial⟩⟩ (by decide) (by decide) ?_
          refine blkN ?_
          refine thenC ?_
          refine goReg (N := 122) (hints := []) (l := [3, 4, 6, 8, 9, 10, 11]) (m := [3, 4, 6, 10]) (s₂ := ⟨[(3, one (.ptr 3 0)), (4, one (.ptr 4 0)), (6, one (.ptr 6 0)), (8, one (ci .i64 (q1))), (9, one (ci .i64 (q2))), (10, one (.ptr 10 0)), (11, one (ci .i64 3))], [(3, 24, [ci .i64 (x0.c0), ci .i64 (x0.c1), ci .i64 (x0.c2), ci .i64 (x0.c3), ci .i64 (x0.c4), ci .i64 (x0.c5), ci .i64 (x0.c6), ci .i64 (x0.c7)]), (4, 24, [ci .i64 (x1.c0), ci .i64 (x1.c1), ci .i64 (x1.c2), ci .i64 (x1.c3), ci .i64 (x1.c4), ci .i64 (x1.c5), ci .i64 (x1.c6), ci .i64 (x1.c7)]), (6, 24, [ci .i64 0, ci .i64 0, ci .i64 0, ci .i64 0, ci .i64 0, ci .i64 0, ci .i64 0, ci .i64 0]), (10, 24, [ci .i64 ((IntKind.wrap .i64 ((x0.c0) + (q12)))), ci .i64 ((IntKind.wrap .i64 ((x0.c1) + (q14)))), ci .i64 ((IntKind.wrap .i64 ((x0.c2) + (q16)))), ci .i64 ((IntKind.wrap .i64 ((x0.c3) + (q18)))), ci .i64 ((IntKind.wrap .i64 ((x0.c4) + (q54)))), ci .i64 ((IntKind.wrap .i64 ((x0.c5) + (q58)))), ci .i64 ((IntKind.wrap .i64 ((x0.c6) + (q62)))), ci .i64 0])]⟩) (ob := True ∧ True ∧ True ∧ True) (by kernel_rfl) hN (by kernel_rfl) ⟨trivial, trivial, trivial, trivial⟩ (by decide) (by decide) ?_
          refine thenN (roundC ?_)
          refine goSeq (by kernel_rfl) ?_
          refine goSeq (by kernel_rfl) ?_
          refine goReg (N := 122) (hints := []) (l := [3, 4, 6, 8, 9, 10, 11, 95]) (m := [3, 4, 6, 10]) (s₂ := ⟨[(3, one (.ptr 3 0)), (4, one (.ptr 4 0)), (6, one (.ptr 6 0)), (8, one (ci .i64 (q1))), (9, one (ci .i64 (q2))), (10, one (.ptr 10 0)), (11, one (ci .i64 3)), (95, one (cb true))], [(3, 24, [ci .i64 (x0.c0), ci .i64 (x0.c1), ci .i64 (x0.c2), ci .i64 (x0.c3), ci .i64 (x0.c4), ci .i64 (x0.c5), ci .i64 (x0.c6), ci .i64 (x0.c7)]), (4, 24, [ci .i64 (x1.c0), ci .i64 (x1.c1), ci .i64 (x1.c2), ci .i64 (x1.c3), ci .i64 (x1.c4), ci .i64 (x1.c5), ci .i64 (x1.c6), ci .i64 (x1.c7)]), (6, 24, [ci .i64 0, ci .i64 0, ci .i64 0, ci .i64 0, ci .i64 0, ci .i64 0, ci .i64 0, ci .i64 0]), (10, 24, [ci .i64 ((IntKind.wrap .i64 ((x0.c0) + (q12)))), ci .i64 ((IntKind.wrap .i64 ((x0.c1) + (q14)))), ci .i64 ((IntKind.wrap .i64 ((x0.c2) + (q16)))), ci .i64 ((IntKind.wrap .i64 ((x0.c3) + (q18)))), ci .i64 ((IntKind.wrap .i64 ((x0.c4) + (q54)))), ci .i64 ((IntKind.wrap .i64 ((x0.c5) + (q58)))), ci .i64 ((IntKind.wrap .i64 ((x0.c6) + (q62)))), ci .i64 0])]⟩) (ob := True ∧ True ∧ True) (by kernel_rfl) hN (by kernel_rfl) ⟨trivial, trivial, trivial⟩ (by decide) (by decide) ?_
          refine thenC ?_
          refine goCondT (by kernel_rfl) (by kernel_rfl) ?_
          refine goSkip (by kernel_rfl) ?_
          refine thenC ?_
          refine goSeq (by kernel_rfl) ?_
          refine goBlock (i := 1) (by kernel_rfl) (by kernel_rfl) ?_
          obtain ⟨v65, ev65, h⟩ := bnd_some h
          obtain ⟨q66, hq66, h⟩ := bind_some h
          refine goDraw (N := 122) (m0 := 23) (hints := [(15, .val (one (ci .i64 v65))), (19, .call (one (ci .i64 (q66))))]) (l := [3, 4, 6, 8, 9, 10, 11]) (m := [3, 4, 6, 10]) (s₂ := ⟨[(3, one (.ptr 3 0)), (4, one (.ptr 4 0)), (6, one (.ptr 6 0)), (8, one (ci .i64 (q1))), (9, one (ci .i64 (q2))), (10, one (.ptr 10 0)), (11, one (ci .i64 3))], [(3, 24, [ci .i64 (x0.c0), ci .i64 (x0.c1), ci .i64 (x0.c2), ci .i64 (x0.c3), ci .i64 (x0.c4), ci .i64 (x0.c5), ci .i64 (x0.c6), ci .i64 (x0.c7)]), (4, 24, [ci .i64 (x1.c0), ci .i64 (x1.c1), ci .i64 (x1.c2), ci .i64 (x1.c3), ci .i64 (x1.c4), ci .i64 (x1.c5), ci .i64 (x1.c6), ci .i64 (x1.c7)]), (6, 24, [ci .i64 0, ci .i64 0, ci .i64 0, ci .i64 0, ci .i64 0, ci .i64 0, ci .i64 0, ci .i64 0]), (10, 24, [ci .i64 ((IntKind.wrap .i64 ((x0.c0) + (q12)))), ci .i64 ((IntKind.wrap .i64 ((x0.c1) + (q14)))), ci .i64 ((IntKind.wrap .i64 ((x0.c2) + (q16)))), ci .i64 ((IntKind.wrap .i64 ((x0.c3) + (q18)))), ci .i64 ((IntKind.wrap .i64 ((x0.c4) + (q54)))), ci .i64 ((IntKind.wrap .i64 ((x0.c5) + (q58)))), ci .i64 ((IntKind.wrap .i64 ((x0.c6) + (q62)))), ci .i64 ((IntKind.wrap .i64 ((x0.c7) + (q66))))])]⟩) (ob := (True ∧ True ∧ True ∧ (0 ≤ (3 : Int) ∧ (3 : Int) < 4) ∧ True ∧ True ∧ True ∧ (0 ≤ (3 : Int) ∧ (3 : Int) < 4) ∧ True ∧ True ∧ True ∧ (0 ≤ (3 : Int) ∧ (3 : Int) < 4) ∧ True ∧ True ∧ True ∧ (True ∧ one (ci .i64 ((IntKind.wrap .i64 (((IntKind.wrap .i64 ((x1.c7) - (x0.c7)))) * (q1))))) = one (ci .i64 v65)) ∧ True ∧ True ∧ True ∧ PureC Try.prog 21 [one (ci .i64 (v65)), one (ci .i64 ((IntKind.wrap .i64 ((q1) - (q2)))))] (one (ci .i64 (q66))) ∧ True ∧ True ∧ (0 ≤ (3 : Int) ∧ (3 : Int) < 4) ∧ True) ∧ (True ∧ True)) (by kernel_rfl) hN (by kernel_rfl) (by kernel_rfl) ⟨⟨trivial, trivial, trivial, (by decide), trivial, trivial, trivial, (by decide), trivial, trivial, trivial, (by decide), trivial, trivial, trivial, ⟨trivial, congrArg (fun x => one (ci .i64 x)) ev65⟩, trivial, trivial, trivial, (glazierref01_Down_ok fl (v65) ((IntKind.wrap .i64 ((q1) - (q2)))) _ hq66), trivial, trivial, (by decide), trivial⟩, ⟨trivial, trivial⟩⟩ (by decide) (by decide) ?_
          refine blkN ?_
          refine thenC ?_
          refine goReg (N := 122) (hints := []) (l := [3, 4, 6, 8, 9, 10, 11]) (m := [3, 4, 6, 10]) (s₂ := ⟨[(3, one (.ptr 3 0)), (4, one (.ptr 4 0)), (6, one (.ptr 6 0)), (8, one (ci .i64 (q1))), (9, one (ci .i64 (q2))), (10, one (.ptr 10 0)), (11, one (ci .i64 4))], [(3, 24, [ci .i64 (x0.c0), ci .i64 (x0.c1), ci .i64 (x0.c2), ci .i64 (x0.c3), ci .i64 (x0.c4), ci .i64 (x0.c5), ci .i64 (x0.c6), ci .i64 (x0.c7)]), (4, 24, [ci .i64 (x1.c0), ci .i64 (x1.c1), ci .i64 (x1.c2), ci .i64 (x1.c3), ci .i64 (x1.c4), ci .i64 (x1.c5), ci .i64 (x1.c6), ci .i64 (x1.c7)]), (6, 24, [ci .i64 0, ci .i64 0, ci .i64 0, ci .i64 0, ci .i64 0, ci .i64 0, ci .i64 0, ci .i64 0]), (10, 24, [ci .i64 ((IntKind.wrap .i64 ((x0.c0) + (q12)))), ci .i64 ((IntKind.wrap .i64 ((x0.c1) + (q14)))), ci .i64 ((IntKind.wrap .i64 ((x0.c2) + (q16)))), ci .i64 ((IntKind.wrap .i64 ((x0.c3) + (q18)))), ci .i64 ((IntKind.wrap .i64 ((x0.c4) + (q54)))), ci .i64 ((IntKind.wrap .i64 ((x0.c5) + (q58)))), ci .i64 ((IntKind.wrap .i64 ((x0.c6) + (q62)))), ci .i64 ((IntKind.wrap .i64 ((x0.c7) + (q66))))])]⟩) (ob := True ∧ True ∧ True ∧ True) (by kernel_rfl) hN (by kernel_rfl) ⟨trivial, trivial, trivial, trivial⟩ (by decide) (by decide) ?_
          refine thenN (roundC ?_)
          refine goSeq (by kernel_rfl) ?_
          refine goSeq (by kernel_rfl) ?_
          refine goReg (N := 122) (hints := []) (l := [3, 4, 6, 8, 9, 10, 11, 95]) (m := [3, 4, 6, 10]) (s₂ := ⟨[(3, one (.ptr 3 0)), (4, one (.ptr 4 0)), (6, one (.ptr 6 0)), (8, one (ci .i64 (q1))), (9, one (ci .i64 (q2))), (10, one (.ptr 10 0)), (11, one (ci .i64 4)), (95, one (cb false))], [(3, 24, [ci .i64 (x0.c0), ci .i64 (x0.c1), ci .i64 (x0.c2), ci .i64 (x0.c3), ci .i64 (x0.c4), ci .i64 (x0.c5), ci .i64 (x0.c6), ci .i64 (x0.c7)]), (4, 24, [ci .i64 (x1.c0), ci .i64 (x1.c1), ci .i64 (x1.c2), ci .i64 (x1.c3), ci .i64 (x1.c4), ci .i64 (x1.c5), ci .i64 (x1.c6), ci .i64 (x1.c7)]), (6, 24, [ci .i64 0, ci .i64 0, ci .i64 0, ci .i64 0, ci .i64 0, ci .i64 0, ci .i64 0, ci .i64 0]), (10, 24, [ci .i64 ((IntKind.wrap .i64 ((x0.c0) + (q12)))), ci .i64 ((IntKind.wrap .i64 ((x0.c1) + (q14)))), ci .i64 ((IntKind.wrap .i64 ((x0.c2) + (q16)))), ci .i64 ((IntKind.wrap .i64 ((x0.c3) + (q18)))), ci .i64 ((IntKind.wrap .i64 ((x0.c4) + (q54)))), ci .i64 ((IntKind.wrap .i64 ((x0.c5) + (q58)))), ci .i64 ((IntKind.wrap .i64 ((x0.c6) + (q62)))), ci .i64 ((IntKind.wrap .i64 ((x0.c7) + (q66))))])]⟩) (ob := True ∧ True ∧ True) (by kernel_rfl) hN (by kernel_rfl) ⟨trivial, trivial, trivial⟩ (by decide) (by decide) ?_
          refine thenC ?_
          refine goCondF (by kernel_rfl) (by kernel_rfl) ?_
          refine goExit (i := 0) (by kernel_rfl) (by kernel_rfl) ?_
          refine thenExit ?_
          refine thenExit ?_
          refine blkHit rfl ?_
          refine thenC ?_
          refine goSeq (by kernel_rfl) ?_
          refine goReg (N := 122) (hints := []) (l := [6, 7]) (m := [6]) (s₂ := ⟨[(6, one (.ptr 6 0)), (7, one (cb true))], [(6, 24, [ci .i64 ((IntKind.wrap .i64 ((x0.c0) + (q12)))), ci .i64 ((IntKind.wrap .i64 ((x0.c1) + (q14)))), ci .i64 ((IntKind.wrap .i64 ((x0.c2) + (q16)))), ci .i64 ((IntKind.wrap .i64 ((x0.c3) + (q18)))), ci .i64 ((IntKind.wrap .i64 ((x0.c4) + (q54)))), ci .i64 ((IntKind.wrap .i64 ((x0.c5) + (q58)))), ci .i64 ((IntKind.wrap .i64 ((x0.c6) + (q62)))), ci .i64 ((IntKind.wrap .i64 ((x0.c7) + (q66))))])]⟩) (ob := True ∧ True ∧ True ∧ True) (by kernel_rfl) hN (by kernel_rfl) ⟨trivial, trivial, trivial, trivial⟩ (by decide) (by decide) ?_
          refine thenC ?_
          refine goRet (by kernel_rfl) ?_
          obtain rfl := top_some h
          exact retOk (by kernel_rfl)

theorem glazierref04_within_ok (x0 : Int) (x1 : Int) (r : Bool) (h : glazierref04_within x0 x1 = some r) : PureC Try.prog 23 [one (ci .i64 (x0)), one (ci .i64 (x1))] (one (cb r)) := by
  refine fnOf (fn := Try.f23) (n := 14) (rs := [ResultVar.tmp 4]) (s := ⟨[(0, one (ci .i64 (x0))), (1, one (ci .i64 (x1)))], []⟩) (by kernel_rfl) (by kernel_rfl) (by kernel_rfl) (by kernel_rfl) (by kernel_rfl) (by kernel_rfl) (by kernel_rfl) (by kernel_rfl) (fun E hN => ?_)
  unfold glazierref04_within at h
  refine goSeq (by kernel_rfl) ?_
  refine goReg (N := 14) (hints := []) (l := [0, 1]) (m := []) (s₂ := ⟨[(0, one (ci .i64 (x0))), (1, one (ci .i64 (x1)))], []⟩) (ob := True ∧ True) (by kernel_rfl) hN (by kernel_rfl) ⟨trivial, trivial⟩ (by decide) (by decide) ?_
  refine thenC ?_
  refine goSeq (by kernel_rfl) ?_
  rcases fork_some h with ⟨c1, h⟩ | ⟨c1, h⟩
  · skip
    refine goReg (N := 14) (hints := [(4, .bool true)]) (l := [4]) (m := []) (s₂ := ⟨[(4, one (cb (decide ((x0) ≤ (x1)))))], []⟩) (ob := True ∧ True ∧ True ∧ True ∧ (True ∧ (decide ((x0) ≥ ((IntKind.wrap .i64 (0 - (x1)))))) = true) ∧ True ∧ True ∧ True ∧ True ∧ True ∧ True) (by kernel_rfl) hN (by kernel_rfl) ⟨trivial, trivial, trivial, trivial, ⟨trivial, c1⟩, trivial, trivial, trivial, trivial, trivial, trivial⟩ (by decide) (by decide) ?_
    refine thenC ?_
    refine goRet (by kernel_rfl) ?_
    obtain rfl := top_some h
    exact retOk (by kernel_rfl)
  · skip
    refine goReg (N := 14) (hints := [(4, .bool false)]) (l := [4]) (m := []) (s₂ := ⟨[(4, one (cb false))], []⟩) (ob := True ∧ True ∧ True ∧ True ∧ (True ∧ (decide ((x0) ≥ ((IntKind.wrap .i64 (0 - (x1)))))) = false) ∧ True ∧ True ∧ True ∧ True ∧ True ∧ True) (by kernel_rfl) hN (by kernel_rfl) ⟨trivial, trivial, trivial, trivial, ⟨trivial, c1⟩, trivial, trivial, trivial, trivial, trivial, trivial⟩ (by decide) (by decide) ?_
    refine thenC ?_
    refine goRet (by kernel_rfl) ?_
    obtain rfl := top_some h
    exact retOk (by kernel_rfl)

theorem glazierref04_Right_ok (x0 : T_api_Vec) (r : Bool) (h : glazierref04_Right x0 = some r) : PureC Try.prog 16 [agg [ci .i64 (x0.c0), ci .i64 (x0.c1), ci .i64 (x0.c2), ci .i64 (x0.c3), ci .i64 (x0.c4), ci .i64 (x0.c5), ci .i64 (x0.c6), ci .i64 (x0.c7)]] (one (cb r)) := by
  refine fnOf (fn := Try.f16) (n := 49) (rs := [ResultVar.tmp 2]) (s := ⟨[(0, agg [ci .i64 (x0.c0), ci .i64 (x0.c1), ci .i64 (x0.c2), ci .i64 (x0.c3), ci .i64 (x0.c4), ci .i64 (x0.c5), ci .i64 (x0.c6), ci .i64 (x0.c7)])], []⟩) (by kernel_rfl) (by kernel_rfl) (by kernel_rfl) (by kernel_rfl) (by kernel_rfl) (by kernel_rfl) (by kernel_rfl) (by kernel_rfl) (fun E hN => ?_)
  unfold glazierref04_Right at h
  refine goSeq (by kernel_rfl) ?_
  refine goReg (N := 49) (hints := []) (l := [1]) (m := [1]) (s₂ := ⟨[(1, one (.ptr 1 0))], [(1, 24, [ci .i64 (x0.c0), ci .i64 (x0.c1), ci .i64 (x0.c2), ci .i64 (x0.c3), ci .i64 (x0.c4), ci .i64 (x0.c5), ci .i64 (x0.c6), ci .i64 (x0.c7)])]⟩) (ob := True ∧ True ∧ True) (by kernel_rfl) hN (by kernel_rfl) ⟨trivial, trivial, trivial⟩ (by decide) (by decide) ?_
  refine thenC ?_
  refine goSeq (by kernel_rfl) ?_
  refine goSeq (by kernel_rfl) ?_
  refine goReg (N := 49) (hints := []) (l := [1, 3]) (m := [1]) (s₂ := ⟨[(1, one (.ptr 1 0)), (3, one (ci .i64 0))], [(1, 24, [ci .i64 (x0.c0), ci .i64 (x0.c1), ci .i64 (x0.c2), ci .i64 (x0.c3), ci .i64 (x0.c4), ci .i64 (x0.c5), ci .i64 (x0.c6), ci .i64 (x0.c7)])]⟩) (ob := True ∧ True) (by kernel_rfl) hN (by kernel_rfl) ⟨trivial, trivial⟩ (by decide) (by decide) ?_
  refine thenC ?_
  refine goBlock (i := 0) (by kernel_rfl) (by kernel_rfl) ?_
  refine goLoop1 (by kernel_rfl) ?_
  refine roundC ?_
  refine goSeq (by kernel_rfl) ?_
  refine goSeq (by kernel_rfl) ?_
  refine goReg (N := 49) (hints := []) (l := [1, 3, 8]) (m := [1]) (s₂ := ⟨[(1, one (.ptr 1 0)), (3, one (ci .i64 0)), (8, one (cb true))], [(1, 24, [ci .i64 (x0.c0), ci .i64 (x0.c1), ci .i64 (x0.c2), ci .i64 (x0.c3), ci .i64 (x0.c4), ci .i64 (x0.c5), ci .i64 (x0.c6), ci .i64 (x0.c7)])]⟩) (ob := True ∧ True ∧ True) (by kernel_rfl) hN (by kernel_rfl) ⟨trivial, trivial, trivial⟩ (by decide) (by decide) ?_
  refine thenC ?_
  refine goCondT (by kernel_rfl) (by kernel_rfl) ?_
  refine goSkip (by kernel_rfl) ?_
  refine thenC ?_
  refine goSeq (by kernel_rfl) ?_
  refine goBlock (i := 1) (by kernel_rfl) (by kernel_rfl) ?_
  refine goSeq (by kernel_rfl) ?_
  rcases fork_some h with ⟨c35, h⟩ | ⟨c35, h⟩
  · skip
    refine goReg (N := 49) (hints := [(5, .bool true)]) (l := [1, 3, 17, 18, 19, 20, 21, 22]) (m := [1]) (s₂ := ⟨[(1, one (.ptr 1 0)), (3, one (ci .i64 0)), (17, ⟨.tup [], []⟩), (18, ⟨.tup [], []⟩), (19, ⟨.tup [], []⟩), (20, ⟨.tup [], []⟩), (21, ⟨.tup [], []⟩), (22, one (cb true))], [(1, 24, [ci .i64 (x0.c0), ci .i64 (x0.c1), ci .i64 (x0.c2), ci .i64 (x0.c3), ci .i64 (x0.c4), ci .i64 (x0.c5), ci .i64 (x0.c6), ci .i64 (x0.c7)])]⟩) (ob := True ∧ True ∧ (0 ≤ (0 : Int) ∧ (0 : Int) < 4) ∧ True ∧ True ∧ (True ∧ (decide ((x0.c4) < (-4096))) = true) ∧ True ∧ True ∧ True ∧ True ∧ True ∧ True ∧ True) (by kernel_rfl) hN (by kernel_rfl) ⟨trivial, trivial, (by decide), trivial, trivial, ⟨trivial, c35⟩, trivial, trivial, trivial, trivial, trivial, trivial, trivial⟩ (by decide) (by decide) ?_
    refine thenC ?_
    refine goCondT (by kernel_rfl) (by kernel_rfl) ?_
    refine goSeq (by kernel_rfl) ?_
    refine goReg (N := 49) (hints := []) (l := [2]) (m := []) (s₂ := ⟨[(2, one (cb false))], []⟩) (ob := True ∧ True) (by kernel_rfl) hN (by kernel_rfl) ⟨trivial, trivial⟩ (by decide) (by decide) ?_
    refine thenC ?_
    refine goRet (by kernel_rfl) ?_
    refine blkRet ?_
    refine thenRet ?_
    refine thenRet ?_
    refine blkRet ?_
    refine thenRet ?_
    obtain rfl := top_some h
    exact retOk (by kernel_rfl)
  · skip
    rcases fork_some h with ⟨c36, h⟩ | ⟨c36, h⟩
    · skip
      refine goReg (N := 49) (hints := [(5, .bool false), (11, .bool true)]) (l := [1, 3, 17, 18, 19, 20, 21, 22]) (m := [1]) (s₂ := ⟨[(1, one (.ptr 1 0)), (3, one (ci .i64 0)), (17, one (ci .i64 0)), (18, one (.ptr 1 4)), (19, one (.ptr 1 4)), (20, one (ci .i64 (x0.c4))), (21, one (cb (decide ((x0.c4) > 4096)))), (22, one (cb true))], [(1, 24, [ci .i64 (x0.c0), ci .i64 (x0.c1), ci .i64 (x0.c2), ci .i64 (x0.c3), ci .i64 (x0.c4), ci .i64 (x0.c5), ci .i64 (x0.c6), ci .i64 (x0.c7)])]⟩) (ob := True ∧ True ∧ (0 ≤ (0 : Int) ∧ (0 : Int) < 4) ∧ True ∧ True ∧ (True ∧ (decide ((x0.c4) < (-4096))) = false) ∧ True ∧ True ∧ (0 ≤ (0 : Int) ∧ (0 : Int) < 4) ∧ True ∧ True ∧ (True ∧ (decide ((x0.c4) > 4096)) = true) ∧ True) (by kernel_rfl) hN (by kernel_rfl) ⟨trivial, trivial, (by decide), trivial, trivial, ⟨trivial, c35⟩, trivial, trivial, (by decide), trivial, trivial, ⟨trivial, c36⟩, trivial⟩ (by decide) (by decide) ?_
      refine thenC ?_
      refine goCondT (by kernel_rfl) (by kernel_rfl) ?_
      refine goSeq (by kernel_rfl) ?_
      refine goReg (N := 49) (hints := []) (l := [2]) (m := []) (s₂ := ⟨[(2, one (cb false))], []⟩) (ob := True ∧ True) (by kernel_rfl) hN (by kernel_rfl) ⟨trivial, trivial⟩ (by decide) (by decide) ?_
      refine thenC ?_
      refine goRet (by kernel_rfl) ?_
      refine blkRet ?_
      refine thenRet ?_
      refine thenRet ?_
      refine blkRet ?_
      refine thenRet ?_
      obtain rfl := top_some h
      exact retOk (by kernel_rfl)
    · skip
      refine goReg (N := 49) (hints := [(5, .bool false), (11, .bool false)]) (l := [1, 3, 17, 18, 19, 20, 21, 22]) (m := [1]) (s₂ := ⟨[(1, one (.ptr 1 0)), (3, one (ci .i64 0)), (17, one (ci .i64 0)), (18, one (.ptr 1 4)), (19, one (.ptr 1 4)), (20, one (ci .i64 (x0.c4))), (21, one (cb (decide ((x0.c4) > 4096)))), (22, one (cb false))], [(1, 24, [ci .i64 (x0.c0), ci .i64 (x0.c1), ci .i64 (x0.c2), ci .i64 (x0.c3), ci .i64 (x0.c4), ci .i64 (x0.c5), ci .i64 (x0.c6), ci .i64 (x0.c7)])]⟩) (ob := True ∧ True ∧ (0 ≤ (0 : Int) ∧ (0 : Int) < 4) ∧ True ∧ True ∧ (True ∧ (decide ((x0.c4) < (-4096))) = false) ∧ True ∧ True ∧ (0 ≤ (0 : Int) ∧ (0 : Int) < 4) ∧ True ∧ True ∧ (True ∧ (decide ((x0.c4) > 4096)) = false) ∧ True) (by kernel_rfl) hN (by kernel_rfl) ⟨trivial, trivial, (by decide), trivial, trivial, ⟨trivial, c35⟩, trivial, trivial, (by decide), trivial, trivial, ⟨trivial, c36⟩, trivial⟩ (by decide) (by decide) ?_
      refine thenC ?_
      refine goCondF (by kernel_rfl) (by kernel_rfl) ?_
      refine goSkip (by kernel_rfl) ?_
      refine blkN ?_
      refine thenC ?_
      refine goReg (N := 49) (hints := []) (l := [1, 3, 17, 18, 19, 20, 21]) (m := [1]) (s₂ := ⟨[(1, one (.ptr 1 0)), (3, one (ci .i64 1)), (17, one (ci .i64 0)), (18, one (.ptr 1 4)), (19, one (.ptr 1 4)), (20, one (ci .i64 (x0.c4))), (21, one (cb (decide ((x0.c4) > 4096))))], [(1, 24, [ci .i64 (x0.c0), ci .i64 (x0.c1), ci .i64 (x0.c2), ci .i64 (x0.c3), ci .i64 (x0.c4), ci .i64 (x0.c5), ci .i64 (x0.c6), ci .i64 (x0.c7)])]⟩) (ob := True ∧ True ∧ True ∧ True) (by kernel_rfl) hN (by kernel_rfl) ⟨trivial, trivial, trivial, trivial⟩ (by decide) (by decide) ?_
      refine thenN (roundC ?_)
      refine goSeq (by kernel_rfl) ?_
      refine goSeq (by kernel_rfl) ?_
      refine goReg (N := 49) (hints := []) (l := [1, 3, 8, 17, 18, 19, 20, 21]) (m := [1]) (s₂ := ⟨[(1, one (.ptr 1 0)), (3, one (ci .i64 1)), (8, one (cb true)), (17, one (ci .i64 0)), (18, one (.ptr 1 4)), (19, one (.ptr 1 4)), (20, one (ci .i64 (x0.c4))), (21, one (cb (decide ((x0.c4) > 4096))))], [(1, 24, [ci .i64 (x0.c0), ci .i64 (x0.c1), ci .i64 (x0.c2), ci .i64 (x0.c3), ci .i64 (x0.c4), ci .i64 (x0.c5), ci .i64 (x0.c6), ci .i64 (x0.c7)])]⟩) (ob := True ∧ True ∧ True) (by kernel_rfl) hN (by kernel_rfl) ⟨trivial, trivial, trivial⟩ (by decide) (by decide) ?_
      refine thenC ?_
      refine goCondT (by kernel_rfl) (by kernel_rfl) ?_
      refine goSkip (by kernel_rfl) ?_
      refine thenC ?_
      refine goSeq (by kernel_rfl) ?_
      refine goBlock (i := 1) (by kernel_rfl) (by kernel_rfl) ?_
      refine goSeq (by kernel_rfl) ?_
      rcases fork_some h with ⟨c39, h⟩ | ⟨c39, h⟩
      · skip
        refine goReg (N := 49) (hints := [(5, .bool true)]) (l := [1, 3, 17, 18, 19, 20, 21, 22]) (m := [1]) (s₂ := ⟨[(1, one (.ptr 1 0)), (3, one (ci .i64 1)), (17, ⟨.tup [], []⟩), (18, ⟨.tup [], []⟩), (19, ⟨.tup [], []⟩), (20, ⟨.tup [], []⟩), (21, ⟨.tup [], []⟩), (22, one (cb true))], [(1, 24, [ci .i64 (x0.c0), ci .i64 (x0.c1), ci .i64 (x0.c2), ci .i64 (x0.c3), ci .i64 (x0.c4), ci .i64 (x0.c5), ci .i64 (x0.c6), ci .i64 (x0.c7)])]⟩) (ob := True ∧ True ∧ (0 ≤ (1 : Int) ∧ (1 : Int) < 4) ∧ True ∧ True ∧ (True ∧ (decide ((x0.c5) < (-4096))) = true) ∧ True ∧ True ∧ True ∧ True ∧ True ∧ True ∧ True) (by kernel_rfl) hN (by kernel_rfl) ⟨trivial, trivial, (by decide), trivial, trivial, ⟨trivial, c39⟩, trivial, trivial, trivial, trivial, trivial, trivial, trivial⟩ (by decide) (by decide) ?_
        refine thenC ?_
        refine goCondT (by kernel_rfl) (by kernel_rfl) ?_
        refine goSeq (by kernel_rfl) ?_
        refine goReg (N := 49) (hints := []) (l := [2]) (m := []) (s₂ := ⟨[(2, one (cb false))], []⟩) (ob := True ∧ True) (by kernel_rfl) hN (by kernel_rfl) ⟨trivial, trivial⟩ (by decide) (by decide) ?_
        refine thenC ?_
        refine goRet (by kernel_rfl) ?_
        refine blkRet ?_
        refine thenRet ?_
        refine thenRet ?_
        refine blkRet ?_
        refine thenRet ?_
        obtain rfl := top_some h
        exact retOk (by kernel_rfl)
      · skip
        rcases fork_some h with ⟨c40, h⟩ | ⟨c40, h⟩
        · skip
          refine goReg (N := 49) (hints := [(5, .bool false), (11, .bool true)]) (l := [1, 3, 17, 18, 19, 20, 21, 22]) (m := [1]) (s₂ := ⟨[(1, one (.ptr 1 0)), (3, one (ci .i64 1)), (17, one (ci .i64 1)), (18, one (.ptr 1 4)), (19, one (.ptr 1 5)), (20, one (ci .i64 (x0.c5))), (21, one (cb (decide ((x0.c5) > 4096)))), (22, one (cb true))], [(1, 24, [ci .i64 (x0.c0), ci .i64 (x0.c1), ci .i64 (x0.c2), ci .i64 (x0.c3), ci .i64 (x0.c4), ci .i64 (x0.c5), ci .i64 (x0.c6), ci .i64 (x0.c7)])]⟩) (ob := True ∧ True ∧ (0 ≤ (1 : Int) ∧ (1 : Int) < 4) ∧ True ∧ True ∧ (True ∧ (decide ((x0.c5) < (-4096))) = false) ∧ True ∧ True ∧ (0 ≤ (1 : Int) ∧ (1 : Int) < 4) ∧ True ∧ True ∧ (True ∧ (decide ((x0.c5) > 4096)) = true) ∧ True) (by kernel_rfl) hN (by kernel_rfl) ⟨trivial, trivial, (by decide), trivial, trivial, ⟨trivial, c39⟩, trivial, trivial, (by decide), trivial, trivial, ⟨trivial, c40⟩, trivial⟩ (by decide) (by decide) ?_
          refine thenC ?_
          refine goCondT (by kernel_rfl) (by kernel_rfl) ?_
          refine goSeq (by kernel_rfl) ?_
          refine goReg (N := 49) (hints := []) (l := [2]) (m := []) (s₂ := ⟨[(2, one (cb false))], []⟩) (ob := True ∧ True) (by kernel_rfl) hN (by kernel_rfl) ⟨trivial, trivial⟩ (by decide) (by decide) ?_
          refine thenC ?_
          refine goRet (by kernel_rfl) ?_
          refine blkRet ?_
          refine thenRet ?_
          refine thenRet ?_
          refine blkRet ?_
          refine thenRet ?_
          obtain rfl := top_some h
          exact retOk (by kernel_rfl)
        · skip
          refine goReg (N := 49) (hints := [(5, .bool false), (11, .bool false)]) (l := [1, 3, 17, 18, 19, 20, 21, 22]) (m := [1]) (s₂ := ⟨[(1, one (.ptr 1 0)), (3, one (ci .i64 1)), (17, one (ci .i64 1)), (18, one (.ptr 1 4)), (19, one (.ptr 1 5)), (20, one (ci .i64 (x0.c5))), (21, one (cb (decide ((x0.c5) > 4096)))), (22, one (cb false))], [(1, 24, [ci .i64 (x0.c0), ci .i64 (x0.c1), ci .i64 (x0.c2), ci .i64 (x0.c3), ci .i64 (x0.c4), ci .i64 (x0.c5), ci .i64 (x0.c6), ci .i64 (x0.c7)])]⟩) (ob := True ∧ True ∧ (0 ≤ (1 : Int) ∧ (1 : Int) < 4) ∧ True ∧ True ∧ (True ∧ (decide ((x0.c5) < (-4096))) = false) ∧ True ∧ True ∧ (0 ≤ (1 : Int) ∧ (1 : Int) < 4) ∧ True ∧ True ∧ (True ∧ (decide ((x0.c5) > 4096)) = false) ∧ True) (by kernel_rfl) hN (by kernel_rfl) ⟨trivial, trivial, (by decide), trivial, trivial, ⟨trivial, c39⟩, trivial, trivial, (by decide), trivial, trivial, ⟨trivial, c40⟩, trivial⟩ (by decide) (by decide) ?_
          refine thenC ?_
          refine goCondF (by kernel_rfl) (by kernel_rfl) ?_
          refine goSkip (by kernel_rfl) ?_
          refine blkN ?_
          refine thenC ?_
          refine goReg (N := 49) (hints := []) (l := [1, 3, 17, 18, 19, 20, 21]) (m := [1]) (s₂ := ⟨[(1, one (.ptr 1 0)), (3, one (ci .i64 2)), (17, one (ci .i64 1)), (18, one (.ptr 1 4)), (19, one (.ptr 1 5)), (20, one (ci .i64 (x0.c5))), (21, one (cb (decide ((x0.c5) > 4096))))], [(1, 24, [ci .i64 (x0.c0), ci .i64 (x0.c1), ci .i64 (x0.c2), ci .i64 (x0.c3), ci .i64 (x0.c4), ci .i64 (x0.c5), ci .i64 (x0.c6), ci .i64 (x0.c7)])]⟩) (ob := True ∧ True ∧ True ∧ True) (by kernel_rfl) hN (by kernel_rfl) ⟨trivial, trivial, trivial, trivial⟩ (by decide) (by decide) ?_
          refine thenN (roundC ?_)
          refine goSeq (by kernel_rfl) ?_
          refine goSeq (by kernel_rfl) ?_
          refine goReg (N := 49) (hints := []) (l := [1, 3, 8, 17, 18, 19, 20, 21]) (m := [1]) (s₂ := ⟨[(1, one (.ptr 1 0)), (3, one (ci .i64 2)), (8, one (cb true)), (17, one (ci .i64 1)), (18, one (.ptr 1 4)), (19, one (.ptr 1 5)), (20, one (ci .i64 (x0.c5))), (21, one (cb (decide ((x0.c5) > 4096))))], [(1, 24, [ci .i64 (x0.c0), ci .i64 (x0.c1), ci .i64 (x0.c2), ci .i64 (x0.c3), ci .i64 (x0.c4), ci .i64 (x0.c5), ci .i64 (x0.c6), ci .i64 (x0.c7)])]⟩) (ob := True ∧ True ∧ True) (by kernel_rfl) hN (by kernel_rfl) ⟨trivial, trivial, trivial⟩ (by decide) (by decide) ?_
          refine thenC ?_
          refine goCondT (by kernel_rfl) (by kernel_rfl) ?_
          refine goSkip (by kernel_rfl) ?_
          refine thenC ?_
          refine goSeq (by kernel_rfl) ?_
          refine goBlock (i := 1) (by kernel_rfl) (by kernel_rfl) ?_
          refine goSeq (by kernel_rfl) ?_
          rcases fork_some h with ⟨c43, h⟩ | ⟨c43, h⟩
          · skip
            refine goReg (N := 49) (hints := [(5, .bool true)]) (l := [1, 3, 17, 18, 19, 20, 21, 22]) (m := [1]) (s₂ := ⟨[(1, one (.ptr 1 0)), (3, one (ci .i64 2)), (17, ⟨.tup [], []⟩), (18, ⟨.tup [], []⟩), (19, ⟨.tup [], []⟩), (20, ⟨.tup [], []⟩), (21, ⟨.tup [], []⟩), (22, one (cb true))], [(1, 24, [ci .i64 (x0.c0), ci .i64 (x0.c1), ci .i64 (x0.c2), ci .i64 (x0.c3), ci .i64 (x0.c4), ci .i64 (x0.c5), ci .i64 (x0.c6), ci .i64 (x0.c7)])]⟩) (ob := True ∧ True ∧ (0 ≤ (2 : Int) ∧ (2 : Int) < 4) ∧ True ∧ True ∧ (True ∧ (decide ((x0.c6) < (-4096))) = true) ∧ True ∧ True ∧ True ∧ True ∧ True ∧ True ∧ True) (by kernel_rfl) hN (by kernel_rfl) ⟨trivial, trivial, (by decide), trivial, trivial, ⟨trivial, c43⟩, trivial, trivial, trivial, trivial, trivial, trivial, trivial⟩ (by decide) (by decide) ?_
            refine thenC ?_
            refine goCondT (by kernel_rfl) (by kernel_rfl) ?_
            refine goSeq (by kernel_rfl) ?_
            refine goReg (N := 49) (hints := []) (l := [2]) (m := []) (s₂ := ⟨[(2, one (cb false))], []⟩) (ob := True ∧ True) (by kernel_rfl) hN (by kernel_rfl) ⟨trivial, trivial⟩ (by decide) (by decide) ?_
            refine thenC ?_
            refine goRet (by kernel_rfl) ?_
            refine blkRet ?_
            refine thenRet ?_
            refine thenRet ?_
            refine blkRet ?_
            refine thenRet ?_
            obtain rfl := top_some h
            exact retOk (by kernel_rfl)
          · skip
            rcases fork_some h with ⟨c44, h⟩ | ⟨c44, h⟩
            · skip
              refine goReg (N := 49) (hints := [(5, .bool false), (11, .bool true)]) (l := [1, 3, 17, 18, 19, 20, 21, 22]) (m := [1]) (s₂ := ⟨[(1, one (.ptr 1 0)), (3, one (ci .i64 2)), (17, one (ci .i64 2)), (18, one (.ptr 1 4)), (19, one (.ptr 1 6)), (20, one (ci .i64 (x0.c6))), (21, one (cb (decide ((x0.c6) > 4096)))), (22, one (cb true))], [(1, 24, [ci .i64 (x0.c0), ci .i64 (x0.c1), ci .i64 (x0.c2), ci .i64 (x0.c3), ci .i64 (x0.c4), ci .i64 (x0.c5), ci .i64 (x0.c6), ci .i64 (x0.c7)])]⟩) (ob := True ∧ True ∧ (0 ≤ (2 : Int) ∧ (2 : Int) < 4) ∧ True ∧ True ∧ (True ∧ (decide ((x0.c6) < (-4096))) = false) ∧ True ∧ True ∧ (0 ≤ (2 : Int) ∧ (2 : Int) < 4) ∧ True ∧ True ∧ (True ∧ (decide ((x0.c6) > 4096)) = true) ∧ True) (by kernel_rfl) hN (by kernel_rfl) ⟨trivial, trivial, (by decide), trivial, trivial, ⟨trivial, c43⟩, trivial, trivial, (by decide), trivial, trivial, ⟨trivial, c44⟩, trivial⟩ (by decide) (by decide) ?_
              refine thenC ?_
              refine goCondT (by kernel_rfl) (by kernel_rfl) ?_
              refine goSeq (by kernel_rfl) ?_
              refine goReg (N := 49) (hints := []) (l := [2]) (m := []) (s₂ := ⟨[(2, one (cb false))], []⟩) (ob := True ∧ True) (by kernel_rfl) hN (by kernel_rfl) ⟨trivial, trivial⟩ (by decide) (by decide) ?_
              refine thenC ?_
              refine goRet (by kernel_rfl) ?_
              refine blkRet ?_
              refine thenRet ?_
              refine thenRet ?_
              refine blkRet ?_
              refine thenRet ?_
              obtain rfl := top_some h
              exact retOk (by kernel_rfl)
            · skip
              refine goReg (N := 49) (hints := [(5, .bool false), (11, .bool false)]) (l := [1, 3, 17, 18, 19, 20, 21, 22]) (m := [1]) (s₂ := ⟨[(1, one (.ptr 1 0)), (3, one (ci .i64 2)), (17, one (ci .i64 2)), (18, one (.ptr 1 4)), (19, one (.ptr 1 6)), (20, one (ci .i64 (x0.c6))), (21, one (cb (decide ((x0.c6) > 4096)))), (22, one (cb false))], [(1, 24, [ci .i64 (x0.c0), ci .i64 (x0.c1), ci .i64 (x0.c2), ci .i64 (x0.c3), ci .i64 (x0.c4), ci .i64 (x0.c5), ci .i64 (x0.c6), ci .i64 (x0.c7)])]⟩) (ob := True ∧ True ∧ (0 ≤ (2 : Int) ∧ (2 : Int) < 4) ∧ True ∧ True ∧ (True ∧ (decide ((x0.c6) < (-4096))) = false) ∧ True ∧ True ∧ (0 ≤ (2 : Int) ∧ (2 : Int) < 4) ∧ True ∧ True ∧ (True ∧ (decide ((x0.c6) > 4096)) = false) ∧ True) (by kernel_rfl) hN (by kernel_rfl) ⟨trivial, trivial, (by decide), trivial, trivial, ⟨trivial, c43⟩, trivial, trivial, (by decide), trivial, trivial, ⟨trivial, c44⟩, trivial⟩ (by decide) (by decide) ?_
              refine thenC ?_
              refine goCondF (by kernel_rfl) (by kernel_rfl) ?_
              refine goSkip (by kernel_rfl) ?_
              refine blkN ?_
              refine thenC ?_
              refine goReg (N := 49) (hints := []) (l := [1, 3, 17, 18, 19, 20, 21]) (m := [1]) (s₂ := ⟨[(1, one (.ptr 1 0)), (3, one (ci .i64 3)), (17, one (ci .i64 2)), (18, one (.ptr 1 4)), (19, one (.ptr 1 6)), (20, one (ci .i64 (x0.c6))), (21, one (cb (decide ((x0.c6) > 4096))))], [(1, 24, [ci .i64 (x0.c0), ci .i64 (x0.c1), ci .i64 (x0.c2), ci .i64 (x0.c3), ci .i64 (x0.c4), ci .i64 (x0.c5), ci .i64 (x0.c6), ci .i64 (x0.c7)])]⟩) (ob := True ∧ True ∧ True ∧ True) (by kernel_rfl) hN (by kernel_rfl) ⟨trivial, trivial, trivial, trivial⟩ (by decide) (by decide) ?_
              refine thenN (roundC ?_)
              refine goSeq (by kernel_rfl) ?_
              refine goSeq (by kernel_rfl) ?_
              refine goReg (N := 49) (hints := []) (l := [1, 3, 8, 17, 18, 19, 20, 21]) (m := [1]) (s₂ := ⟨[(1, one (.ptr 1 0)), (3, one (ci .i64 3)), (8, one (cb true)), (17, one (ci .i64 2)), (18, one (.ptr 1 4)), (19, one (.ptr 1 6)), (20, one (ci .i64 (x0.c6))), (21, one (cb (decide ((x0.c6) > 4096))))], [(1, 24, [ci .i64 (x0.c0), ci .i64 (x0.c1), ci .i64 (x0.c2), ci .i64 (x0.c3), ci .i64 (x0.c4), ci .i64 (x0.c5), ci .i64 (x0.c6), ci .i64 (x0.c7)])]⟩) (ob := True ∧ True ∧ True) (by kernel_rfl) hN (by kernel_rfl) ⟨trivial, trivial, trivial⟩ (by decide) (by decide) ?_
              refine thenC ?_
              refine goCondT (by kernel_rfl) (by kernel_rfl) ?_
              refine goSkip (by kernel_rfl) ?_
              refine thenC ?_
              refine goSeq (by kernel_rfl) ?_
              refine goBlock (i := 1) (by kernel_rfl) (by kernel_rfl) ?_
              refine goSeq (by kernel_rfl) ?_
              rcases fork_some h with ⟨c47, h⟩ | ⟨c47, h⟩
              · skip
                refine goReg (N := 49) (hints := [(5, .bool true)]) (l := [1, 3, 17, 18, 19, 20, 21, 22]) (m := [1]) (s₂ := ⟨[(1, one (.ptr 1 0)), (3, one (ci .i64 3)), (17, ⟨.tup [], []⟩), (18, ⟨.tup [], []⟩), (19, ⟨.tup [], []⟩), (20, ⟨.tup [], []⟩), (21, ⟨.tup [], []⟩), (22, one (cb true))], [(1, 24, [ci .i64 (x0.c0), ci .i64 (x0.c1), ci .i64 (x0.c2), ci .i64 (x0.c3), ci .i64 (x0.c4), ci .i64 (x0.c5), ci .i64 (x0.c6), ci .i64 (x0.c7)])]⟩) (ob := True ∧ True ∧ (0 ≤ (3 : Int) ∧ (3 : Int) < 4) ∧ True ∧ True ∧ (True ∧ (decide ((x0.c7) < (-4096))) = true) ∧ True ∧ True ∧ True ∧ True ∧ True ∧ True ∧ True) (by kernel_rfl) hN (by kernel_rfl) ⟨trivial, trivial, (by decide), trivial, trivial, ⟨trivial, c47⟩, trivial, trivial, trivial, trivial, trivial, trivial, trivial⟩ (by decide) (by decide) ?_
                refine thenC ?_
                refine goCondT (by kernel_rfl) (by kernel_rfl) ?_
                refine goSeq (by kernel_rfl) ?_
                refine goReg (N := 49) (hints := []) (l := [2]) (m := []) (s₂ := ⟨[(2, one (cb false))], []⟩) (ob := True ∧ True) (by kernel_rfl) hN (by kernel_rfl) ⟨trivial, trivial⟩ (by decide) (by decide) ?_
                refine thenC ?_
                refine goRet (by kernel_rfl) ?_
                refine blkRet ?_
                refine thenRet ?_
                refine thenRet ?_
                refine blkRet ?_
                refine thenRet ?_
                obtain rfl := top_some h
                exact retOk (by kernel_rfl)
              · skip
                rcases fork_some h with ⟨c48, h⟩ | ⟨c48, h⟩
                · skip
                  refine goReg (N := 49) (hints := [(5, .bool false), (11, .bool true)]) (l := [1, 3, 17, 18, 19, 20, 21, 22]) (m := [1]) (s₂ := ⟨[(1, one (.ptr 1 0)), (3, one (ci .i64 3)), (17, one (ci .i64 3)), (18, one (.ptr 1 4)), (19, one (.ptr 1 7)), (20, one (ci .i64 (x0.c7))), (21, one (cb (decide ((x0.c7) > 4096)))), (22, one (cb true))], [(1, 24, [ci .i64 (x0.c0), ci .i64 (x0.c1), ci .i64 (x0.c2), ci .i64 (x0.c3), ci .i64 (x0.c4), ci .i64 (x0.c5), ci .i64 (x0.c6), ci .i64 (x0.c7)])]⟩) (ob := True ∧ True ∧ (0 ≤ (3 : Int) ∧ (3 : Int) < 4) ∧ True ∧ True ∧ (True ∧ (decide ((x0.c7) < (-4096))) = false) ∧ True ∧ True ∧ (0 ≤ (3 : Int) ∧ (3 : Int) < 4) ∧ True ∧ True ∧ (True ∧ (decide ((x0.c7) > 4096)) = true) ∧ True) (by kernel_rfl) hN (by kernel_rfl) ⟨trivial, trivial, (by decide), trivial, trivial, ⟨trivial, c47⟩, trivial, trivial, (by decide), trivial, trivial, ⟨trivial, c48⟩, trivial⟩ (by decide) (by decide) ?_
                  refine thenC ?_
                  refine goCondT (by kernel_rfl) (by kernel_rfl) ?_
                  refine goSeq (by kernel_rfl) ?_
                  refine goReg (N := 49) (hints := []) (l := [2]) (m := []) (s₂ := ⟨[(2, one (cb false))], []⟩) (ob := True ∧ True) (by kernel_rfl) hN (by kernel_rfl) ⟨trivial, trivial⟩ (by decide) (by decide) ?_
                  refine thenC ?_
                  refine goRet (by kernel_rfl) ?_
                  refine blkRet ?_
                  refine thenRet ?_
                  refine thenRet ?_
                  refine blkRet ?_
                  refine thenRet ?_
                  obtain rfl := top_some h
                  exact retOk (by kernel_rfl)
                · skip
                  refine goReg (N := 49) (hints := [(5, .bool false), (11, .bool false)]) (l := [1, 3, 17, 18, 19, 20, 21, 22]) (m := [1]) (s₂ := ⟨[(1, one (.ptr 1 0)), (3, one (ci .i64 3)), (17, one (ci .i64 3)), (18, one (.ptr 1 4)), (19, one (.ptr 1 7)), (20, one (ci .i64 (x0.c7))), (21, one (cb (decide ((x0.c7) > 4096)))), (22, one (cb false))], [(1, 24, [ci .i64 (x0.c0), ci .i64 (x0.c1), ci .i64 (x0.c2), ci .i64 (x0.c3), ci .i64 (x0.c4), ci .i64 (x0.c5), ci .i64 (x0.c6), ci .i64 (x0.c7)])]⟩) (ob := True ∧ True ∧ (0 ≤ (3 : Int) ∧ (3 : Int) < 4) ∧ True ∧ True ∧ (True ∧ (decide ((x0.c7) < (-4096))) = false) ∧ True ∧ True ∧ (0 ≤ (3 : Int) ∧ (3 : Int) < 4) ∧ True ∧ True ∧ (True ∧ (decide ((x0.c7) > 4096)) = false) ∧ True) (by kernel_rfl) hN (by kernel_rfl) ⟨trivial, trivial, (by decide), trivial, trivial, ⟨trivial, c47⟩, trivial, trivial, (by decide), trivial, trivial, ⟨trivial, c48⟩, trivial⟩ (by decide) (by decide) ?_
                  refine thenC ?_
                  refine goCondF (by kernel_rfl) (by kernel_rfl) ?_
                  refine goSkip (by kernel_rfl) ?_
                  refine blkN ?_
                  refine thenC ?_
                  refine goReg (N := 49) (hints := []) (l := [1, 3, 17, 18, 19, 20, 21]) (m := [1]) (s₂ := ⟨[(1, one (.ptr 1 0)), (3, one (ci .i64 4)), (17, one (ci .i64 3)), (18, one (.ptr 1 4)), (19, one (.ptr 1 7)), (20, one (ci .i64 (x0.c7))), (21, one (cb (decide ((x0.c7) > 4096))))], [(1, 24, [ci .i64 (x0.c0), ci .i64 (x0.c1), ci .i64 (x0.c2), ci .i64 (x0.c3), ci .i64 (x0.c4), ci .i64 (x0.c5), ci .i64 (x0.c6), ci .i64 (x0.c7)])]⟩) (ob := True ∧ True ∧ True ∧ True) (by kernel_rfl) hN (by kernel_rfl) ⟨trivial, trivial, trivial, trivial⟩ (by decide) (by decide) ?_
                  refine thenN (roundC ?_)
                  refine goSeq (by kernel_rfl) ?_
                  refine goSeq (by kernel_rfl) ?_
                  refine goReg (N := 49) (hints := []) (l := [1, 3, 8, 17, 18, 19, 20, 21]) (m := [1]) (s₂ := ⟨[(1, one (.ptr 1 0)), (3, one (ci .i64 4)), (8, one (cb false)), (17, one (ci .i64 3)), (18, one (.ptr 1 4)), (19, one (.ptr 1 7)), (20, one (ci .i64 (x0.c7))), (21, one (cb (decide ((x0.c7) > 4096))))], [(1, 24, [ci .i64 (x0.c0), ci .i64 (x0.c1), ci .i64 (x0.c2), ci .i64 (x0.c3), ci .i64 (x0.c4), ci .i64 (x0.c5), ci .i64 (x0.c6), ci .i64 (x0.c7)])]⟩) (ob := True ∧ True ∧ True) (by kernel_rfl) hN (by kernel_rfl) ⟨trivial, trivial, trivial⟩ (by decide) (by decide) ?_
                  refine thenC ?_
                  refine goCondF (by kernel_rfl) (by kernel_rfl) ?_
                  refine goExit (i := 0) (by kernel_rfl) (by kernel_rfl) ?_
                  refine thenExit ?_
                  refine thenExit ?_
                  refine blkHit rfl ?_
                  refine thenC ?_
                  refine goSeq (by kernel_rfl) ?_
                  obtain ⟨q49, hq49, h⟩ := bind_some h
                  refine goReg (N := 49) (hints := [(2, .call (one (cb q49)))]) (l := [1, 4]) (m := [1]) (s₂ := ⟨[(1, one (.ptr 1 0)), (4, one (cb q49))], [(1, 24, [ci .i64 (x0.c0), ci .i64 (x0.c1), ci .i64 (x0.c2), ci .i64 (x0.c3), ci .i64 (x0.c4), ci .i64 (x0.c5), ci .i64 (x0.c6), ci .i64 (x0.c7)])]⟩) (ob := True ∧ True ∧ PureC Try.prog 23 [one (ci .i64 (x0.c0)), one (ci .i64 32768)] (one (cb q49)) ∧ True ∧ True) (by kernel_rfl) hN (by kernel_rfl) ⟨trivial, trivial, (glazierref04_within_ok (x0.c0) (32768) _ hq49), trivial, trivial⟩ (by decide) (by decide) ?_
                  refine thenC ?_
                  refine goSeq (by kernel_rfl) ?_
                  obtain ⟨q50, hq50, h⟩ := bind_some h
                  refine goReg (N := 49) (hints := [(2, .call (one (cb q50)))]) (l := [1, 4, 5]) (m := [1]) (s₂ := ⟨[(1, one (.ptr 1 0)), (4, one (cb q49)), (5, one (cb q50))], [(1, 24, [ci .i64 (x0.c0), ci .i64 (x0.c1), ci .i64 (x0.c2), ci .i64 (x0.c3), ci .i64 (x0.c4), ci .i64 (x0.c5), ci .i64 (x0.c6), ci .i64 (x0.c7)])]⟩) (ob := True ∧ True ∧ PureC Try.prog 23 [one (ci .i64 (x0.c1)), one (ci .i64 32768)] (one (cb q50)) ∧ True ∧ True) (by kernel_rfl) hN (by kernel_rfl) ⟨trivial, trivial, (glazierref04_within_ok (x0.c1) (32768) _ hq50), trivial, trivial⟩ (by decide) (by decide) ?_
                  refine thenC ?_
                  refine goSeq (by kernel_rfl) ?_
                  obtain ⟨q51, hq51, h⟩ := bind_some h
                  refine goReg (N := 49) (hints := [(2, .call (one (cb q51)))]) (l := [1, 4, 5, 6]) (m := [1]) (s₂ := ⟨[(1, one (.ptr 1 0)), (4, one (cb q49)), (5, one (cb q50)), (6, one (cb q51))], [(1, 24, [ci .i64 (x0.c0), ci .i64 (x0.c1), ci .i64 (x0.c2), ci .i64 (x0.c3), ci .i64 (x0.c4), ci .i64 (x0.c5), ci .i64 (x0.c6), ci .i64 (x0.c7)])]⟩) (ob := True ∧ True ∧ PureC Try.prog 23 [one (ci .i64 (x0.c2)), one (ci .i64 32768)] (one (cb q51)) ∧ True ∧ True) (by kernel_rfl) hN (by kernel_rfl) ⟨trivial, trivial, (glazierref04_within_ok (x0.c2) (32768) _ hq51), trivial, trivial⟩ (by decide) (by decide) ?_
                  refine thenC ?_
                  refine goSeq (by kernel_rfl) ?_
                  rcases fork_some h with ⟨c52, h⟩ | ⟨c52, h⟩
                  · skip
                    rcases fork_some h with ⟨c53, h⟩ | ⟨c53, h⟩
                    · skip
                      rcases fork_some h with ⟨c54, h⟩ | ⟨c54, h⟩
                      · skip
                        rcases fork_some h with ⟨c55, h⟩ | ⟨c55, h⟩
                        · skip
                          refine goReg (N := 49) (hints := [(1, .bool true), (4, .bool true), (7, .bool true), (12, .bool true)]) (l := [2]) (m := []) (s₂ := ⟨[(2, one (cb (decide ((x0.c3) ≤ 32768))))], []⟩) (ob := True ∧ (True ∧ (q49) = true) ∧ True ∧ True ∧ (True ∧ (q50) = true) ∧ True ∧ True ∧ (True ∧ (q51) = true) ∧ True ∧ True ∧ True ∧ True ∧ (True ∧ (decide ((x0.c3) ≥ 1)) = true) ∧ True ∧ True ∧ True ∧ True ∧ True ∧ True) (by kernel_rfl) hN (by kernel_rfl) ⟨trivial, ⟨trivial, c52⟩, trivial, trivial, ⟨trivial, c53⟩, trivial, trivial, ⟨trivial, c54⟩, trivial, trivial, trivial, trivial, ⟨trivial, c55⟩, trivial, trivial, trivial, trivial, trivial, trivial⟩ (by decide) (by decide) ?_
                          refine thenC ?_
                          refine goRet (by kernel_rfl) ?_
                          obtain rfl := top_some h
                          exact retOk (by kernel_rfl)
                        · skip
                          refine goReg (N := 49) (hints := [(1, .bool true), (4, .bool true), (7, .bool true), (12, .bool false)]) (l := [2]) (m := []) (s₂ := ⟨[(2, one (cb false))], []⟩) (ob := True ∧ (True ∧ (q49) = true) ∧ True ∧ True ∧ (True ∧ (q50) = true) ∧ True ∧ True ∧ (True ∧ (q51) = true) ∧ True ∧ True ∧ True ∧ True ∧ (True ∧ (decide ((x0.c3) ≥ 1)) = false) ∧ True ∧ True ∧ True ∧ True ∧ True ∧ True) (by kernel_rfl) hN (by kernel_rfl) ⟨trivial, ⟨trivial, c52⟩, trivial, trivial, ⟨trivial, c53⟩, trivial, trivial, ⟨trivial, c54⟩, trivial, trivial, trivial, trivial, ⟨trivial, c55⟩, trivial, trivial, trivial, trivial, trivial, trivial⟩ (by decide) (by decide) ?_
                          refine thenC ?_
                          refine goRet (by kernel_rfl) ?_
                          obtain rfl := top_some h
                          exact retOk (by kernel_rfl)
                      · skip
                        refine goReg (N := 49) (hints := [(1, .bool true), (4, .bool true), (7, .bool false)]) (l := [2]) (m := []) (s₂ := ⟨[(2, one (cb false))], []⟩) (ob := True ∧ (True ∧ (q49) = true) ∧ True ∧ True ∧ (True ∧ (q50) = true) ∧ True ∧ True ∧ (True ∧ (q51) = false) ∧ True ∧ True ∧ True ∧ True ∧ True ∧ True ∧ True ∧ True ∧ True ∧ True ∧ True) (by kernel_rfl) hN (by kernel_rfl) ⟨trivial, ⟨trivial, c52⟩, trivial, trivial, ⟨trivial, c53⟩, trivial, trivial, ⟨trivial, c54⟩, trivial, trivial, trivial, trivial, trivial, trivial, trivial, trivial, trivial, trivial, trivial⟩ (by decide) (by decide) ?_
                        refine thenC ?_
                        refine goRet (by kernel_rfl) ?_
                        obtain rfl := top_some h
                        exact retOk (by kernel_rfl)
                    · skip
                      refine goReg (N := 49) (hints := [(1, .bool true), (4, .bool false)]) (l := [2]) (m := []) (s₂ := ⟨[(2, one (cb false))], []⟩) (ob := True ∧ (True ∧ (q49) = true) ∧ True ∧ True ∧ (True ∧ (q50) = false) ∧ True ∧ True ∧ True ∧ True ∧ True ∧ True ∧ True ∧ True ∧ True ∧ True ∧ True ∧ True ∧ True ∧ True) (by kernel_rfl) hN (by kernel_rfl) ⟨trivial, ⟨trivial, c52⟩, trivial, trivial, ⟨trivial, c53⟩, trivial, trivial, trivial, trivial, trivial, trivial, trivial, trivial, trivial, trivial, trivial, trivial, trivial, trivial⟩ (by decide) (by decide) ?_
                      refine thenC ?_
                      refine goRet (by kernel_rfl) ?_
                      obtain rfl := top_some h
                      exact retOk (by kernel_rfl)
                  · skip
                    refine goReg (N := 49) (hints := [(1, .bool false)]) (l := [2]) (m := []) (s₂ := ⟨[(2, one (cb false))], []⟩) (ob := True ∧ (True ∧ (q49) = false) ∧ True ∧ True ∧ True ∧ True ∧ True ∧ True ∧ True ∧ True ∧ True ∧ True ∧ True ∧ True ∧ True ∧ True ∧ True ∧ True ∧ True) (by kernel_rfl) hN (by kernel_rfl) ⟨trivial, ⟨trivial, c52⟩, trivial, trivial, trivial, trivial, trivial, trivial, trivial, trivial, trivial, trivial, trivial, trivial, trivial, trivial, trivial, trivial, trivial⟩ (by decide) (by decide) ?_
                    refine thenC ?_
                    refine goRet (by kernel_rfl) ?_
                    obtain rfl := top_some h
                    exact retOk (by kernel_rfl)

theorem glazierlaw04_VecAll_ok (fl : Nat) (x0 : T_api_Vec) (x1 : T_2_api_Vec) (x2 : Int) (r : Bool) (h : glazierlaw04_VecAll fl x0 x1 x2 = some r) : PureC Try.prog 6 [agg [ci .i64 (x0.c0), ci .i64 (x0.c1), ci .i64 (x0.c2), ci .i64 (x0.c3), ci .i64 (x0.c4), ci .i64 (x0.c5), ci .i64 (x0.c6), ci .i64 (x0.c7)], agg [ci .i64 (x1.c0), ci .i64 (x1.c1), ci .i64 (x1.c2), ci .i64 (x1.c3), ci .i64 (x1.c4), ci .i64 (x1.c5), ci .i64 (x1.c6), ci .i64 (x1.c7), ci .i64 (x1.c8), ci .i64 (x1.c9), ci .i64 (x1.c10), ci .i64 (x1.c11), ci .i64 (x1.c12), ci .i64 (x1.c13), ci .i64 (x1.c14), ci .i64 (x1.c15)], one (ci .i64 (x2))] (one (cb r)) := by
  refine fnOf (fn := Try.f6) (n := 69) (rs := [ResultVar.tmp 6]) (s := ⟨[(0, agg [ci .i64 (x0.c0), ci .i64 (x0.c1), ci .i64 (x0.c2), ci .i64 (x0.c3), ci .i64 (x0.c4), ci .i64 (x0.c5), ci .i64 (x0.c6), ci .i64 (x0.c7)]), (1, agg [ci .i64 (x1.c0), ci .i64 (x1.c1), ci .i64 (x1.c2), ci .i64 (x1.c3), ci .i64 (x1.c4), ci .i64 (x1.c5), ci .i64 (x1.c6), ci .i64 (x1.c7), ci .i64 (x1.c8), ci .i64 (x1.c9), ci .i64 (x1.c10), ci .i64 (x1.c11), ci .i64 (x1.c12), ci .i64 (x1.c13), ci .i64 (x1.c14), ci .i64 (x1.c15)]), (2, one (ci .i64 (x2)))], []⟩) (by kernel_rfl) (by kernel_rfl) (by kernel_rfl) (by kernel_rfl) (by kernel_rfl) (by kernel_rfl) (by kernel_rfl) (by kernel_rfl) (fun E hN => ?_)
  unfold glazierlaw04_VecAll at h
  refine goSeq (by kernel_rfl) ?_
  refine goReg (N := 69) (hints := []) (l := [2, 3, 4]) (m := [3, 4]) (s₂ := ⟨[(2, one (ci .i64 (x2))), (3, one (.ptr 3 0)), (4, one (.ptr 4 0))], [(3, 24, [ci .i64 (x0.c0), ci .i64 (x0.c1), ci .i64 (x0.c2), ci .i64 (x0.c3), ci .i64 (x0.c4), ci .i64 (x0.c5), ci .i64 (x0.c6), ci .i64 (x0.c7)]), (4, 31, [ci .i64 (x1.c0), ci .i64 (x1.c1), ci .i64 (x1.c2), ci .i64 (x1.c3), ci .i64 (x1.c4), ci .i64 (x1.c5), ci .i64 (x1.c6), ci .i64 (x1.c7), ci .i64 (x1.c8), ci .i64 (x1.c9), ci .i64 (x1.c10), ci .i64 (x1.c11), ci .i64 (x1.c12), ci .i64 (x1.c13), ci .i64 (x1.c14), ci .i64 (x1.c15)])]⟩) (ob := True ∧ True ∧ True ∧ True) (by kernel_rfl) hN (by kernel_rfl) ⟨trivial, trivial, trivial, trivial⟩ (by decide) (by decide) ?_
  refine thenC ?_
  refine goSeq (by kernel_rfl) ?_
  obtain ⟨q1, hq1, h⟩ := bind_some h
  refine goReg (N := 69) (hints := [(0, .call (one (cb q1)))]) (l := [2, 3, 4, 7]) (m := [3, 4]) (s₂ := ⟨[(2, one (ci .i64 (x2))), (3, one (.ptr 3 0)), (4, one (.ptr 4 0)), (7, one (cb q1))], [(3, 24, [ci .i64 (x0.c0), ci .i64 (x0.c1), ci .i64 (x0.c2), ci .i64 (x0.c3), ci .i64 (x0.c4), ci .i64 (x0.c5), ci .i64 (x0.c6), ci .i64 (x0.c7)]), (4, 31, [ci .i64 (x1.c0), ci .i64 (x1.c1), ci .i64 (x1.c2), ci .i64 (x1.c3), ci .i64 (x1.c4), ci .i64 (x1.c5), ci .i64 (x1.c6), ci .i64 (x1.c7), ci .i64 (x1.c8), ci .i64 (x1.c9), ci .i64 (x1.c10), ci .i64 (x1.c11), ci .i64 (x1.c12), ci .i64 (x1.c13), ci .i64 (x1.c14), ci .i64 (x1.c15)])]⟩) (ob := PureC Try.prog 9 [] (one (cb q1)) ∧ True ∧ True) (by kernel_rfl) hN (by kernel_rfl) ⟨(glazierlaw04_shown_ok _ hq1), trivial, trivial⟩ (by decide) (by decide) ?_
  refine thenC ?_
  refine goSeq (by kernel_rfl) ?_
  obtain ⟨q2, hq2, h⟩ := bind_some h
  refine goReg (N := 69) (hints := [(2, .call (agg [ci .i64 (q2.c0), ci .i64 (q2.c1), ci .i64 (q2.c2), ci .i64 (q2.c3), ci .i64 (q2.c4), ci .i64 (q2.c5), ci .i64 (q2.c6), ci .i64 (q2.c7)]))]) (l := [2, 3, 4, 7, 8]) (m := [3, 4, 8]) (s₂ := ⟨[(2, one (ci .i64 (x2))), (3, one (.ptr 3 0)), (4, one (.ptr 4 0)), (7, one (cb q1)), (8, one (.ptr 8 0))], [(3, 24, [ci .i64 (x0.c0), ci .i64 (x0.c1), ci .i64 (x0.c2), ci .i64 (x0.c3), ci .i64 (x0.c4), ci .i64 (x0.c5), ci .i64 (x0.c6), ci .i64 (x0.c7)]), (4, 31, [ci .i64 (x1.c0), ci .i64 (x1.c1), ci .i64 (x1.c2), ci .i64 (x1.c3), ci .i64 (x1.c4), ci .i64 (x1.c5), ci .i64 (x1.c6), ci .i64 (x1.c7), ci .i64 (x1.c8), ci .i64 (x1.c9), ci .i64 (x1.c10), ci .i64 (x1.c11), ci .i64 (x1.c12), ci .i64 (x1.c13), ci .i64 (x1.c14), ci .i64 (x1.c15)]), (8, 24, [ci .i64 (q2.c0), ci .i64 (q2.c1), ci .i64 (q2.c2), ci .i64 (q2.c3), ci .i64 (q2.c4), ci .i64 (q2.c5), ci .i64 (q2.c6), ci .i64 (q2.c7)])]⟩) (ob := (0 ≤ (0 : Int) ∧ (0 : Int) < 2) ∧ True ∧ PureC Try.prog 13 [agg [ci .i64 (x1.c0), ci .i64 (x1.c1), ci .i64 (x1.c2), ci .i64 (x1.c3), ci .i64 (x1.c4), ci .i64 (x1.c5), ci .i64 (x1.c6), ci .i64 (x1.c7)]] (agg [ci .i64 (q2.c0), ci .i64 (q2.c1), ci .i64 (q2.c2), ci .i64 (q2.c3), ci .i64 (q2.c4), ci .i64 (q2.c5), ci .i64 (q2.c6), ci .i64 (q2.c7)]) ∧ True ∧ True ∧ True) (by kernel_rfl) hN (by kernel_rfl) ⟨(by decide), trivial, (glazierref04_Small_ok (⟨x1.c0, x1.c1, x1.c2, x1.c3, x1.c4, x1.c5, x1.c6, x1.c7⟩ : T_api_Vec) _ hq2), trivial, trivial, trivial⟩ (by decide) (by decide) ?_
  refine thenC ?_
  refine goSeq (by kernel_rfl) ?_
  obtain ⟨q3, hq3, h⟩ := bind_some h
  refine goReg (N := 69) (hints := [(2, .call (agg [ci .i64 (q3.c0), ci .i64 (q3.c1), ci .i64 (q3.c2), ci .i64 (q3.c3), ci .i64 (q3.c4), ci .i64 (q3.c5), ci .i64 (q3.c6), ci .i64 (q3.c7)]))]) (l := [2, 3, 7, 8, 9]) (m := [3, 8, 9]) (s₂ := ⟨[(2, one (ci .i64 (x2))), (3, one (.ptr 3 0)), (7, one (cb q1)), (8, one (.ptr 8 0)), (9, one (.ptr 9 0))], [(3, 24, [ci .i64 (x0.c0), ci .i64 (x0.c1), ci .i64 (x0.c2), ci .i64 (x0.c3), ci .i64 (x0.c4), ci .i64 (x0.c5), ci .i64 (x0.c6), ci .i64 (x0.c7)]), (8, 24, [ci .i64 (q2.c0), ci .i64 (q2.c1), ci .i64 (q2.c2), ci .i64 (q2.c3), ci .i64 (q2.c4), ci .i64 (q2.c5), ci .i64 (q2.c6), ci .i64 (q2.c7)]), (9, 24, [ci .i64 (q3.c0), ci .i64 (q3.c1), ci .i64 (q3.c2), ci .i64 (q3.c3), ci .i64 (q3.c4), ci .i64 (q3.c5), ci .i64 (q3.c6), ci .i64 (q3.c7)])]⟩) (ob := (0 ≤ (1 : Int) ∧ (1 : Int) < 2) ∧ True ∧ PureC Try.prog 13 [agg [ci .i64 (x1.c8), ci .i64 (x1.c9), ci .i64 (x1.c10), ci .i64 (x1.c11), ci .i64 (x1.c12), ci .i64 (x1.c13), ci .i64 (x1.c14), ci .i64 (x1.c15)]] (agg [ci .i64 (q3.c0), ci .i64 (q3.c1), ci .i64 (q3.c2), ci .i64 (q3.c3), ci .i64 (q3.c4), ci .i64 (q3.c5), ci .i64 (q3.c6), ci .i64 (q3.c7)]) ∧ True ∧ True ∧ True) (by kernel_rfl) hN (by kernel_rfl) ⟨(by decide), trivial, (glazierref04_Small_ok (⟨x1.c8, x1.c9, x1.c10, x1.c11, x1.c12, x1.c13, x1.c14, x1.c15⟩ : T_api_Vec) _ hq3), trivial, trivial, trivial⟩ (by decide) (by decide) ?_
  refine thenC ?_
  refine goSeq (by kernel_rfl) ?_
  obtain ⟨q4, hq4, h⟩ := bind_some h
  refine goReg (N := 69) (hints := [(3, .call (⟨.tup [(true, 8), (false, 1)], [ci .i64 (q4.1.c0), ci .i64 (q4.1.c1), ci .i64 (q4.1.c2), ci .i64 (q4.1.c3), ci .i64 (q4.1.c4), ci .i64 (q4.1.c5), ci .i64 (q4.1.c6), ci .i64 (q4.1.c7), cb q4.2]⟩))]) (l := [2, 3, 7, 8, 9, 10, 11]) (m := [3, 8, 9, 10]) (s₂ := ⟨[(2, one (ci .i64 (x2))), (3, one (.ptr 3 0)), (7, one (cb q1)), (8, one (.ptr 8 0)), (9, one (.ptr 9 0)), (10, one (.ptr 10 0)), (11, one (cb q4.2))], [(3, 24, [ci .i64 (x0.c0), ci .i64 (x0.c1), ci .i64 (x0.c2), ci .i64 (x0.c3), ci .i64 (x0.c4), ci .i64 (x0.c5), ci .i64 (x0.c6), ci .i64 (x0.c7)]), (8, 24, [ci .i64 (q2.c0), ci .i64 (q2.c1), ci .i64 (q2.c2), ci .i64 (q2.c3), ci .i64 (q2.c4), ci .i64 (q2.c5), ci .i64 (q2.c6), ci .i64 (q2.c7)]), (9, 24, [ci .i64 (q3.c0), ci .i64 (q3.c1), ci .i64 (q3.c2), ci .i64 (q3.c3), ci .i64 (q3.c4), ci .i64 (q3.c5), ci .i64 (q3.c6), ci .i64 (q3.c7)]), (10, 24, [ci .i64 (q4.1.c0), ci .i64 (q4.1.c1), ci .i64 (q4.1.c2), ci .i64 (q4.1.c3), ci .i64 (q4.1.c4), ci .i64 (q4.1.c5), ci .i64 (q4.1.c6), ci .i64 (q4.1.c7)])]⟩) (ob := True ∧ True ∧ True ∧ PureC Try.prog 12 [agg [ci .i64 (q2.c0), ci .i64 (q2.c1), ci .i64 (q2.c2), ci .i64 (q2.c3), ci .i64 (q2.c4), ci .i64 (q2.c5), ci .i64 (q2.c6), ci .i64 (q2.c7)], agg [ci .i64 (q3.c0), ci .i64 (q3.c1), ci .i64 (q3.c2), ci .i64 (q3.c3), ci .i64 (q3.c4), ci .i64 (q3.c5), ci .i64 (q3.c6), ci .i64 (q3.c7)], one (ci .i64 (x2))] (⟨.tup [(true, 8), (false, 1)], [ci .i64 (q4.1.c0), ci .i64 (q4.1.c1), ci .i64 (q4.1.c2), ci .i64 (q4.1.c3), ci .i64 (q4.1.c4), ci .i64 (q4.1.c5), ci .i64 (q4.1.c6), ci .i64 (q4.1.c7), cb q4.2]⟩) ∧ True ∧ True ∧ True ∧ True ∧ True ∧ True ∧ True) (by kernel_rfl) hN (by kernel_rfl) ⟨trivial, trivial, trivial, (vec_Between_ok q2 q3 (x2) _ hq4), trivial, trivial, trivial, trivial, trivial, trivial, trivial⟩ (by decide) (by decide) ?_
  refine thenC ?_
  refine goSeq (by kernel_rfl) ?_
  obtain ⟨q5, hq5, h⟩ := bind_some h
  refine goReg (N := 69) (hints := [(3, .call (⟨.tup [(true, 8), (false, 1)], [ci .i64 (q5.1.c0), ci .i64 (q5.1.c1), ci .i64 (q5.1.c2), ci .i64 (q5.1.c3), ci .i64 (q5.1.c4), ci .i64 (q5.1.c5), ci .i64 (q5.1.c6), ci .i64 (q5.1.c7), cb q5.2]⟩))]) (l := [2, 3, 7, 8, 10, 11, 12, 13]) (m := [3, 8, 10, 12]) (s₂ := ⟨[(2, one (ci .i64 (x2))), (3, one (.ptr 3 0)), (7, one (cb q1)), (8, one (.ptr 8 0)), (10, one (.ptr 10 0)), (11, one (cb q4.2)), (12, one (.ptr 12 0)), (13, one (cb q5.2))], [(3, 24, [ci .i64 (x0.c0), ci .i64 (x0.c1), ci .i64 (x0.c2), ci .i64 (x0.c3), ci .i64 (x0.c4), ci .i64 (x0.c5), ci .i64 (x0.c6), ci .i64 (x0.c7)]), (8, 24, [ci .i64 (q2.c0), ci .i64 (q2.c1), ci .i64 (q2.c2), ci .i64 (q2.c3), ci .i64 (q2.c4), ci .i64 (q2.c5), ci .i64 (q2.c6), ci .i64 (q2.c7)]), (10, 24, [ci .i64 (q4.1.c0), ci .i64 (q4.1.c1), ci .i64 (q4.1.c2), ci .i64 (q4.1.c3), ci .i64 (q4.1.c4), ci .i64 (q4.1.c5), ci .i64 (q4.1.c6), ci .i64 (q4.1.c7)]), (12, 24, [ci .i64 (q5.1.c0), ci .i64 (q5.1.c1), ci .i64 (q5.1.c2), ci .i64 (q5.1.c3), ci .i64 (q5.1.c4), ci .i64 (q5.1.c5), ci .i64 (q5.1.c6), ci .i64 (q5.1.c7)])]⟩) (ob := True ∧ True ∧ True ∧ PureC Try.prog 14 [agg [ci .i64 (q2.c0), ci .i64 (q2.c1), ci .i64 (q2.c2), ci .i64 (q2.c3), ci .i64 (q2.c4), ci .i64 (q2.c5), ci .i64 (q2.c6), ci .i64 (q2.c7)], agg [ci .i64 (q3.c0), ci .i64 (q3.c1), ci .i64 (q3.c2), ci .i64 (q3.c3), ci .i64 (q3.c4), ci .i64 (q3.c5), ci .i64 (q3.c6), ci .i64 (q3.c7)], one (ci .i64 (x2))] (⟨.tup [(true, 8), (false, 1)], [ci .i64 (q5.1.c0), ci .i64 (q5.1.c1), ci .i64 (q5.1.c2), ci .i64 (q5.1.c3), ci .i64 (q5.1.c4), ci .i64 (q5.1.c5), ci .i64 (q5.1.c6), ci .i64 (q5.1.c7), cb q5.2]⟩) ∧ True ∧ True ∧ True ∧ True ∧ True ∧ True ∧ True) (by kernel_rfl) hN (by kernel_rfl) ⟨trivial, trivial, trivial, (glazierref04_Between_ok fl q2 q3 (x2) _ hq5), trivial, trivial, trivial, trivial, trivial, trivial, trivial⟩ (by decide) (by decide) ?_
  refine thenC ?_
  refine goSeq (by kernel_rfl) ?_
  rcases fork_some h with ⟨c6, h⟩ | ⟨c6, h⟩
  · skip
    obtain ⟨q7, hq7, h⟩ := bind_some h
    obtain ⟨q8, hq8, h⟩ := bind_some h
    rcases fork_some h with ⟨c9, h⟩ | ⟨c9, h⟩
    · skip
      obtain ⟨q10, hq10, h⟩ := bind_some h
      obtain ⟨q11, hq11, h⟩ := bind_some h
      rcases fork_some h with ⟨c12, h⟩ | ⟨c12, h⟩
      · skip
        obtain ⟨q13, hq13, h⟩ := bind_some h
        obtain ⟨q14, hq14, h⟩ := bind_some h
        rcases fork_some h with ⟨c15, h⟩ | ⟨c15, h⟩
        · skip
          rcases fork_some h with ⟨c16, h⟩ | ⟨c16, h⟩
          · skip
            refine goDraw (N := 69) (m0 := 35) (hints := [(1, .bool true), (3, .call (one (cb q7))), (5, .call (one (cb q8))), (8, .bool true), (10, .call (one (cb q10))), (12, .call (one (cb q11))), (15, .bool true), (18, .call (one (ci .i64 (q13)))), (21, .call (one (ci .i64 (q14)))), (24, .bool true), (27, .bin (.bool (decide (q4.1 = q5.1)))), (29, .bool true)]) (l := [6]) (m := []) (s₂ := ⟨[(6, one (cb ((q4.2 == q5.2))))], []⟩) (ob := (True ∧ (True ∧ (q1) = true) ∧ True ∧ PureC Try.prog 15 [agg [ci .i64 (x0.c0), ci .i64 (x0.c1), ci .i64 (x0.c2), ci .i64 (x0.c3), ci .i64 (x0.c4), ci .i64 (x0.c5), ci .i64 (x0.c6), ci .i64 (x0.c7)]] (one (cb q7)) ∧ True ∧ PureC Try.prog 16 [agg [ci .i64 (x0.c0), ci .i64 (x0.c1), ci .i64 (x0.c2), ci .i64 (x0.c3), ci .i64 (x0.c4), ci .i64 (x0.c5), ci .i64 (x0.c6), ci .i64 (x0.c7)]] (one (cb q8)) ∧ True ∧ True ∧ (True ∧ ((q7 == q8)) = true) ∧ True ∧ PureC Try.prog 15 [agg [ci .i64 (q2.c0), ci .i64 (q2.c1), ci .i64 (q2.c2), ci .i64 (q2.c3), ci .i64 (q2.c4), ci .i64 (q2.c5), ci .i64 (q2.c6), ci .i64 (q2.c7)]] (one (cb q10)) ∧ True ∧ PureC Try.prog 16 [agg [ci .i64 (q2.c0), ci .i64 (q2.c1), ci .i64 (q2.c2), ci .i64 (q2.c3), ci .i64 (q2.c4), ci .i64 (q2.c5), ci .i64 (q2.c6), ci .i64 (q2.c7)]] (one (cb q11)) ∧ True ∧ True ∧ (True ∧ ((q10 == q11)) = true) ∧ True ∧ True ∧ PureC Try.prog 11 [one (ci .i64 (x2)), agg [ci .i64 (q2.c0), ci .i64 (q2.c1), ci .i64 (q2.c2), ci .i64 (q2.c3), ci .i64 (q2.c4), ci .i64 (q2.c5), ci .i64 (q2.c6), ci .i64 (q2.c7)]] (one (ci .i64 (q13))) ∧ True ∧ True ∧ PureC Try.prog 17 [one (ci .i64 (x2)), agg [ci .i64 (q2.c0), ci .i64 (q2.c1), ci .i64 (q2.c2), ci .i64 (q2.c3), ci .i64 (q2.c4), ci .i64 (q2.c5), ci .i64 (q2.c6), ci .i64 (q2.c7)]] (one (ci .i64 (q14))) ∧ True ∧ True ∧ (True ∧ (((q13) == (q14))) = true) ∧ True ∧ True ∧ (EqOb Try.prog .eql 24 (.tmp 60) (.tmp 61) [.int .i64 (q4.1.c0), .int .i64 (q4.1.c1), .int .i64 (q4.1.c2), .int .i64 (q4.1.c3), .int .i64 (q4.1.c4), .int .i64 (q4.1.c5), .int .i64 (q4.1.c6), .int .i64 (q4.1.c7)] [.int .i64 (q5.1.c0), .int .i64 (q5.1.c1), .int .i64 (q5.1.c2), .int .i64 (q5.1.c3), .int .i64 (q5.1.c4), .int .i64 (q5.1.c5), .int .i64 (q5.1.c6), .int .i64 (q5.1.c7)] (.bool (decide (q4.1 = q5.1)))) ∧ True ∧ (True ∧ (decide (q4.1 = q5.1)) = true) ∧ True ∧ True ∧ True ∧ True ∧ True ∧ True) ∧ (True)) (by kernel_rfl) hN (by kernel_rfl) (by kernel_rfl) ⟨⟨trivial, ⟨trivial, c6⟩, trivial, (vec_Right_ok x0 _ hq7), trivial, (glazierref04_Right_ok x0 _ hq8), trivial, trivial, ⟨trivial, c9⟩, trivial, (vec_Right_ok q2 _ hq10), trivial, (glazierref04_Right_ok q2 _ hq11), trivial, trivial, ⟨trivial, c12⟩, trivial, trivial, (vec_Dist_ok (x2) q2 _ hq13), trivial, trivial, (glazierref04_Dist_ok (x2) q2 _ hq14), trivial, trivial, ⟨trivial, c15⟩, trivial, trivial, (eql_ob (by kernel_rfl) (by kernel_rfl) (T_api_Vec.eqB q4.1 q5.1)), trivial, ⟨trivial, c16⟩, trivial, trivial, trivial, trivial, trivial, trivial⟩, trivial⟩ (by decide) (by decide) ?_
            refine thenC ?_
            refine goRet (by kernel_rfl) ?_
            obtain rfl := top_some h
            exact retOk (by kernel_rfl)
          · skip
            refine goDraw (N := 69) (m0 := 35) (hints := [(1, .bool true), (3, .call (one (cb q7))), (5, .call (one (cb q8))), (8, .bool true), (10, .call (one (cb q10))), (12, .call (one (cb q11))), (15, .bool true), (18, .call (one (ci .i64 (q13)))), (21, .call (one (ci .i64 (q14)))), (24, .bool true), (27, .bin (.bool (decide (q4.1 = q5.1)))), (29, .bool false)]) (l := [6]) (m := []) (s₂ := ⟨[(6, one (cb false))], []⟩) (ob := (True ∧ (True ∧ (q1) = true) ∧ True ∧ PureC Try.prog 15 [agg [ci .i64 (x0.c0), ci .i64 (x0.c1), ci .i64 (x0.c2), ci .i64 (x0.c3), ci .i64 (x0.c4), ci .i64 (x0.c5), ci .i64 (x0.c6), ci .i64 (x0.c7)]] (one (cb q7)) ∧ True ∧ PureC Try.prog 16 [agg [ci .i64 (x0.c0), ci .i64 (x0.c1), ci .i64 (x0.c2), ci .i64 (x0.c3), ci .i64 (x0.c4), ci .i64 (x0.c5), ci .i64 (x0.c6), ci .i64 (x0.c7)]] (one (cb q8)) ∧ True ∧ True ∧ (True ∧ ((q7 == q8)) = true) ∧ True ∧ PureC Try.prog 15 [agg [ci .i64 (q2.c0), ci .i64 (q2.c1), ci .i64 (q2.c2), ci .i64 (q2.c3), ci .i64 (q2.c4), ci .i64 (q2.c5), ci .i64 (q2.c6), ci .i64 (q2.c7)]] (one (cb q10)) ∧ True ∧ PureC Try.prog 16 [agg [ci .i64 (q2.c0), ci .i64 (q2.c1), ci .i64 (q2.c2), ci .i64 (q2.c3), ci .i64 (q2.c4), ci .i64 (q2.c5), ci .i64 (q2.c6), ci .i64 (q2.c7)]] (one (cb q11)) ∧ True ∧ True ∧ (True ∧ ((q10 == q11)) = true) ∧ True ∧ True ∧ PureC Try.prog 11 [one (ci .i64 (x2)), agg [ci .i64 (q2.c0), ci .i64 (q2.c1), ci .i64 (q2.c2), ci .i64 (q2.c3), ci .i64 (q2.c4), ci .i64 (q2.c5), ci .i64 (q2.c6), ci .i64 (q2.c7)]] (one (ci .i64 (q13))) ∧ True ∧ True ∧ PureC Try.prog 17 [one (ci .i64 (x2)), agg [ci .i64 (q2.c0), ci .i64 (q2.c1), ci .i64 (q2.c2), ci .i64 (q2.c3), ci .i64 (q2.c4), ci .i64 (q2.c5), ci .i64 (q2.c6), ci .i64 (q2.c7)]] (one (ci .i64 (q14))) ∧ True ∧ True ∧ (True ∧ (((q13) == (q14))) = true) ∧ True ∧ True ∧ (EqOb Try.prog .eql 24 (.tmp 60) (.tmp 61) [.int .i64 (q4.1.c0), .int .i64 (q4.1.c1), .int .i64 (q4.1.c2), .int .i64 (q4.1.c3), .int .i64 (q4.1.c4), .int .i64 (q4.1.c5), .int .i64 (q4.1.c6), .int .i64 (q4.1.c7)] [.int .i64 (q5.1.c0), .int .i64 (q5.1.c1), .int .i64 (q5.1.c2), .int .i64 (q5.1.c3), .int .i64 (q5.1.c4), .int .i64 (q5.1.c5), .int .i64 (q5.1.c6), .int .i64 (q5.1.c7)] (.bool (decide (q4.1 = q5.1)))) ∧ True ∧ (True ∧ (decide (q4.1 = q5.1)) = false) ∧ True ∧ True ∧ True) ∧ (True)) (by kernel_rfl) hN (by kernel_rfl) (by kernel_rfl) ⟨⟨trivial, ⟨trivial, c6⟩, trivial, (vec_Right_ok x0 _ hq7), trivial, (glazierref04_Right_ok x0 _ hq8), trivial, trivial, ⟨trivial, c9⟩, trivial, (vec_Right_ok q2 _ hq10), trivial, (glazierref04_Right_ok q2 _ hq11), trivial, trivial, ⟨trivial, c12⟩, trivial, trivial, (vec_Dist_ok (x2) q2 _ hq13), trivial, trivial, (glazierref04_Dist_ok (x2) q2 _ hq14), trivial, trivial, ⟨trivial, c15⟩, trivial, trivial, (eql_ob (by kernel_rfl) (by kernel_rfl) (T_api_Vec.eqB q4.1 q5.1)), trivial, ⟨trivial, c16⟩, trivial, trivial, trivial⟩, trivial⟩ (by decide) (by decide) ?_
            refine thenC ?_
            refine goRet (by kernel_rfl) ?_
            obtain rfl := top_some h
            exact retOk (by kernel_rfl)
        · skip
          refine goDraw (N := 69) (m0 := 35) (hints := [(1, .bool true), (3, .call (one (cb q7))), (5, .call (one (cb q8))), (8, .bool true), (10, .call (one (cb q10))), (12, .call (one (cb q11))), (15, .bool true), (18, .call (one (ci .i64 (q13)))), (21, .call (one (ci .i64 (q14)))), (24, .bool false)]) (l := [6]) (m := []) (s₂ := ⟨[(6, one (cb false))], []⟩) (ob := (True ∧ (True ∧ (q1) = true) ∧ True ∧ PureC Try.prog 15 [agg [ci .i64 (x0.c0), ci .i64 (x0.c1), ci .i64 (x0.c2), ci .i64 (x0.c3), ci .i64 (x0.c4), ci .i64 (x0.c5), ci .i64 (x0.c6), ci .i64 (x0.c7)]] (one (cb q7)) ∧ True ∧ PureC Try.prog 16 [agg [ci .i64 (x0.c0), ci .i64 (x0.c1), ci .i64 (x0.c2), ci .i64 (x0.c3), ci .i64 (x0.c4), ci .i64 (x0.c5), ci .i64 (x0.c6), ci .i64 (x0.c7)]] (one (cb q8)) ∧ True ∧ True ∧ (True ∧ ((q7 == q8)) = true) ∧ True ∧ PureC Try.prog 15 [agg [ci .i64 (q2.c0), ci .i64 (q2.c1), ci .i64 (q2.c2), ci .i64 (q2.c3), ci .i64 (q2.c4), ci .i64 (q2.c5), ci .i64 (q2.c6), ci .i64 (q2.c7)]] (one (cb q10)) ∧ True ∧ PureC Try.prog 16 [agg [ci .i64 (q2.c0), ci .i64 (q2.c1), ci .i64 (q2.c2), ci .i64 (q2.c3), ci .i64 (q2.c4), ci .i64 (q2.c5), ci .i64 (q2.c6), ci .i64 (q2.c7)]] (one (cb q11)) ∧ True ∧ True ∧ (True ∧ ((q10 == q11)) = true) ∧ True ∧ True ∧ PureC Try.prog 11 [one (ci .i64 (x2)), agg [ci .i64 (q2.c0), ci .i64 (q2.c1), ci .i64 (q2.c2), ci .i64 (q2.c3), ci .i64 (q2.c4), ci .i64 (q2.c5), ci .i64 (q2.c6), ci .i64 (q2.c7)]] (one (ci .i64 (q13))) ∧ True ∧ True ∧ PureC Try.prog 17 [one (ci .i64 (x2)), agg [ci .i64 (q2.c0), ci .i64 (q2.c1), ci .i64 (q2.c2), ci .i64 (q2.c3), ci .i64 (q2.c4), ci .i64 (q2.c5), ci .i64 (q2.c6), ci .i64 (q2.c7)]] (one (ci .i64 (q14))) ∧ True ∧ True ∧ (True ∧ (((q13) == (q14))) = false) ∧ True ∧ True ∧ True ∧ True ∧ True) ∧ (True)) (by kernel_rfl) hN (by kernel_rfl) (by kernel_rfl) ⟨⟨trivial, ⟨trivial, c6⟩, trivial, (vec_Right_ok x0 _ hq7), trivial, (glazierref04_Right_ok x0 _ hq8), trivial, trivial, ⟨trivial, c9⟩, trivial, (vec_Right_ok q2 _ hq10), trivial, (glazierref04_Right_ok q2 _ hq11), trivial, trivial, ⟨trivial, c12⟩, trivial, trivial, (vec_Dist_ok (x2) q2 _ hq13), trivial, trivial, (glazierref04_Dist_ok (x2) q2 _ hq14), trivial, trivial, ⟨trivial, c15⟩, trivial, trivial, trivial, trivial, trivial⟩, trivial⟩ (by decide) (by decide) ?_
          refine thenC ?_
          refine goRet (by kernel_rfl) ?_
          obtain rfl := top_some h
          exact retOk (by kernel_rfl)
      · skip
        refine goDraw (N := 69) (m0 := 35) (hints := [(1, .bool true), (3, .call (one (cb q7))), (5, .call (one (cb q8))), (8, .bool true), (10, .call (one (cb q10))), (12, .call (one (cb q11))), (15, .bool false)]) (l := [6]) (m := []) (s₂ := ⟨[(6, one (cb false))], []⟩) (ob := (True ∧ (True ∧ (q1) = true) ∧ True ∧ PureC Try.prog 15 [agg [ci .i64 (x0.c0), ci .i64 (x0.c1), ci .i64 (x0.c2), ci .i64 (x0.c3), ci .i64 (x0.c4), ci .i64 (x0.c5), ci .i64 (x0.c6), ci .i64 (x0.c7)]] (one (cb q7)) ∧ True ∧ PureC Try.prog 16 [agg [ci .i64 (x0.c0), ci .i64 (x0.c1), ci .i64 (x0.c2), ci .i64 (x0.c3), ci .i64 (x0.c4), ci .i64 (x0.c5), ci .i64 (x0.c6), ci .i64 (x0.c7)]] (one (cb q8)) ∧ True ∧ True ∧ (True ∧ ((q7 == q8)) = true) ∧ True ∧ PureC Try.prog 15 [agg [ci .i64 (q2.c0), ci .i64 (q2.c1), ci .i64 (q2.c2), ci .i64 (q2.c3), ci .i64 (q2.c4), ci .i64 (q2.c5), ci .i64 (q2.c6), ci .i64 (q2.c7)]] (one (cb q10)) ∧ True ∧ PureC Try.prog 16 [agg [ci .i64 (q2.c0), ci .i64 (q2.c1), ci .i64 (q2.c2), ci .i64 (q2.c3), ci .i64 (q2.c4), ci .i64 (q2.c5), ci .i64 (q2.c6), ci .i64 (q2.c7)]] (one (cb q11)) ∧ True ∧ True ∧ (True ∧ ((q10 == q11)) = false) ∧ True ∧ True ∧ True ∧ True ∧ True ∧ True ∧ True) ∧ (True)) (by kernel_rfl) hN (by kernel_rfl) (by kernel_rfl) ⟨⟨trivial, ⟨trivial, c6⟩, trivial, (vec_Right_ok x0 _ hq7), trivial, (glazierref04_Right_ok x0 _ hq8), trivial, trivial, ⟨trivial, c9⟩, trivial, (vec_Right_ok q2 _ hq10), trivial, (glazierref04_Right_ok q2 _ hq11), trivial, trivial, ⟨trivial, c12⟩, trivial, trivial, trivial, trivial, trivial, trivial, trivial⟩, trivial⟩ (by decide) (by decide) ?_
        refine thenC ?_
        refine goRet (by kernel_rfl) ?_
        obtain rfl := top_some h
        exact retOk (by kernel_rfl)
    · skip
      refine goDraw (N := 69) (m0 := 35) (hints := [(1, .bool true), (3, .call (one (cb q7))), (5, .call (one (cb q8))), (8, .bool false)]) (l := [6]) (m := []) (s₂ := ⟨[(6, one (cb false))], []⟩) (ob := (True ∧ (True ∧ (q1) = true) ∧ True ∧ PureC Try.prog 15 [agg [ci .i64 (x0.c0), ci .i64 (x0.c1), ci .i64 (x0.c2), ci .i64 (x0.c3), ci .i64 (x0.c4), ci .i64 (x0.c5), ci .i64 (x0.c6), ci .i64 (x0.c7)]] (one (cb q7)) ∧ True ∧ PureC Try.prog 16 [agg [ci .i64 (x0.c0), ci .i64 (x0.c1), ci .i64 (x0.c2), ci .i64 (x0.c3), ci .i64 (x0.c4), ci .i64 (x0.c5), ci .i64 (x0.c6), ci .i64 (x0.c7)]] (one (cb q8)) ∧ True ∧ True ∧ (True ∧ ((q7 == q8)) = false) ∧ True ∧ True ∧ True ∧ True ∧ True ∧ True ∧ True ∧ True ∧ True) ∧ (True)) (by kernel_rfl) hN (by kernel_rfl) (by kernel_rfl) ⟨⟨trivial, ⟨trivial, c6⟩, trivial, (vec_Right_ok x0 _ hq7), trivial, (glazierref04_Right_ok x0 _ hq8), trivial, trivial, ⟨trivial, c9⟩, trivial, trivial, trivial, trivial, trivial, trivial, trivial, trivial, trivial⟩, trivial⟩ (by decide) (by decide) ?_
      refine thenC ?_
      refine goRet (by kernel_rfl) ?_
      obtain rfl := top_some h
      exact retOk (by kernel_rfl)
  · skip
    refine goDraw (N := 69) (m0 := 35) (hints := [(1, .bool false)]) (l := [6]) (m := []) (s₂ := ⟨[(6, one (cb false))], []⟩) (ob := (True ∧ (True ∧ (q1) = false) ∧ True ∧ True ∧ True ∧ True ∧ True ∧ True ∧ True ∧ True ∧ True ∧ True ∧ True) ∧ (True)) (by kernel_rfl) hN (by kernel_rfl) (by kernel_rfl) ⟨⟨trivial, ⟨trivial, c6⟩, trivial, trivial, trivial, trivial, trivial, trivial, trivial, trivial, trivial, trivial, trivial⟩, trivial⟩ (by decide) (by decide) ?_
    refine thenC ?_
    refine goRet (by kernel_rfl) ?_
    obtain rfl := top_some h
    exact retOk (by kernel_rfl)


end Go.Proofs.Ytmiffokcdmehhaa.G
