/- Each Go function comes to its plain one: printed by program. Part 2. -/
import Derived.Test.YtmiffokcdmehhaaWalkV11
import Derived.Test.YtmiffokcdmehhaaProg
set_option linter.unusedVariables false
namespace Go.Proofs.Ytmiffokcdmehhaa.G
open Go Go.RowKit Go.Proofs.Ytmiffokcdmehhaa.E

theorem vec_held_ok (x0 : T_8_int) (r : T_8_int) (h : vec_held x0 = some r) : PureC Try.prog 22 [agg [ci .i64 (x0.c0), ci .i64 (x0.c1), ci .i64 (x0.c2), ci .i64 (x0.c3), ci .i64 (x0.c4), ci .i64 (x0.c5), ci .i64 (x0.c6), ci .i64 (x0.c7)]] (agg [ci .i64 (r.c0), ci .i64 (r.c1), ci .i64 (r.c2), ci .i64 (r.c3), ci .i64 (r.c4), ci .i64 (r.c5), ci .i64 (r.c6), ci .i64 (r.c7)]) := by
  refine fnOf (fn := Try.f22) (n := 23) (rs := [ResultVar.cell 2 36]) (s := ⟨[(0, agg [ci .i64 (x0.c0), ci .i64 (x0.c1), ci .i64 (x0.c2), ci .i64 (x0.c3), ci .i64 (x0.c4), ci .i64 (x0.c5), ci .i64 (x0.c6), ci .i64 (x0.c7)])], []⟩) (by kernel_rfl) (by kernel_rfl) (by kernel_rfl) (by kernel_rfl) (by kernel_rfl) (by kernel_rfl) (by kernel_rfl) (by kernel_rfl) (fun E hN => ?_)
  unfold vec_held at h
  refine goSeq (by kernel_rfl) ?_
  refine goReg (N := 23) (hints := []) (l := [1, 2]) (m := [1, 2]) (s₂ := ⟨[(1, one (.ptr 1 0)), (2, one (.ptr 2 0))], [(1, 36, [ci .i64 (x0.c0), ci .i64 (x0.c1), ci .i64 (x0.c2), ci .i64 (x0.c3), ci .i64 (x0.c4), ci .i64 (x0.c5), ci .i64 (x0.c6), ci .i64 (x0.c7)]), (2, 36, [ci .i64 0, ci .i64 0, ci .i64 0, ci .i64 0, ci .i64 0, ci .i64 0, ci .i64 0, ci .i64 0])]⟩) (ob := True ∧ True ∧ True) (by kernel_rfl) hN (by kernel_rfl) ⟨trivial, trivial, trivial⟩ (by decide) (by decide) ?_
  refine thenC ?_
  refine goSeq (by kernel_rfl) ?_
  refine goSeq (by kernel_rfl) ?_
  refine goReg (N := 23) (hints := []) (l := [1, 2, 6, 7]) (m := [1, 2]) (s₂ := ⟨[(1, one (.ptr 1 0)), (2, one (.ptr 2 0)), (6, agg [ci .i64 (x0.c0), ci .i64 (x0.c1), ci .i64 (x0.c2), ci .i64 (x0.c3), ci .i64 (x0.c4), ci .i64 (x0.c5), ci .i64 (x0.c6), ci .i64 (x0.c7)]), (7, one (ci .i64 0))], [(1, 36, [ci .i64 (x0.c0), ci .i64 (x0.c1), ci .i64 (x0.c2), ci .i64 (x0.c3), ci .i64 (x0.c4), ci .i64 (x0.c5), ci .i64 (x0.c6), ci .i64 (x0.c7)]), (2, 36, [ci .i64 0, ci .i64 0, ci .i64 0, ci .i64 0, ci .i64 0, ci .i64 0, ci .i64 0, ci .i64 0])]⟩) (ob := True ∧ True ∧ True) (by kernel_rfl) hN (by kernel_rfl) ⟨trivial, trivial, trivial⟩ (by decide) (by decide) ?_
  refine thenC ?_
  refine goBlock (i := 0) (by kernel_rfl) (by kernel_rfl) ?_
  refine goLoop1 (by kernel_rfl) ?_
  refine roundC ?_
  refine goSeq (by kernel_rfl) ?_
  refine goReg (N := 23) (hints := []) (l := [1, 2, 6, 7, 8]) (m := [1, 2]) (s₂ := ⟨[(1, one (.ptr 1 0)), (2, one (.ptr 2 0)), (6, agg [ci .i64 (x0.c0), ci .i64 (x0.c1), ci .i64 (x0.c2), ci .i64 (x0.c3), ci .i64 (x0.c4), ci .i64 (x0.c5), ci .i64 (x0.c6), ci .i64 (x0.c7)]), (7, one (ci .i64 0)), (8, one (cb true))], [(1, 36, [ci .i64 (x0.c0), ci .i64 (x0.c1), ci .i64 (x0.c2), ci .i64 (x0.c3), ci .i64 (x0.c4), ci .i64 (x0.c5), ci .i64 (x0.c6), ci .i64 (x0.c7)]), (2, 36, [ci .i64 0, ci .i64 0, ci .i64 0, ci .i64 0, ci .i64 0, ci .i64 0, ci .i64 0, ci .i64 0])]⟩) (ob := True ∧ True) (by kernel_rfl) hN (by kernel_rfl) ⟨trivial, trivial⟩ (by decide) (by decide) ?_
  refine thenC ?_
  refine goSeq (by kernel_rfl) ?_
  refine goCondT (by kernel_rfl) (by kernel_rfl) ?_
  refine goSkip (by kernel_rfl) ?_
  refine thenC ?_
  refine goSeq (by kernel_rfl) ?_
  refine goBlock (i := 1) (by kernel_rfl) (by kernel_rfl) ?_
  refine goSeq (by kernel_rfl) ?_
  refine goReg (N := 23) (hints := []) (l := [1, 2, 3, 4, 6, 7]) (m := [1, 2]) (s₂ := ⟨[(1, one (.ptr 1 0)), (2, one (.ptr 2 0)), (3, one (ci .i64 0)), (4, one (ci .i64 (x0.c0))), (6, agg [ci .i64 (x0.c0), ci .i64 (x0.c1), ci .i64 (x0.c2), ci .i64 (x0.c3), ci .i64 (x0.c4), ci .i64 (x0.c5), ci .i64 (x0.c6), ci .i64 (x0.c7)]), (7, one (ci .i64 0))], [(1, 36, [ci .i64 (x0.c0), ci .i64 (x0.c1), ci .i64 (x0.c2), ci .i64 (x0.c3), ci .i64 (x0.c4), ci .i64 (x0.c5), ci .i64 (x0.c6), ci .i64 (x0.c7)]), (2, 36, [ci .i64 0, ci .i64 0, ci .i64 0, ci .i64 0, ci .i64 0, ci .i64 0, ci .i64 0, ci .i64 0])]⟩) (ob := True ∧ (0 ≤ (0 : Int) ∧ (0 : Int) < 8) ∧ True ∧ True ∧ True) (by kernel_rfl) hN (by kernel_rfl) ⟨trivial, (by decide), trivial, trivial, trivial⟩ (by decide) (by decide) ?_
  refine thenC ?_
  refine goSeq (by kernel_rfl) ?_
  refine goReg (N := 23) (hints := []) (l := [1, 2, 3, 4, 5, 6, 7]) (m := [1, 2]) (s₂ := ⟨[(1, one (.ptr 1 0)), (2, one (.ptr 2 0)), (3, one (ci .i64 0)), (4, one (ci .i64 (x0.c0))), (5, one (ci .i64 32768)), (6, agg [ci .i64 (x0.c0), ci .i64 (x0.c1), ci .i64 (x0.c2), ci .i64 (x0.c3), ci .i64 (x0.c4), ci .i64 (x0.c5), ci .i64 (x0.c6), ci .i64 (x0.c7)]), (7, one (ci .i64 0))], [(1, 36, [ci .i64 (x0.c0), ci .i64 (x0.c1), ci .i64 (x0.c2), ci .i64 (x0.c3), ci .i64 (x0.c4), ci .i64 (x0.c5), ci .i64 (x0.c6), ci .i64 (x0.c7)]), (2, 36, [ci .i64 0, ci .i64 0, ci .i64 0, ci .i64 0, ci .i64 0, ci .i64 0, ci .i64 0, ci .i64 0])]⟩) (ob := True ∧ True) (by kernel_rfl) hN (by kernel_rfl) ⟨trivial, trivial⟩ (by decide) (by decide) ?_
  refine thenC ?_
  refine goSeq (by kernel_rfl) ?_
  refine goSeq (by kernel_rfl) ?_
  refine goReg (N := 23) (hints := []) (l := [1, 2, 3, 4, 5, 6, 7, 12]) (m := [1, 2]) (s₂ := ⟨[(1, one (.ptr 1 0)), (2, one (.ptr 2 0)), (3, one (ci .i64 0)), (4, one (ci .i64 (x0.c0))), (5, one (ci .i64 32768)), (6, agg [ci .i64 (x0.c0), ci .i64 (x0.c1), ci .i64 (x0.c2), ci .i64 (x0.c3), ci .i64 (x0.c4), ci .i64 (x0.c5), ci .i64 (x0.c6), ci .i64 (x0.c7)]), (7, one (ci .i64 0)), (12, one (cb false))], [(1, 36, [ci .i64 (x0.c0), ci .i64 (x0.c1), ci .i64 (x0.c2), ci .i64 (x0.c3), ci .i64 (x0.c4), ci .i64 (x0.c5), ci .i64 (x0.c6), ci .i64 (x0.c7)]), (2, 36, [ci .i64 0, ci .i64 0, ci .i64 0, ci .i64 0, ci .i64 0, ci .i64 0, ci .i64 0, ci .i64 0])]⟩) (ob := True ∧ True ∧ True) (by kernel_rfl) hN (by kernel_rfl) ⟨trivial, trivial, trivial⟩ (by decide) (by decide) ?_
  refine thenC ?_
  refine goCondF (by kernel_rfl) (by kernel_rfl) ?_
  refine goSkip (by kernel_rfl) ?_
  refine thenC ?_
  obtain ⟨v34, ev34, h⟩ := bnd_some h
  refine goReg (N := 23) (hints := [(6, .val (one (ci .i64 v34)))]) (l := [1, 2, 6, 7]) (m := [1, 2]) (s₂ := ⟨[(1, one (.ptr 1 0)), (2, one (.ptr 2 0)), (6, agg [ci .i64 (x0.c0), ci .i64 (x0.c1), ci .i64 (x0.c2), ci .i64 (x0.c3), ci .i64 (x0.c4), ci .i64 (x0.c5), ci .i64 (x0.c6), ci .i64 (x0.c7)]), (7, one (ci .i64 0))], [(1, 36, [ci .i64 (v34), ci .i64 (x0.c1), ci .i64 (x0.c2), ci .i64 (x0.c3), ci .i64 (x0.c4), ci .i64 (x0.c5), ci .i64 (x0.c6), ci .i64 (x0.c7)]), (2, 36, [ci .i64 0, ci .i64 0, ci .i64 0, ci .i64 0, ci .i64 0, ci .i64 0, ci .i64 0, ci .i64 0])]⟩) (ob := True ∧ True ∧ True ∧ True ∧ True ∧ True ∧ (True ∧ one (ci .i64 ((if 32768 < ((if (-32768) > (x0.c0) then (-32768) else (x0.c0))) then 32768 else ((if (-32768) > (x0.c0) then (-32768) else (x0.c0)))))) = one (ci .i64 v34)) ∧ (0 ≤ (0 : Int) ∧ (0 : Int) < 8) ∧ True ∧ True) (by kernel_rfl) hN (by kernel_rfl) ⟨trivial, trivial, trivial, trivial, trivial, trivial, ⟨trivial, congrArg (fun x => one (ci .i64 x)) ev34⟩, (by decide), trivial, trivial⟩ (by decide) (by decide) ?_
  refine blkN ?_
  refine thenC ?_
  refine goReg (N := 23) (hints := []) (l := [1, 2, 6, 7]) (m := [1, 2]) (s₂ := ⟨[(1, one (.ptr 1 0)), (2, one (.ptr 2 0)), (6, agg [ci .i64 (x0.c0), ci .i64 (x0.c1), ci .i64 (x0.c2), ci .i64 (x0.c3), ci .i64 (x0.c4), ci .i64 (x0.c5), ci .i64 (x0.c6), ci .i64 (x0.c7)]), (7, one (ci .i64 1))], [(1, 36, [ci .i64 (v34), ci .i64 (x0.c1), ci .i64 (x0.c2), ci .i64 (x0.c3), ci .i64 (x0.c4), ci .i64 (x0.c5), ci .i64 (x0.c6), ci .i64 (x0.c7)]), (2, 36, [ci .i64 0, ci .i64 0, ci .i64 0, ci .i64 0, ci .i64 0, ci .i64 0, ci .i64 0, ci .i64 0])]⟩) (ob := True ∧ True ∧ True) (by kernel_rfl) hN (by kernel_rfl) ⟨trivial, trivial, trivial⟩ (by decide) (by decide) ?_
  refine thenN (roundC ?_)
  refine goSeq (by kernel_rfl) ?_
  refine goReg (N := 23) (hints := []) (l := [1, 2, 6, 7, 8]) (m := [1, 2]) (s₂ := ⟨[(1, one (.ptr 1 0)), (2, one (.ptr 2 0)), (6, agg [ci .i64 (x0.c0), ci .i64 (x0.c1), ci .i64 (x0.c2), ci .i64 (x0.c3), ci .i64 (x0.c4), ci .i64 (x0.c5), ci .i64 (x0.c6), ci .i64 (x0.c7)]), (7, one (ci .i64 1)), (8, one (cb true))], [(1, 36, [ci .i64 (v34), ci .i64 (x0.c1), ci .i64 (x0.c2), ci .i64 (x0.c3), ci .i64 (x0.c4), ci .i64 (x0.c5), ci .i64 (x0.c6), ci .i64 (x0.c7)]), (2, 36, [ci .i64 0, ci .i64 0, ci .i64 0, ci .i64 0, ci .i64 0, ci .i64 0, ci .i64 0, ci .i64 0])]⟩) (ob := True ∧ True) (by kernel_rfl) hN (by kernel_rfl) ⟨trivial, trivial⟩ (by decide) (by decide) ?_
  refine thenC ?_
  refine goSeq (by kernel_rfl) ?_
  refine goCondT (by kernel_rfl) (by kernel_rfl) ?_
  refine goSkip (by kernel_rfl) ?_
  refine thenC ?_
  refine goSeq (by kernel_rfl) ?_
  refine goBlock (i := 1) (by kernel_rfl) (by kernel_rfl) ?_
  refine goSeq (by kernel_rfl) ?_
  refine goReg (N := 23) (hints := []) (l := [1, 2, 3, 4, 6, 7]) (m := [1, 2]) (s₂ := ⟨[(1, one (.ptr 1 0)), (2, one (.ptr 2 0)), (3, one (ci .i64 1)), (4, one (ci .i64 (x0.c1))), (6, agg [ci .i64 (x0.c0), ci .i64 (x0.c1), ci .i64 (x0.c2), ci .i64 (x0.c3), ci .i64 (x0.c4), ci .i64 (x0.c5), ci .i64 (x0.c6), ci .i64 (x0.c7)]), (7, one (ci .i64 1))], [(1, 36, [ci .i64 (v34), ci .i64 (x0.c1), ci .i64 (x0.c2), ci .i64 (x0.c3), ci .i64 (x0.c4), ci .i64 (x0.c5), ci .i64 (x0.c6), ci .i64 (x0.c7)]), (2, 36, [ci .i64 0, ci .i64 0, ci .i64 0, ci .i64 0, ci .i64 0, ci .i64 0, ci .i64 0, ci .i64 0])]⟩) (ob := True ∧ (0 ≤ (1 : Int) ∧ (1 : Int) < 8) ∧ True ∧ True ∧ True) (by kernel_rfl) hN (by kernel_rfl) ⟨trivial, (by decide), trivial, trivial, trivial⟩ (by decide) (by decide) ?_
  refine thenC ?_
  refine goSeq (by kernel_rfl) ?_
  refine goReg (N := 23) (hints := []) (l := [1, 2, 3, 4, 5, 6, 7]) (m := [1, 2]) (s₂ := ⟨[(1, one (.ptr 1 0)), (2, one (.ptr 2 0)), (3, one (ci .i64 1)), (4, one (ci .i64 (x0.c1))), (5, one (ci .i64 32768)), (6, agg [ci .i64 (x0.c0), ci .i64 (x0.c1), ci .i64 (x0.c2), ci .i64 (x0.c3), ci .i64 (x0.c4), ci .i64 (x0.c5), ci .i64 (x0.c6), ci .i64 (x0.c7)]), (7, one (ci .i64 1))], [(1, 36, [ci .i64 (v34), ci .i64 (x0.c1), ci .i64 (x0.c2), ci .i64 (x0.c3), ci .i64 (x0.c4), ci .i64 (x0.c5), ci .i64 (x0.c6), ci .i64 (x0.c7)]), (2, 36, [ci .i64 0, ci .i64 0, ci .i64 0, ci .i64 0, ci .i64 0, ci .i64 0, ci .i64 0, ci .i64 0])]⟩) (ob := True ∧ True) (by kernel_rfl) hN (by kernel_rfl) ⟨trivial, trivial⟩ (by decide) (by decide) ?_
  refine thenC ?_
  refine goSeq (by kernel_rfl) ?_
  refine goSeq (by kernel_rfl) ?_
  refine goReg (N := 23) (hints := []) (l := [1, 2, 3, 4, 5, 6, 7, 12]) (m := [1, 2]) (s₂ := ⟨[(1, one (.ptr 1 0)), (2, one (.ptr 2 0)), (3, one (ci .i64 1)), (4, one (ci .i64 (x0.c1))), (5, one (ci .i64 32768)), (6, agg [ci .i64 (x0.c0), ci .i64 (x0.c1), ci .i64 (x0.c2), ci .i64 (x0.c3), ci .i64 (x0.c4), ci .i64 (x0.c5), ci .i64 (x0.c6), ci .i64 (x0.c7)]), (7, one (ci .i64 1)), (12, one (cb false))], [(1, 36, [ci .i64 (v34), ci .i64 (x0.c1), ci .i64 (x0.c2), ci .i64 (x0.c3), ci .i64 (x0.c4), ci .i64 (x0.c5), ci .i64 (x0.c6), ci .i64 (x0.c7)]), (2, 36, [ci .i64 0, ci .i64 0, ci .i64 0, ci .i64 0, ci .i64 0, ci .i64 0, ci .i64 0, ci .i64 0])]⟩) (ob := True ∧ True ∧ True) (by kernel_rfl) hN (by kernel_rfl) ⟨trivial, trivial, trivial⟩ (by decide) (by decide) ?_
  refine thenC ?_
  refine goCondF (by kernel_rfl) (by kernel_rfl) ?_
  refine goSkip (by kernel_rfl) ?_
  refine thenC ?_
  obtain ⟨v36, ev36, h⟩ := bnd_some h
  refine goReg (N := 23) (hints := [(6, .val (one (ci .i64 v36)))]) (l := [1, 2, 6, 7]) (m := [1, 2]) (s₂ := ⟨[(1, one (.ptr 1 0)), (2, one (.ptr 2 0)), (6, agg [ci .i64 (x0.c0), ci .i64 (x0.c1), ci .i64 (x0.c2), ci .i64 (x0.c3), ci .i64 (x0.c4), ci .i64 (x0.c5), ci .i64 (x0.c6), ci .i64 (x0.c7)]), (7, one (ci .i64 1))], [(1, 36, [ci .i64 (v34), ci .i64 (v36), ci .i64 (x0.c2), ci .i64 (x0.c3), ci .i64 (x0.c4), ci .i64 (x0.c5), ci .i64 (x0.c6), ci .i64 (x0.c7)]), (2, 36, [ci .i64 0, ci .i64 0, ci .i64 0, ci .i64 0, ci .i64 0, ci .i64 0, ci .i64 0, ci .i64 0])]⟩) (ob := True ∧ True ∧ True ∧ True ∧ True ∧ True ∧ (True ∧ one (ci .i64 ((if 32768 < ((if (-32768) > (x0.c1) then (-32768) else (x0.c1))) then 32768 else ((if (-32768) > (x0.c1) then (-32768) else (x0.c1)))))) = one (ci .i64 v36)) ∧ (0 ≤ (1 : Int) ∧ (1 : Int) < 8) ∧ True ∧ True) (by kernel_rfl) hN (by kernel_rfl) ⟨trivial, trivial, trivial, trivial, trivial, trivial, ⟨trivial, congrArg (fun x => one (ci .i64 x)) ev36⟩, (by decide), trivial, trivial⟩ (by decide) (by decide) ?_
  refine blkN ?_
  refine thenC ?_
  refine goReg (N := 23) (hints := []) (l := [1, 2, 6, 7]) (m := [1, 2]) (s₂ := ⟨[(1, one (.ptr 1 0)), (2, one (.ptr 2 0)), (6, agg [ci .i64 (x0.c0), ci .i64 (x0.c1), ci .i64 (x0.c2), ci .i64 (x0.c3), ci .i64 (x0.c4), ci .i64 (x0.c5), ci .i64 (x0.c6), ci .i64 (x0.c7)]), (7, one (ci .i64 2))], [(1, 36, [ci .i64 (v34), ci .i64 (v36), ci .i64 (x0.c2), ci .i64 (x0.c3), ci .i64 (x0.c4), ci .i64 (x0.c5), ci .i64 (x0.c6), ci .i64 (x0.c7)]), (2, 36, [ci .i64 0, ci .i64 0, ci .i64 0, ci .i64 0, ci .i64 0, ci .i64 0, ci .i64 0, ci .i64 0])]⟩) (ob := True ∧ True ∧ True) (by kernel_rfl) hN (by kernel_rfl) ⟨trivial, trivial, trivial⟩ (by decide) (by decide) ?_
  refine thenN (roundC ?_)
  refine goSeq (by kernel_rfl) ?_
  refine goReg (N := 23) (hints := []) (l := [1, 2, 6, 7, 8]) (m := [1, 2]) (s₂ := ⟨[(1, one (.ptr 1 0)), (2, one (.ptr 2 0)), (6, agg [ci .i64 (x0.c0), ci .i64 (x0.c1), ci .i64 (x0.c2), ci .i64 (x0.c3), ci .i64 (x0.c4), ci .i64 (x0.c5), ci .i64 (x0.c6), ci .i64 (x0.c7)]), (7, one (ci .i64 2)), (8, one (cb true))], [(1, 36, [ci .i64 (v34), ci .i64 (v36), ci .i64 (x0.c2), ci .i64 (x0.c3), ci .i64 (x0.c4), ci .i64 (x0.c5), ci .i64 (x0.c6), ci .i64 (x0.c7)]), (2, 36, [ci .i64 0, ci .i64 0, ci .i64 0, ci .i64 0, ci .i64 0, ci .i64 0, ci .i64 0, ci .i64 0])]⟩) (ob := True ∧ True) (by kernel_rfl) hN (by kernel_rfl) ⟨trivial, trivial⟩ (by decide) (by decide) ?_
  refine thenC ?_
  refine goSeq (by kernel_rfl) ?_
  refine goCondT (by kernel_rfl) (by kernel_rfl) ?_
  refine goSkip (by kernel_rfl) ?_
  refine thenC ?_
  refine goSeq (by kernel_rfl) ?_
  refine goBlock (i := 1) (by kernel_rfl) (by kernel_rfl) ?_
  refine goSeq (by kernel_rfl) ?_
  refine goReg (N := 23) (hints := []) (l := [1, 2, 3, 4, 6, 7]) (m := [1, 2]) (s₂ := ⟨[(1, one (.ptr 1 0)), (2, one (.ptr 2 0)), (3, one (ci .i64 2)), (4, one (ci .i64 (x0.c2))), (6, agg [ci .i64 (x0.c0), ci .i64 (x0.c1), ci .i64 (x0.c2), ci .i64 (x0.c3), ci .i64 (x0.c4), ci .i64 (x0.c5), ci .i64 (x0.c6), ci .i64 (x0.c7)]), (7, one (ci .i64 2))], [(1, 36, [ci .i64 (v34), ci .i64 (v36), ci .i64 (x0.c2), ci .i64 (x0.c3), ci .i64 (x0.c4), ci .i64 (x0.c5), ci .i64 (x0.c6), ci .i64 (x0.c7)]), (2, 36, [ci .i64 0, ci .i64 0, ci .i64 0, ci .i64 0, ci .i64 0, ci .i64 0, ci .i64 0, ci .i64 0])]⟩) (ob := True ∧ (0 ≤ (2 : Int) ∧ (2 : Int) < 8) ∧ True ∧ True ∧ True) (by kernel_rfl) hN (by kernel_rfl) ⟨trivial, (by decide), trivial, trivial, trivial⟩ (by decide) (by decide) ?_
  refine thenC ?_
  refine goSeq (by kernel_rfl) ?_
  refine goReg (N := 23) (hints := []) (l := [1, 2, 3, 4, 5, 6, 7]) (m := [1, 2]) (s₂ := ⟨[(1, one (.ptr 1 0)), (2, one (.ptr 2 0)), (3, one (ci .i64 2)), (4, one (ci .i64 (x0.c2))), (5, one (ci .i64 32768)), (6, agg [ci .i64 (x0.c0), ci .i64 (x0.c1), ci .i64 (x0.c2), ci .i64 (x0.c3), ci .i64 (x0.c4), ci .i64 (x0.c5), ci .i64 (x0.c6), ci .i64 (x0.c7)]), (7, one (ci .i64 2))], [(1, 36, [ci .i64 (v34), ci .i64 (v36), ci .i64 (x0.c2), ci .i64 (x0.c3), ci .i64 (x0.c4), ci .i64 (x0.c5), ci .i64 (x0.c6), ci .i64 (x0.c7)]), (2, 36, [ci .i64 0, ci .i64 0, ci .i64 0, ci .i64 0, ci .i64 0, ci .i64 0, ci .i64 0, ci .i64 0])]⟩) (ob := True ∧ True) (by kernel_rfl) hN (by kernel_rfl) ⟨trivial, trivial⟩ (by decide) (by decide) ?_
  refine thenC ?_
  refine goSeq (by kernel_rfl) ?_
  refine goSeq (by kernel_rfl) ?_
  refine goReg (N := 23) (hints := []) (l := [1, 2, 3, 4, 5, 6, 7, 12]) (m := [1, 2]) (s₂ := ⟨[(1, one (.ptr 1 0)), (2, one (.ptr 2 0)), (3, one (ci .i64 2)), (4, one (ci .i64 (x0.c2))), (5, one (ci .i64 32768)), (6, agg [ci .i64 (x0.c0), ci .i64 (x0.c1), ci .i64 (x0.c2), ci .i64 (x0.c3), ci .i64 (x0.c4), ci .i64 (x0.c5), ci .i64 (x0.c6), ci .i64 (x0.c7)]), (7, one (ci .i64 2)), (12, one (cb false))], [(1, 36, [ci .i64 (v34), ci .i64 (v36), ci .i64 (x0.c2), ci .i64 (x0.c3), ci .i64 (x0.c4), ci .i64 (x0.c5), ci .i64 (x0.c6), ci .i64 (x0.c7)]), (2, 36, [ci .i64 0, ci .i64 0, ci .i64 0, ci .i64 0, ci .i64 0, ci .i64 0, ci .i64 0, ci .i64 0])]⟩) (ob := True ∧ True ∧ True) (by kernel_rfl) hN (by kernel_rfl) ⟨trivial, trivial, trivial⟩ (by decide) (by decide) ?_
  refine thenC ?_
  refine goCondF (by kernel_rfl) (by kernel_rfl) ?_
  refine goSkip (by kernel_rfl) ?_
  refine thenC ?_
  obtain ⟨v38, ev38, h⟩ := bnd_some h
  refine goReg (N := 23) (hints := [(6, .val (one (ci .i64 v38)))]) (l := [1, 2, 6, 7]) (m := [1, 2]) (s₂ := ⟨[(1, one (.ptr 1 0)), (2, one (.ptr 2 0)), (6, agg [ci .i64 (x0.c0), ci .i64 (x0.c1), ci .i64 (x0.c2), ci .i64 (x0.c3), ci .i64 (x0.c4), ci .i64 (x0.c5), ci .i64 (x0.c6), ci .i64 (x0.c7)]), (7, one (ci .i64 2))], [(1, 36, [ci .i64 (v34), ci .i64 (v36), ci .i64 (v38), ci .i64 (x0.c3), ci .i64 (x0.c4), ci .i64 (x0.c5), ci .i64 (x0.c6), ci .i64 (x0.c7)]), (2, 36, [ci .i64 0, ci .i64 0, ci .i64 0, ci .i64 0, ci .i64 0, ci .i64 0, ci .i64 0, ci .i64 0])]⟩) (ob := True ∧ True ∧ True ∧ True ∧ True ∧ True ∧ (True ∧ one (ci .i64 ((if 32768 < ((if (-32768) > (x0.c2) then (-32768) else (x0.c2))) then 32768 else ((if (-32768) > (x0.c2) then (-32768) else (x0.c2)))))) = one (ci .i64 v38)) ∧ (0 ≤ (2 : Int) ∧ (2 : Int) < 8) ∧ True ∧ True) (by kernel_rfl) hN (by kernel_rfl) ⟨trivial, trivial, trivial, trivial, trivial, trivial, ⟨trivial, congrArg (fun x => one (ci .i64 x)) ev38⟩, (by decide), trivial, trivial⟩ (by decide) (by decide) ?_
  refine blkN ?_
  refine thenC ?_
  refine goReg (N := 23) (hints := []) (l := [1, 2, 6, 7]) (m := [1, 2]) (s₂ := ⟨[(1, one (.ptr 1 0)), (2, one (.ptr 2 0)), (6, agg [ci .i64 (x0.c0), ci .i64 (x0.c1), ci .i64 (x0.c2), ci .i64 (x0.c3), ci .i64 (x0.c4), ci .i64 (x0.c5), ci .i64 (x0.c6), ci .i64 (x0.c7)]), (7, one (ci .i64 3))], [(1, 36, [ci .i64 (v34), ci .i64 (v36), ci .i64 (v38), ci .i64 (x0.c3), ci .i64 (x0.c4), ci .i64 (x0.c5), ci .i64 (x0.c6), ci .i64 (x0.c7)]), (2, 36, [ci .i64 0, ci .i64 0, ci .i64 0, ci .i64 0, ci .i64 0, ci .i64 0, ci .i64 0, ci .i64 0])]⟩) (ob := True ∧ True ∧ True) (by kernel_rfl) hN (by kernel_rfl) ⟨trivial, trivial, trivial⟩ (by decide) (by decide) ?_
  refine thenN (roundC ?_)
  refine goSeq (by kernel_rfl) ?_
  refine goReg (N := 23) (hints := []) (l := [1, 2, 6, 7, 8]) (m := [1, 2]) (s₂ := ⟨[(1, one (.ptr 1 0)), (2, one (.ptr 2 0)), (6, agg [ci .i64 (x0.c0), ci .i64 (x0.c1), ci .i64 (x0.c2), ci .i64 (x0.c3), ci .i64 (x0.c4), ci .i64 (x0.c5), ci .i64 (x0.c6), ci .i64 (x0.c7)]), (7, one (ci .i64 3)), (8, one (cb true))], [(1, 36, [ci .i64 (v34), ci .i64 (v36), ci .i64 (v38), ci .i64 (x0.c3), ci .i64 (x0.c4), ci .i64 (x0.c5), ci .i64 (x0.c6), ci .i64 (x0.c7)]), (2, 36, [ci .i64 0, ci .i64 0, ci .i64 0, ci .i64 0, ci .i64 0, ci .i64 0, ci .i64 0, ci .i64 0])]⟩) (ob := True ∧ True) (by kernel_rfl) hN (by kernel_rfl) ⟨trivial, trivial⟩ (by decide) (by decide) ?_
  refine thenC ?_
  refine goSeq (by kernel_rfl) ?_
  refine goCondT (by kernel_rfl) (by kernel_rfl) ?_
  refine goSkip (by kernel_rfl) ?_
  refine thenC ?_
  refine goSeq (by kernel_rfl) ?_
  refine goBlock (i := 1) (by kernel_rfl) (by kernel_rfl) ?_
  refine goSeq (by kernel_rfl) ?_
  refine goReg (N := 23) (hints := []) (l := [1, 2, 3, 4, 6, 7]) (m := [1, 2]) (s₂ := ⟨[(1, one (.ptr 1 0)), (2, one (.ptr 2 0)), (3, one (ci .i64 3)), (4, one (ci .i64 (x0.c3))), (6, agg [ci .i64 (x0.c0), ci .i64 (x0.c1), ci .i64 (x0.c2), ci .i64 (x0.c3), ci .i64 (x0.c4), ci .i64 (x0.c5), ci .i64 (x0.c6), ci .i64 (x0.c7)]), (7, one (ci .i64 3))], [(1, 36, [ci .i64 (v34), ci .i64 (v36), ci .i64 (v38), ci .i64 (x0.c3), ci .i64 (x0.c4), ci .i64 (x0.c5), ci .i64 (x0.c6), ci .i64 (x0.c7)]), (2, 36, [ci .i64 0, ci .i64 0, ci .i64 0, ci .i64 0, ci .i64 0, ci .i64 0, ci .i64 0, ci .i64 0])]⟩) (ob := True ∧ (0 ≤ (3 : Int) ∧ (3 : Int) < 8) ∧ True ∧ True ∧ True) (by kernel_rfl) hN (by kernel_rfl) ⟨trivial, (by decide), trivial, trivial, trivial⟩ (by decide) (by decide) ?_
  refine thenC ?_
  refine goSeq (by kernel_rfl) ?_
  refine goReg (N := 23) (hints := []) (l := [1, 2, 3, 4, 5, 6, 7]) (m := [1, 2]) (s₂ := ⟨[(1, one (.ptr 1 0)), (2, one (.ptr 2 0)), (3, one (ci .i64 3)), (4, one (ci .i64 (x0.c3))), (5, one (ci .i64 32768)), (6, agg [ci .i64 (x0.c0), ci .i64 (x0.c1), ci .i64 (x0.c2), ci .i64 (x0.c3), ci .i64 (x0.c4), ci .i64 (x0.c5), ci .i64 (x0.c6), ci .i64 (x0.c7)]), (7, one (ci .i64 3))], [(1, 36, [ci .i64 (v34), ci .i64 (v36), ci .i64 (v38), ci .i64 (x0.c3), ci .i64 (x0.c4), ci .i64 (x0.c5), ci .i64 (x0.c6), ci .i64 (x0.c7)]), (2, 36, [ci .i64 0, ci .i64 0, ci .i64 0, ci .i64 0, ci .i64 0, ci .i64 0, ci .i64 0, ci .i64 0])]⟩) (ob := True ∧ True) (by kernel_rfl) hN (by kernel_rfl) ⟨trivial, trivial⟩ (by decide) (by decide) ?_
  refine thenC ?_
  refine goSeq (by kernel_rfl) ?_
  refine goSeq (by kernel_rfl) ?_
  refine goReg (N := 23) (hints := []) (l := [1, 2, 3, 4, 5, 6, 7, 12]) (m := [1, 2]) (s₂ := ⟨[(1, one (.ptr 1 0)), (2, one (.ptr 2 0)), (3, one (ci .i64 3)), (4, one (ci .i64 (x0.c3))), (5, one (ci .i64 32768)), (6, agg [ci .i64 (x0.c0), ci .i64 (x0.c1), ci .i64 (x0.c2), ci .i64 (x0.c3), ci .i64 (x0.c4), ci .i64 (x0.c5), ci .i64 (x0.c6), ci .i64 (x0.c7)]), (7, one (ci .i64 3)), (12, one (cb false))], [(1, 36, [ci .i64 (v34), ci .i64 (v36), ci .i64 (v38), ci .i64 (x0.c3), ci .i64 (x0.c4), ci .i64 (x0.c5), ci .i64 (x0.c6), ci .i64 (x0.c7)]), (2, 36, [ci .i64 0, ci .i64 0, ci .i64 0, ci .i64 0, ci .i64 0, ci .i64 0, ci .i64 0, ci .i64 0])]⟩) (ob := True ∧ True ∧ True) (by kernel_rfl) hN (by kernel_rfl) ⟨trivial, trivial, trivial⟩ (by decide) (by decide) ?_
  refine thenC ?_
  refine goCondF (by kernel_rfl) (by kernel_rfl) ?_
  refine goSkip (by kernel_rfl) ?_
  refine thenC ?_
  obtain ⟨v40, ev40, h⟩ := bnd_some h
  refine goReg (N := 23) (hints := [(6, .val (one (ci .i64 v40)))]) (l := [1, 2, 6, 7]) (m := [1, 2]) (s₂ := ⟨[(1, one (.ptr 1 0)), (2, one (.ptr 2 0)), (6, agg [ci .i64 (x0.c0), ci .i64 (x0.c1), ci .i64 (x0.c2), ci .i64 (x0.c3), ci .i64 (x0.c4), ci .i64 (x0.c5), ci .i64 (x0.c6), ci .i64 (x0.c7)]), (7, one (ci .i64 3))], [(1, 36, [ci .i64 (v34), ci .i64 (v36), ci .i64 (v38), ci .i64 (v40), ci .i64 (x0.c4), ci .i64 (x0.c5), ci .i64 (x0.c6), ci .i64 (x0.c7)]), (2, 36, [ci .i64 0, ci .i64 0, ci .i64 0, ci .i64 0, ci .i64 0, ci .i64 0, ci .i64 0, ci .i64 0])]⟩) (ob := True ∧ True ∧ True ∧ True ∧ True ∧ True ∧ (True ∧ one (ci .i64 ((if 32768 < ((if (-32768) > (x0.c3) then (-32768) else (x0.c3))) then 32768 else ((if (-32768) > (x0.c3) then (-32768) else (x0.c3)))))) = one (ci .i64 v40)) ∧ (0 ≤ (3 : Int) ∧ (3 : Int) < 8) ∧ True ∧ True) (by kernel_rfl) hN (by kernel_rfl) ⟨trivial, trivial, trivial, trivial, trivial, trivial, ⟨trivial, congrArg (fun x => one (ci .i64 x)) ev40⟩, (by decide), trivial, trivial⟩ (by decide) (by decide) ?_
  refine blkN ?_
  refine thenC ?_
  refine goReg (N := 23) (hints := []) (l := [1, 2, 6, 7]) (m := [1, 2]) (s₂ := ⟨[(1, one (.ptr 1 0)), (2, one (.ptr 2 0)), (6, agg [ci .i64 (x0.c0), ci .i64 (x0.c1), ci .i64 (x0.c2), ci .i64 (x0.c3), ci .i64 (x0.c4), ci .i64 (x0.c5), ci .i64 (x0.c6), ci .i64 (x0.c7)]), (7, one (ci .i64 4))], [(1, 36, [ci .i64 (v34), ci .i64 (v36), ci .i64 (v38), ci .i64 (v40), ci .i64 (x0.c4), ci .i64 (x0.c5), ci .i64 (x0.c6), ci .i64 (x0.c7)]), (2, 36, [ci .i64 0, ci .i64 0, ci .i64 0, ci .i64 0, ci .i64 0, ci .i64 0, ci .i64 0, ci .i64 0])]⟩) (ob := True ∧ True ∧ True) (by kernel_rfl) hN (by kernel_rfl) ⟨trivial, trivial, trivial⟩ (by decide) (by decide) ?_
  refine thenN (roundC ?_)
  refine goSeq (by kernel_rfl) ?_
  refine goReg (N := 23) (hints := []) (l := [1, 2, 6, 7, 8]) (m := [1, 2]) (s₂ := ⟨[(1, one (.ptr 1 0)), (2, one (.ptr 2 0)), (6, agg [ci .i64 (x0.c0), ci .i64 (x0.c1), ci .i64 (x0.c2), ci .i64 (x0.c3), ci .i64 (x0.c4), ci .i64 (x0.c5), ci .i64 (x0.c6), ci .i64 (x0.c7)]), (7, one (ci .i64 4)), (8, one (cb true))], [(1, 36, [ci .i64 (v34), ci .i64 (v36), ci .i64 (v38), ci .i64 (v40), ci .i64 (x0.c4), ci .i64 (x0.c5), ci .i64 (x0.c6), ci .i64 (x0.c7)]), (2, 36, [ci .i64 0, ci .i64 0, ci .i64 0, ci .i64 0, ci .i64 0, ci .i64 0, ci .i64 0, ci .i64 0])]⟩) (ob := True ∧ True) (by kernel_rfl) hN (by kernel_rfl) ⟨trivial, trivial⟩ (by decide) (by decide) ?_
  refine thenC ?_
  refine goSeq (by kernel_rfl) ?_
  refine goCondT (by kernel_rfl) (by kernel_rfl) ?_
  refine goSkip (by kernel_rfl) ?_
  refine thenC ?_
  refine goSeq (by kernel_rfl) ?_
  refine goBlock (i := 1) (by kernel_rfl) (by kernel_rfl) ?_
  refine goSeq (by kernel_rfl) ?_
  refine goReg (N := 23) (hints := []) (l := [1, 2, 3, 4, 6, 7]) (m := [1, 2]) (s₂ := ⟨[(1, one (.ptr 1 0)), (2, one (.ptr 2 0)), (3, one (ci .i64 4)), (4, one (ci .i64 (x0.c4))), (6, agg [ci .i64 (x0.c0), ci .i64 (x0.c1), ci .i64 (x0.c2), ci .i64 (x0.c3), ci .i64 (x0.c4), ci .i64 (x0.c5), ci .i64 (x0.c6), ci .i64 (x0.c7)]), (7, one (ci .i64 4))], [(1, 36, [ci .i64 (v34), ci .i64 (v36), ci .i64 (v38), ci .i64 (v40), ci .i64 (x0.c4), ci .i64 (x0.c5), ci .i64 (x0.c6), ci .i64 (x0.c7)]), (2, 36, [ci .i64 0, ci .i64 0, ci .i64 0, ci .i64 0, ci .i64 0, ci .i64 0, ci .i64 0, ci .i64 0])]⟩) (ob := True ∧ (0 ≤ (4 : Int) ∧ (4 : Int) < 8) ∧ True ∧ True ∧ True) (by kernel_rfl) hN (by kernel_rfl) ⟨trivial, (by decide), trivial, trivial, trivial⟩ (by decide) (by decide) ?_
  refine thenC ?_
  refine goSeq (by kernel_rfl) ?_
  refine goReg (N := 23) (hints := []) (l := [1, 2, 3, 4, 5, 6, 7]) (m := [1, 2]) (s₂ := ⟨[(1, one (.ptr 1 0)), (2, one (.ptr 2 0)), (3, one (ci .i64 4)), (4, one (ci .i64 (x0.c4))), (5, one (ci .i64 32768)), (6, agg [ci .i64 (x0.c0), ci .i64 (x0.c1), ci .i64 (x0.c2), ci .i64 (x0.c3), ci .i64 (x0.c4), ci .i64 (x0.c5), ci .i64 (x0.c6), ci .i64 (x0.c7)]), (7, one (ci .i64 4))], [(1, 36, [ci .i64 (v34), ci .i64 (v36), ci .i64 (v38), ci .i64 (v40), ci .i64 (x0.c4), ci .i64 (x0.c5), ci .i64 (x0.c6), ci .i64 (x0.c7)]), (2, 36, [ci .i64 0, ci .i64 0, ci .i64 0, ci .i64 0, ci .i64 0, ci .i64 0, ci .i64 0, ci .i64 0])]⟩) (ob := True ∧ True) (by kernel_rfl) hN (by kernel_rfl) ⟨trivial, trivial⟩ (by decide) (by decide) ?_
  refine thenC ?_
  refine goSeq (by kernel_rfl) ?_
  refine goSeq (by kernel_rfl) ?_
  refine goReg (N := 23) (hints := []) (l := [1, 2, 3, 4, 5, 6, 7, 12]) (m := [1, 2]) (s₂ := ⟨[(1, one (.ptr 1 0)), (2, one (.ptr 2 0)), (3, one (ci .i64 4)), (4, one (ci .i64 (x0.c4))), (5, one (ci .i64 32768)), (6, agg [ci .i64 (x0.c0), ci .i64 (x0.c1), ci .i64 (x0.c2), ci .i64 (x0.c3), ci .i64 (x0.c4), ci .i64 (x0.c5), ci .i64 (x0.c6), ci .i64 (x0.c7)]), (7, one (ci .i64 4)), (12, one (cb true))], [(1, 36, [ci .i64 (v34), ci .i64 (v36), ci .i64 (v38), ci .i64 (v40), ci .i64 (x0.c4), ci .i64 (x0.c5), ci .i64 (x0.c6), ci .i64 (x0.c7)]), (2, 36, [ci .i64 0, ci .i64 0, ci .i64 0, ci .i64 0, ci .i64 0, ci .i64 0, ci .i64 0, ci .i64 0])]⟩) (ob := True ∧ True ∧ True) (by kernel_rfl) hN (by kernel_rfl) ⟨trivial, trivial, trivial⟩ (by decide) (by decide) ?_
  refine thenC ?_
  refine goCondT (by kernel_rfl) (by kernel_rfl) ?_
  refine goReg (N := 23) (hints := []) (l := [1, 2, 3, 4, 5, 6, 7]) (m := [1, 2]) (s₂ := ⟨[(1, one (.ptr 1 0)), (2, one (.ptr 2 0)), (3, one (ci .i64 4)), (4, one (ci .i64 (x0.c4))), (5, one (ci .i64 4096)), (6, agg [ci .i64 (x0.c0), ci .i64 (x0.c1), ci .i64 (x0.c2), ci .i64 (x0.c3), ci .i64 (x0.c4), ci .i64 (x0.c5), ci .i64 (x0.c6), ci .i64 (x0.c7)]), (7, one (ci .i64 4))], [(1, 36, [ci .i64 (v34), ci .i64 (v36), ci .i64 (v38), ci .i64 (v40), ci .i64 (x0.c4), ci .i64 (x0.c5), ci .i64 (x0.c6), ci .i64 (x0.c7)]), (2, 36, [ci .i64 0, ci .i64 0, ci .i64 0, ci .i64 0, ci .i64 0, ci .i64 0, ci .i64 0, ci .i64 0])]⟩) (ob := True ∧ True) (by kernel_rfl) hN (by kernel_rfl) ⟨trivial, trivial⟩ (by decide) (by decide) ?_
  refine thenC ?_
  obtain ⟨v42, ev42, h⟩ := bnd_some h
  refine goReg (N := 23) (hints := [(6, .val (one (ci .i64 v42)))]) (l := [1, 2, 6, 7]) (m := [1, 2]) (s₂ := ⟨[(1, one (.ptr 1 0)), (2, one (.ptr 2 0)), (6, agg [ci .i64 (x0.c0), ci .i64 (x0.c1), ci .i64 (x0.c2), ci .i64 (x0.c3), ci .i64 (x0.c4), ci .i64 (x0.c5), ci .i64 (x0.c6), ci .i64 (x0.c7)]), (7, one (ci .i64 4))], [(1, 36, [ci .i64 (v34), ci .i64 (v36), ci .i64 (v38), ci .i64 (v40), ci .i64 (v42), ci .i64 (x0.c5), ci .i64 (x0.c6), ci .i64 (x0.c7)]), (2, 36, [ci .i64 0, ci .i64 0, ci .i64 0, ci .i64 0, ci .i64 0, ci .i64 0, ci .i64 0, ci .i64 0])]⟩) (ob := True ∧ True ∧ True ∧ True ∧ True ∧ True ∧ (True ∧ one (ci .i64 ((if 4096 < ((if (-4096) > (x0.c4) then (-4096) else (x0.c4))) then 4096 else ((if (-4096) > (x0.c4) then (-4096) else (x0.c4)))))) = one (ci .i64 v42)) ∧ (0 ≤ (4 : Int) ∧ (4 : Int) < 8) ∧ True ∧ True) (by kernel_rfl) hN (by kernel_rfl) ⟨trivial, trivial, trivial, trivial, trivial, trivial, ⟨trivial, congrArg (fun x => one (ci .i64 x)) ev42⟩, (by decide), trivial, trivial⟩ (by decide) (by decide) ?_
  refine blkN ?_
  refine thenC ?_
  refine goReg (N := 23) (hints := []) (l := [1, 2, 6, 7]) (m := [1, 2]) (s₂ := ⟨[(1, one (.ptr 1 0)), (2, one (.ptr 2 0)), (6, agg [ci .i64 (x0.c0), ci .i64 (x0.c1), ci .i64 (x0.c2), ci .i64 (x0.c3), ci .i64 (x0.c4), ci .i64 (x0.c5), ci .i64 (x0.c6), ci .i64 (x0.c7)]), (7, one (ci .i64 5))], [(1, 36, [ci .i64 (v34), ci .i64 (v36), ci .i64 (v38), ci .i64 (v40), ci .i64 (v42), ci .i64 (x0.c5), ci .i64 (x0.c6), ci .i64 (x0.c7)]), (2, 36, [ci .i64 0, ci .i64 0, ci .i64 0, ci .i64 0, ci .i64 0, ci .i64 0, ci .i64 0, ci .i64 0])]⟩) (ob := True ∧ True ∧ True) (by kernel_rfl) hN (by kernel_rfl) ⟨trivial, trivial, trivial⟩ (by decide) (by decide) ?_
  refine thenN (roundC ?_)
  refine goSeq (by kernel_rfl) ?_
  refine goReg (N := 23) (hints := []) (l := [1, 2, 6, 7, 8]) (m := [1, 2]) (s₂ := ⟨[(1, one (.ptr 1 0)), (2, one (.ptr 2 0)), (6, agg [ci .i64 (x0.c0), ci .i64 (x0.c1), ci .i64 (x0.c2), ci .i64 (x0.c3), ci .i64 (x0.c4), ci .i64 (x0.c5), ci .i64 (x0.c6), ci .i64 (x0.c7)]), (7, one (ci .i64 5)), (8, one (cb true))], [(1, 36, [ci .i64 (v34), ci .i64 (v36), ci .i64 (v38), ci .i64 (v40), ci .i64 (v42), ci .i64 (x0.c5), ci .i64 (x0.c6), ci .i64 (x0.c7)]), (2, 36, [ci .i64 0, ci .i64 0, ci .i64 0, ci .i64 0, ci .i64 0, ci .i64 0, ci .i64 0, ci .i64 0])]⟩) (ob := True ∧ True) (by kernel_rfl) hN (by kernel_rfl) ⟨trivial, trivial⟩ (by decide) (by decide) ?_
  refine thenC ?_
  refine goSeq (by kernel_rfl) ?_
  refine goCondT (by kernel_rfl) (by kernel_rfl) ?_
  refine goSkip (by kernel_rfl) ?_
  refine thenC ?_
  refine goSeq (by kernel_rfl) ?_
  refine goBlock (i := 1) (by kernel_rfl) (by kernel_rfl) ?_
  refine goSeq (by kernel_rfl) ?_
  refine goReg (N := 23) (hints := []) (l := [1, 2, 3, 4, 6, 7]) (m := [1, 2]) (s₂ := ⟨[(1, one (.ptr 1 0)), (2, one (.ptr 2 0)), (3, one (ci .i64 5)), (4, one (ci .i64 (x0.c5))), (6, agg [ci .i64 (x0.c0), ci .i64 (x0.c1), ci .i64 (x0.c2), ci .i64 (x0.c3), ci .i64 (x0.c4), ci .i64 (x0.c5), ci .i64 (x0.c6), ci .i64 (x0.c7)]), (7, one (ci .i64 5))], [(1, 36, [ci .i64 (v34), ci .i64 (v36), ci .i64 (v38), ci .i64 (v40), ci .i64 (v42), ci .i64 (x0.c5), ci .i64 (x0.c6), ci .i64 (x0.c7)]), (2, 36, [ci .i64 0, ci .i64 0, ci .i64 0, ci .i64 0, ci .i64 0, ci .i64 0, ci .i64 0, ci .i64 0])]⟩) (ob := True ∧ (0 ≤ (5 : Int) ∧ (5 : Int) < 8) ∧ True ∧ True ∧ True) (by kernel_rfl) hN (by kernel_rfl) ⟨trivial, (by decide), trivial, trivial, trivial⟩ (by decide) (by decide) ?_
  refine thenC ?_
  refine goSeq (by kernel_rfl) ?_
  refine goReg (N := 23) (hints := []) (l := [1, 2, 3, 4, 5, 6, 7]) (m := [1, 2]) (s₂ := ⟨[(1, one (.ptr 1 0)), (2, one (.ptr 2 0)), (3, one (ci .i64 5)), (4, one (ci .i64 (x0.c5))), (5, one (ci .i64 32768)), (6, agg [ci .i64 (x0.c0), ci .i64 (x0.c1), ci .i64 (x0.c2), ci .i64 (x0.c3), ci .i64 (x0.c4), ci .i64 (x0.c5), ci .i64 (x0.c6), ci .i64 (x0.c7)]), (7, one (ci .i64 5))], [(1, 36, [ci .i64 (v34), ci .i64 (v36), ci .i64 (v38), ci .i64 (v40), ci .i64 (v42), ci .i64 (x0.c5), ci .i64 (x0.c6), ci .i64 (x0.c7)]), (2, 36, [ci .i64 0, ci .i64 0, ci .i64 0, ci .i64 0, ci .i64 0, ci .i64 0, ci .i64 0, ci .i64 0])]⟩) (ob := True ∧ True) (by kernel_rfl) hN (by kernel_rfl) ⟨trivial, trivial⟩ (by decide) (by decide) ?_
  refine thenC ?_
  refine goSeq (by kernel_rfl) ?_
  refine goSeq (by kernel_rfl) ?_
  refine goReg (N := 23) (hints := []) (l := [1, 2, 3, 4, 5, 6, 7, 12]) (m := [1, 2]) (s₂ := ⟨[(1, one (.ptr 1 0)), (2, one (.ptr 2 0)), (3, one (ci .i64 5)), (4, one (ci .i64 (x0.c5))), (5, one (ci .i64 32768)), (6, agg [ci .i64 (x0.c0), ci .i64 (x0.c1), ci .i64 (x0.c2), ci .i64 (x0.c3), ci .i64 (x0.c4), ci .i64 (x0.c5), ci .i64 (x0.c6), ci .i64 (x0.c7)]), (7, one (ci .i64 5)), (12, one (cb true))], [(1, 36, [ci .i64 (v34), ci .i64 (v36), ci .i64 (v38), ci .i64 (v40), ci .i64 (v42), ci .i64 (x0.c5), ci .i64 (x0.c6), ci .i64 (x0.c7)]), (2, 36, [ci .i64 0, ci .i64 0, ci .i64 0, ci .i64 0, ci .i64 0, ci .i64 0, ci .i64 0, ci .i64 0])]⟩) (ob := True ∧ True ∧ True) (by kernel_rfl) hN (by kernel_rfl) ⟨trivial, trivial, trivial⟩ (by decide) (by decide) ?_
  refine thenC ?_
  refine goCondT (by kernel_rfl) (by kernel_rfl) ?_
  refine goReg (N := 23) (hints := []) (l := [1, 2, 3, 4, 5, 6, 7]) (m := [1, 2]) (s₂ := ⟨[(1, one (.ptr 1 0)), (2, one (.ptr 2 0)), (3, one (ci .i64 5)), (4, one (ci .i64 (x0.c5))), (5, one (ci .i64 4096)), (6, agg [ci .i64 (x0.c0), ci .i64 (x0.c1), ci .i64 (x0.c2), ci .i64 (x0.c3), ci .i64 (x0.c4), ci .i64 (x0.c5), ci .i64 (x0.c6), ci .i64 (x0.c7)]), (7, one (ci .i64 5))], [(1, 36, [ci .i64 (v34), ci .i64 (v36), ci .i64 (v38), ci .i64 (v40), ci .i64 (v42), ci .i64 (x0.c5), ci .i64 (x0.c6), ci .i64 (x0.c7)]), (2, 36, [ci .i64 0, ci .i64 0, ci .i64 0, ci .i64 0, ci .i64 0, ci .i64 0, ci .i64 0, ci .i64 0])]⟩) (ob := True ∧ True) (by kernel_rfl) hN (by kernel_rfl) ⟨trivial, trivial⟩ (by decide) (by decide) ?_
  refine thenC ?_
  obtain ⟨v44, ev44, h⟩ := bnd_some h
  refine goReg (N := 23) (hints := [(6, .val (one (ci .i64 v44)))]) (l := [1, 2, 6, 7]) (m := [1, 2]) (s₂ := ⟨[(1, one (.ptr 1 0)), (2, one (.ptr 2 0)), (6, agg [ci .i64 (x0.c0), ci .i64 (x0.c1), ci .i64 (x0.c2), ci .i64 (x0.c3), ci .i64 (x0.c4), ci .i64 (x0.c5), ci .i64 (x0.c6), ci .i64 (x0.c7)]), (7, one (ci .i64 5))], [(1, 36, [ci .i64 (v34), ci .i64 (v36), ci .i64 (v38), ci .i64 (v40), ci .i64 (v42), ci .i64 (v44), ci .i64 (x0.c6), ci .i64 (x0.c7)]), (2, 36, [ci .i64 0, ci .i64 0, ci .i64 0, ci .i64 0, ci .i64 0, ci .i64 0, ci .i64 0, ci .i64 0])]⟩) (ob := True ∧ True ∧ True ∧ True ∧ True ∧ True ∧ (True ∧ one (ci .i64 ((if 4096 < ((if (-4096) > (x0.c5) then (-4096) else (x0.c5))) then 4096 else ((if (-4096) > (x0.c5) then (-4096) else (x0.c5)))))) = one (ci .i64 v44)) ∧ (0 ≤ (5 : Int) ∧ (5 : Int) < 8) ∧ True ∧ True) (by kernel_rfl) hN (by kernel_rfl) ⟨trivial, trivial, trivial, trivial, trivial, trivial, ⟨trivial, congrArg (fun x => one (ci .i64 x)) ev44⟩, (by decide), trivial, trivial⟩ (by decide) (by decide) ?_
  refine blkN ?_
  refine thenC ?_
  refine goReg (N := 23) (hints := []) (l := [1, 2, 6, 7]) (m := [1, 2]) (s₂ := ⟨[(1, one (.ptr 1 0)), (2, one (.ptr 2 0)), (6, agg [ci .i64 (x0.c0), ci .i64 (x0.c1), ci .i64 (x0.c2), ci .i64 (x0.c3), ci .i64 (x0.c4), ci .i64 (x0.c5), ci .i64 (x0.c6), ci .i64 (x0.c7)]), (7, one (ci .i64 6))], [(1, 36, [ci .i64 (v34), ci .i64 (v36), ci .i64 (v38), ci .i64 (v40), ci .i64 (v42), ci .i64 (v44), ci .i64 (x0.c6), ci .i64 (x0.c7)]), (2, 36, [ci .i64 0, ci .i64 0, ci .i64 0, ci .i64 0, ci .i64 0, ci .i64 0, ci .i64 0, ci .i64 0])]⟩) (ob := True ∧ True ∧ True) (by kernel_rfl) hN (by kernel_rfl) ⟨trivial, trivial, trivial⟩ (by decide) (by decide) ?_
  refine thenN (roundC ?_)
  refine goSeq (by kernel_rfl) ?_
  refine goReg (N := 23) (hints := []) (l := [1, 2, 6, 7, 8]) (m := [1, 2]) (s₂ := ⟨[(1, one (.ptr 1 0)), (2, one (.ptr 2 0)), (6, agg [ci .i64 (x0.c0), ci .i64 (x0.c1), ci .i64 (x0.c2), ci .i64 (x0.c3), ci .i64 (x0.c4), ci .i64 (x0.c5), ci .i64 (x0.c6), ci .i64 (x0.c7)]), (7, one (ci .i64 6)), (8, one (cb true))], [(1, 36, [ci .i64 (v34), ci .i64 (v36), ci .i64 (v38), ci .i64 (v40), ci .i64 (v42), ci .i64 (v44), ci .i64 (x0.c6), ci .i64 (x0.c7)]), (2, 36, [ci .i64 0, ci .i64 0, ci .i64 0, ci .i64 0, ci .i64 0, ci .i64 0, ci .i64 0, ci .i64 0])]⟩) (ob := True ∧ True) (by kernel_rfl) hN (by kernel_rfl) ⟨trivial, trivial⟩ (by decide) (by decide) ?_
  refine thenC ?_
  refine goSeq (by kernel_rfl) ?_
  refine goCondT (by kernel_rfl) (by kernel_rfl) ?_
  refine goSkip (by kernel_rfl) ?_
  refine thenC ?_
  refine goSeq (by kernel_rfl) ?_
  refine goBlock (i := 1) (by kernel_rfl) (by kernel_rfl) ?_
  refine goSeq (by kernel_rfl) ?_
  refine goReg (N := 23) (hints := []) (l := [1, 2, 3, 4, 6, 7]) (m := [1, 2]) (s₂ := ⟨[(1, one (.ptr 1 0)), (2, one (.ptr 2 0)), (3, one (ci .i64 6)), (4, one (ci .i64 (x0.c6))), (6, agg [ci .i64 (x0.c0), ci .i64 (x0.c1), ci .i64 (x0.c2), ci .i64 (x0.c3), ci .i64 (x0.c4), ci .i64 (x0.c5), ci .i64 (x0.c6), ci .i64 (x0.c7)]), (7, one (ci .i64 6))], [(1, 36, [ci .i64 (v34), ci .i64 (v36), ci .i64 (v38), ci .i64 (v40), ci .i64 (v42), ci .i64 (v44), ci .i64 (x0.c6), ci .i64 (x0.c7)]), (2, 36, [ci .i64 0, ci .i64 0, ci .i64 0, ci .i64 0, ci .i64 0, ci .i64 0, ci .i64 0, ci .i64 0])]⟩) (ob := True ∧ (0 ≤ (6 : Int) ∧ (6 : Int) < 8) ∧ True ∧ True ∧ True) (by kernel_rfl) hN (by kernel_rfl) ⟨trivial, (by decide), trivial, trivial, trivial⟩ (by decide) (by decide) ?_
  refine thenC ?_
  refine goSeq (by kernel_rfl) ?_
  refine goReg (N := 23) (hints := []) (l := [1, 2, 3, 4, 5, 6, 7]) (m := [1, 2]) (s₂ := ⟨[(1, one (.ptr 1 0)), (2, one (.ptr 2 0)), (3, one (ci .i64 6)), (4, one (ci .i64 (x0.c6))), (5, one (ci .i64 32768)), (6, agg [ci .i64 (x0.c0), ci .i64 (x0.c1), ci .i64 (x0.c2), ci .i64 (x0.c3), ci .i64 (x0.c4), ci .i64 (x0.c5), ci .i64 (x0.c6), ci .i64 (x0.c7)]), (7, one (ci .i64 6))], [(1, 36, [ci .i64 (v34), ci .i64 (v36), ci .i64 (v38), ci .i64 (v40), ci .i64 (v42), ci .i64 (v44), ci .i64 (x0.c6), ci .i64 (x0.c7)]), (2, 36, [ci .i64 0, ci .i64 0, ci .i64 0, ci .i64 0, ci .i64 0, ci .i64 0, ci .i64 0, ci .i64 0])]⟩) (ob := True ∧ True) (by kernel_rfl) hN (by kernel_rfl) ⟨trivial, trivial⟩ (by decide) (by decide) ?_
  refine thenC ?_
  refine goSeq (by kernel_rfl) ?_
  refine goSeq (by kernel_rfl) ?_
  refine goReg (N := 23) (hints := []) (l := [1, 2, 3, 4, 5, 6, 7, 12]) (m := [1, 2]) (s₂ := ⟨[(1, one (.ptr 1 0)), (2, one (.ptr 2 0)), (3, one (ci .i64 6)), (4, one (ci .i64 (x0.c6))), (5, one (ci .i64 32768)), (6, agg [ci .i64 (x0.c0), ci .i64 (x0.c1), ci .i64 (x0.c2), ci .i64 (x0.c3), ci .i64 (x0.c4), ci .i64 (x0.c5), ci .i64 (x0.c6), ci .i64 (x0.c7)]), (7, one (ci .i64 6)), (12, one (cb true))], [(1, 36, [ci .i64 (v34), ci .i64 (v36), ci .i64 (v38), ci .i64 (v40), ci .i64 (v42), ci .i64 (v44), ci .i64 (x0.c6), ci .i64 (x0.c7)]), (2, 36, [ci .i64 0, ci .i64 0, ci .i64 0, ci .i64 0, ci .i64 0, ci .i64 0, ci .i64 0, ci .i64 0])]⟩) (ob := True ∧ True ∧ True) (by kernel_rfl) hN (by kernel_rfl) ⟨trivial, trivial, trivial⟩ (by decide) (by decide) ?_
  refine thenC ?_
  refine goCondT (by kernel_rfl) (by kernel_rfl) ?_
  refine goReg (N := 23) (hints := []) (l := [1, 2, 3, 4, 5, 6, 7]) (m := [1, 2]) (s₂ := ⟨[(1, one (.ptr 1 0)), (2, one (.ptr 2 0)), (3, one (ci .i64 6)), (4, one (ci .i64 (x0.c6))), (5, one (ci .i64 4096)), (6, agg [ci .i64 (x0.c0), ci .i64 (x0.c1), ci .i64 (x0.c2), ci .i64 (x0.c3), ci .i64 (x0.c4), ci .i64 (x0.c5), ci .i64 (x0.c6), ci .i64 (x0.c7)]), (7, one (ci .i64 6))], [(1, 36, [ci .i64 (v34), ci .i64 (v36), ci .i64 (v38), ci .i64 (v40), ci .i64 (v42), ci .i64 (v44), ci .i64 (x0.c6), ci .i64 (x0.c7)]), (2, 36, [ci .i64 0, ci .i64 0, ci .i64 0, ci .i64 0, ci .i64 0, ci .i64 0, ci .i64 0, ci .i64 0])]⟩) (ob := True ∧ True) (by kernel_rfl) hN (by kernel_rfl) ⟨trivial, trivial⟩ (by decide) (by decide) ?_
  refine thenC ?_
  obtain ⟨v46, ev46, h⟩ := bnd_some h
  refine goReg (N := 23) (hints := [(6, .val (one (ci .i64 v46)))]) (l := [1, 2, 6, 7]) (m := [1, 2]) (s₂ := ⟨[(1, one (.ptr 1 0)), (2, one (.ptr 2 0)), (6, agg [ci .i64 (x0.c0), ci .i64 (x0.c1), ci .i64 (x0.c2), ci .i64 (x0.c3), ci .i64 (x0.c4), ci .i64 (x0.c5), ci .i64 (x0.c6), ci .i64 (x0.c7)]), (7, one (ci .i64 6))], [(1, 36, [ci .i64 (v34), ci .i64 (v36), ci .i64 (v38), ci .i64 (v40), ci .i64 (v42), ci .i64 (v44), ci .i64 (v46), ci .i64 (x0.c7)]), (2, 36, [ci .i64 0, ci .i64 0, ci .i64 0, ci .i64 0, ci .i64 0, ci .i64 0, ci .i64 0, ci .i64 0])]⟩) (ob := True ∧ True ∧ True ∧ True ∧ True ∧ True ∧ (True ∧ one (ci .i64 ((if 4096 < ((if (-4096) > (x0.c6) then (-4096) else (x0.c6))) then 4096 else ((if (-4096) > (x0.c6) then (-4096) else (x0.c6)))))) = one (ci .i64 v46)) ∧ (0 ≤ (6 : Int) ∧ (6 : Int) < 8) ∧ True ∧ True) (by kernel_rfl) hN (by kernel_rfl) ⟨trivial, trivial, trivial, trivial, trivial, trivial, ⟨trivial, congrArg (fun x => one (ci .i64 x)) ev46⟩, (by decide), trivial, trivial⟩ (by decide) (by decide) ?_
  refine blkN ?_
  refine thenC ?_
  refine goReg (N := 23) (hints := []) (l := [1, 2, 6, 7]) (m := [1, 2]) (s₂ := ⟨[(1, one (.ptr 1 0)), (2, one (.ptr 2 0)), (6, agg [ci .i64 (x0.c0), ci .i64 (x0.c1), ci .i64 (x0.c2), ci .i64 (x0.c3), ci .i64 (x0.c4), ci .i64 (x0.c5), ci .i64 (x0.c6), ci .i64 (x0.c7)]), (7, one (ci .i64 7))], [(1, 36, [ci .i64 (v34), ci .i64 (v36), ci .i64 (v38), ci .i64 (v40), ci .i64 (v42), ci .i64 (v44), ci .i64 (v46), ci .i64 (x0.c7)]), (2, 36, [ci .i64 0, ci .i64 0, ci .i64 0, ci .i64 0, ci .i64 0, ci .i64 0, ci .i64 0, ci .i64 0])]⟩) (ob := True ∧ True ∧ True) (by kernel_rfl) hN (by kernel_rfl) ⟨trivial, trivial, trivial⟩ (by decide) (by decide) ?_
  refine thenN (roundC ?_)
  refine goSeq (by kernel_rfl) ?_
  refine goReg (N := 23) (hints := []) (l := [1, 2, 6, 7, 8]) (m := [1, 2]) (s₂ := ⟨[(1, one (.ptr 1 0)), (2, one (.ptr 2 0)), (6, agg [ci .i64 (x0.c0), ci .i64 (x0.c1), ci .i64 (x0.c2), ci .i64 (x0.c3), ci .i64 (x0.c4), ci .i64 (x0.c5), ci .i64 (x0.c6), ci .i64 (x0.c7)]), (7, one (ci .i64 7)), (8, one (cb true))], [(1, 36, [ci .i64 (v34), ci .i64 (v36), ci .i64 (v38), ci .i64 (v40), ci .i64 (v42), ci .i64 (v44), ci .i64 (v46), ci .i64 (x0.c7)]), (2, 36, [ci .i64 0, ci .i64 0, ci .i64 0, ci .i64 0, ci .i64 0, ci .i64 0, ci .i64 0, ci .i64 0])]⟩) (ob := True ∧ True) (by kernel_rfl) hN (by kernel_rfl) ⟨trivial, trivial⟩ (by decide) (by decide) ?_
  refine thenC ?_
  refine goSeq (by kernel_rfl) ?_
  refine goCondT (by kernel_rfl) (by kernel_rfl) ?_
  refine goSkip (by kernel_rfl) ?_
  refine thenC ?_
  refine goSeq (by kernel_rfl) ?_
  refine goBlock (i := 1) (by kernel_rfl) (by kernel_rfl) ?_
  refine goSeq (by kernel_rfl) ?_
  refine goReg (N := 23) (hints := []) (l := [1, 2, 3, 4, 6, 7]) (m := [1, 2]) (s₂ := ⟨[(1, one (.ptr 1 0)), (2, one (.ptr 2 0)), (3, one (ci .i64 7)), (4, one (ci .i64 (x0.c7))), (6, agg [ci .i64 (x0.c0), ci .i64 (x0.c1), ci .i64 (x0.c2), ci .i64 (x0.c3), ci .i64 (x0.c4), ci .i64 (x0.c5), ci .i64 (x0.c6), ci .i64 (x0.c7)]), (7, one (ci .i64 7))], [(1, 36, [ci .i64 (v34), ci .i64 (v36), ci .i64 (v38), ci .i64 (v40), ci .i64 (v42), ci .i64 (v44), ci .i64 (v46), ci .i64 (x0.c7)]), (2, 36, [ci .i64 0, ci .i64 0, ci .i64 0, ci .i64 0, ci .i64 0, ci .i64 0, ci .i64 0, ci .i64 0])]⟩) (ob := True ∧ (0 ≤ (7 : Int) ∧ (7 : Int) < 8) ∧ True ∧ True ∧ True) (by kernel_rfl) hN (by kernel_rfl) ⟨trivial, (by decide), trivial, trivial, trivial⟩ (by decide) (by decide) ?_
  refine thenC ?_
  refine goSeq (by kernel_rfl) ?_
  refine goReg (N := 23) (hints := []) (l := [1, 2, 3, 4, 5, 6, 7]) (m := [1, 2]) (s₂ := ⟨[(1, one (.ptr 1 0)), (2, one (.ptr 2 0)), (3, one (ci .i64 7)), (4, one (ci .i64 (x0.c7))), (5, one (ci .i64 32768)), (6, agg [ci .i64 (x0.c0), ci .i64 (x0.c1), ci .i64 (x0.c2), ci .i64 (x0.c3), ci .i64 (x0.c4), ci .i64 (x0.c5), ci .i64 (x0.c6), ci .i64 (x0.c7)]), (7, one (ci .i64 7))], [(1, 36, [ci .i64 (v34), ci .i64 (v36), ci .i64 (v38), ci .i64 (v40), ci .i64 (v42), ci .i64 (v44), ci .i64 (v46), ci .i64 (x0.c7)]), (2, 36, [ci .i64 0, ci .i64 0, ci .i64 0, ci .i64 0, ci .i64 0, ci .i64 0, ci .i64 0, ci .i64 0])]⟩) (ob := True ∧ True) (by kernel_rfl) hN (by kernel_rfl) ⟨trivial, trivial⟩ (by decide) (by decide) ?_
  refine thenC ?_
  refine goSeq (by kernel_rfl) ?_
  refine goSeq (by kernel_rfl) ?_
  refine goReg (N := 23) (hints := []) (l := [1, 2, 3, 4, 5, 6, 7, 12]) (m := [1, 2]) (s₂ := ⟨[(1, one (.ptr 1 0)), (2, one (.ptr 2 0)), (3, one (ci .i64 7)), (4, one (ci .i64 (x0.c7))), (5, one (ci .i64 32768)), (6, agg [ci .i64 (x0.c0), ci .i64 (x0.c1), ci .i64 (x0.c2), ci .i64 (x0.c3), ci .i64 (x0.c4), ci .i64 (x0.c5), ci .i64 (x0.c6), ci .i64 (x0.c7)]), (7, one (ci .i64 7)), (12, one (cb true))], [(1, 36, [ci .i64 (v34), ci .i64 (v36), ci .i64 (v38), ci .i64 (v40), ci .i64 (v42), ci .i64 (v44), ci .i64 (v46), ci .i64 (x0.c7)]), (2, 36, [ci .i64 0, ci .i64 0, ci .i64 0, ci .i64 0, ci .i64 0, ci .i64 0, ci .i64 0, ci .i64 0])]⟩) (ob := True ∧ True ∧ True) (by kernel_rfl) hN (by kernel_rfl) ⟨trivial, trivial, trivial⟩ (by decide) (by decide) ?_
  refine thenC ?_
  refine goCondT (by kernel_rfl) (by kernel_rfl) ?_
  refine goReg (N := 23) (hints := []) (l := [1, 2, 3, 4, 5, 6, 7]) (m := [1, 2]) (s₂ := ⟨[(1, one (.ptr 1 0)), (2, one (.ptr 2 0)), (3, one (ci .i64 7)), (4, one (ci .i64 (x0.c7))), (5, one (ci .i64 4096)), (6, agg [ci .i64 (x0.c0), ci .i64 (x0.c1), ci .i64 (x0.c2), ci .i64 (x0.c3), ci .i64 (x0.c4), ci .i64 (x0.c5), ci .i64 (x0.c6), ci .i64 (x0.c7)]), (7, one (ci .i64 7))], [(1, 36, [ci .i64 (v34), ci .i64 (v36), ci .i64 (v38), ci .i64 (v40), ci .i64 (v42), ci .i64 (v44), ci .i64 (v46), ci .i64 (x0.c7)]), (2, 36, [ci .i64 0, ci .i64 0, ci .i64 0, ci .i64 0, ci .i64 0, ci .i64 0, ci .i64 0, ci .i64 0])]⟩) (ob := True ∧ True) (by kernel_rfl) hN (by kernel_rfl) ⟨trivial, trivial⟩ (by decide) (by decide) ?_
  refine thenC ?_
  obtain ⟨v48, ev48, h⟩ := bnd_some h
  refine goReg (N := 23) (hints := [(6, .val (one (ci .i64 v48)))]) (l := [1, 2, 6, 7]) (m := [1, 2]) (s₂ := ⟨[(1, one (.ptr 1 0)), (2, one (.ptr 2 0)), (6, agg [ci .i64 (x0.c0), ci .i64 (x0.c1), ci .i64 (x0.c2), ci .i64 (x0.c3), ci .i64 (x0.c4), ci .i64 (x0.c5), ci .i64 (x0.c6), ci .i64 (x0.c7)]), (7, one (ci .i64 7))], [(1, 36, [ci .i64 (v34), ci .i64 (v36), ci .i64 (v38), ci .i64 (v40), ci .i64 (v42), ci .i64 (v44), ci .i64 (v46), ci .i64 (v48)]), (2, 36, [ci .i64 0, ci .i64 0, ci .i64 0, ci .i64 0, ci .i64 0, ci .i64 0, ci .i64 0, ci .i64 0])]⟩) (ob := True ∧ True ∧ True ∧ True ∧ True ∧ True ∧ (True ∧ one (ci .i64 ((if 4096 < ((if (-4096) > (x0.c7) then (-4096) else (x0.c7))) then 4096 else ((if (-4096) > (x0.c7) then (-4096) else (x0.c7)))))) = one (ci .i64 v48)) ∧ (0 ≤ (7 : Int) ∧ (7 : Int) < 8) ∧ True ∧ True) (by kernel_rfl) hN (by kernel_rfl) ⟨trivial, trivial, trivial, trivial, trivial, trivial, ⟨trivial, congrArg (fun x => one (ci .i64 x)) ev48⟩, (by decide), trivial, trivial⟩ (by decide) (by decide) ?_
  refine blkN ?_
  refine thenC ?_
  refine goReg (N := 23) (hints := []) (l := [1, 2, 6, 7]) (m := [1, 2]) (s₂ := ⟨[(1, one (.ptr 1 0)), (2, one (.ptr 2 0)), (6, agg [ci .i64 (x0.c0), ci .i64 (x0.c1), ci .i64 (x0.c2), ci .i64 (x0.c3), ci .i64 (x0.c4), ci .i64 (x0.c5), ci .i64 (x0.c6), ci .i64 (x0.c7)]), (7, one (ci .i64 8))], [(1, 36, [ci .i64 (v34), ci .i64 (v36), ci .i64 (v38), ci .i64 (v40), ci .i64 (v42), ci .i64 (v44), ci .i64 (v46), ci .i64 (v48)]), (2, 36, [ci .i64 0, ci .i64 0, ci .i64 0, ci .i64 0, ci .i64 0, ci .i64 0, ci .i64 0, ci .i64 0])]⟩) (ob := True ∧ True ∧ True) (by kernel_rfl) hN (by kernel_rfl) ⟨trivial, trivial, trivial⟩ (by decide) (by decide) ?_
  refine thenN (roundC ?_)
  refine goSeq (by kernel_rfl) ?_
  refine goReg (N := 23) (hints := []) (l := [1, 2, 6, 7, 8]) (m := [1, 2]) (s₂ := ⟨[(1, one (.ptr 1 0)), (2, one (.ptr 2 0)), (6, agg [ci .i64 (x0.c0), ci .i64 (x0.c1), ci .i64 (x0.c2), ci .i64 (x0.c3), ci .i64 (x0.c4), ci .i64 (x0.c5), ci .i64 (x0.c6), ci .i64 (x0.c7)]), (7, one (ci .i64 8)), (8, one (cb false))], [(1, 36, [ci .i64 (v34), ci .i64 (v36), ci .i64 (v38), ci .i64 (v40), ci .i64 (v42), ci .i64 (v44), ci .i64 (v46), ci .i64 (v48)]), (2, 36, [ci .i64 0, ci .i64 0, ci .i64 0, ci .i64 0, ci .i64 0, ci .i64 0, ci .i64 0, ci .i64 0])]⟩) (ob := True ∧ True) (by kernel_rfl) hN (by kernel_rfl) ⟨trivial, trivial⟩ (by decide) (by decide) ?_
  refine thenC ?_
  refine goSeq (by kernel_rfl) ?_
  refine goCondF (by kernel_rfl) (by kernel_rfl) ?_
  refine goExit (i := 0) (by kernel_rfl) (by kernel_rfl) ?_
  refine thenExit ?_
  refine thenExit ?_
  refine blkHit rfl ?_
  refine thenC ?_
  refine goSeq (by kernel_rfl) ?_
  refine goReg (N := 23) (hints := []) (l := [2]) (m := [2]) (s₂ := ⟨[(2, one (.ptr 2 0))], [(2, 36, [ci .i64 (v34), ci .i64 (v36), ci .i64 (v38), ci .i64 (v40), ci .i64 (v42), ci .i64 (v44), ci .i64 (v46), ci .i64 (v48)])]⟩) (ob := True ∧ True ∧ True) (by kernel_rfl) hN (by kernel_rfl) ⟨trivial, trivial, trivial⟩ (by decide) (by decide) ?_
  refine thenC ?_
  refine goRet (by kernel_rfl) ?_
  obtain rfl := top_some h
  exact retOk (by kernel_rfl)

theorem vec_Right_ok (x0 : T_api_Vec) (r : Bool) (h : vec_Right x0 = some r) : PureC Try.prog 15 [agg [ci .i64 (x0.c0), ci .i64 (x0.c1), ci .i64 (x0.c2), ci .i64 (x0.c3), ci .i64 (x0.c4), ci .i64 (x0.c5), ci .i64 (x0.c6), ci .i64 (x0.c7)]] (one (cb r)) := by
  refine fnOf (fn := Try.f15) (n := 15) (rs := [ResultVar.tmp 2]) (s := ⟨[(0, agg [ci .i64 (x0.c0), ci .i64 (x0.c1), ci .i64 (x0.c2), ci .i64 (x0.c3), ci .i64 (x0.c4), ci .i64 (x0.c5), ci .i64 (x0.c6), ci .i64 (x0.c7)])], []⟩) (by kernel_rfl) (by kernel_rfl) (by kernel_rfl) (by kernel_rfl) (by kernel_rfl) (by kernel_rfl) (by kernel_rfl) (by kernel_rfl) (fun E hN => ?_)
  unfold vec_Right at h
  refine goSeq (by kernel_rfl) ?_
  refine goReg (N := 15) (hints := []) (l := [1]) (m := [1]) (s₂ := ⟨[(1, one (.ptr 1 0))], [(1, 24, [ci .i64 (x0.c0), ci .i64 (x0.c1), ci .i64 (x0.c2), ci .i64 (x0.c3), ci .i64 (x0.c4), ci .i64 (x0.c5), ci .i64 (x0.c6), ci .i64 (x0.c7)])]⟩) (ob := True ∧ True ∧ True) (by kernel_rfl) hN (by kernel_rfl) ⟨trivial, trivial, trivial⟩ (by decide) (by decide) ?_
  refine thenC ?_
  refine goSeq (by kernel_rfl) ?_
  obtain ⟨q1, hq1, h⟩ := bind_some h
  refine goReg (N := 15) (hints := [(1, .call (agg [ci .i64 (q1.c0), ci .i64 (q1.c1), ci .i64 (q1.c2), ci .i64 (q1.c3), ci .i64 (q1.c4), ci .i64 (q1.c5), ci .i64 (q1.c6), ci .i64 (q1.c7)]))]) (l := [1, 3]) (m := [1, 3]) (s₂ := ⟨[(1, one (.ptr 1 0)), (3, one (.ptr 3 0))], [(1, 24, [ci .i64 (x0.c0), ci .i64 (x0.c1), ci .i64 (x0.c2), ci .i64 (x0.c3), ci .i64 (x0.c4), ci .i64 (x0.c5), ci .i64 (x0.c6), ci .i64 (x0.c7)]), (3, 36, [ci .i64 (q1.c0), ci .i64 (q1.c1), ci .i64 (q1.c2), ci .i64 (q1.c3), ci .i64 (q1.c4), ci .i64 (q1.c5), ci .i64 (q1.c6), ci .i64 (q1.c7)])]⟩) (ob := True ∧ PureC Try.prog 18 [agg [ci .i64 (x0.c0), ci .i64 (x0.c1), ci .i64 (x0.c2), ci .i64 (x0.c3), ci .i64 (x0.c4), ci .i64 (x0.c5), ci .i64 (x0.c6), ci .i64 (x0.c7)]] (agg [ci .i64 (q1.c0), ci .i64 (q1.c1), ci .i64 (q1.c2), ci .i64 (q1.c3), ci .i64 (q1.c4), ci .i64 (q1.c5), ci .i64 (q1.c6), ci .i64 (q1.c7)]) ∧ True ∧ True ∧ True) (by kernel_rfl) hN (by kernel_rfl) ⟨trivial, (vec_row_ok x0 _ hq1), trivial, trivial, trivial⟩ (by decide) (by decide) ?_
  refine thenC ?_
  refine goSeq (by kernel_rfl) ?_
  obtain ⟨q2, hq2, h⟩ := bind_some h
  rcases fork_some h with ⟨c3, h⟩ | ⟨c3, h⟩
  · skip
    refine goDraw (N := 15) (m0 := 10) (hints := [(1, .call (agg [ci .i64 (q2.c0), ci .i64 (q2.c1), ci .i64 (q2.c2), ci .i64 (q2.c3), ci .i64 (q2.c4), ci .i64 (q2.c5), ci .i64 (q2.c6), ci .i64 (q2.c7)])), (3, .bin (.bool (decide (q2 = q1)))), (4, .bool true)]) (l := [2]) (m := []) (s₂ := ⟨[(2, one (cb (decide ((x0.c3) > 0))))], []⟩) (ob := (True ∧ PureC Try.prog 22 [agg [ci .i64 (q1.c0), ci .i64 (q1.c1), ci .i64 (q1.c2), ci .i64 (q1.c3), ci .i64 (q1.c4), ci .i64 (q1.c5), ci .i64 (q1.c6), ci .i64 (q1.c7)]] (agg [ci .i64 (q2.c0), ci .i64 (q2.c1), ci .i64 (q2.c2), ci .i64 (q2.c3), ci .i64 (q2.c4), ci .i64 (q2.c5), ci .i64 (q2.c6), ci .i64 (q2.c7)]) ∧ True ∧ (EqOb Try.prog .eql 36 (.tmp 7) (.tmp 8) [.int .i64 (q2.c0), .int .i64 (q2.c1), .int .i64 (q2.c2), .int .i64 (q2.c3), .int .i64 (q2.c4), .int .i64 (q2.c5), .int .i64 (q2.c6), .int .i64 (q2.c7)] [.int .i64 (q1.c0), .int .i64 (q1.c1), .int .i64 (q1.c2), .int .i64 (q1.c3), .int .i64 (q1.c4), .int .i64 (q1.c5), .int .i64 (q1.c6), .int .i64 (q1.c7)] (.bool (decide (q2 = q1)))) ∧ (True ∧ (decide (q2 = q1)) = true) ∧ True ∧ True ∧ True ∧ True ∧ True ∧ True) ∧ (True)) (by kernel_rfl) hN (by kernel_rfl) (by kernel_rfl) ⟨⟨trivial, (vec_held_ok q1 _ hq2), trivial, (eql_ob (by kernel_rfl) (by kernel_rfl) (T_8_int.eqB q2 q1)), ⟨trivial, c3⟩, trivial, trivial, trivial, trivial, trivial, trivial⟩, trivial⟩ (by decide) (by decide) ?_
    refine thenC ?_
    refine goRet (by kernel_rfl) ?_
    obtain rfl := top_some h
    exact retOk (by kernel_rfl)
  · skip
    refine goDraw (N := 15) (m0 := 10) (hints := [(1, .call (agg [ci .i64 (q2.c0), ci .i64 (q2.c1), ci .i64 (q2.c2), ci .i64 (q2.c3), ci .i64 (q2.c4), ci .i64 (q2.c5), ci .i64 (q2.c6), ci .i64 (q2.c7)])), (3, .bin (.bool (decide (q2 = q1)))), (4, .bool false)]) (l := [2]) (m := []) (s₂ := ⟨[(2, one (cb false))], []⟩) (ob := (True ∧ PureC Try.prog 22 [agg [ci .i64 (q1.c0), ci .i64 (q1.c1), ci .i64 (q1.c2), ci .i64 (q1.c3), ci .i64 (q1.c4), ci .i64 (q1.c5), ci .i64 (q1.c6), ci .i64 (q1.c7)]] (agg [ci .i64 (q2.c0), ci .i64 (q2.c1), ci .i64 (q2.c2), ci .i64 (q2.c3), ci .i64 (q2.c4), ci .i64 (q2.c5), ci .i64 (q2.c6), ci .i64 (q2.c7)]) ∧ True ∧ (EqOb Try.prog .eql 36 (.tmp 7) (.tmp 8) [.int .i64 (q2.c0), .int .i64 (q2.c1), .int .i64 (q2.c2), .int .i64 (q2.c3), .int .i64 (q2.c4), .int .i64 (q2.c5), .int .i64 (q2.c6), .int .i64 (q2.c7)] [.int .i64 (q1.c0), .int .i64 (q1.c1), .int .i64 (q1.c2), .int .i64 (q1.c3), .int .i64 (q1.c4), .int .i64 (q1.c5), .int .i64 (q1.c6), .int .i64 (q1.c7)] (.bool (decide (q2 = q1)))) ∧ (True ∧ (decide (q2 = q1)) = false) ∧ True ∧ True ∧ True) ∧ (True)) (by kernel_rfl) hN (by kernel_rfl) (by kernel_rfl) ⟨⟨trivial, (vec_held_ok q1 _ hq2), trivial, (eql_ob (by kernel_rfl) (by kernel_rfl) (T_8_int.eqB q2 q1)), ⟨trivial, c3⟩, trivial, trivial, trivial⟩, trivial⟩ (by decide) (by decide) ?_
    refine thenC ?_
    refine goRet (by kernel_rfl) ?_
    obtain rfl := top_some h
    exact retOk (by kernel_rfl)

theorem glazierlaw04_VecNarrow_ok (x0 : T_api_Vec) (x1 : Int) (x2 : Bool) (r : Bool) (h : glazierlaw04_VecNarrow x0 x1 x2 = some r) : PureC Try.prog 8 [agg [ci .i64 (x0.c0), ci .i64 (x0.c1), ci .i64 (x0.c2), ci .i64 (x0.c3), ci .i64 (x0.c4), ci .i64 (x0.c5), ci .i64 (x0.c6), ci .i64 (x0.c7)], one (ci .u8 (x1)), one (cb x2)] (one (cb r)) := by
  refine fnOf (fn := Try.f8) (n := 51) (rs := [ResultVar.tmp 6]) (s := ⟨[(0, agg [ci .i64 (x0.c0), ci .i64 (x0.c1), ci .i64 (x0.c2), ci .i64 (x0.c3), ci .i64 (x0.c4), ci .i64 (x0.c5), ci .i64 (x0.c6), ci .i64 (x0.c7)]), (1, one (ci .u8 (x1))), (2, one (cb x2))], []⟩) (by kernel_rfl) (by kernel_rfl) (by kernel_rfl) (by kernel_rfl) (by kernel_rfl) (by kernel_rfl) (by kernel_rfl) (by kernel_rfl) (fun E hN => ?_)
  unfold glazierlaw04_VecNarrow at h
  refine goSeq (by kernel_rfl) ?_
  refine goReg (N := 51) (hints := []) (l := [1, 2, 3]) (m := [3]) (s₂ := ⟨[(1, one (ci .u8 (x1))), (2, one (cb x2)), (3, one (.ptr 3 0))], [(3, 24, [ci .i64 (x0.c0), ci .i64 (x0.c1), ci .i64 (x0.c2), ci .i64 (x0.c3), ci .i64 (x0.c4), ci .i64 (x0.c5), ci .i64 (x0.c6), ci .i64 (x0.c7)])]⟩) (ob := True ∧ True ∧ True) (by kernel_rfl) hN (by kernel_rfl) ⟨trivial, trivial, trivial⟩ (by decide) (by decide) ?_
  refine thenC ?_
  refine goSeq (by kernel_rfl) ?_
  obtain ⟨q1, hq1, h⟩ := bind_some h
  refine goReg (N := 51) (hints := [(0, .call (one (cb q1)))]) (l := [1, 2, 3, 7]) (m := [3]) (s₂ := ⟨[(1, one (ci .u8 (x1))), (2, one (cb x2)), (3, one (.ptr 3 0)), (7, one (cb q1))], [(3, 24, [ci .i64 (x0.c0), ci .i64 (x0.c1), ci .i64 (x0.c2), ci .i64 (x0.c3), ci .i64 (x0.c4), ci .i64 (x0.c5), ci .i64 (x0.c6), ci .i64 (x0.c7)])]⟩) (ob := PureC Try.prog 9 [] (one (cb q1)) ∧ True ∧ True) (by kernel_rfl) hN (by kernel_rfl) ⟨(glazierlaw04_shown_ok _ hq1), trivial, trivial⟩ (by decide) (by decide) ?_
  refine thenC ?_
  refine goSeq (by kernel_rfl) ?_
  obtain ⟨q2, hq2, h⟩ := bind_some h
  refine goReg (N := 51) (hints := [(1, .call (agg [ci .i64 (q2.c0), ci .i64 (q2.c1), ci .i64 (q2.c2), ci .i64 (q2.c3), ci .i64 (q2.c4), ci .i64 (q2.c5), ci .i64 (q2.c6), ci .i64 (q2.c7)]))]) (l := [1, 2, 7, 8]) (m := [8]) (s₂ := ⟨[(1, one (ci .u8 (x1))), (2, one (cb x2)), (7, one (cb q1)), (8, one (.ptr 8 0))], [(8, 24, [ci .i64 (q2.c0), ci .i64 (q2.c1), ci .i64 (q2.c2), ci .i64 (q2.c3), ci .i64 (q2.c4), ci .i64 (q2.c5), ci .i64 (q2.c6), ci .i64 (q2.c7)])]⟩) (ob := True ∧ PureC Try.prog 10 [agg [ci .i64 (x0.c0), ci .i64 (x0.c1), ci .i64 (x0.c2), ci .i64 (x0.c3), ci .i64 (x0.c4), ci .i64 (x0.c5), ci .i64 (x0.c6), ci .i64 (x0.c7)]] (agg [ci .i64 (q2.c0), ci .i64 (q2.c1), ci .i64 (q2.c2), ci .i64 (q2.c3), ci .i64 (q2.c4), ci .i64 (q2.c5), ci .i64 (q2.c6), ci .i64 (q2.c7)]) ∧ True ∧ True ∧ True) (by kernel_rfl) hN (by kernel_rfl) ⟨trivial, (glazierref04_Fit_ok x0 _ hq2), trivial, trivial, trivial⟩ (by decide) (by decide) ?_
  refine thenC ?_
  refine goSeq (by kernel_rfl) ?_
  refine goSeq (by kernel_rfl) ?_
  obtain ⟨q5, hq5, h⟩ := bind_some h
  rcases fork_some h with ⟨c6, h⟩ | ⟨c6, h⟩
  · skip
    refine goReg (N := 51) (hints := [(1, .call (one (cb q5))), (2, .bool true)]) (l := [1, 2, 7, 8, 15]) (m := [8]) (s₂ := ⟨[(1, one (ci .u8 (x1))), (2, one (cb x2)), (7, one (cb q1)), (8, one (.ptr 8 0)), (15, one (cb true))], [(8, 24, [ci .i64 (q2.c0), ci .i64 (q2.c1), ci .i64 (q2.c2), ci .i64 (q2.c3), ci .i64 (q2.c4), ci .i64 (q2.c5), ci .i64 (q2.c6), ci .i64 (q2.c7)])]⟩) (ob := True ∧ PureC Try.prog 15 [agg [ci .i64 (q2.c0), ci .i64 (q2.c1), ci .i64 (q2.c2), ci .i64 (q2.c3), ci .i64 (q2.c4), ci .i64 (q2.c5), ci .i64 (q2.c6), ci .i64 (q2.c7)]] (one (cb q5)) ∧ (True ∧ ((!q5)) = true) ∧ True) (by kernel_rfl) hN (by kernel_rfl) ⟨trivial, (vec_Right_ok q2 _ hq5), ⟨trivial, c6⟩, trivial⟩ (by decide) (by decide) ?_
    refine thenC ?_
    refine goCondT (by kernel_rfl) (by kernel_rfl) ?_
    refine goSeq (by kernel_rfl) ?_
    refine goReg (N := 51) (hints := []) (l := [6]) (m := []) (s₂ := ⟨[(6, one (cb false))], []⟩) (ob := True ∧ True) (by kernel_rfl) hN (by kernel_rfl) ⟨trivial, trivial⟩ (by decide) (by decide) ?_
    refine thenC ?_
    refine goRet (by kernel_rfl) ?_
    refine thenRet ?_
    obtain rfl := top_some h
    exact retOk (by kernel_rfl)
  · skip
    refine goReg (N := 51) (hints := [(1, .call (one (cb q5))), (2, .bool false)]) (l := [1, 2, 7, 8, 15]) (m := [8]) (s₂ := ⟨[(1, one (ci .u8 (x1))), (2, one (cb x2)), (7, one (cb q1)), (8, one (.ptr 8 0)), (15, one (cb false))], [(8, 24, [ci .i64 (q2.c0), ci .i64 (q2.c1), ci .i64 (q2.c2), ci .i64 (q2.c3), ci .i64 (q2.c4), ci .i64 (q2.c5), ci .i64 (q2.c6), ci .i64 (q2.c7)])]⟩) (ob := True ∧ PureC Try.prog 15 [agg [ci .i64 (q2.c0), ci .i64 (q2.c1), ci .i64 (q2.c2), ci .i64 (q2.c3), ci .i64 (q2.c4), ci .i64 (q2.c5), ci .i64 (q2.c6), ci .i64 (q2.c7)]] (one (cb q5)) ∧ (True ∧ ((!q5)) = false) ∧ True) (by kernel_rfl) hN (by kernel_rfl) ⟨trivial, (vec_Right_ok q2 _ hq5), ⟨trivial, c6⟩, trivial⟩ (by decide) (by decide) ?_
    refine thenC ?_
    refine goCondF (by kernel_rfl) (by kernel_rfl) ?_
    refine goSkip (by kernel_rfl) ?_
    refine thenC ?_
    refine goSeq (by kernel_rfl) ?_
    refine goReg (N := 51) (hints := []) (l := [1, 2, 7, 8, 9]) (m := [8]) (s₂ := ⟨[(1, one (ci .u8 (x1))), (2, one (cb x2)), (7, one (cb q1)), (8, one (.ptr 8 0)), (9, one (ci .i64 (-1)))], [(8, 24, [ci .i64 (q2.c0), ci .i64 (q2.c1), ci .i64 (q2.c2), ci .i64 (q2.c3), ci .i64 (q2.c4), ci .i64 (q2.c5), ci .i64 (q2.c6), ci .i64 (q2.c7)])]⟩) (ob := True ∧ True) (by kernel_rfl) hN (by kernel_rfl) ⟨trivial, trivial⟩ (by decide) (by decide) ?_
    refine thenC ?_
    refine goSeqK (l := [1, 2, 7, 8, 9]) (m := [8]) (K := fun s => ∃ (x1 : Int) (x2 : Bool) (q1 : Bool) (q2 : T_api_Vec) (j8 : Int), glazierlaw04_VecNarrow_j1 x1 x2 q1 q2 j8 = some r ∧ s = ⟨[(1, one (ci .u8 (x1))), (2, one (cb x2)), (7, one (cb q1)), (8, one (.ptr 8 0)), (9, one (ci .i64 (j8)))], [(8, 24, [ci .i64 (q2.c0), ci .i64 (q2.c1), ci .i64 (q2.c2), ci .i64 (q2.c3), ci .i64 (q2.c4), ci .i64 (q2.c5), ci .i64 (q2.c6), ci .i64 (q2.c7)])]⟩) (by kernel_rfl) (by decide) (by decide) ?_ ?_
    · skip
      rintro _ ⟨x1, x2, q1, q2, j8, h, rfl⟩
      unfold glazierlaw04_VecNarrow_j1 at h
      refine goSeqK (l := [7, 8]) (m := [8]) (K := fun s => ∃ (q1 : Bool) (j18 : Int) (j19 : Int) (j20 : Int) (j21 : Int) (j22 : Int) (j23 : Int) (j24 : Int) (j25 : Int), glazierlaw04_VecNarrow_j2 q1 j18 j19 j20 j21 j22 j23 j24 j25 = some r ∧ s = ⟨[(7, one (cb q1)), (8, one (.ptr 8 0))], [(8, 24, [ci .i64 (j18), ci .i64 (j19), ci .i64 (j20), ci .i64 (j21), ci .i64 (j22), ci .i64 (j23), ci .i64 (j24), ci .i64 (j25)])]⟩) (by kernel_rfl) (by decide) (by decide) ?_ ?_
      · skip
        rintro _ ⟨q1, j18, j19, j20, j21, j22, j23, j24, j25, h, rfl⟩
        unfold glazierlaw04_VecNarrow_j2 at h
        refine goSeq (by kernel_rfl) ?_
        rcases fork_some h with ⟨c26, h⟩ | ⟨c26, h⟩
        · skip
          obtain ⟨q27, hq27, h⟩ := bind_some h
          refine goReg (N := 51) (hints := [(1, .bool true), (3, .call (one (cb q27)))]) (l := [6]) (m := []) (s₂ := ⟨[(6, one (cb (!q27)))], []⟩) (ob := True ∧ (True ∧ (q1) = true) ∧ True ∧ PureC Try.prog 15 [agg [ci .i64 (j18), ci .i64 (j19), ci .i64 (j20), ci .i64 (j21), ci .i64 (j22), ci .i64 (j23), ci .i64 (j24), ci .i64 (j25)]] (one (cb q27)) ∧ True ∧ True ∧ True ∧ True) (by kernel_rfl) hN (by kernel_rfl) ⟨trivial, ⟨trivial, c26⟩, trivial, (vec_Right_ok (⟨j18, j19, j20, j21, j22, j23, j24, j25⟩ : T_api_Vec) _ hq27), trivial, trivial, trivial, trivial⟩ (by decide) (by decide) ?_
          refine thenC ?_
          refine goRet (by kernel_rfl) ?_
          obtain rfl := top_some h
          exact retOk (by kernel_rfl)
        · skip
          refine goReg (N := 51) (hints := [(1, .bool false)]) (l := [6]) (m := []) (s₂ := ⟨[(6, one (cb false))], []⟩) (ob := True ∧ (True ∧ (q1) = false) ∧ True ∧ True ∧ True ∧ True ∧ True ∧ True) (by kernel_rfl) hN (by kernel_rfl) ⟨trivial, ⟨trivial, c26⟩, trivial, trivial, trivial, trivial, trivial, trivial⟩ (by decide) (by decide) ?_
          refine thenC ?_
          refine goRet (by kernel_rfl) ?_
          obtain rfl := top_some h
          exact retOk (by kernel_rfl)
      · skip
        refine goSeq (by kernel_rfl) ?_
        refine goReg (N := 51) (hints := []) (l := [1, 2, 7, 8, 9, 18]) (m := [8]) (s₂ := ⟨[(1, one (ci .u8 (x1))), (2, one (cb x2)), (7, one (cb q1)), (8, one (.ptr 8 0)), (9, one (ci .i64 (j8))), (18, one (ci .u8 ((Int.tmod (x1) 8))))], [(8, 24, [ci .i64 (q2.c0), ci .i64 (q2.c1), ci .i64 (q2.c2), ci .i64 (q2.c3), ci .i64 (q2.c4), ci .i64 (q2.c5), ci .i64 (q2.c6), ci .i64 (q2.c7)])]⟩) (ob := True ∧ ((8 : Int) ≠ 0) ∧ True) (by kernel_rfl) hN (by kernel_rfl) ⟨trivial, (by decide), trivial⟩ (by decide) (by decide) ?_
        refine thenC ?_
        refine goBlock (i := 0) (by kernel_rfl) (by kernel_rfl) ?_
        refine goSeq (by kernel_rfl) ?_
        rcases fork_some h with ⟨c28, h⟩ | ⟨c28, h⟩
        · skip
          refine goReg (N := 51) (hints := [(1, .bool true)]) (l := [1, 2, 7, 8, 9, 18, 25]) (m := [8]) (s₂ := ⟨[(1, one (ci .u8 (x1))), (2, one (cb x2)), (7, one (cb q1)), (8, one (.ptr 8 0)), (9, one (ci .i64 (j8))), (18, one (ci .u8 ((Int.tmod (x1) 8)))), (25, one (cb true))], [(8, 24, [ci .i64 (q2.c0), ci .i64 (q2.c1), ci .i64 (q2.c2), ci .i64 (q2.c3), ci .i64 (q2.c4), ci .i64 (q2.c5), ci .i64 (q2.c6), ci .i64 (q2.c7)])]⟩) (ob := True ∧ (True ∧ ((((Int.tmod (x1) 8)) == 0)) = true) ∧ True) (by kernel_rfl) hN (by kernel_rfl) ⟨trivial, ⟨trivial, c28⟩, trivial⟩ (by decide) (by decide) ?_
          refine thenC ?_
          refine goCondT (by kernel_rfl) (by kernel_rfl) ?_
          refine goReg (N := 51) (hints := []) (l := [7, 8]) (m := [8]) (s₂ := ⟨[(7, one (cb q1)), (8, one (.ptr 8 0))], [(8, 24, [ci .i64 ((IntKind.wrap .i64 ((j8) * 32769))), ci .i64 (q2.c1), ci .i64 (q2.c2), ci .i64 (q2.c3), ci .i64 (q2.c4), ci .i64 (q2.c5), ci .i64 (q2.c6), ci .i64 (q2.c7)])]⟩) (ob := True ∧ True ∧ True ∧ True ∧ True) (by kernel_rfl) hN (by kernel_rfl) ⟨trivial, trivial, trivial, trivial, trivial⟩ (by decide) (by decide) ?_
          refine blkN ?_
          exact Fit.mk [] ⟨q1, ((IntKind.wrap .i64 ((j8) * 32769))), q2.c1, q2.c2, q2.c3, q2.c4, q2.c5, q2.c6, q2.c7, h, rfl⟩ (by kernel_rfl)
        · skip
          refine goReg (N := 51) (hints := [(1, .bool false)]) (l := [1, 2, 7, 8, 9, 18, 25]) (m := [8]) (s₂ := ⟨[(1, one (ci .u8 (x1))), (2, one (cb x2)), (7, one (cb q1)), (8, one (.ptr 8 0)), (9, one (ci .i64 (j8))), (18, one (ci .u8 ((Int.tmod (x1) 8)))), (25, one (cb false))], [(8, 24, [ci .i64 (q2.c0), ci .i64 (q2.c1), ci .i64 (q2.c2), ci .i64 (q2.c3), ci .i64 (q2.c4), ci .i64 (q2.c5), ci .i64 (q2.c6), ci .i64 (q2.c7)])]⟩) (ob := True ∧ (True ∧ ((((Int.tmod (x1) 8)) == 0)) = false) ∧ True) (by kernel_rfl) hN (by kernel_rfl) ⟨trivial, ⟨trivial, c28⟩, trivial⟩ (by decide) (by decide) ?_
          refine thenC ?_
          refine goCondF (by kernel_rfl) (by kernel_rfl) ?_
          refine goSeq (by kernel_rfl) ?_
          rcases fork_some h with ⟨c29, h⟩ | ⟨c29, h⟩
          · skip
            refine goReg (N := 51) (hints := [(1, .bool true)]) (l := [1, 2, 7, 8, 9, 18, 30]) (m := [8]) (s₂ := ⟨[(1, one (ci .u8 (x1))), (2, one (cb x2)), (7, one (cb q1)), (8, one (.ptr 8 0)), (9, one (ci .i64 (j8))), (18, one (ci .u8 ((Int.tmod (x1) 8)))), (30, one (cb true))], [(8, 24, [ci .i64 (q2.c0), ci .i64 (q2.c1), ci .i64 (q2.c2), ci .i64 (q2.c3), ci .i64 (q2.c4), ci .i64 (q2.c5), ci .i64 (q2.c6), ci .i64 (q2.c7)])]⟩) (ob := True ∧ (True ∧ ((((Int.tmod (x1) 8)) == 1)) = true) ∧ True) (by kernel_rfl) hN (by kernel_rfl) ⟨trivial, ⟨trivial, c29⟩, trivial⟩ (by decide) (by decide) ?_
            refine thenC ?_
            refine goCondT (by kernel_rfl) (by kernel_rfl) ?_
            refine goReg (N := 51) (hints := []) (l := [7, 8]) (m := [8]) (s₂ := ⟨[(7, one (cb q1)), (8, one (.ptr 8 0))], [(8, 24, [ci .i64 (q2.c0), ci .i64 ((IntKind.wrap .i64 ((j8) * 32769))), ci .i64 (q2.c2), ci .i64 (q2.c3), ci .i64 (q2.c4), ci .i64 (q2.c5), ci .i64 (q2.c6), ci .i64 (q2.c7)])]⟩) (ob := True ∧ True ∧ True ∧ True ∧ True) (by kernel_rfl) hN (by kernel_rfl) ⟨trivial, trivial, trivial, trivial, trivial⟩ (by decide) (by decide) ?_
            refine blkN ?_
            exact Fit.mk [] ⟨q1, q2.c0, ((IntKind.wrap .i64 ((j8) * 32769))), q2.c2, q2.c3, q2.c4, q2.c5, q2.c6, q2.c7, h, rfl⟩ (by kernel_rfl)
          · skip
            refine goReg (N := 51) (hints := [(1, .bool false)]) (l := [1, 2, 7, 8, 9, 18, 30]) (m := [8]) (s₂ := ⟨[(1, one (ci .u8 (x1))), (2, one (cb x2)), (7, one (cb q1)), (8, one (.ptr 8 0)), (9, one (ci .i64 (j8))), (18, one (ci .u8 ((Int.tmod (x1) 8)))), (30, one (cb false))], [(8, 24, [ci .i64 (q2.c0), ci .i64 (q2.c1), ci .i64 (q2.c2), ci .i64 (q2.c3), ci .i64 (q2.c4), ci .i64 (q2.c5), ci .i64 (q2.c6), ci .i64 (q2.c7)])]⟩) (ob := True ∧ (True ∧ ((((Int.tmod (x1) 8)) == 1)) = false) ∧ True) (by kernel_rfl) hN (by kernel_rfl) ⟨trivial, ⟨trivial, c29⟩, trivial⟩ (by decide) (by decide) ?_
            refine thenC ?_
            refine goCondF (by kernel_rfl) (by kernel_rfl) ?_
            refine goSeq (by kernel_rfl) ?_
            rcases fork_some h with ⟨c30, h⟩ | ⟨c30, h⟩
            · skip
              refine goReg (N := 51) (hints := [(1, .bool true)]) (l := [1, 2, 7, 8, 9, 18, 35]) (m := [8]) (s₂ := ⟨[(1, one (ci .u8 (x1))), (2, one (cb x2)), (7, one (cb q1)), (8, one (.ptr 8 0)), (9, one (ci .i64 (j8))), (18, one (ci .u8 ((Int.tmod (x1) 8)))), (35, one (cb true))], [(8, 24, [ci .i64 (q2.c0), ci .i64 (q2.c1), ci .i64 (q2.c2), ci .i64 (q2.c3), ci .i64 (q2.c4), ci .i64 (q2.c5), ci .i64 (q2.c6), ci .i64 (q2.c7)])]⟩) (ob := True ∧ (True ∧ ((((Int.tmod (x1) 8)) == 2)) = true) ∧ True) (by kernel_rfl) hN (by kernel_rfl) ⟨trivial, ⟨trivial, c30⟩, trivial⟩ (by decide) (by decide) ?_
              refine thenC ?_
              refine goCondT (by kernel_rfl) (by kernel_rfl) ?_
              refine goReg (N := 51) (hints := []) (l := [7, 8]) (m := [8]) (s₂ := ⟨[(7, one (cb q1)), (8, one (.ptr 8 0))], [(8, 24, [ci .i64 (q2.c0), ci .i64 (q2.c1), ci .i64 ((IntKind.wrap .i64 ((j8) * 32769))), ci .i64 (q2.c3), ci .i64 (q2.c4), ci .i64 (q2.c5), ci .i64 (q2.c6), ci .i64 (q2.c7)])]⟩) (ob := True ∧ True ∧ True ∧ True ∧ True) (by kernel_rfl) hN (by kernel_rfl) ⟨trivial, trivial, trivial, trivial, trivial⟩ (by decide) (by decide) ?_
              refine blkN ?_
              exact Fit.mk [] ⟨q1, q2.c0, q2.c1, ((IntKind.wrap .i64 ((j8) * 32769))), q2.c3, q2.c4, q2.c5, q2.c6, q2.c7, h, rfl⟩ (by kernel_rfl)
            · skip
              refine goReg (N := 51) (hints := [(1, .bool false)]) (l := [1, 2, 7, 8, 9, 18, 35]) (m := [8]) (s₂ := ⟨[(1, one (ci .u8 (x1))), (2, one (cb x2)), (7, one (cb q1)), (8, one (.ptr 8 0)), (9, one (ci .i64 (j8))), (18, one (ci .u8 ((Int.tmod (x1) 8)))), (35, one (cb false))], [(8, 24, [ci .i64 (q2.c0), ci .i64 (q2.c1), ci .i64 (q2.c2), ci .i64 (q2.c3), ci .i64 (q2.c4), ci .i64 (q2.c5), ci .i64 (q2.c6), ci .i64 (q2.c7)])]⟩) (ob := True ∧ (True ∧ ((((Int.tmod (x1) 8)) == 2)) = false) ∧ True) (by kernel_rfl) hN (by kernel_rfl) ⟨trivial, ⟨trivial, c30⟩, trivial⟩ (by decide) (by decide) ?_
              refine thenC ?_
              refine goCondF (by kernel_rfl) (by kernel_rfl) ?_
              refine goSeq (by kernel_rfl) ?_
              rcases fork_some h with ⟨c31, h⟩ | ⟨c31, h⟩
              · skip
                refine goReg (N := 51) (hints := [(1, .bool true)]) (l := [1, 2, 7, 8, 9, 40]) (m := [8]) (s₂ := ⟨[(1, one (ci .u8 (x1))), (2, one (cb x2)), (7, one (cb q1)), (8, one (.ptr 8 0)), (9, one (ci .i64 (j8))), (40, one (cb true))], [(8, 24, [ci .i64 (q2.c0), ci .i64 (q2.c1), ci .i64 (q2.c2), ci .i64 (q2.c3), ci .i64 (q2.c4), ci .i64 (q2.c5), ci .i64 (q2.c6), ci .i64 (q2.c7)])]⟩) (ob := True ∧ (True ∧ ((((Int.tmod (x1) 8)) == 3)) = true) ∧ True) (by kernel_rfl) hN (by kernel_rfl) ⟨trivial, ⟨trivial, c31⟩, trivial⟩ (by decide) (by decide) ?_
                refine thenC ?_
                refine goCondT (by kernel_rfl) (by kernel_rfl) ?_
                refine goSeq (by kernel_rfl) ?_
                refine goReg (N := 51) (hints := []) (l := [2, 7, 8]) (m := [8]) (s₂ := ⟨[(2, one (cb x2)), (7, one (cb q1)), (8, one (.ptr 8 0))], [(8, 24, [ci .i64 (q2.c0), ci .i64 (q2.c1), ci .i64 (q2.c2), ci .i64 0, ci .i64 (q2.c4), ci .i64 (q2.c5), ci .i64 (q2.c6), ci .i64 (q2.c7)])]⟩) (ob := True ∧ True ∧ True) (by kernel_rfl) hN (by kernel_rfl) ⟨trivial, trivial, trivial⟩ (by decide) (by decide) ?_
                refine thenC ?_
                refine goSeq (by kernel_rfl) ?_
                rcases fork_some h with ⟨c32, h⟩ | ⟨c32, h⟩
                · skip
                  refine goReg (N := 51) (hints := [(0, .bool true)]) (l := [7, 8, 43]) (m := [8]) (s₂ := ⟨[(7, one (cb q1)), (8, one (.ptr 8 0)), (43, one (cb true))], [(8, 24, [ci .i64 (q2.c0), ci .i64 (q2.c1), ci .i64 (q2.c2), ci .i64 0, ci .i64 (q2.c4), ci .i64 (q2.c5), ci .i64 (q2.c6), ci .i64 (q2.c7)])]⟩) (ob := (True ∧ (x2) = true) ∧ True) (by kernel_rfl) hN (by kernel_rfl) ⟨⟨trivial, c32⟩, trivial⟩ (by decide) (by decide) ?_
                  refine thenC ?_
                  refine goCondT (by kernel_rfl) (by kernel_rfl) ?_
                  refine goReg (N := 51) (hints := []) (l := [7, 8]) (m := [8]) (s₂ := ⟨[(7, one (cb q1)), (8, one (.ptr 8 0))], [(8, 24, [ci .i64 (q2.c0), ci .i64 (q2.c1), ci .i64 (q2.c2), ci .i64 32769, ci .i64 (q2.c4), ci .i64 (q2.c5), ci .i64 (q2.c6), ci .i64 (q2.c7)])]⟩) (ob := True ∧ True ∧ True) (by kernel_rfl) hN (by kernel_rfl) ⟨trivial, trivial, trivial⟩ (by decide) (by decide) ?_
                  refine blkN ?_
                  exact Fit.mk [] ⟨q1, q2.c0, q2.c1, q2.c2, (32769), q2.c4, q2.c5, q2.c6, q2.c7, h, rfl⟩ (by kernel_rfl)
                · skip
                  refine goReg (N := 51) (hints := [(0, .bool false)]) (l := [7, 8, 43]) (m := [8]) (s₂ := ⟨[(7, one (cb q1)), (8, one (.ptr 8 0)), (43, one (cb false))], [(8, 24, [ci .i64 (q2.c0), ci .i64 (q2.c1), ci .i64 (q2.c2), ci .i64 0, ci .i64 (q2.c4), ci .i64 (q2.c5), ci .i64 (q2.c6), ci .i64 (q2.c7)])]⟩) (ob := (True ∧ (x2) = false) ∧ True) (by kernel_rfl) hN (by kernel_rfl) ⟨⟨trivial, c32⟩, trivial⟩ (by decide) (by decide) ?_
                  refine thenC ?_
                  refine goCondF (by kernel_rfl) (by kernel_rfl) ?_
                  refine goSkip (by kernel_rfl) ?_
                  refine blkN ?_
                  exact Fit.mk [] ⟨q1, q2.c0, q2.c1, q2.c2, (0), q2.c4, q2.c5, q2.c6, q2.c7, h, rfl⟩ (by kernel_rfl)
              · skip
                refine goReg (N := 51) (hints := [(1, .bool false)]) (l := [1, 2, 7, 8, 9, 40]) (m := [8]) (s₂ := ⟨[(1, one (ci .u8 (x1))), (2, one (cb x2)), (7, one (cb q1)), (8, one (.ptr 8 0)), (9, one (ci .i64 (j8))), (40, one (cb false))], [(8, 24, [ci .i64 (q2.c0), ci .i64 (q2.c1), ci .i64 (q2.c2), ci .i64 (q2.c3), ci .i64 (q2.c4), ci .i64 (q2.c5), ci .i64 (q2.c6), ci .i64 (q2.c7)])]⟩) (ob := True ∧ (True ∧ ((((Int.tmod (x1) 8)) == 3)) = false) ∧ True) (by kernel_rfl) hN (by kernel_rfl) ⟨trivial, ⟨trivial, c31⟩, trivial⟩ (by decide) (by decide) ?_
                refine thenC ?_
                refine goCondF (by kernel_rfl) (by kernel_rfl) ?_
                rcases fork_some h with ⟨c33, h⟩ | ⟨c33, h⟩
                · skip
                  refine goReg (N := 51) (hints := [(1, .val (one (ci .u8 0)))]) (l := [7, 8]) (m := [8]) (s₂ := ⟨[(7, one (cb q1)), (8, one (.ptr 8 0))], [(8, 24, [ci .i64 (q2.c0), ci .i64 (q2.c1), ci .i64 (q2.c2), ci .i64 (q2.c3), ci .i64 ((IntKind.wrap .i64 ((j8) * 4097))), ci .i64 (q2.c5), ci .i64 (q2.c6), ci .i64 (q2.c7)])]⟩) (ob := True ∧ (((4 : Int) ≠ 0) ∧ one (ci .u8 ((Int.tmod (x1) 4))) = one (ci .u8 0)) ∧ True ∧ True ∧ True ∧ (0 ≤ (0 : Int) ∧ (0 : Int) < 4) ∧ True ∧ True) (by kernel_rfl) hN (by kernel_rfl) ⟨trivial, ⟨(by decide), congrArg (fun x => one (ci .u8 x)) (eq_of_beq c33)⟩, trivial, trivial, trivial, (by decide), trivial, trivial⟩ (by decide) (by decide) ?_
                  refine blkN ?_
                  exact Fit.mk [] ⟨q1, q2.c0, q2.c1, q2.c2, q2.c3, ((IntKind.wrap .i64 ((j8) * 4097))), q2.c5, q2.c6, q2.c7, h, rfl⟩ (by kernel_rfl)
                rcases fork_some h with ⟨c34, h⟩ | ⟨c34, h⟩
                · skip
                  refine goReg (N := 51) (hints := [(1, .val (one (ci .u8 1)))]) (l := [7, 8]) (m := [8]) (s₂ := ⟨[(7, one (cb q1)), (8, one (.ptr 8 0))], [(8, 24, [ci .i64 (q2.c0), ci .i64 (q2.c1), ci .i64 (q2.c2), ci .i64 (q2.c3), ci .i64 (q2.c4), ci .i64 ((IntKind.wrap .i64 ((j8) * 4097))), ci .i64 (q2.c6), ci .i64 (q2.c7)])]⟩) (ob := True ∧ (((4 : Int) ≠ 0) ∧ one (ci .u8 ((Int.tmod (x1) 4))) = one (ci .u8 1)) ∧ True ∧ True ∧ True ∧ (0 ≤ (1 : Int) ∧ (1 : Int) < 4) ∧ True ∧ True) (by kernel_rfl) hN (by kernel_rfl) ⟨trivial, ⟨(by decide), congrArg (fun x => one (ci .u8 x)) (eq_of_beq c34)⟩, trivial, trivial, trivial, (by decide), trivial, trivial⟩ (by decide) (by decide) ?_
                  refine blkN ?_
                  exact Fit.mk [] ⟨q1, q2.c0, q2.c1, q2.c2, q2.c3, q2.c4, ((IntKind.wrap .i64 ((j8) * 4097))), q2.c6, q2.c7, h, rfl⟩ (by kernel_rfl)
                rcases fork_some h with ⟨c35, h⟩ | ⟨c35, h⟩
                · skip
                  refine goReg (N := 51) (hints := [(1, .val (one (ci .u8 2)))]) (l := [7, 8]) (m := [8]) (s₂ := ⟨[(7, one (cb q1)), (8, one (.ptr 8 0))], [(8, 24, [ci .i64 (q2.c0), ci .i64 (q2.c1), ci .i64 (q2.c2), ci .i64 (q2.c3), ci .i64 (q2.c4), ci .i64 (q2.c5), ci .i64 ((IntKind.wrap .i64 ((j8) * 4097))), ci .i64 (q2.c7)])]⟩) (ob := True ∧ (((4 : Int) ≠ 0) ∧ one (ci .u8 ((Int.tmod (x1) 4))) = one (ci .u8 2)) ∧ True ∧ True ∧ True ∧ (0 ≤ (2 : Int) ∧ (2 : Int) < 4) ∧ True ∧ True) (by kernel_rfl) hN (by kernel_rfl) ⟨trivial, ⟨(by decide), congrArg (fun x => one (ci .u8 x)) (eq_of_beq c35)⟩, trivial, trivial, trivial, (by decide), trivial, trivial⟩ (by decide) (by decide) ?_
                  refine blkN ?_
                  exact Fit.mk [] ⟨q1, q2.c0, q2.c1, q2.c2, q2.c3, q2.c4, q2.c5, ((IntKind.wrap .i64 ((j8) * 4097))), q2.c7, h, rfl⟩ (by kernel_rfl)
                rcases fork_some h with ⟨c36, h⟩ | ⟨c36, h⟩
                · skip
                  refine goReg (N := 51) (hints := [(1, .val (one (ci .u8 3)))]) (l := [7, 8]) (m := [8]) (s₂ := ⟨[(7, one (cb q1)), (8, one (.ptr 8 0))], [(8, 24, [ci .i64 (q2.c0), ci .i64 (q2.c1), ci .i64 (q2.c2), ci .i64 (q2.c3), ci .i64 (q2.c4), ci .i64 (q2.c5), ci .i64 (q2.c6), ci .i64 ((IntKind.wrap .i64 ((j8) * 4097)))])]⟩) (ob := True ∧ (((4 : Int) ≠ 0) ∧ one (ci .u8 ((Int.tmod (x1) 4))) = one (ci .u8 3)) ∧ True ∧ True ∧ True ∧ (0 ≤ (3 : Int) ∧ (3 : Int) < 4) ∧ True ∧ True) (by kernel_rfl) hN (by kernel_rfl) ⟨trivial, ⟨(by decide), congrArg (fun x => one (ci .u8 x)) (eq_of_beq c36)⟩, trivial, trivial, trivial, (by decide), trivial, trivial⟩ (by decide) (by decide) ?_
                  refine blkN ?_
                  exact Fit.mk [] ⟨q1, q2.c0, q2.c1, q2.c2, q2.c3, q2.c4, q2.c5, q2.c6, ((IntKind.wrap .i64 ((j8) * 4097))), h, rfl⟩ (by kernel_rfl)
                cases h
    · skip
      refine goSeq (by kernel_rfl) ?_
      rcases fork_some h with ⟨c37, h⟩ | ⟨c37, h⟩
      · skip
        refine goReg (N := 51) (hints := [(0, .bool true)]) (l := [1, 2, 7, 8, 9, 16]) (m := [8]) (s₂ := ⟨[(1, one (ci .u8 (x1))), (2, one (cb x2)), (7, one (cb q1)), (8, one (.ptr 8 0)), (9, one (ci .i64 (-1))), (16, one (cb true))], [(8, 24, [ci .i64 (q2.c0), ci .i64 (q2.c1), ci .i64 (q2.c2), ci .i64 (q2.c3), ci .i64 (q2.c4), ci .i64 (q2.c5), ci .i64 (q2.c6), ci .i64 (q2.c7)])]⟩) (ob := (True ∧ (x2) = true) ∧ True) (by kernel_rfl) hN (by kernel_rfl) ⟨⟨trivial, c37⟩, trivial⟩ (by decide) (by decide) ?_
        refine thenC ?_
        refine goCondT (by kernel_rfl) (by kernel_rfl) ?_
        refine goReg (N := 51) (hints := []) (l := [1, 2, 7, 8, 9]) (m := [8]) (s₂ := ⟨[(1, one (ci .u8 (x1))), (2, one (cb x2)), (7, one (cb q1)), (8, one (.ptr 8 0)), (9, one (ci .i64 1))], [(8, 24, [ci .i64 (q2.c0), ci .i64 (q2.c1), ci .i64 (q2.c2), ci .i64 (q2.c3), ci .i64 (q2.c4), ci .i64 (q2.c5), ci .i64 (q2.c6), ci .i64 (q2.c7)])]⟩) (ob := True ∧ True) (by kernel_rfl) hN (by kernel_rfl) ⟨trivial, trivial⟩ (by decide) (by decide) ?_
        exact Fit.mk [] ⟨x1, x2, q1, q2, (1), h, rfl⟩ (by kernel_rfl)
      · skip
        refine goReg (N := 51) (hints := [(0, .bool false)]) (l := [1, 2, 7, 8, 9, 16]) (m := [8]) (s₂ := ⟨[(1, one (ci .u8 (x1))), (2, one (cb x2)), (7, one (cb q1)), (8, one (.ptr 8 0)), (9, one (ci .i64 (-1))), (16, one (cb false))], [(8, 24, [ci .i64 (q2.c0), ci .i64 (q2.c1), ci .i64 (q2.c2), ci .i64 (q2.c3), ci .i64 (q2.c4), ci .i64 (q2.c5), ci .i64 (q2.c6), ci .i64 (q2.c7)])]⟩) (ob := (True ∧ (x2) = false) ∧ True) (by kernel_rfl) hN (by kernel_rfl) ⟨⟨trivial, c37⟩, trivial⟩ (by decide) (by decide) ?_
        refine thenC ?_
        refine goCondF (by kernel_rfl) (by kernel_rfl) ?_
        refine goSkip (by kernel_rfl) ?_
        exact Fit.mk [] ⟨x1, x2, q1, q2, (-1), h, rfl⟩ (by kernel_rfl)

theorem glazierlaw04_VecBetween_ok (x0 : T_2_api_Vec) (x1 : Int) (r : Bool) (h : glazierlaw04_VecBetween x0 x1 = some r) : PureC Try.prog 7 [agg [ci .i64 (x0.c0), ci .i64 (x0.c1), ci .i64 (x0.c2), ci .i64 (x0.c3), ci .i64 (x0.c4), ci .i64 (x0.c5), ci .i64 (x0.c6), ci .i64 (x0.c7), ci .i64 (x0.c8), ci .i64 (x0.c9), ci .i64 (x0.c10), ci .i64 (x0.c11), ci .i64 (x0.c12), ci .i64 (x0.c13), ci .i64 (x0.c14), ci .i64 (x0.c15)], one (ci .u8 (x1))] (one (cb r)) := by
  refine fnOf (fn := Try.f7) (n := 151) (rs := [ResultVar.tmp 4]) (s := ⟨[(0, agg [ci .i64 (x0.c0), ci .i64 (x0.c1), ci .i64 (x0.c2), ci .i64 (x0.c3), ci .i64 (x0.c4), ci .i64 (x0.c5), ci .i64 (x0.c6), ci .i64 (x0.c7), ci .i64 (x0.c8), ci .i64 (x0.c9), ci .i64 (x0.c10), ci .i64 (x0.c11), ci .i64 (x0.c12), ci .i64 (x0.c13), ci .i64 (x0.c14), ci .i64 (x0.c15)]), (1, one (ci .u8 (x1)))], []⟩) (by kernel_rfl) (by kernel_rfl) (by kernel_rfl) (by kernel_rfl) (by kernel_rfl) (by kernel_rfl) (by kernel_rfl) (by kernel_rfl) (fun E hN => ?_)
  unfold glazierlaw04_VecBetween at h
  refine goSeq (by kernel_rfl) ?_
  refine goReg (N := 151) (hints := []) (l := [1, 2]) (m := [2]) (s₂ := ⟨[(1, one (ci .u8 (x1))), (2, one (.ptr 2 0))], [(2, 31, [ci .i64 (x0.c0), ci .i64 (x0.c1), ci .i64 (x0.c2), ci .i64 (x0.c3), ci .i64 (x0.c4), ci .i64 (x0.c5), ci .i64 (x0.c6), ci .i64 (x0.c7), ci .i64 (x0.c8), ci .i64 (x0.c9), ci .i64 (x0.c10), ci .i64 (x0.c11), ci .i64 (x0.c12), ci .i64 (x0.c13), ci .i64 (x0.c14), ci .i64 (x0.c15)])]⟩) (ob := True ∧ True ∧ True) (by kernel_rfl) hN (by kernel_rfl) ⟨trivial, trivial, trivial⟩ (by decide) (by decide) ?_
  refine thenC ?_
  refine goSeq (by kernel_rfl) ?_
  obtain ⟨q1, hq1, h⟩ := bind_some h
  refine goReg (N := 151) (hints := [(0, .call (one (cb q1)))]) (l := [1, 2, 5]) (m := [2]) (s₂ := ⟨[(1, one (ci .u8 (x1))), (2, one (.ptr 2 0)), (5, one (cb q1))], [(2, 31, [ci .i64 (x0.c0), ci .i64 (x0.c1), ci .i64 (x0.c2), ci .i64 (x0.c3), ci .i64 (x0.c4), ci .i64 (x0.c5), ci .i64 (x0.c6), ci .i64 (x0.c7), ci .i64 (x0.c8), ci .i64 (x0.c9), ci .i64 (x0.c10), ci .i64 (x0.c11), ci .i64 (x0.c12), ci .i64 (x0.c13), ci .i64 (x0.c14), ci .i64 (x0.c15)])]⟩) (ob := PureC Try.prog 9 [] (one (cb q1)) ∧ True ∧ True) (by kernel_rfl) hN (by kernel_rfl) ⟨(glazierlaw04_shown_ok _ hq1), trivial, trivial⟩ (by decide) (by decide) ?_
  refine thenC ?_
  refine goSeq (by kernel_rfl) ?_
  refine goReg (N := 151) (hints := []) (l := [2, 5, 6]) (m := [2]) (s₂ := ⟨[(2, one (.ptr 2 0)), (5, one (cb q1)), (6, one (ci .i64 ((Int.tmod ((IntKind.wrap .i64 (x1))) 5))))], [(2, 31, [ci .i64 (x0.c0), ci .i64 (x0.c1), ci .i64 (x0.c2), ci .i64 (x0.c3), ci .i64 (x0.c4), ci .i64 (x0.c5), ci .i64 (x0.c6), ci .i64 (x0.c7), ci .i64 (x0.c8), ci .i64 (x0.c9), ci .i64 (x0.c10), ci .i64 (x0.c11), ci .i64 (x0.c12), ci .i64 (x0.c13), ci .i64 (x0.c14), ci .i64 (x0.c15)])]⟩) (ob := True ∧ True ∧ ((5 : Int) ≠ 0) ∧ True ∧ True) (by kernel_rfl) hN (by kernel_rfl) ⟨trivial, trivial, (by decide), trivial, trivial⟩ (by decide) (by decide) ?_
  refine thenC ?_
  refine goSeq (by kernel_rfl) ?_
  obtain ⟨q2, hq2, h⟩ := bind_some h
  refine goReg (N := 151) (hints := [(2, .call (agg [ci .i64 (q2.c0), ci .i64 (q2.c1), ci .i64 (q2.c2), ci .i64 (q2.c3), ci .i64 (q2.c4), ci .i64 (q2.c5), ci .i64 (q2.c6), ci .i64 (q2.c7)]))]) (l := [2, 5, 6, 7]) (m := [2, 7]) (s₂ := ⟨[(2, one (.ptr 2 0)), (5, one (cb q1)), (6, one (ci .i64 ((Int.tmod ((IntKind.wrap .i64 (x1))) 5)))), (7, one (.ptr 7 0))], [(2, 31, [ci .i64 (x0.c0), ci .i64 (x0.c1), ci .i64 (x0.c2), ci .i64 (x0.c3), ci .i64 (x0.c4), ci .i64 (x0.c5), ci .i64 (x0.c6), ci .i64 (x0.c7), ci .i64 (x0.c8), ci .i64 (x0.c9), ci .i64 (x0.c10), ci .i64 (x0.c11), ci .i64 (x0.c12), ci .i64 (x0.c13), ci .i64 (x0.c14), ci .i64 (x0.c15)]), (7, 24, [ci .i64 (q2.c0), ci .i64 (q2.c1), ci .i64 (q2.c2), ci .i64 (q2.c3), ci .i64 (q2.c4), ci .i64 (q2.c5), ci .i64 (q2.c6), ci .i64 (q2.c7)])]⟩) (ob := (0 ≤ (0 : Int) ∧ (0 : Int) < 2) ∧ True ∧ PureC Try.prog 10 [agg [ci .i64 (x0.c0), ci .i64 (x0.c1), ci .i64 (x0.c2), ci .i64 (x0.c3), ci .i64 (x0.c4), ci .i64 (x0.c5), ci .i64 (x0.c6), ci .i64 (x0.c7)]] (agg [ci .i64 (q2.c0), ci .i64 (q2.c1), ci .i64 (q2.c2), ci .i64 (q2.c3), ci .i64 (q2.c4), ci .i64 (q2.c5), ci .i64 (q2.c6), ci .i64 (q2.c7)]) ∧ True ∧ True ∧ True) (by kernel_rfl) hN (by kernel_rfl) ⟨(by decide), trivial, (glazierref04_Fit_ok (⟨x0.c0, x0.c1, x0.c2, x0.c3, x0.c4, x0.c5, x0.c6, x0.c7⟩ : T_api_Vec) _ hq2), trivial, trivial, trivial⟩ (by decide) (by decide) ?_
  refine thenC ?_
  refine goSeq (by kernel_rfl) ?_
  obtain ⟨q3, hq3, h⟩ := bind_some h
  refine goReg (N := 151) (hints := [(2, .call (agg [ci .i64 (q3.c0), ci .i64 (q3.c1), ci .i64 (q3.c2), ci .i64 (q3.c3), ci .i64 (q3.c4), ci .i64 (q3.c5), ci .i64 (q3.c6), ci .i64 (q3.c7)]))]) (l := [5, 6, 7, 8]) (m := [7, 8]) (s₂ := ⟨[(5, one (cb q1)), (6, one (ci .i64 ((Int.tmod ((IntKind.wrap .i64 (x1))) 5)))), (7, one (.ptr 7 0)), (8, one (.ptr 8 0))], [(7, 24, [ci .i64 (q2.c0), ci .i64 (q2.c1), ci .i64 (q2.c2), ci .i64 (q2.c3), ci .i64 (q2.c4), ci .i64 (q2.c5), ci .i64 (q2.c6), ci .i64 (q2.c7)]), (8, 24, [ci .i64 (q3.c0), ci .i64 (q3.c1), ci .i64 (q3.c2), ci .i64 (q3.c3), ci .i64 (q3.c4), ci .i64 (q3.c5), ci .i64 (q3.c6), ci .i64 (q3.c7)])]⟩) (ob := (0 ≤ (1 : Int) ∧ (1 : Int) < 2) ∧ True ∧ PureC Try.prog 10 [agg [ci .i64 (x0.c8), ci .i64 (x0.c9), ci .i64 (x0.c10), ci .i64 (x0.c11), ci .i64 (x0.c12), ci .i64 (x0.c13), ci .i64 (x0.c14), ci .i64 (x0.c15)]] (agg [ci .i64 (q3.c0), ci .i64 (q3.c1), ci .i64 (q3.c2), ci .i64 (q3.c3), ci .i64 (q3.c4), ci .i64 (q3.c5), ci .i64 (q3.c6), ci .i64 (q3.c7)]) ∧ True ∧ True ∧ True) (by kernel_rfl) hN (by kernel_rfl) ⟨(by decide), trivial, (glazierref04_Fit_ok (⟨x0.c8, x0.c9, x0.c10, x0.c11, x0.c12, x0.c13, x0.c14, x0.c15⟩ : T_api_Vec) _ hq3), trivial, trivial, trivial⟩ (by decide) (by decide) ?_
  refine thenC ?_
  refine goSeq (by kernel_rfl) ?_
  obtain ⟨q4, hq4, h⟩ := bind_some h
  refine goReg (N := 151) (hints := [(2, .call (one (ci .i64 (q4))))]) (l := [5, 6, 7, 8, 9]) (m := [7, 8]) (s₂ := ⟨[(5, one (cb q1)), (6, one (ci .i64 ((Int.tmod ((IntKind.wrap .i64 (x1))) 5)))), (7, one (.ptr 7 0)), (8, one (.ptr 8 0)), (9, one (ci .i64 (q4)))], [(7, 24, [ci .i64 (q2.c0), ci .i64 (q2.c1), ci .i64 (q2.c2), ci .i64 (q2.c3), ci .i64 (q2.c4), ci .i64 (q2.c5), ci .i64 (q2.c6), ci .i64 (q2.c7)]), (8, 24, [ci .i64 (q3.c0), ci .i64 (q3.c1), ci .i64 (q3.c2), ci .i64 (q3.c3), ci .i64 (q3.c4), ci .i64 (q3.c5), ci .i64 (q3.c6), ci .i64 (q3.c7)])]⟩) (ob := True ∧ True ∧ PureC Try.prog 11 [one (ci .i64 ((Int.tmod ((IntKind.wrap .i64 (x1))) 5))), agg [ci .i64 (q2.c0), ci .i64 (q2.c1), ci .i64 (q2.c2), ci .i64 (q2.c3), ci .i64 (q2.c4), ci .i64 (q2.c5), ci .i64 (q2.c6), ci .i64 (q2.c7)]] (one (ci .i64 (q4))) ∧ True ∧ True) (by kernel_rfl) hN (by kernel_rfl) ⟨trivial, trivial, (vec_Dist_ok ((Int.tmod ((IntKind.wrap .i64 (x1))) 5)) q2 _ hq4), trivial, trivial⟩ (by decide) (by decide) ?_
  refine thenC ?_
  refine goSeq (by kernel_rfl) ?_
  obtain ⟨q5, hq5, h⟩ := bind_some h
  refine goReg (N := 151) (hints := [(2, .call (one (ci .i64 (q5))))]) (l := [5, 6, 7, 8, 9, 10]) (m := [7, 8]) (s₂ := ⟨[(5, one (cb q1)), (6, one (ci .i64 ((Int.tmod ((IntKind.wrap .i64 (x1))) 5)))), (7, one (.ptr 7 0)), (8, one (.ptr 8 0)), (9, one (ci .i64 (q4))), (10, one (ci .i64 (q5)))], [(7, 24, [ci .i64 (q2.c0), ci .i64 (q2.c1), ci .i64 (q2.c2), ci .i64 (q2.c3), ci .i64 (q2.c4), ci .i64 (q2.c5), ci .i64 (q2.c6), ci .i64 (q2.c7)]), (8, 24, [ci .i64 (q3.c0), ci .i64 (q3.c1), ci .i64 (q3.c2), ci .i64 (q3.c3), ci .i64 (q3.c4), ci .i64 (q3.c5), ci .i64 (q3.c6), ci .i64 (q3.c7)])]⟩) (ob := True ∧ True ∧ PureC Try.prog 11 [one (ci .i64 ((Int.tmod ((IntKind.wrap .i64 (x1))) 5))), agg [ci .i64 (q3.c0), ci .i64 (q3.c1), ci .i64 (q3.c2), ci .i64 (q3.c3), ci .i64 (q3.c4), ci .i64 (q3.c5), ci .i64 (q3.c6), ci .i64 (q3.c7)]] (one (ci .i64 (q5))) ∧ True ∧ True) (by kernel_rfl) hN (by kernel_rfl) ⟨trivial, trivial, (vec_Dist_ok ((Int.tmod ((IntKind.wrap .i64 (x1))) 5)) q3 _ hq5), trivial, trivial⟩ (by decide) (by decide) ?_
  refine thenC ?_
  refine goSeq (by kernel_rfl) ?_
  obtain ⟨q6, hq6, h⟩ := bind_some h
  refine goReg (N := 151) (hints := [(3, .call (⟨.tup [(true, 8), (false, 1)], [ci .i64 (q6.1.c0), ci .i64 (q6.1.c1), ci .i64 (q6.1.c2), ci .i64 (q6.1.c3), ci .i64 (q6.1.c4), ci .i64 (q6.1.c5), ci .i64 (q6.1.c6), ci .i64 (q6.1.c7), cb q6.2]⟩))]) (l := [5, 6, 7, 8, 9, 10, 11, 12]) (m := [7, 8, 11]) (s₂ := ⟨[(5, one (cb q1)), (6, one (ci .i64 ((Int.tmod ((IntKind.wrap .i64 (x1))) 5)))), (7, one (.ptr 7 0)), (8, one (.ptr 8 0)), (9, one (ci .i64 (q4))), (10, one (ci .i64 (q5))), (11, one (.ptr 11 0)), (12, one (cb q6.2))], [(7, 24, [ci .i64 (q2.c0), ci .i64 (q2.c1), ci .i64 (q2.c2), ci .i64 (q2.c3), ci .i64 (q2.c4), ci .i64 (q2.c5), ci .i64 (q2.c6), ci .i64 (q2.c7)]), (8, 24, [ci .i64 (q3.c0), ci .i64 (q3.c1), ci .i64 (q3.c2), ci .i64 (q3.c3), ci .i64 (q3.c4), ci .i64 (q3.c5), ci .i64 (q3.c6), ci .i64 (q3.c7)]), (11, 24, [ci .i64 (q6.1.c0), ci .i64 (q6.1.c1), ci .i64 (q6.1.c2), ci .i64 (q6.1.c3), ci .i64 (q6.1.c4), ci .i64 (q6.1.c5), ci .i64 (q6.1.c6), ci .i64 (q6.1.c7)])]⟩) (ob := True ∧ True ∧ True ∧ PureC Try.prog 12 [agg [ci .i64 (q2.c0), ci .i64 (q2.c1), ci .i64 (q2.c2), ci .i64 (q2.c3), ci .i64 (q2.c4), ci .i64 (q2.c5), ci .i64 (q2.c6), ci .i64 (q2.c7)], agg [ci .i64 (q3.c0), ci .i64 (q3.c1), ci .i64 (q3.c2), ci .i64 (q3.c3), ci .i64 (q3.c4), ci .i64 (q3.c5), ci .i64 (q3.c6), ci .i64 (q3.c7)], one (ci .i64 ((Int.tmod ((IntKind.wrap .i64 (x1))) 5)))] (⟨.tup [(true, 8), (false, 1)], [ci .i64 (q6.1.c0), ci .i64 (q6.1.c1), ci .i64 (q6.1.c2), ci .i64 (q6.1.c3), ci .i64 (q6.1.c4), ci .i64 (q6.1.c5), ci .i64 (q6.1.c6), ci .i64 (q6.1.c7), cb q6.2]⟩) ∧ True ∧ True ∧ True ∧ True ∧ True ∧ True ∧ True) (by kernel_rfl) hN (by kernel_rfl) ⟨trivial, trivial, trivial, (vec_Between_ok q2 q3 ((Int.tmod ((IntKind.wrap .i64 (x1))) 5)) _ hq6), trivial, trivial, trivial, trivial, trivial, trivial, trivial⟩ (by decide) (by decide) ?_
  refine thenC ?_
  refine goSeqK (l := [5, 6, 7, 8, 11, 12]) (m := [7, 8, 11]) (K := fun s => ∃ (q1 : Bool) (x1 : Int) (q6 : T_api_Vec × Bool) (q2 : T_api_Vec) (q3 : T_api_Vec), glazierlaw04_VecBetween_j1 q1 x1 q6 q2 q3 = some r ∧ s = ⟨[(5, one (cb q1)), (6, one (ci .i64 ((Int.tmod ((IntKind.wrap .i64 (x1))) 5)))), (7, one (.ptr 7 0)), (8, one (.ptr 8 0)), (11, one (.ptr 11 0)), (12, one (cb q6.2))], [(7, 24, [ci .i64 (q2.c0), ci .i64 (q2.c1), ci .i64 (q2.c2), ci .i64 (q2.c3), ci .i64 (q2.c4), ci .i64 (q2.c5), ci .i64 (q2.c6), ci .i64 (q2.c7)]), (8, 24, [ci .i64 (q3.c0), ci .i64 (q3.c1), ci .i64 (q3.c2), ci .i64 (q3.c3), ci .i64 (q3.c4), ci .i64 (q3.c5), ci .i64 (q3.c6), ci .i64 (q3.c7)]), (11, 24, [ci .i64 (q6.1.c0), ci .i64 (q6.1.c1), ci .i64 (q6.1.c2), ci .i64 (q6.1.c3), ci .i64 (q6.1.c4), ci .i64 (q6.1.c5), ci .i64 (q6.1.c6), ci .i64 (q6.1.c7)])]⟩) (by kernel_rfl) (by decide) (by decide) ?_ ?_
  · skip
    rintro _ ⟨q1, x1, q6, q2, q3, h, rfl⟩
    unfold glazierlaw04_VecBetween_j1 at h
    refine goSeq (by kernel_rfl) ?_
    refine goSeq (by kernel_rfl) ?_
    rcases fork_some h with ⟨c20, h⟩ | ⟨c20, h⟩
    · skip
      refine goReg (N := 151) (hints := [(1, .bool true)]) (l := [5, 6, 7, 8, 11, 59]) (m := [7, 8, 11]) (s₂ := ⟨[(5, one (cb q1)), (6, one (ci .i64 ((Int.tmod ((IntKind.wrap .i64 (x1))) 5)))), (7, one (.ptr 7 0)), (8, one (.ptr 8 0)), (11, one (.ptr 11 0)), (59, one (cb true))], [(7, 24, [ci .i64 (q2.c0), ci .i64 (q2.c1), ci .i64 (q2.c2), ci .i64 (q2.c3), ci .i64 (q2.c4), ci .i64 (q2.c5), ci .i64 (q2.c6), ci .i64 (q2.c7)]), (8, 24, [ci .i64 (q3.c0), ci .i64 (q3.c1), ci .i64 (q3.c2), ci .i64 (q3.c3), ci .i64 (q3.c4), ci .i64 (q3.c5), ci .i64 (q3.c6), ci .i64 (q3.c7)]), (11, 24, [ci .i64 (q6.1.c0), ci .i64 (q6.1.c1), ci .i64 (q6.1.c2), ci .i64 (q6.1.c3), ci .i64 (q6.1.c4), ci .i64 (q6.1.c5), ci .i64 (q6.1.c6), ci .i64 (q6.1.c7)])]⟩) (ob := True ∧ (True ∧ ((!q6.2)) = true) ∧ True) (by kernel_rfl) hN (by kernel_rfl) ⟨trivial, ⟨trivial, c20⟩, trivial⟩ (by decide) (by decide) ?_
      refine thenC ?_
      refine goCondT (by kernel_rfl) (by kernel_rfl) ?_
      refine goSeq (by kernel_rfl) ?_
      rcases fork_some h with ⟨c21, h⟩ | ⟨c21, h⟩
      · skip
        refine goReg (N := 151) (hints := [(1, .bool true), (4, .bin (.bool (decide (q6.1 = (⟨0, 0, 0, 0, 0, 0, 0, 0⟩ : T_api_Vec)))))]) (l := [4]) (m := []) (s₂ := ⟨[(4, one (cb (decide (q6.1 = (⟨0, 0, 0, 0, 0, 0, 0, 0⟩ : T_api_Vec)))))], []⟩) (ob := True ∧ (True ∧ (q1) = true) ∧ True ∧ True ∧ (EqOb Try.prog .eql 24 (.tmp 62) (.tmp 63) [.int .i64 (q6.1.c0), .int .i64 (q6.1.c1), .int .i64 (q6.1.c2), .int .i64 (q6.1.c3), .int .i64 (q6.1.c4), .int .i64 (q6.1.c5), .int .i64 (q6.1.c6), .int .i64 (q6.1.c7)] [.int .i64 0, .int .i64 0, .int .i64 0, .int .i64 0, .int .i64 0, .int .i64 0, .int .i64 0, .int .i64 0] (.bool (decide (q6.1 = (⟨0, 0, 0, 0, 0, 0, 0, 0⟩ : T_api_Vec))))) ∧ True ∧ True ∧ True) (by kernel_rfl) hN (by kernel_rfl) ⟨trivial, ⟨trivial, c21⟩, trivial, trivial, (eql_ob (by kernel_rfl) (by kernel_rfl) (T_api_Vec.eqB q6.1 (⟨0, 0, 0, 0, 0, 0, 0, 0⟩ : T_api_Vec))), trivial, trivial, trivial⟩ (by decide) (by decide) ?_
        refine thenC ?_
        refine goRet (by kernel_rfl) ?_
        refine thenRet ?_
        obtain rfl := top_some h
        exact retOk (by kernel_rfl)
      · skip
        refine goReg (N := 151) (hints := [(1, .bool false)]) (l := [4]) (m := []) (s₂ := ⟨[(4, one (cb false))], []⟩) (ob := True ∧ (True ∧ (q1) = false) ∧ True ∧ True ∧ True ∧ True ∧ True ∧ True) (by kernel_rfl) hN (by kernel_rfl) ⟨trivial, ⟨trivial, c21⟩, trivial, trivial, trivial, trivial, trivial, trivial⟩ (by decide) (by decide) ?_
        refine thenC ?_
        refine goRet (by kernel_rfl) ?_
        refine thenRet ?_
        obtain rfl := top_some h
        exact retOk (by kernel_rfl)
    · skip
      refine goReg (N := 151) (hints := [(1, .bool false)]) (l := [5, 6, 7, 8, 11, 59]) (m := [7, 8, 11]) (s₂ := ⟨[(5, one (cb q1)), (6, one (ci .i64 ((Int.tmod ((IntKind.wrap .i64 (x1))) 5)))), (7, one (.ptr 7 0)), (8, one (.ptr 8 0)), (11, one (.ptr 11 0)), (59, one (cb false))], [(7, 24, [ci .i64 (q2.c0), ci .i64 (q2.c1), ci .i64 (q2.c2), ci .i64 (q2.c3), ci .i64 (q2.c4), ci .i64 (q2.c5), ci .i64 (q2.c6), ci .i64 (q2.c7)]), (8, 24, [ci .i64 (q3.c0), ci .i64 (q3.c1), ci .i64 (q3.c2), ci .i64 (q3.c3), ci .i64 (q3.c4), ci .i64 (q3.c5), ci .i64 (q3.c6), ci .i64 (q3.c7)]), (11, 24, [ci .i64 (q6.1.c0), ci .i64 (q6.1.c1), ci .i64 (q6.1.c2), ci .i64 (q6.1.c3), ci .i64 (q6.1.c4), ci .i64 (q6.1.c5), ci .i64 (q6.1.c6), ci .i64 (q6.1.c7)])]⟩) (ob := True ∧ (True ∧ ((!q6.2)) = false) ∧ True) (by kernel_rfl) hN (by kernel_rfl) ⟨trivial, ⟨trivial, c20⟩, trivial⟩ (by decide) (by decide) ?_
      refine thenC ?_
      refine goCondF (by kernel_rfl) (by kernel_rfl) ?_
      refine goSkip (by kernel_rfl) ?_
      refine thenC ?_
      refine goSeqK (l := [5, 6, 7, 8, 11, 13]) (m := [7, 8, 11]) (K := fun s => ∃ (q1 : Bool) (x1 : Int) (q2 : T_api_Vec) (q3 : T_api_Vec) (q6 : T_api_Vec × Bool) (j23 : Bool), glazierlaw04_VecBetween_j2 q1 x1 q2 q3 q6 j23 = some r ∧ s = ⟨[(5, one (cb q1)), (6, one (ci .i64 ((Int.tmod ((IntKind.wrap .i64 (x1))) 5)))), (7, one (.ptr 7 0)), (8, one (.ptr 8 0)), (11, one (.ptr 11 0)), (13, one (cb j23))], [(7, 24, [ci .i64 (q2.c0), ci .i64 (q2.c1), ci .i64 (q2.c2), ci .i64 (q2.c3), ci .i64 (q2.c4), ci .i64 (q2.c5), ci .i64 (q2.c6), ci .i64 (q2.c7)]), (8, 24, [ci .i64 (q3.c0), ci .i64 (q3.c1), ci .i64 (q3.c2), ci .i64 (q3.c3), ci .i64 (q3.c4), ci .i64 (q3.c5), ci .i64 (q3.c6), ci .i64 (q3.c7)]), (11, 24, [ci .i64 (q6.1.c0), ci .i64 (q6.1.c1), ci .i64 (q6.1.c2), ci .i64 (q6.1.c3), ci .i64 (q6.1.c4), ci .i64 (q6.1.c5), ci .i64 (q6.1.c6), ci .i64 (q6.1.c7)])]⟩) (by kernel_rfl) (by decide) (by decide) ?_ ?_
      · skip
        rintro _ ⟨q1, x1, q2, q3, q6, j23, h, rfl⟩
        unfold glazierlaw04_VecBetween_j2 at h
        refine goSeqK (l := [5, 6, 7, 8, 11, 13, 14]) (m := [7, 8, 11]) (K := fun s => ∃ (q1 : Bool) (x1 : Int) (j23 : Bool) (q2 : T_api_Vec) (q3 : T_api_Vec) (q6 : T_api_Vec × Bool) (j25 : Bool), glazierlaw04_VecBetween_j3 q1 x1 j23 q2 q3 q6 j25 = some r ∧ s = ⟨[(5, one (cb q1)), (6, one (ci .i64 ((Int.tmod ((IntKind.wrap .i64 (x1))) 5)))), (7, one (.ptr 7 0)), (8, one (.ptr 8 0)), (11, one (.ptr 11 0)), (13, one (cb j23)), (14, one (cb j25))], [(7, 24, [ci .i64 (q2.c0), ci .i64 (q2.c1), ci .i64 (q2.c2), ci .i64 (q2.c3), ci .i64 (q2.c4), ci .i64 (q2.c5), ci .i64 (q2.c6), ci .i64 (q2.c7)]), (8, 24, [ci .i64 (q3.c0), ci .i64 (q3.c1), ci .i64 (q3.c2), ci .i64 (q3.c3), ci .i64 (q3.c4), ci .i64 (q3.c5), ci .i64 (q3.c6), ci .i64 (q3.c7)]), (11, 24, [ci .i64 (q6.1.c0), ci .i64 (q6.1.c1), ci .i64 (q6.1.c2), ci .i64 (q6.1.c3), ci .i64 (q6.1.c4), ci .i64 (q6.1.c5), ci .i64 (q6.1.c6), ci .i64 (q6.1.c7)])]⟩) (by kernel_rfl) (by decide) (by decide) ?_ ?_
        · skip
          rintro _ ⟨q1, x1, j23, q2, q3, q6, j25, h, rfl⟩
          unfold glazierlaw04_VecBetween_j3 at h
          refine goSeqK (l := [5, 6, 11, 13, 14, 15]) (m := [11]) (K := fun s => ∃ (q1 : Bool) (x1 : Int) (j23 : Bool) (j25 : Bool) (q6 : T_api_Vec × Bool) (j27 : Bool), glazierlaw04_VecBetween_j4 q1 x1 j23 j25 q6 j27 = some r ∧ s = ⟨[(5, one (cb q1)), (6, one (ci .i64 ((Int.tmod ((IntKind.wrap .i64 (x1))) 5)))), (11, one (.ptr 11 0)), (13, one (cb j23)), (14, one (cb j25)), (15, one (cb j27))], [(11, 24, [ci .i64 (q6.1.c0), ci .i64 (q6.1.c1), ci .i64 (q6.1.c2), ci .i64 (q6.1.c3), ci .i64 (q6.1.c4), ci .i64 (q6.1.c5), ci .i64 (q6.1.c6), ci .i64 (q6.1.c7)])]⟩) (by kernel_rfl) (by decide) (by decide) ?_ ?_
          · skip
            rintro _ ⟨q1, x1, j23, j25, q6, j27, h, rfl⟩
            unfold glazierlaw04_VecBetween_j4 at h
            refine goSeq (by kernel_rfl) ?_
            obtain ⟨q28, hq28, h⟩ := bind_some h
            refine goReg (N := 151) (hints := [(2, .call (one (ci .i64 (q28))))]) (l := [5, 11, 13, 14, 15, 16]) (m := [11]) (s₂ := ⟨[(5, one (cb q1)), (11, one (.ptr 11 0)), (13, one (cb j23)), (14, one (cb j25)), (15, one (cb j27)), (16, one (ci .i64 (q28)))], [(11, 24, [ci .i64 (q6.1.c0), ci .i64 (q6.1.c1), ci .i64 (q6.1.c2), ci .i64 (q6.1.c3), ci .i64 (q6.1.c4), ci .i64 (q6.1.c5), ci .i64 (q6.1.c6), ci .i64 (q6.1.c7)])]⟩) (ob := True ∧ True ∧ PureC Try.prog 11 [one (ci .i64 ((Int.tmod ((IntKind.wrap .i64 (x1))) 5))), agg [ci .i64 (q6.1.c0), ci .i64 (q6.1.c1), ci .i64 (q6.1.c2), ci .i64 (q6.1.c3), ci .i64 (q6.1.c4), ci .i64 (q6.1.c5), ci .i64 (q6.1.c6), ci .i64 (q6.1.c7)]] (one (ci .i64 (q28))) ∧ True ∧ True) (by kernel_rfl) hN (by kernel_rfl) ⟨trivial, trivial, (vec_Dist_ok ((Int.tmod ((IntKind.wrap .i64 (x1))) 5)) q6.1 _ hq28), trivial, trivial⟩ (by decide) (by decide) ?_
            refine thenC ?_
            refine goSeq (by kernel_rfl) ?_
            rcases fork_some h with ⟨c29, h⟩ | ⟨c29, h⟩
            · skip
              rcases fork_some h with ⟨c30, h⟩ | ⟨c30, h⟩
              · skip
                rcases fork_some h with ⟨c31, h⟩ | ⟨c31, h⟩
                · skip
                  rcases fork_some h with ⟨c32, h⟩ | ⟨c32, h⟩
                  · skip
                    obtain ⟨q33, hq33, h⟩ := bind_some h
                    rcases fork_some h with ⟨c34, h⟩ | ⟨c34, h⟩
                    · skip
                      rcases fork_some h with ⟨c35, h⟩ | ⟨c35, h⟩
                      · skip
                        refine goReg (N := 151) (hints := [(1, .bool true), (4, .bool true), (7, .bool true), (10, .bool true), (12, .call (one (cb q33))), (14, .bool true), (18, .bool true)]) (l := [4]) (m := []) (s₂ := ⟨[(4, one (cb (decide ((q28) ≤ 5))))], []⟩) (ob := True ∧ (True ∧ (q1) = true) ∧ True ∧ True ∧ (True ∧ (j23) = true) ∧ True ∧ True ∧ (True ∧ (j25) = true) ∧ True ∧ True ∧ (True ∧ (j27) = true) ∧ True ∧ PureC Try.prog 15 [agg [ci .i64 (q6.1.c0), ci .i64 (q6.1.c1), ci .i64 (q6.1.c2), ci .i64 (q6.1.c3), ci .i64 (q6.1.c4), ci .i64 (q6.1.c5), ci .i64 (q6.1.c6), ci .i64 (q6.1.c7)]] (one (cb q33)) ∧ True ∧ (True ∧ (q33) = true) ∧ True ∧ True ∧ True ∧ (True ∧ (decide ((q28) ≥ (-5))) = true) ∧ True ∧ True ∧ True ∧ True ∧ True) (by kernel_rfl) hN (by kernel_rfl) ⟨trivial, ⟨trivial, c29⟩, trivial, trivial, ⟨trivial, c30⟩, trivial, trivial, ⟨trivial, c31⟩, trivial, trivial, ⟨trivial, c32⟩, trivial, (vec_Right_ok q6.1 _ hq33), trivial, ⟨trivial, c34⟩, trivial, trivial, trivial, ⟨trivial, c35⟩, trivial, trivial, trivial, trivial, trivial⟩ (by decide) (by decide) ?_
                        refine thenC ?_
                        refine goRet (by kernel_rfl) ?_
                        obtain rfl := top_some h
                        exact retOk (by kernel_rfl)
                      · skip
                        refine goReg (N := 151) (hints := [(1, .bool true), (4, .bool true), (7, .bool true), (10, .bool true), (12, .call (one (cb q33))), (14, .bool true), (18, .bool false)]) (l := [4]) (m := []) (s₂ := ⟨[(4, one (cb false))], []⟩) (ob := True ∧ (True ∧ (q1) = true) ∧ True ∧ True ∧ (True ∧ (j23) = true) ∧ True ∧ True ∧ (True ∧ (j25) = true) ∧ True ∧ True ∧ (True ∧ (j27) = true) ∧ True ∧ PureC Try.prog 15 [agg [ci .i64 (q6.1.c0), ci .i64 (q6.1.c1), ci .i64 (q6.1.c2), ci .i64 (q6.1.c3), ci .i64 (q6.1.c4), ci .i64 (q6.1.c5), ci .i64 (q6.1.c6), ci .i64 (q6.1.c7)]] (one (cb q33)) ∧ True ∧ (True ∧ (q33) = true) ∧ True ∧ True ∧ True ∧ (True ∧ (decide ((q28) ≥ (-5))) = false) ∧ True ∧ True ∧ True ∧ True ∧ True) (by kernel_rfl) hN (by kernel_rfl) ⟨trivial, ⟨trivial, c29⟩, trivial, trivial, ⟨trivial, c30⟩, trivial, trivial, ⟨trivial, c31⟩, trivial, trivial, ⟨trivial, c32⟩, trivial, (vec_Right_ok q6.1 _ hq33), trivial, ⟨trivial, c34⟩, trivial, trivial, trivial, ⟨trivial, c35⟩, trivial, trivial, trivial, trivial, trivial⟩ (by decide) (by decide) ?_
                        refine thenC ?_
                        refine goRet (by kernel_rfl) ?_
                        obtain rfl := top_some h
                        exact retOk (by kernel_rfl)
                    · skip
                      refine goReg (N := 151) (hints := [(1, .bool true), (4, .bool true), (7, .bool true), (10, .bool true), (12, .call (one (cb q33))), (14, .bool false)]) (l := [4]) (m := []) (s₂ := ⟨[(4, one (cb false))], []⟩) (ob := True ∧ (True ∧ (q1) = true) ∧ True ∧ True ∧ (True ∧ (j23) = true) ∧ True ∧ True ∧ (True ∧ (j25) = true) ∧ True ∧ True ∧ (True ∧ (j27) = true) ∧ True ∧ PureC Try.prog 15 [agg [ci .i64 (q6.1.c0), ci .i64 (q6.1.c1), ci .i64 (q6.1.c2), ci .i64 (q6.1.c3), ci .i64 (q6.1.c4), ci .i64 (q6.1.c5), ci .i64 (q6.1.c6), ci .i64 (q6.1.c7)]] (one (cb q33)) ∧ True ∧ (True ∧ (q33) = false) ∧ True ∧ True ∧ True ∧ True ∧ True ∧ True ∧ True ∧ True ∧ True) (by kernel_rfl) hN (by kernel_rfl) ⟨trivial, ⟨trivial, c29⟩, trivial, trivial, ⟨trivial, c30⟩, trivial, trivial, ⟨trivial, c31⟩, trivial, trivial, ⟨trivial, c32⟩, trivial, (vec_Right_ok q6.1 _ hq33), trivial, ⟨trivial, c34⟩, trivial, trivial, trivial, trivial, trivial, trivial, trivial, trivial, trivial⟩ (by decide) (by decide) ?_
                      refine thenC ?_
                      refine goRet (by kernel_rfl) ?_
                      obtain rfl := top_some h
                      exact retOk (by kernel_rfl)
                  · skip
                    refine goReg (N := 151) (hints := [(1, .bool true), (4, .bool true), (7, .bool true), (10, .bool false)]) (l := [4]) (m := []) (s₂ := ⟨[(4, one (cb false))], []⟩) (ob := True ∧ (True ∧ (q1) = true) ∧ True ∧ True ∧ (True ∧ (j23) = true) ∧ True ∧ True ∧ (True ∧ (j25) = true) ∧ True ∧ True ∧ (True ∧ (j27) = false) ∧ True ∧ True ∧ True ∧ True ∧ True ∧ True ∧ True ∧ True ∧ True ∧ True ∧ True ∧ True ∧ True) (by kernel_rfl) hN (by kernel_rfl) ⟨trivial, ⟨trivial, c29⟩, trivial, trivial, ⟨trivial, c30⟩, trivial, trivial, ⟨trivial, c31⟩, trivial, trivial, ⟨trivial, c32⟩, trivial, trivial, trivial, trivial, trivial, trivial, trivial, trivial, trivial, trivial, trivial, trivial, trivial⟩ (by decide) (by decide) ?_
                    refine thenC ?_
                    refine goRet (by kernel_rfl) ?_
                    obtain rfl := top_some h
                    exact retOk (by kernel_rfl)
                · skip
                  refine goReg (N := 151) (hints := [(1, .bool true), (4, .bool true), (7, .bool false)]) (l := [4]) (m := []) (s₂ := ⟨[(4, one (cb false))], []⟩) (ob := True ∧ (True ∧ (q1) = true) ∧ True ∧ True ∧ (True ∧ (j23) = true) ∧ True ∧ True ∧ (True ∧ (j25) = false) ∧ True ∧ True ∧ True ∧ True ∧ True ∧ True ∧ True ∧ True ∧ True ∧ True ∧ True ∧ True ∧ True ∧ True ∧ True ∧ True) (by kernel_rfl) hN (by kernel_rfl) ⟨trivial, ⟨trivial, c29⟩, trivial, trivial, ⟨trivial, c30⟩, trivial, trivial, ⟨trivial, c31⟩, trivial, trivial, trivial, trivial, trivial, trivial, trivial, trivial, trivial, trivial, trivial, trivial, trivial, trivial, trivial, trivial⟩ (by decide) (by decide) ?_
                  refine thenC ?_
                  refine goRet (by kernel_rfl) ?_
                  obtain rfl := top_some h
                  exact retOk (by kernel_rfl)
              · skip
                refine goReg (N := 151) (hints := [(1, .bool true), (4, .bool false)]) (l := [4]) (m := []) (s₂ := ⟨[(4, one (cb false))], []⟩) (ob := True ∧ (True ∧ (q1) = true) ∧ True ∧ True ∧ (True ∧ (j23) = false) ∧ True ∧ True ∧ True ∧ True ∧ True ∧ True ∧ True ∧ True ∧ True ∧ True ∧ True ∧ True ∧ True ∧ True ∧ True ∧ True ∧ True ∧ True ∧ True) (by kernel_rfl) hN (by kernel_rfl) ⟨trivial, ⟨trivial, c29⟩, trivial, trivial, ⟨trivial, c30⟩, trivial, trivial, trivial, trivial, trivial, trivial, trivial, trivial, trivial, trivial, trivial, trivial, trivial, trivial, trivial, trivial, trivial, trivial, trivial⟩ (by decide) (by decide) ?_
                refine thenC ?_
                refine goRet (by kernel_rfl) ?_
                obtain rfl := top_some h
                exact retOk (by kernel_rfl)
            · skip
              refine goReg (N := 151) (hints := [(1, .bool false)]) (l := [4]) (m := []) (s₂ := ⟨[(4, one (cb false))], []⟩) (ob := True ∧ (True ∧ (q1) = false) ∧ True ∧ True ∧ True ∧ True ∧ True ∧ True ∧ True ∧ True ∧ True ∧ True ∧ True ∧ True ∧ True ∧ True ∧ True ∧ True ∧ True ∧ True ∧ True ∧ True ∧ True ∧ True) (by kernel_rfl) hN (by kernel_rfl) ⟨trivial, ⟨trivial, c29⟩, trivial, trivial, trivial, trivial, trivial, trivial, trivial, trivial, trivial, trivial, trivial, trivial, trivial, trivial, trivial, trivial, trivial, trivial, trivial, trivial, trivial, trivial⟩ (by decide) (by decide) ?_
              refine thenC ?_
              refine goRet (by kernel_rfl) ?_
              obtain rfl := top_some h
              exact retOk (by kernel_rfl)
          · skip
            rcases fork_some h with ⟨c36, h⟩ | ⟨c36, h⟩
            · skip
              refine goReg (N := 151) (hints := [(11, .bool true)]) (l := [5, 6, 11, 13, 14, 15]) (m := [11]) (s₂ := ⟨[(5, one (cb q1)), (6, one (ci .i64 ((Int.tmod ((IntKind.wrap .i64 (x1))) 5)))), (11, one (.ptr 11 0)), (13, one (cb j23)), (14, one (cb j25)), (15, one (cb (decide ((q6.1.c6) ≤ ((if (q3.c6) > (q2.c6) then (q3.c6) else (q2.c6)))))))], [(11, 24, [ci .i64 (q6.1.c0), ci .i64 (q6.1.c1), ci .i64 (q6.1.c2), ci .i64 (q6.1.c3), ci .i64 (q6.1.c4), ci .i64 (q6.1.c5), ci .i64 (q6.1.c6), ci .i64 (q6.1.c7)])]⟩) (ob := True ∧ (0 ≤ (2 : Int) ∧ (2 : Int) < 4) ∧ True ∧ True ∧ (0 ≤ (2 : Int) ∧ (2 : Int) < 4) ∧ True ∧ True ∧ (0 ≤ (2 : Int) ∧ (2 : Int) < 4) ∧ True ∧ True ∧ True ∧ (True ∧ (decide ((q6.1.c6) ≥ ((if (q3.c6) < (q2.c6) then (q3.c6) else (q2.c6))))) = true) ∧ True ∧ (0 ≤ (2 : Int) ∧ (2 : Int) < 4) ∧ True ∧ True ∧ (0 ≤ (2 : Int) ∧ (2 : Int) < 4) ∧ True ∧ True ∧ (0 ≤ (2 : Int) ∧ (2 : Int) < 4) ∧ True ∧ True ∧ True ∧ True ∧ True ∧ True) (by kernel_rfl) hN (by kernel_rfl) ⟨trivial, (by decide), trivial, trivial, (by decide), trivial, trivial, (by decide), trivial, trivial, trivial, ⟨trivial, c36⟩, trivial, (by decide), trivial, trivial, (by decide), trivial, trivial, (by decide), trivial, trivial, trivial, trivial, trivial, trivial⟩ (by decide) (by decide) ?_
              exact Fit.mk [] ⟨q1, x1, j23, j25, q6, (decide ((q6.1.c6) ≤ ((if (q3.c6) > (q2.c6) then (q3.c6) else (q2.c6))))), h, rfl⟩ (by kernel_rfl)
            · skip
              refine goReg (N := 151) (hints := [(11, .bool false)]) (l := [5, 6, 11, 13, 14, 15]) (m := [11]) (s₂ := ⟨[(5, one (cb q1)), (6, one (ci .i64 ((Int.tmod ((IntKind.wrap .i64 (x1))) 5)))), (11, one (.ptr 11 0)), (13, one (cb j23)), (14, one (cb j25)), (15, one (cb false))], [(11, 24, [ci .i64 (q6.1.c0), ci .i64 (q6.1.c1), ci .i64 (q6.1.c2), ci .i64 (q6.1.c3), ci .i64 (q6.1.c4), ci .i64 (q6.1.c5), ci .i64 (q6.1.c6), ci .i64 (q6.1.c7)])]⟩) (ob := True ∧ (0 ≤ (2 : Int) ∧ (2 : Int) < 4) ∧ True ∧ True ∧ (0 ≤ (2 : Int) ∧ (2 : Int) < 4) ∧ True ∧ True ∧ (0 ≤ (2 : Int) ∧ (2 : Int) < 4) ∧ True ∧ True ∧ True ∧ (True ∧ (decide ((q6.1.c6) ≥ ((if (q3.c6) < (q2.c6) then (q3.c6) else (q2.c6))))) = false) ∧ True ∧ True ∧ True ∧ True ∧ True ∧ True ∧ True ∧ True ∧ True ∧ True ∧ True ∧ True ∧ True ∧ True) (by kernel_rfl) hN (by kernel_rfl) ⟨trivial, (by decide), trivial, trivial, (by decide), trivial, trivial, (by decide), trivial, trivial, trivial, ⟨trivial, c36⟩, trivial, trivial, trivial, trivial, trivial, trivial, trivial, trivial, trivial, trivial, trivial, trivial, trivial, trivial⟩ (by decide) (by decide) ?_
              exact Fit.mk [] ⟨q1, x1, j23, j25, q6, false, h, rfl⟩ (by kernel_rfl)
        · skip
          rcases fork_some h with ⟨c37, h⟩ | ⟨c37, h⟩
          · skip
            refine goReg (N := 151) (hints := [(8, .bool true)]) (l := [5, 6, 7, 8, 11, 13, 14]) (m := [7, 8, 11]) (s₂ := ⟨[(5, one (cb q1)), (6, one (ci .i64 ((Int.tmod ((IntKind.wrap .i64 (x1))) 5)))), (7, one (.ptr 7 0)), (8, one (.ptr 8 0)), (11, one (.ptr 11 0)), (13, one (cb j23)), (14, one (cb (decide ((q6.1.c3) ≤ ((if (q3.c3) > (q2.c3) then (q3.c3) else (q2.c3)))))))], [(7, 24, [ci .i64 (q2.c0), ci .i64 (q2.c1), ci .i64 (q2.c2), ci .i64 (q2.c3), ci .i64 (q2.c4), ci .i64 (q2.c5), ci .i64 (q2.c6), ci .i64 (q2.c7)]), (8, 24, [ci .i64 (q3.c0), ci .i64 (q3.c1), ci .i64 (q3.c2), ci .i64 (q3.c3), ci .i64 (q3.c4), ci .i64 (q3.c5), ci .i64 (q3.c6), ci .i64 (q3.c7)]), (11, 24, [ci .i64 (q6.1.c0), ci .i64 (q6.1.c1), ci .i64 (q6.1.c2), ci .i64 (q6.1.c3), ci .i64 (q6.1.c4), ci .i64 (q6.1.c5), ci .i64 (q6.1.c6), ci .i64 (q6.1.c7)])]⟩) (ob := True ∧ True ∧ True ∧ True ∧ True ∧ True ∧ True ∧ True ∧ (True ∧ (decide ((q6.1.c3) ≥ ((if (q3.c3) < (q2.c3) then (q3.c3) else (q2.c3))))) = true) ∧ True ∧ True ∧ True ∧ True ∧ True ∧ True ∧ True ∧ True ∧ True ∧ True ∧ True) (by kernel_rfl) hN (by kernel_rfl) ⟨trivial, trivial, trivial, trivial, trivial, trivial, trivial, trivial, ⟨trivial, c37⟩, trivial, trivial, trivial, trivial, trivial, trivial, trivial, trivial, trivial, trivial, trivial⟩ (by decide) (by decide) ?_
            exact Fit.mk [] ⟨q1, x1, j23, q2, q3, q6, (decide ((q6.1.c3) ≤ ((if (q3.c3) > (q2.c3) then (q3.c3) else (q2.c3))))), h, rfl⟩ (by kernel_rfl)
          · skip
            refine goReg (N := 151) (hints := [(8, .bool false)]) (l := [5, 6, 7, 8, 11, 13, 14]) (m := [7, 8, 11]) (s₂ := ⟨[(5, one (cb q1)), (6, one (ci .i64 ((Int.tmod ((IntKind.wrap .i64 (x1))) 5)))), (7, one (.ptr 7 0)), (8, one (.ptr 8 0)), (11, one (.ptr 11 0)), (13, one (cb j23)), (14, one (cb false))], [(7, 24, [ci .i64 (q2.c0), ci .i64 (q2.c1), ci .i64 (q2.c2), ci .i64 (q2.c3), ci .i64 (q2.c4), ci .i64 (q2.c5), ci .i64 (q2.c6), ci .i64 (q2.c7)]), (8, 24, [ci .i64 (q3.c0), ci .i64 (q3.c1), ci .i64 (q3.c2), ci .i64 (q3.c3), ci .i64 (q3.c4), ci .i64 (q3.c5), ci .i64 (q3.c6), ci .i64 (q3.c7)]), (11, 24, [ci .i64 (q6.1.c0), ci .i64 (q6.1.c1), ci .i64 (q6.1.c2), ci .i64 (q6.1.c3), ci .i64 (q6.1.c4), ci .i64 (q6.1.c5), ci .i64 (q6.1.c6), ci .i64 (q6.1.c7)])]⟩) (ob := True ∧ True ∧ True ∧ True ∧ True ∧ True ∧ True ∧ True ∧ (True ∧ (decide ((q6.1.c3) ≥ ((if (q3.c3) < (q2.c3) then (q3.c3) else (q2.c3))))) = false) ∧ True ∧ True ∧ True ∧ True ∧ True ∧ True ∧ True ∧ True ∧ True ∧ True ∧ True) (by kernel_rfl) hN (by kernel_rfl) ⟨trivial, trivial, trivial, trivial, trivial, trivial, trivial, trivial, ⟨trivial, c37⟩, trivial, trivial, trivial, trivial, trivial, trivial, trivial, trivial, trivial, trivial, trivial⟩ (by decide) (by decide) ?_
            exact Fit.mk [] ⟨q1, x1, j23, q2, q3, q6, false, h, rfl⟩ (by kernel_rfl)
      · skip
        rcases fork_some h with ⟨c38, h⟩ | ⟨c38, h⟩
        · skip
          refine goReg (N := 151) (hints := [(8, .bool true)]) (l := [5, 6, 7, 8, 11, 13]) (m := [7, 8, 11]) (s₂ := ⟨[(5, one (cb q1)), (6, one (ci .i64 ((Int.tmod ((IntKind.wrap .i64 (x1))) 5)))), (7, one (.ptr 7 0)), (8, one (.ptr 8 0)), (11, one (.ptr 11 0)), (13, one (cb (decide ((q6.1.c0) ≤ ((if (q3.c0) > (q2.c0) then (q3.c0) else (q2.c0)))))))], [(7, 24, [ci .i64 (q2.c0), ci .i64 (q2.c1), ci .i64 (q2.c2), ci .i64 (q2.c3), ci .i64 (q2.c4), ci .i64 (q2.c5), ci .i64 (q2.c6), ci .i64 (q2.c7)]), (8, 24, [ci .i64 (q3.c0), ci .i64 (q3.c1), ci .i64 (q3.c2), ci .i64 (q3.c3), ci .i64 (q3.c4), ci .i64 (q3.c5), ci .i64 (q3.c6), ci .i64 (q3.c7)]), (11, 24, [ci .i64 (q6.1.c0), ci .i64 (q6.1.c1), ci .i64 (q6.1.c2), ci .i64 (q6.1.c3), ci .i64 (q6.1.c4), ci .i64 (q6.1.c5), ci .i64 (q6.1.c6), ci .i64 (q6.1.c7)])]⟩) (ob := True ∧ True ∧ True ∧ True ∧ True ∧ True ∧ True ∧ True ∧ (True ∧ (decide ((q6.1.c0) ≥ ((if (q3.c0) < (q2.c0) then (q3.c0) else (q2.c0))))) = true) ∧ True ∧ True ∧ True ∧ True ∧ True ∧ True ∧ True ∧ True ∧ True ∧ True ∧ True) (by kernel_rfl) hN (by kernel_rfl) ⟨trivial, trivial, trivial, trivial, trivial, trivial, trivial, trivial, ⟨trivial, c38⟩, trivial, trivial, trivial, trivial, trivial, trivial, trivial, trivial, trivial, trivial, trivial⟩ (by decide) (by decide) ?_
          exact Fit.mk [] ⟨q1, x1, q2, q3, q6, (decide ((q6.1.c0) ≤ ((if (q3.c0) > (q2.c0) then (q3.c0) else (q2.c0))))), h, rfl⟩ (by kernel_rfl)
        · skip
          refine goReg (N := 151) (hints := [(8, .bool false)]) (l := [5, 6, 7, 8, 11, 13]) (m := [7, 8, 11]) (s₂ := ⟨[(5, one (cb q1)), (6, one (ci .i64 ((Int.tmod ((IntKind.wrap .i64 (x1))) 5)))), (7, one (.ptr 7 0)), (8, one (.ptr 8 0)), (11, one (.ptr 11 0)), (13, one (cb false))], [(7, 24, [ci .i64 (q2.c0), ci .i64 (q2.c1), ci .i64 (q2.c2), ci .i64 (q2.c3), ci .i64 (q2.c4), ci .i64 (q2.c5), ci .i64 (q2.c6), ci .i64 (q2.c7)]), (8, 24, [ci .i64 (q3.c0), ci .i64 (q3.c1), ci .i64 (q3.c2), ci .i64 (q3.c3), ci .i64 (q3.c4), ci .i64 (q3.c5), ci .i64 (q3.c6), ci .i64 (q3.c7)]), (11, 24, [ci .i64 (q6.1.c0), ci .i64 (q6.1.c1), ci .i64 (q6.1.c2), ci .i64 (q6.1.c3), ci .i64 (q6.1.c4), ci .i64 (q6.1.c5), ci .i64 (q6.1.c6), ci .i64 (q6.1.c7)])]⟩) (ob := True ∧ True ∧ True ∧ True ∧ True ∧ True ∧ True ∧ True ∧ (True ∧ (decide ((q6.1.c0) ≥ ((if (q3.c0) < (q2.c0) then (q3.c0) else (q2.c0))))) = false) ∧ True ∧ True ∧ True ∧ True ∧ True ∧ True ∧ True ∧ True ∧ True ∧ True ∧ True) (by kernel_rfl) hN (by kernel_rfl) ⟨trivial, trivial, trivial, trivial, trivial, trivial, trivial, trivial, ⟨trivial, c38⟩, trivial, trivial, trivial, trivial, trivial, trivial, trivial, trivial, trivial, trivial, trivial⟩ (by decide) (by decide) ?_
          exact Fit.mk [] ⟨q1, x1, q2, q3, q6, false, h, rfl⟩ (by kernel_rfl)
  · skip
    refine goSeq (by kernel_rfl) ?_
    rcases fork_some h with ⟨c39, h⟩ | ⟨c39, h⟩
    · skip
      rcases fork_some h with ⟨c40, h⟩ | ⟨c40, h⟩
      · skip
        refine goReg (N := 151) (hints := [(3, .bool true), (8, .bool true)]) (l := [5, 6, 7, 8, 11, 12, 57]) (m := [7, 8, 11]) (s₂ := ⟨[(5, one (cb q1)), (6, one (ci .i64 ((Int.tmod ((IntKind.wrap .i64 (x1))) 5)))), (7, one (.ptr 7 0)), (8, one (.ptr 8 0)), (11, one (.ptr 11 0)), (12, one (cb q6.2)), (57, one (cb true))], [(7, 24, [ci .i64 (q2.c0), ci .i64 (q2.c1), ci .i64 (q2.c2), ci .i64 (q2.c3), ci .i64 (q2.c4), ci .i64 (q2.c5), ci .i64 (q2.c6), ci .i64 (q2.c7)]), (8, 24, [ci .i64 (q3.c0), ci .i64 (q3.c1), ci .i64 (q3.c2), ci .i64 (q3.c3), ci .i64 (q3.c4), ci .i64 (q3.c5), ci .i64 (q3.c6), ci .i64 (q3.c7)]), (11, 24, [ci .i64 (q6.1.c0), ci .i64 (q6.1.c1), ci .i64 (q6.1.c2), ci .i64 (q6.1.c3), ci .i64 (q6.1.c4), ci .i64 (q6.1.c5), ci .i64 (q6.1.c6), ci .i64 (q6.1.c7)])]⟩) (ob := True ∧ True ∧ True ∧ (True ∧ (decide ((q4) ≥ 0)) = true) ∧ True ∧ True ∧ True ∧ True ∧ (True ∧ ((!(q6.2 == decide ((q5) < 0)))) = true) ∧ True ∧ True ∧ True ∧ True ∧ True ∧ True ∧ True ∧ True ∧ True ∧ True) (by kernel_rfl) hN (by kernel_rfl) ⟨trivial, trivial, trivial, ⟨trivial, c39⟩, trivial, trivial, trivial, trivial, ⟨trivial, c40⟩, trivial, trivial, trivial, trivial, trivial, trivial, trivial, trivial, trivial, trivial⟩ (by decide) (by decide) ?_
        refine thenC ?_
        refine goCondT (by kernel_rfl) (by kernel_rfl) ?_
        refine goSeq (by kernel_rfl) ?_
        refine goReg (N := 151) (hints := []) (l := [4]) (m := []) (s₂ := ⟨[(4, one (cb false))], []⟩) (ob := True ∧ True) (by kernel_rfl) hN (by kernel_rfl) ⟨trivial, trivial⟩ (by decide) (by decide) ?_
        refine thenC ?_
        refine goRet (by kernel_rfl) ?_
        refine thenRet ?_
        obtain rfl := top_some h
        exact retOk (by kernel_rfl)
      · skip
        obtain ⟨q41, hq41, h⟩ := bind_some h
        rcases fork_some h with ⟨c42, h⟩ | ⟨c42, h⟩
        · skip
          refine goReg (N := 151) (hints := [(3, .bool true), (8, .bool false), (10, .call (one (cb q41))), (13, .bool true)]) (l := [5, 6, 7, 8, 11, 12, 57]) (m := [7, 8, 11]) (s₂ := ⟨[(5, one (cb q1)), (6, one (ci .i64 ((Int.tmod ((IntKind.wrap .i64 (x1))) 5)))), (7, one (.ptr 7 0)), (8, one (.ptr 8 0)), (11, one (.ptr 11 0)), (12, one (cb q6.2)), (57, one (cb true))], [(7, 24, [ci .i64 (q2.c0), ci .i64 (q2.c1), ci .i64 (q2.c2), ci .i64 (q2.c3), ci .i64 (q2.c4), ci .i64 (q2.c5), ci .i64 (q2.c6), ci .i64 (q2.c7)]), (8, 24, [ci .i64 (q3.c0), ci .i64 (q3.c1), ci .i64 (q3.c2), ci .i64 (q3.c3), ci .i64 (q3.c4), ci .i64 (q3.c5), ci .i64 (q3.c6), ci .i64 (q3.c7)]), (11, 24, [ci .i64 (q6.1.c0), ci .i64 (q6.1.c1), ci .i64 (q6.1.c2), ci .i64 (q6.1.c3), ci .i64 (q6.1.c4), ci .i64 (q6.1.c5), ci .i64 (q6.1.c6), ci .i64 (q6.1.c7)])]⟩) (ob := True ∧ True ∧ True ∧ (True ∧ (decide ((q4) ≥ 0)) = true) ∧ True ∧ True ∧ True ∧ True ∧ (True ∧ ((!(q6.2 == decide ((q5) < 0)))) = false) ∧ True ∧ PureC Try.prog 15 [agg [ci .i64 (q2.c0), ci .i64 (q2.c1), ci .i64 (q2.c2), ci .i64 (q2.c3), ci .i64 (q2.c4), ci .i64 (q2.c5), ci .i64 (q2.c6), ci .i64 (q2.c7)]] (one (cb q41)) ∧ True ∧ True ∧ (True ∧ ((!q41)) = true) ∧ True ∧ True ∧ True ∧ True ∧ True) (by kernel_rfl) hN (by kernel_rfl) ⟨trivial, trivial, trivial, ⟨trivial, c39⟩, trivial, trivial, trivial, trivial, ⟨trivial, c40⟩, trivial, (vec_Right_ok q2 _ hq41), trivial, trivial, ⟨trivial, c42⟩, trivial, trivial, trivial, trivial, trivial⟩ (by decide) (by decide) ?_
          refine thenC ?_
          refine goCondT (by kernel_rfl) (by kernel_rfl) ?_
          refine goSeq (by kernel_rfl) ?_
          refine goReg (N := 151) (hints := []) (l := [4]) (m := []) (s₂ := ⟨[(4, one (cb false))], []⟩) (ob := True ∧ True) (by kernel_rfl) hN (by kernel_rfl) ⟨trivial, trivial⟩ (by decide) (by decide) ?_
          refine thenC ?_
          refine goRet (by kernel_rfl) ?_
          refine thenRet ?_
          obtain rfl := top_some h
          exact retOk (by kernel_rfl)
        · skip
          obtain ⟨q43, hq43, h⟩ := bind_some h
          rcases fork_some h with ⟨c44, h⟩ | ⟨c44, h⟩
          · skip
            refine goReg (N := 151) (hints := [(3, .bool true), (8, .bool false), (10, .call (one (cb q41))), (13, .bool false), (15, .call (one (cb q43))), (17, .bool true)]) (l := [5, 6, 7, 8, 11, 12, 57]) (m := [7, 8, 11]) (s₂ := ⟨[(5, one (cb q1)), (6, one (ci .i64 ((Int.tmod ((IntKind.wrap .i64 (x1))) 5)))), (7, one (.ptr 7 0)), (8, one (.ptr 8 0)), (11, one (.ptr 11 0)), (12, one (cb q6.2)), (57, one (cb true))], [(7, 24, [ci .i64 (q2.c0), ci .i64 (q2.c1), ci .i64 (q2.c2), ci .i64 (q2.c3), ci .i64 (q2.c4), ci .i64 (q2.c5), ci .i64 (q2.c6), ci .i64 (q2.c7)]), (8, 24, [ci .i64 (q3.c0), ci .i64 (q3.c1), ci .i64 (q3.c2), ci .i64 (q3.c3), ci .i64 (q3.c4), ci .i64 (q3.c5), ci .i64 (q3.c6), ci .i64 (q3.c7)]), (11, 24, [ci .i64 (q6.1.c0), ci .i64 (q6.1.c1), ci .i64 (q6.1.c2), ci .i64 (q6.1.c3), ci .i64 (q6.1.c4), ci .i64 (q6.1.c5), ci .i64 (q6.1.c6), ci .i64 (q6.1.c7)])]⟩) (ob := True ∧ True ∧ True ∧ (True ∧ (decide ((q4) ≥ 0)) = true) ∧ True ∧ True ∧ True ∧ True ∧ (True ∧ ((!(q6.2 == decide ((q5) < 0)))) = false) ∧ True ∧ PureC Try.prog 15 [agg [ci .i64 (q2.c0), ci .i64 (q2.c1), ci .i64 (q2.c2), ci .i64 (q2.c3), ci .i64 (q2.c4), ci .i64 (q2.c5), ci .i64 (q2.c6), ci .i64 (q2.c7)]] (one (cb q41)) ∧ True ∧ True ∧ (True ∧ ((!q41)) = false) ∧ True ∧ PureC Try.prog 15 [agg [ci .i64 (q3.c0), ci .i64 (q3.c1), ci .i64 (q3.c2), ci .i64 (q3.c3), ci .i64 (q3.c4), ci .i64 (q3.c5), ci .i64 (q3.c6), ci .i64 (q3.c7)]] (one (cb q43)) ∧ True ∧ (True ∧ ((!q43)) = true) ∧ True) (by kernel_rfl) hN (by kernel_rfl) ⟨trivial, trivial, trivial, ⟨trivial, c39⟩, trivial, trivial, trivial, trivial, ⟨trivial, c40⟩, trivial, (vec_Right_ok q2 _ hq41), trivial, trivial, ⟨trivial, c42⟩, trivial, (vec_Right_ok q3 _ hq43), trivial, ⟨trivial, c44⟩, trivial⟩ (by decide) (by decide) ?_
            refine thenC ?_
            refine goCondT (by kernel_rfl) (by kernel_rfl) ?_
            refine goSeq (by kernel_rfl) ?_
            refine goReg (N := 151) (hints := []) (l := [4]) (m := []) (s₂ := ⟨[(4, one (cb false))], []⟩) (ob := True ∧ True) (by kernel_rfl) hN (by kernel_rfl) ⟨trivial, trivial⟩ (by decide) (by decide) ?_
            refine thenC ?_
            refine goRet (by kernel_rfl) ?_
            refine thenRet ?_
            obtain rfl := top_some h
            exact retOk (by kernel_rfl)
          · skip
            refine goReg (N := 151) (hints := [(3, .bool true), (8, .bool false), (10, .call (one (cb q41))), (13, .bool false), (15, .call (one (cb q43))), (17, .bool false)]) (l := [5, 6, 7, 8, 11, 12, 57]) (m := [7, 8, 11]) (s₂ := ⟨[(5, one (cb q1)), (6, one (ci .i64 ((Int.tmod ((IntKind.wrap .i64 (x1))) 5)))), (7, one (.ptr 7 0)), (8, one (.ptr 8 0)), (11, one (.ptr 11 0)), (12, one (cb q6.2)), (57, one (cb false))], [(7, 24, [ci .i64 (q2.c0), ci .i64 (q2.c1), ci .i64 (q2.c2), ci .i64 (q2.c3), ci .i64 (q2.c4), ci .i64 (q2.c5), ci .i64 (q2.c6), ci .i64 (q2.c7)]), (8, 24, [ci .i64 (q3.c0), ci .i64 (q3.c1), ci .i64 (q3.c2), ci .i64 (q3.c3), ci .i64 (q3.c4), ci .i64 (q3.c5), ci .i64 (q3.c6), ci .i64 (q3.c7)]), (11, 24, [ci .i64 (q6.1.c0), ci .i64 (q6.1.c1), ci .i64 (q6.1.c2), ci .i64 (q6.1.c3), ci .i64 (q6.1.c4), ci .i64 (q6.1.c5), ci .i64 (q6.1.c6), ci .i64 (q6.1.c7)])]⟩) (ob := True ∧ True ∧ True ∧ (True ∧ (decide ((q4) ≥ 0)) = true) ∧ True ∧ True ∧ True ∧ True ∧ (True ∧ ((!(q6.2 == decide ((q5) < 0)))) = false) ∧ True ∧ PureC Try.prog 15 [agg [ci .i64 (q2.c0), ci .i64 (q2.c1), ci .i64 (q2.c2), ci .i64 (q2.c3), ci .i64 (q2.c4), ci .i64 (q2.c5), ci .i64 (q2.c6), ci .i64 (q2.c7)]] (one (cb q41)) ∧ True ∧ True ∧ (True ∧ ((!q41)) = false) ∧ True ∧ PureC Try.prog 15 [agg [ci .i64 (q3.c0), ci .i64 (q3.c1), ci .i64 (q3.c2), ci .i64 (q3.c3), ci .i64 (q3.c4), ci .i64 (q3.c5), ci .i64 (q3.c6), ci .i64 (q3.c7)]] (one (cb q43)) ∧ True ∧ (True ∧ ((!q43)) = false) ∧ True) (by kernel_rfl) hN (by kernel_rfl) ⟨trivial, trivial, trivial, ⟨trivial, c39⟩, trivial, trivial, trivial, trivial, ⟨trivial, c40⟩, trivial, (vec_Right_ok q2 _ hq41), trivial, trivial, ⟨trivial, c42⟩, trivial, (vec_Right_ok q3 _ hq43), trivial, ⟨trivial, c44⟩, trivial⟩ (by decide) (by decide) ?_
            refine thenC ?_
            refine goCondF (by kernel_rfl) (by kernel_rfl) ?_
            refine goSkip (by kernel_rfl) ?_
            exact Fit.mk [] ⟨q1, x1, q6, q2, q3, h, rfl⟩ (by kernel_rfl)
    · skip
      rcases fork_some h with ⟨c45, h⟩ | ⟨c45, h⟩
      · skip
        refine goReg (N := 151) (hints := [(3, .bool false), (8, .bool true)]) (l := [5, 6, 7, 8, 11, 12, 57]) (m := [7, 8, 11]) (s₂ := ⟨[(5, one (cb q1)), (6, one (ci .i64 ((Int.tmod ((IntKind.wrap .i64 (x1))) 5)))), (7, one (.ptr 7 0)), (8, one (.ptr 8 0)), (11, one (.ptr 11 0)), (12, one (cb q6.2)), (57, one (cb true))], [(7, 24, [ci .i64 (q2.c0), ci .i64 (q2.c1), ci .i64 (q2.c2), ci .i64 (q2.c3), ci .i64 (q2.c4), ci .i64 (q2.c5), ci .i64 (q2.c6), ci .i64 (q2.c7)]), (8, 24, [ci .i64 (q3.c0), ci .i64 (q3.c1), ci .i64 (q3.c2), ci .i64 (q3.c3), ci .i64 (q3.c4), ci .i64 (q3.c5), ci .i64 (q3.c6), ci .i64 (q3.c7)]), (11, 24, [ci .i64 (q6.1.c0), ci .i64 (q6.1.c1), ci .i64 (q6.1.c2), ci .i64 (q6.1.c3), ci .i64 (q6.1.c4), ci .i64 (q6.1.c5), ci .i64 (q6.1.c6), ci .i64 (q6.1.c7)])]⟩) (ob := True ∧ True ∧ True ∧ (True ∧ (decide ((q4) ≥ 0)) = false) ∧ True ∧ True ∧ True ∧ True ∧ (True ∧ ((!(q6.2 == false))) = true) ∧ True ∧ True ∧ True ∧ True ∧ True ∧ True ∧ True ∧ True ∧ True ∧ True) (by kernel_rfl) hN (by kernel_rfl) ⟨trivial, trivial, trivial, ⟨trivial, c39⟩, trivial, trivial, trivial, trivial, ⟨trivial, c45⟩, trivial, trivial, trivial, trivial, trivial, trivial, trivial, trivial, trivial, trivial⟩ (by decide) (by decide) ?_
        refine thenC ?_
        refine goCondT (by kernel_rfl) (by kernel_rfl) ?_
        refine goSeq (by kernel_rfl) ?_
        refine goReg (N := 151) (hints := []) (l := [4]) (m := []) (s₂ := ⟨[(4, one (cb false))], []⟩) (ob := True ∧ True) (by kernel_rfl) hN (by kernel_rfl) ⟨trivial, trivial⟩ (by decide) (by decide) ?_
        refine thenC ?_
        refine goRet (by kernel_rfl) ?_
        refine thenRet ?_
        obtain rfl := top_some h
        exact retOk (by kernel_rfl)
      · skip
        obtain ⟨q46, hq46, h⟩ := bind_some h
        rcases fork_some h with ⟨c47, h⟩ | ⟨c47, h⟩
        · skip
          refine goReg (N := 151) (hints := [(3, .bool false), (8, .bool false), (10, .call (one (cb q46))), (13, .bool true)]) (l := [5, 6, 7, 8, 11, 12, 57]) (m := [7, 8, 11]) (s₂ := ⟨[(5, one (cb q1)), (6, one (ci .i64 ((Int.tmod ((IntKind.wrap .i64 (x1))) 5)))), (7, one (.ptr 7 0)), (8, one (.ptr 8 0)), (11, one (.ptr 11 0)), (12, one (cb q6.2)), (57, one (cb true))], [(7, 24, [ci .i64 (q2.c0), ci .i64 (q2.c1), ci .i64 (q2.c2), ci .i64 (q2.c3), ci .i64 (q2.c4), ci .i64 (q2.c5), ci .i64 (q2.c6), ci .i64 (q2.c7)]), (8, 24, [ci .i64 (q3.c0), ci .i64 (q3.c1), ci .i64 (q3.c2), ci .i64 (q3.c3), ci .i64 (q3.c4), ci .i64 (q3.c5), ci .i64 (q3.c6), ci .i64 (q3.c7)]), (11, 24, [ci .i64 (q6.1.c0), ci .i64 (q6.1.c1), ci .i64 (q6.1.c2), ci .i64 (q6.1.c3), ci .i64 (q6.1.c4), ci .i64 (q6.1.c5), ci .i64 (q6.1.c6), ci .i64 (q6.1.c7)])]⟩) (ob := True ∧ True ∧ True ∧ (True ∧ (decide ((q4) ≥ 0)) = false) ∧ True ∧ True ∧ True ∧ True ∧ (True ∧ ((!(q6.2 == false))) = false) ∧ True ∧ PureC Try.prog 15 [agg [ci .i64 (q2.c0), ci .i64 (q2.c1), ci .i64 (q2.c2), ci .i64 (q2.c3), ci .i64 (q2.c4), ci .i64 (q2.c5), ci .i64 (q2.c6), ci .i64 (q2.c7)]] (one (cb q46)) ∧ True ∧ True ∧ (True ∧ ((!q46)) = true) ∧ True ∧ True ∧ True ∧ True ∧ True) (by kernel_rfl) hN (by kernel_rfl) ⟨trivial, trivial, trivial, ⟨trivial, c39⟩, trivial, trivial, trivial, trivial, ⟨trivial, c45⟩, trivial, (vec_Right_ok q2 _ hq46), trivial, trivial, ⟨trivial, c47⟩, trivial, trivial, trivial, trivial, trivial⟩ (by decide) (by decide) ?_
          refine thenC ?_
          refine goCondT (by kernel_rfl) (by kernel_rfl) ?_
          refine goSeq (by kernel_rfl) ?_
          refine goReg (N := 151) (hints := []) (l := [4]) (m := []) (s₂ := ⟨[(4, one (cb false))], []⟩) (ob := True ∧ True) (by kernel_rfl) hN (by kernel_rfl) ⟨trivial, trivial⟩ (by decide) (by decide) ?_
          refine thenC ?_
          refine goRet (by kernel_rfl) ?_
          refine thenRet ?_
          obtain rfl := top_some h
          exact retOk (by kernel_rfl)
        · skip
          obtain ⟨q48, hq48, h⟩ := bind_some h
          rcases fork_some h with ⟨c49, h⟩ | ⟨c49, h⟩
          · skip
            refine goReg (N := 151) (hints := [(3, .bool false), (8, .bool false), (10, .call (one (cb q46))), (13, .bool false), (15, .call (one (cb q48))), (17, .bool true)]) (l := [5, 6, 7, 8, 11, 12, 57]) (m := [7, 8, 11]) (s₂ := ⟨[(5, one (cb q1)), (6, one (ci .i64 ((Int.tmod ((IntKind.wrap .i64 (x1))) 5)))), (7, one (.ptr 7 0)), (8, one (.ptr 8 0)), (11, one (.ptr 11 0)), (12, one (cb q6.2)), (57, one (cb true))], [(7, 24, [ci .i64 (q2.c0), ci .i64 (q2.c1), ci .i64 (q2.c2), ci .i64 (q2.c3), ci .i64 (q2.c4), ci .i64 (q2.c5), ci .i64 (q2.c6), ci .i64 (q2.c7)]), (8, 24, [ci .i64 (q3.c0), ci .i64 (q3.c1), ci .i64 (q3.c2), ci .i64 (q3.c3), ci .i64 (q3.c4), ci .i64 (q3.c5), ci .i64 (q3.c6), ci .i64 (q3.c7)]), (11, 24, [ci .i64 (q6.1.c0), ci .i64 (q6.1.c1), ci .i64 (q6.1.c2), ci .i64 (q6.1.c3), ci .i64 (q6.1.c4), ci .i64 (q6.1.c5), ci .i64 (q6.1.c6), ci .i64 (q6.1.c7)])]⟩) (ob := True ∧ True ∧ True ∧ (True ∧ (decide ((q4) ≥ 0)) = false) ∧ True ∧ True ∧ True ∧ True ∧ (True ∧ ((!(q6.2 == false))) = false) ∧ True ∧ PureC Try.prog 15 [agg [ci .i64 (q2.c0), ci .i64 (q2.c1), ci .i64 (q2.c2), ci .i64 (q2.c3), ci .i64 (q2.c4), ci .i64 (q2.c5), ci .i64 (q2.c6), ci .i64 (q2.c7)]] (one (cb q46)) ∧ True ∧ True ∧ (True ∧ ((!q46)) = false) ∧ True ∧ PureC Try.prog 15 [agg [ci .i64 (q3.c0), ci .i64 (q3.c1), ci .i64 (q3.c2), ci .i64 (q3.c3), ci .i64 (q3.c4), ci .i64 (q3.c5), ci .i64 (q3.c6), ci .i64 (q3.c7)]] (one (cb q48)) ∧ True ∧ (True ∧ ((!q48)) = true) ∧ True) (by kernel_rfl) hN (by kernel_rfl) ⟨trivial, trivial, trivial, ⟨trivial, c39⟩, trivial, trivial, trivial, trivial, ⟨trivial, c45⟩, trivial, (vec_Right_ok q2 _ hq46), trivial, trivial, ⟨trivial, c47⟩, trivial, (vec_Right_ok q3 _ hq48), trivial, ⟨trivial, c49⟩, trivial⟩ (by decide) (by decide) ?_
            refine thenC ?_
            refine goCondT (by kernel_rfl) (by kernel_rfl) ?_
            refine goSeq (by kernel_rfl) ?_
            refine goReg (N := 151) (hints := []) (l := [4]) (m := []) (s₂ := ⟨[(4, one (cb false))], []⟩) (ob := True ∧ True) (by kernel_rfl) hN (by kernel_rfl) ⟨trivial, trivial⟩ (by decide) (by decide) ?_
            refine thenC ?_
            refine goRet (by kernel_rfl) ?_
            refine thenRet ?_
            obtain rfl := top_some h
            exact retOk (by kernel_rfl)
          · skip
            refine goReg (N := 151) (hints := [(3, .bool false), (8, .bool false), (10, .call (one (cb q46))), (13, .bool false), (15, .call (one (cb q48))), (17, .bool false)]) (l := [5, 6, 7, 8, 11, 12, 57]) (m := [7, 8, 11]) (s₂ := ⟨[(5, one (cb q1)), (6, one (ci .i64 ((Int.tmod ((IntKind.wrap .i64 (x1))) 5)))), (7, one (.ptr 7 0)), (8, one (.ptr 8 0)), (11, one (.ptr 11 0)), (12, one (cb q6.2)), (57, one (cb false))], [(7, 24, [ci .i64 (q2.c0), ci .i64 (q2.c1), ci .i64 (q2.c2), ci .i64 (q2.c3), ci .i64 (q2.c4), ci .i64 (q2.c5), ci .i64 (q2.c6), ci .i64 (q2.c7)]), (8, 24, [ci .i64 (q3.c0), ci .i64 (q3.c1), ci .i64 (q3.c2), ci .i64 (q3.c3), ci .i64 (q3.c4), ci .i64 (q3.c5), ci .i64 (q3.c6), ci .i64 (q3.c7)]), (11, 24, [ci .i64 (q6.1.c0), ci .i64 (q6.1.c1), ci .i64 (q6.1.c2), ci .i64 (q6.1.c3), ci .i64 (q6.1.c4), ci .i64 (q6.1.c5), ci .i64 (q6.1.c6), ci .i64 (q6.1.c7)])]⟩) (ob := True ∧ True ∧ True ∧ (True ∧ (decide ((q4) ≥ 0)) = false) ∧ True ∧ True ∧ True ∧ True ∧ (True ∧ ((!(q6.2 == false))) = false) ∧ True ∧ PureC Try.prog 15 [agg [ci .i64 (q2.c0), ci .i64 (q2.c1), ci .i64 (q2.c2), ci .i64 (q2.c3), ci .i64 (q2.c4), ci .i64 (q2.c5), ci .i64 (q2.c6), ci .i64 (q2.c7)]] (one (cb q46)) ∧ True ∧ True ∧ (True ∧ ((!q46)) = false) ∧ True ∧ PureC Try.prog 15 [agg [ci .i64 (q3.c0), ci .i64 (q3.c1), ci .i64 (q3.c2), ci .i64 (q3.c3), ci .i64 (q3.c4), ci .i64 (q3.c5), ci .i64 (q3.c6), ci .i64 (q3.c7)]] (one (cb q48)) ∧ True ∧ (True ∧ ((!q48)) = false) ∧ True) (by kernel_rfl) hN (by kernel_rfl) ⟨trivial, trivial, trivial, ⟨trivial, c39⟩, trivial, trivial, trivial, trivial, ⟨trivial, c45⟩, trivial, (vec_Right_ok q2 _ hq46), trivial, trivial, ⟨trivial, c47⟩, trivial, (vec_Right_ok q3 _ hq48), trivial, ⟨trivial, c49⟩, trivial⟩ (by decide) (by decide) ?_
            refine thenC ?_
            refine goCondF (by kernel_rfl) (by kernel_rfl) ?_
            refine goSkip (by kernel_rfl) ?_
            exact Fit.mk [] ⟨q1, x1, q6, q2, q3, h, rfl⟩ (by kernel_rfl)

theorem glazierref04_Small_ok (x0 : T_api_Vec) (r : T_api_Vec) (h : glazierref04_Small x0 = some r) : PureC Try.prog 13 [agg [ci .i64 (x0.c0), ci .i64 (x0.c1), ci .i64 (x0.c2), ci .i64 (x0.c3), ci .i64 (x0.c4), ci .i64 (x0.c5), ci .i64 (x0.c6), ci .i64 (x0.c7)]] (agg [ci .i64 (r.c0), ci .i64 (r.c1), ci .i64 (r.c2), ci .i64 (r.c3), ci .i64 (r.c4), ci .i64 (r.c5), ci .i64 (r.c6), ci .i64 (r.c7)]) := by
  refine fnOf (fn := Try.f13) (n := 31) (rs := [ResultVar.cell 2 24]) (s := ⟨[(0, agg [ci .i64 (x0.c0), ci .i64 (x0.c1), ci .i64 (x0.c2), ci .i64 (x0.c3), ci .i64 (x0.c4), ci .i64 (x0.c5), ci .i64 (x0.c6), ci .i64 (x0.c7)])], []⟩) (by kernel_rfl) (by kernel_rfl) (by kernel_rfl) (by kernel_rfl) (by kernel_rfl) (by kernel_rfl) (by kernel_rfl) (by kernel_rfl) (fun E hN => ?_)
  unfold glazierref04_Small at h
  refine goSeq (by kernel_rfl) ?_
  refine goReg (N := 31) (hints := []) (l := [1, 2]) (m := [1, 2]) (s₂ := ⟨[(1, one (.ptr 1 0)), (2, one (.ptr 2 0))], [(1, 24, [ci .i64 (x0.c0), ci .i64 (x0.c1), ci .i64 (x0.c2), ci .i64 (x0.c3), ci .i64 (x0.c4), ci .i64 (x0.c5), ci .i64 (x0.c6), ci .i64 (x0.c7)]), (2, 24, [ci .i64 0, ci .i64 0, ci .i64 0, ci .i64 0, ci .i64 0, ci .i64 0, ci .i64 0, ci .i64 0])]⟩) (ob := True ∧ True ∧ True) (by kernel_rfl) hN (by kernel_rfl) ⟨trivial, trivial, trivial⟩ (by decide) (by decide) ?_
  refine thenC ?_
  refine goSeq (by kernel_rfl) ?_
  refine goReg (N := 31) (hints := []) (l := [1, 2, 3]) (m := [1, 2, 3]) (s₂ := ⟨[(1, one (.ptr 1 0)), (2, one (.ptr 2 0)), (3, one (.ptr 3 0))], [(1, 24, [ci .i64 (x0.c0), ci .i64 (x0.c1), ci .i64 (x0.c2), ci .i64 (x0.c3), ci .i64 (x0.c4), ci .i64 (x0.c5), ci .i64 (x0.c6), ci .i64 (x0.c7)]), (2, 24, [ci .i64 0, ci .i64 0, ci .i64 0, ci .i64 0, ci .i64 0, ci .i64 0, ci .i64 0, ci .i64 0]), (3, 24, [ci .i64 ((Int.tmod (x0.c0) 1048577)), ci .i64 ((Int.tmod (x0.c1) 1048577)), ci .i64 ((Int.tmod (x0.c2) 1048577)), ci .i64 ((Int.tmod (x0.c3) 1048577)), ci .i64 0, ci .i64 0, ci .i64 0, ci .i64 0])]⟩) (ob := True ∧ True ∧ ((1048577 : Int) ≠ 0) ∧ True ∧ True ∧ ((1048577 : Int) ≠ 0) ∧ True ∧ True ∧ ((1048577 : Int) ≠ 0) ∧ True ∧ True ∧ ((1048577 : Int) ≠ 0) ∧ True ∧ True ∧ True ∧ True) (by kernel_rfl) hN (by kernel_rfl) ⟨trivial, trivial, (by decide), trivial, trivial, (by decide), trivial, trivial, (by decide), trivial, trivial, (by decide), trivial, trivial, trivial, trivial⟩ (by decide) (by decide) ?_
  refine thenC ?_
  refine goSeq (by kernel_rfl) ?_
  refine goSeq (by kernel_rfl) ?_
  refine goReg (N := 31) (hints := []) (l := [1, 2, 3, 4]) (m := [1, 2, 3]) (s₂ := ⟨[(1, one (.ptr 1 0)), (2, one (.ptr 2 0)), (3, one (.ptr 3 0)), (4, one (ci .i64 0))], [(1, 24, [ci .i64 (x0.c0), ci .i64 (x0.c1), ci .i64 (x0.c2), ci .i64 (x0.c3), ci .i64 (x0.c4), ci .i64 (x0.c5), ci .i64 (x0.c6), ci .i64 (x0.c7)]), (2, 24, [ci .i64 0, ci .i64 0, ci .i64 0, ci .i64 0, ci .i64 0, ci .i64 0, ci .i64 0, ci .i64 0]), (3, 24, [ci .i64 ((Int.tmod (x0.c0) 1048577)), ci .i64 ((Int.tmod (x0.c1) 1048577)), ci .i64 ((Int.tmod (x0.c2) 1048577)), ci .i64 ((Int.tmod (x0.c3) 1048577)), ci .i64 0, ci .i64 0, ci .i64 0, ci .i64 0])]⟩) (ob := True ∧ True) (by kernel_rfl) hN (by kernel_rfl) ⟨trivial, trivial⟩ (by decide) (by decide) ?_
  refine thenC ?_
  refine goBlock (i := 0) (by kernel_rfl) (by kernel_rfl) ?_
  refine goLoop1 (by kernel_rfl) ?_
  refine roundC ?_
  refine goSeq (by kernel_rfl) ?_
  refine goSeq (by kernel_rfl) ?_
  refine goReg (N := 31) (hints := []) (l := [1, 2, 3, 4, 19]) (m := [1, 2, 3]) (s₂ := ⟨[(1, one (.ptr 1 0)), (2, one (.ptr 2 0)), (3, one (.ptr 3 0)), (4, one (ci .i64 0)), (19, one (cb true))], [(1, 24, [ci .i64 (x0.c0), ci .i64 (x0.c1), ci .i64 (x0.c2), ci .i64 (x0.c3), ci .i64 (x0.c4), ci .i64 (x0.c5), ci .i64 (x0.c6), ci .i64 (x0.c7)]), (2, 24, [ci .i64 0, ci .i64 0, ci .i64 0, ci .i64 0, ci .i64 0, ci .i64 0, ci .i64 0, ci .i64 0]), (3, 24, [ci .i64 ((Int.tmod (x0.c0) 1048577)), ci .i64 ((Int.tmod (x0.c1) 1048577)), ci .i64 ((Int.tmod (x0.c2) 1048577)), ci .i64 ((Int.tmod (x0.c3) 1048577)), ci .i64 0, ci .i64 0, ci .i64 0, ci .i64 0])]⟩) (ob := True ∧ True ∧ True) (by kernel_rfl) hN (by kernel_rfl) ⟨trivial, trivial, trivial⟩ (by decide) (by decide) ?_
  refine thenC ?_
  refine goCondT (by kernel_rfl) (by kernel_rfl) ?_
  refine goSkip (by kernel_rfl) ?_
  refine thenC ?_
  refine goSeq (by kernel_rfl) ?_
  refine goBlock (i := 1) (by kernel_rfl) (by kernel_rfl) ?_
  refine goReg (N := 31) (hints := []) (l := [1, 2, 3, 4]) (m := [1, 2, 3]) (s₂ := ⟨[(1, one (.ptr 1 0)), (2, one (.ptr 2 0)), (3, one (.ptr 3 0)), (4, one (ci .i64 0))], [(1, 24, [ci .i64 (x0.c0), ci .i64 (x0.c1), ci .i64 (x0.c2), ci .i64 (x0.c3), ci .i64 (x0.c4), ci .i64 (x0.c5), ci .i64 (x0.c6), ci .i64 (x0.c7)]), (2, 24, [ci .i64 0, ci .i64 0, ci .i64 0, ci .i64 0, ci .i64 0, ci .i64 0, ci .i64 0, ci .i64 0]), (3, 24, [ci .i64 ((Int.tmod (x0.c0) 1048577)), ci .i64 ((Int.tmod (x0.c1) 1048577)), ci .i64 ((Int.tmod (x0.c2) 1048577)), ci .i64 ((Int.tmod (x0.c3) 1048577)), ci .i64 ((Int.tmod (x0.c4) 1048577)), ci .i64 0, ci .i64 0, ci .i64 0])]⟩) (ob := True ∧ True ∧ True ∧ (0 ≤ (0 : Int) ∧ (0 : Int) < 4) ∧ True ∧ ((1048577 : Int) ≠ 0) ∧ True ∧ (0 ≤ (0 : Int) ∧ (0 : Int) < 4) ∧ True ∧ True) (by kernel_rfl) hN (by kernel_rfl) ⟨trivial, trivial, trivial, (by decide), trivial, (by decide), trivial, (by decide), trivial, trivial⟩ (by decide) (by decide) ?_
  refine blkN ?_
  refine thenC ?_
  refine goReg (N := 31) (hints := []) (l := [1, 2, 3, 4]) (m := [1, 2, 3]) (s₂ := ⟨[(1, one (.ptr 1 0)), (2, one (.ptr 2 0)), (3, one (.ptr 3 0)), (4, one (ci .i64 1))], [(1, 24, [ci .i64 (x0.c0), ci .i64 (x0.c1), ci .i64 (x0.c2), ci .i64 (x0.c3), ci .i64 (x0.c4), ci .i64 (x0.c5), ci .i64 (x0.c6), ci .i64 (x0.c7)]), (2, 24, [ci .i64 0, ci .i64 0, ci .i64 0, ci .i64 0, ci .i64 0, ci .i64 0, ci .i64 0, ci .i64 0]), (3, 24, [ci .i64 ((Int.tmod (x0.c0) 1048577)), ci .i64 ((Int.tmod (x0.c1) 1048577)), ci .i64 ((Int.tmod (x0.c2) 1048577)), ci .i64 ((Int.tmod (x0.c3) 1048577)), ci .i64 ((Int.tmod (x0.c4) 1048577)), ci .i64 0, ci .i64 0, ci .i64 0])]⟩) (ob := True ∧ True ∧ True ∧ True) (by kernel_rfl) hN (by kernel_rfl) ⟨trivial, trivial, trivial, trivial⟩ (by decide) (by decide) ?_
  refine thenN (roundC ?_)
  refine goSeq (by kernel_rfl) ?_
  refine goSeq (by kernel_rfl) ?_
  refine goReg (N := 31) (hints := []) (l := [1, 2, 3, 4, 19]) (m := [1, 2, 3]) (s₂ := ⟨[(1, one (.ptr 1 0)), (2, one (.ptr 2 0)), (3, one (.ptr 3 0)), (4, one (ci .i64 1)), (19, one (cb true))], [(1, 24, [ci .i64 (x0.c0), ci .i64 (x0.c1), ci .i64 (x0.c2), ci .i64 (x0.c3), ci .i64 (x0.c4), ci .i64 (x0.c5), ci .i64 (x0.c6), ci .i64 (x0.c7)]), (2, 24, [ci .i64 0, ci .i64 0, ci .i64 0, ci .i64 0, ci .i64 0, ci .i64 0, ci .i64 0, ci .i64 0]), (3, 24, [ci .i64 ((Int.tmod (x0.c0) 1048577)), ci .i64 ((Int.tmod (x0.c1) 1048577)), ci .i64 ((Int.tmod (x0.c2) 1048577)), ci .i64 ((Int.tmod (x0.c3) 1048577)), ci .i64 ((Int.tmod (x0.c4) 1048577)), ci .i64 0, ci .i64 0, ci .i64 0])]⟩) (ob := True ∧ True ∧ True) (by kernel_rfl) hN (by kernel_rfl) ⟨trivial, trivial, trivial⟩ (by decide) (by decide) ?_
  refine thenC ?_
  refine goCondT (by kernel_rfl) (by kernel_rfl) ?_
  refine goSkip (by kernel_rfl) ?_
  refine thenC ?_
  refine goSeq (by kernel_rfl) ?_
  refine goBlock (i := 1) (by kernel_rfl) (by kernel_rfl) ?_
  refine goReg (N := 31) (hints := []) (l := [1, 2, 3, 4]) (m := [1, 2, 3]) (s₂ := ⟨[(1, one (.ptr 1 0)), (2, one (.ptr 2 0)), (3, one (.ptr 3 0)), (4, one (ci .i64 1))], [(1, 24, [ci .i64 (x0.c0), ci .i64 (x0.c1), ci .i64 (x0.c2), ci .i64 (x0.c3), ci .i64 (x0.c4), ci .i64 (x0.c5), ci .i64 (x0.c6), ci .i64 (x0.c7)]), (2, 24, [ci .i64 0, ci .i64 0, ci .i64 0, ci .i64 0, ci .i64 0, ci .i64 0, ci .i64 0, ci .i64 0]), (3, 24, [ci .i64 ((Int.tmod (x0.c0) 1048577)), ci .i64 ((Int.tmod (x0.c1) 1048577)), ci .i64 ((Int.tmod (x0.c2) 1048577)), ci .i64 ((Int.tmod (x0.c3) 1048577)), ci .i64 ((Int.tmod (x0.c4) 1048577)), ci .i64 ((Int.tmod (x0.c5) 1048577)), ci .i64 0, ci .i64 0])]⟩) (ob := True ∧ True ∧ True ∧ (0 ≤ (1 : Int) ∧ (1 : Int) < 4) ∧ True ∧ ((1048577 : Int) ≠ 0) ∧ True ∧ (0 ≤ (1 : Int) ∧ (1 : Int) < 4) ∧ True ∧ True) (by kernel_rfl) hN (by kernel_rfl) ⟨trivial, trivial, trivial, (by decide), trivial, (by decide), trivial, (by decide), trivial, trivial⟩ (by decide) (by decide) ?_
  refine blkN ?_
  refine thenC ?_
  refine goReg (N := 31) (hints := []) (l := [1, 2, 3, 4]) (m := [1, 2, 3]) (s₂ := ⟨[(1, one (.ptr 1 0)), (2, one (.ptr 2 0)), (3, one (.ptr 3 0)), (4, one (ci .i64 2))], [(1, 24, [ci .i64 (x0.c0), ci .i64 (x0.c1), ci .i64 (x0.c2), ci .i64 (x0.c3), ci .i64 (x0.c4), ci .i64 (x0.c5), ci .i64 (x0.c6), ci .i64 (x0.c7)]), (2, 24, [ci .i64 0, ci .i64 0, ci .i64 0, ci .i64 0, ci .i64 0, ci .i64 0, ci .i64 0, ci .i64 0]), (3, 24, [ci .i64 ((Int.tmod (x0.c0) 1048577)), ci .i64 ((Int.tmod (x0.c1) 1048577)), ci .i64 ((Int.tmod (x0.c2) 1048577)), ci .i64 ((Int.tmod (x0.c3) 1048577)), ci .i64 ((Int.tmod (x0.c4) 1048577)), ci .i64 ((Int.tmod (x0.c5) 1048577)), ci .i64 0, ci .i64 0])]⟩) (ob := True ∧ True ∧ True ∧ True) (by kernel_rfl) hN (by kernel_rfl) ⟨trivial, trivial, trivial, trivial⟩ (by decide) (by decide) ?_
  refine thenN (roundC ?_)
  refine goSeq (by kernel_rfl) ?_
  refine goSeq (by kernel_rfl) ?_
  refine goReg (N := 31) (hints := []) (l := [1, 2, 3, 4, 19]) (m := [1, 2, 3]) (s₂ := ⟨[(1, one (.ptr 1 0)), (2, one (.ptr 2 0)), (3, one (.ptr 3 0)), (4, one (ci .i64 2)), (19, one (cb true))], [(1, 24, [ci .i64 (x0.c0), ci .i64 (x0.c1), ci .i64 (x0.c2), ci .i64 (x0.c3), ci .i64 (x0.c4), ci .i64 (x0.c5), ci .i64 (x0.c6), ci .i64 (x0.c7)]), (2, 24, [ci .i64 0, ci .i64 0, ci .i64 0, ci .i64 0, ci .i64 0, ci .i64 0, ci .i64 0, ci .i64 0]), (3, 24, [ci .i64 ((Int.tmod (x0.c0) 1048577)), ci .i64 ((Int.tmod (x0.c1) 1048577)), ci .i64 ((Int.tmod (x0.c2) 1048577)), ci .i64 ((Int.tmod (x0.c3) 1048577)), ci .i64 ((Int.tmod (x0.c4) 1048577)), ci .i64 ((Int.tmod (x0.c5) 1048577)), ci .i64 0, ci .i64 0])]⟩) (ob := True ∧ True ∧ True) (by kernel_rfl) hN (by kernel_rfl) ⟨trivial, trivial, trivial⟩ (by decide) (by decide) ?_
  refine thenC ?_
  refine goCondT (by kernel_rfl) (by kernel_rfl) ?_
  refine goSkip (by kernel_rfl) ?_
  refine thenC ?_
  refine goSeq (by kernel_rfl) ?_
  refine goBlock (i := 1) (by kernel_rfl) (by kernel_rfl) ?_
  refine goReg (N := 31) (hints := []) (l := [1, 2, 3, 4]) (m := [1, 2, 3]) (s₂ := ⟨[(1, one (.ptr 1 0)), (2, one (.ptr 2 0)), (3, one (.ptr 3 0)), (4, one (ci .i64 2))], [(1, 24, [ci .i64 (x0.c0), ci .i64 (x0.c1), ci .i64 (x0.c2), ci .i64 (x0.c3), ci .i64 (x0.c4), ci .i64 (x0.c5), ci .i64 (x0.c6), ci .i64 (x0.c7)]), (2, 24, [ci .i64 0, ci .i64 0, ci .i64 0, ci .i64 0, ci .i64 0, ci .i64 0, ci .i64 0, ci .i64 0]), (3, 24, [ci .i64 ((Int.tmod (x0.c0) 1048577)), ci .i64 ((Int.tmod (x0.c1) 1048577)), ci .i64 ((Int.tmod (x0.c2) 1048577)), ci .i64 ((Int.tmod (x0.c3) 1048577)), ci .i64 ((Int.tmod (x0.c4) 1048577)), ci .i64 ((Int.tmod (x0.c5) 1048577)), ci .i64 ((Int.tmod (x0.c6) 1048577)), ci .i64 0])]⟩) (ob := True ∧ True ∧ True ∧ (0 ≤ (2 : Int) ∧ (2 : Int) < 4) ∧ True ∧ ((1048577 : Int) ≠ 0) ∧ True ∧ (0 ≤ (2 : Int) ∧ (2 : Int) < 4) ∧ True ∧ True) (by kernel_rfl) hN (by kernel_rfl) ⟨trivial, trivial, trivial, (by decide), trivial, (by decide), trivial, (by decide), trivial, trivial⟩ (by decide) (by decide) ?_
  refine blkN ?_
  refine thenC ?_
  refine goReg (N := 31) (hints := []) (l := [1, 2, 3, 4]) (m := [1, 2, 3]) (s₂ := ⟨[(1, one (.ptr 1 0)), (2, one (.ptr 2 0)), (3, one (.ptr 3 0)), (4, one (ci .i64 3))], [(1, 24, [ci .i64 (x0.c0), ci .i64 (x0.c1), ci .i64 (x0.c2), ci .i64 (x0.c3), ci .i64 (x0.c4), ci .i64 (x0.c5), ci .i64 (x0.c6), ci .i64 (x0.c7)]), (2, 24, [ci .i64 0, ci .i64 0, ci .i64 0, ci .i64 0, ci .i64 0, ci .i64 0, ci .i64 0, ci .i64 0]), (3, 24, [ci .i64 ((Int.tmod (x0.c0) 1048577)), ci .i64 ((Int.tmod (x0.c1) 1048577)), ci .i64 ((Int.tmod (x0.c2) 1048577)), ci .i64 ((Int.tmod (x0.c3) 1048577)), ci .i64 ((Int.tmod (x0.c4) 1048577)), ci .i64 ((Int.tmod (x0.c5) 1048577)), ci .i64 ((Int.tmod (x0.c6) 1048577)), ci .i64 0])]⟩) (ob := True ∧ True ∧ True ∧ True) (by kernel_rfl) hN (by kernel_rfl) ⟨trivial, trivial, trivial, trivial⟩ (by decide) (by decide) ?_
  refine thenN (roundC ?_)
  refine goSeq (by kernel_rfl) ?_
  refine goSeq (by kernel_rfl) ?_
  refine goReg (N := 31) (hints := []) (l := [1, 2, 3, 4, 19]) (m := [1, 2, 3]) (s₂ := ⟨[(1, one (.ptr 1 0)), (2, one (.ptr 2 0)), (3, one (.ptr 3 0)), (4, one (ci .i64 3)), (19, one (cb true))], [(1, 24, [ci .i64 (x0.c0), ci .i64 (x0.c1), ci .i64 (x0.c2), ci .i64 (x0.c3), ci .i64 (x0.c4), ci .i64 (x0.c5), ci .i64 (x0.c6), ci .i64 (x0.c7)]), (2, 24, [ci .i64 0, ci .i64 0, ci .i64 0, ci .i64 0, ci .i64 0, ci .i64 0, ci .i64 0, ci .i64 0]), (3, 24, [ci .i64 ((Int.tmod (x0.c0) 1048577)), ci .i64 ((Int.tmod (x0.c1) 1048577)), ci .i64 ((Int.tmod (x0.c2) 1048577)), ci .i64 ((Int.tmod (x0.c3) 1048577)), ci .i64 ((Int.tmod (x0.c4) 1048577)), ci .i64 ((Int.tmod (x0.c5) 1048577)), ci .i64 ((Int.tmod (x0.c6) 1048577)), ci .i64 0])]⟩) (ob := True ∧ True ∧ True) (by kernel_rfl) hN (by kernel_rfl) ⟨trivial, trivial, trivial⟩ (by decide) (by decide) ?_
  refine thenC ?_
  refine goCondT (by kernel_rfl) (by kernel_rfl) ?_
  refine goSkip (by kernel_rfl) ?_
  refine thenC ?_
  refine goSeq (by kernel_rfl) ?_
  refine goBlock (i := 1) (by kernel_rfl) (by kernel_rfl) ?_
  refine goReg (N := 31) (hints := []) (l := [1, 2, 3, 4]) (m := [1, 2, 3]) (s₂ := ⟨[(1, one (.ptr 1 0)), (2, one (.ptr 2 0)), (3, one (.ptr 3 0)), (4, one (ci .i64 3))], [(1, 24, [ci .i64 (x0.c0), ci .i64 (x0.c1), ci .i64 (x0.c2), ci .i64 (x0.c3), ci .i64 (x0.c4), ci .i64 (x0.c5), ci .i64 (x0.c6), ci .i64 (x0.c7)]), (2, 24, [ci .i64 0, ci .i64 0, ci .i64 0, ci .i64 0, ci .i64 0, ci .i64 0, ci .i64 0, ci .i64 0]), (3, 24, [ci .i64 ((Int.tmod (x0.c0) 1048577)), ci .i64 ((Int.tmod (x0.c1) 1048577)), ci .i64 ((Int.tmod (x0.c2) 1048577)), ci .i64 ((Int.tmod (x0.c3) 1048577)), ci .i64 ((Int.tmod (x0.c4) 1048577)), ci .i64 ((Int.tmod (x0.c5) 1048577)), ci .i64 ((Int.tmod (x0.c6) 1048577)), ci .i64 ((Int.tmod (x0.c7) 1048577))])]⟩) (ob := True ∧ True ∧ True ∧ (0 ≤ (3 : Int) ∧ (3 : Int) < 4) ∧ True ∧ ((1048577 : Int) ≠ 0) ∧ True ∧ (0 ≤ (3 : Int) ∧ (3 : Int) < 4) ∧ True ∧ True) (by kernel_rfl) hN (by kernel_rfl) ⟨trivial, trivial, trivial, (by decide), trivial, (by decide), trivial, (by decide), trivial, trivial⟩ (by decide) (by decide) ?_
  refine blkN ?_
  refine thenC ?_
  refine goReg (N := 31) (hints := []) (l := [1, 2, 3, 4]) (m := [1, 2, 3]) (s₂ := ⟨[(1, one (.ptr 1 0)), (2, one (.ptr 2 0)), (3, one (.ptr 3 0)), (4, one (ci .i64 4))], [(1, 24, [ci .i64 (x0.c0), ci .i64 (x0.c1), ci .i64 (x0.c2), ci .i64 (x0.c3), ci .i64 (x0.c4), ci .i64 (x0.c5), ci .i64 (x0.c6), ci .i64 (x0.c7)]), (2, 24, [ci .i64 0, ci .i64 0, ci .i64 0, ci .i64 0, ci .i64 0, ci .i64 0, ci .i64 0, ci .i64 0]), (3, 24, [ci .i64 ((Int.tmod (x0.c0) 1048577)), ci .i64 ((Int.tmod (x0.c1) 1048577)), ci .i64 ((Int.tmod (x0.c2) 1048577)), ci .i64 ((Int.tmod (x0.c3) 1048577)), ci .i64 ((Int.tmod (x0.c4) 1048577)), ci .i64 ((Int.tmod (x0.c5) 1048577)), ci .i64 ((Int.tmod (x0.c6) 1048577)), ci .i64 ((Int.tmod (x0.c7) 1048577))])]⟩) (ob := True ∧ True ∧ True ∧ True) (by kernel_rfl) hN (by kernel_rfl) ⟨trivial, trivial, trivial, trivial⟩ (by decide) (by decide) ?_
  refine thenN (roundC ?_)
  refine goSeq (by kernel_rfl) ?_
  refine goSeq (by kernel_rfl) ?_
  refine goReg (N := 31) (hints := []) (l := [1, 2, 3, 4, 19]) (m := [1, 2, 3]) (s₂ := ⟨[(1, one (.ptr 1 0)), (2, one (.ptr 2 0)), (3, one (.ptr 3 0)), (4, one (ci .i64 4)), (19, one (cb false))], [(1, 24, [ci .i64 (x0.c0), ci .i64 (x0.c1), ci .i64 (x0.c2), ci .i64 (x0.c3), ci .i64 (x0.c4), ci .i64 (x0.c5), ci .i64 (x0.c6), ci .i64 (x0.c7)]), (2, 24, [ci .i64 0, ci .i64 0, ci .i64 0, ci .i64 0, ci .i64 0, ci .i64 0, ci .i64 0, ci .i64 0]), (3, 24, [ci .i64 ((Int.tmod (x0.c0) 1048577)), ci .i64 ((Int.tmod (x0.c1) 1048577)), ci .i64 ((Int.tmod (x0.c2) 1048577)), ci .i64 ((Int.tmod (x0.c3) 1048577)), ci .i64 ((Int.tmod (x0.c4) 1048577)), ci .i64 ((Int.tmod (x0.c5) 1048577)), ci .i64 ((Int.tmod (x0.c6) 1048577)), ci .i64 ((Int.tmod (x0.c7) 1048577))])]⟩) (ob := True ∧ True ∧ True) (by kernel_rfl) hN (by kernel_rfl) ⟨trivial, trivial, trivial⟩ (by decide) (by decide) ?_
  refine thenC ?_
  refine goCondF (by kernel_rfl) (by kernel_rfl) ?_
  refine goExit (i := 0) (by kernel_rfl) (by kernel_rfl) ?_
  refine thenExit ?_
  refine thenExit ?_
  refine blkHit rfl ?_
  refine thenC ?_
  refine goSeq (by kernel_rfl) ?_
  refine goReg (N := 31) (hints := []) (l := [2]) (m := [2]) (s₂ := ⟨[(2, one (.ptr 2 0))], [(2, 24, [ci .i64 ((Int.tmod (x0.c0) 1048577)), ci .i64 ((Int.tmod (x0.c1) 1048577)), ci .i64 ((Int.tmod (x0.c2) 1048577)), ci .i64 ((Int.tmod (x0.c3) 1048577)), ci .i64 ((Int.tmod (x0.c4) 1048577)), ci .i64 ((Int.tmod (x0.c5) 1048577)), ci .i64 ((Int.tmod (x0.c6) 1048577)), ci .i64 ((Int.tmod (x0.c7) 1048577))])]⟩) (ob := True ∧ True ∧ True) (by kernel_rfl) hN (by kernel_rfl) ⟨trivial, trivial, trivial⟩ (by decide) (by decide) ?_
  refine thenC ?_
  refine goRet (by kernel_rfl) ?_
  obtain rfl := top_some h
  exact retOk (by kernel_rfl)

theorem glazierref04_Dist_ok (x0 : Int) (x1 : T_api_Vec) (r : Int) (h : glazierref04_Dist x0 x1 = some r) : PureC Try.prog 17 [one (ci .i64 (x0)), agg [ci .i64 (x1.c0), ci .i64 (x1.c1), ci .i64 (x1.c2), ci .i64 (x1.c3), ci .i64 (x1.c4), ci .i64 (x1.c5), ci .i64 (x1.c6), ci .i64 (x1.c7)]] (one (ci .i64 (r))) := by
  refine fnOf (fn := Try.f17) (n := 45) (rs := [ResultVar.tmp 4]) (s := ⟨[(0, one (ci .i64 (x0))), (1, agg [ci .i64 (x1.c0), ci .i64 (x1.c1), ci .i64 (x1.c2), ci .i64 (x1.c3), ci .i64 (x1.c4), ci .i64 (x1.c5), ci .i64 (x1.c6), ci .i64 (x1.c7)])], []⟩) (by kernel_rfl) (by kernel_rfl) (by kernel_rfl) (by kernel_rfl) (by kernel_rfl) (by kernel_rfl) (by kernel_rfl) (by kernel_rfl) (fun E hN => ?_)
  unfold glazierref04_Dist at h
  refine goSeq (by kernel_rfl) ?_
  refine goReg (N := 45) (hints := []) (l := [0, 3]) (m := [3]) (s₂ := ⟨[(0, one (ci .i64 (x0))), (3, one (.ptr 3 0))], [(3, 24, [ci .i64 (x1.c0), ci .i64 (x1.c1), ci .i64 (x1.c2), ci .i64 (x1.c3), ci .i64 (x1.c4), ci .i64 (x1.c5), ci .i64 (x1.c6), ci .i64 (x1.c7)])]⟩) (ob := True ∧ True ∧ True) (by kernel_rfl) hN (by kernel_rfl) ⟨trivial, trivial, trivial⟩ (by decide) (by decide) ?_
  refine thenC ?_
  refine goSeq (by kernel_rfl) ?_
  refine goSeq (by kernel_rfl) ?_
  refine goReg (N := 45) (hints := []) (l := [3, 5]) (m := [3]) (s₂ := ⟨[(3, one (.ptr 3 0)), (5, one (ci .i64 (x0)))], [(3, 24, [ci .i64 (x1.c0), ci .i64 (x1.c1), ci .i64 (x1.c2), ci .i64 (x1.c3), ci .i64 (x1.c4), ci .i64 (x1.c5), ci .i64 (x1.c6), ci .i64 (x1.c7)])]⟩) (ob := True ∧ True) (by kernel_rfl) hN (by kernel_rfl) ⟨trivial, trivial⟩ (by decide) (by decide) ?_
  refine thenC ?_
  refine goBlock (i := 0) (by kernel_rfl) (by kernel_rfl) ?_
  refine goSeq (by kernel_rfl) ?_
  rcases fork_some h with ⟨c10, h⟩ | ⟨c10, h⟩
  · skip
    refine goReg (N := 45) (hints := [(1, .bool true)]) (l := [3, 5, 6]) (m := [3]) (s₂ := ⟨[(3, one (.ptr 3 0)), (5, one (ci .i64 (x0))), (6, one (cb true))], [(3, 24, [ci .i64 (x1.c0), ci .i64 (x1.c1), ci .i64 (x1.c2), ci .i64 (x1.c3), ci .i64 (x1.c4), ci .i64 (x1.c5), ci .i64 (x1.c6), ci .i64 (x1.c7)])]⟩) (ob := True ∧ (True ∧ (((x0) == 0)) = true) ∧ True) (by kernel_rfl) hN (by kernel_rfl) ⟨trivial, ⟨trivial, c10⟩, trivial⟩ (by decide) (by decide) ?_
    refine thenC ?_
    refine goCondT (by kernel_rfl) (by kernel_rfl) ?_
    refine goSeq (by kernel_rfl) ?_
    refine goReg (N := 45) (hints := []) (l := [4]) (m := []) (s₂ := ⟨[(4, one (ci .i64 ((IntKind.wrap .i64 ((x1.c2) + (x1.c3))))))], []⟩) (ob := True ∧ True ∧ True ∧ True ∧ True ∧ True ∧ True) (by kernel_rfl) hN (by kernel_rfl) ⟨trivial, trivial, trivial, trivial, trivial, trivial, trivial⟩ (by decide) (by decide) ?_
    refine thenC ?_
    refine goRet (by kernel_rfl) ?_
    refine blkRet ?_
    refine thenRet ?_
    obtain rfl := top_some h
    exact retOk (by kernel_rfl)
  · skip
    refine goReg (N := 45) (hints := [(1, .bool false)]) (l := [3, 5, 6]) (m := [3]) (s₂ := ⟨[(3, one (.ptr 3 0)), (5, one (ci .i64 (x0))), (6, one (cb false))], [(3, 24, [ci .i64 (x1.c0), ci .i64 (x1.c1), ci .i64 (x1.c2), ci .i64 (x1.c3), ci .i64 (x1.c4), ci .i64 (x1.c5), ci .i64 (x1.c6), ci .i64 (x1.c7)])]⟩) (ob := True ∧ (True ∧ (((x0) == 0)) = false) ∧ True) (by kernel_rfl) hN (by kernel_rfl) ⟨trivial, ⟨trivial, c10⟩, trivial⟩ (by decide) (by decide) ?_
    refine thenC ?_
    refine goCondF (by kernel_rfl) (by kernel_rfl) ?_
    refine goSeq (by kernel_rfl) ?_
    rcases fork_some h with ⟨c11, h⟩ | ⟨c11, h⟩
    · skip
      refine goReg (N := 45) (hints := [(1, .bool true)]) (l := [3, 5, 13]) (m := [3]) (s₂ := ⟨[(3, one (.ptr 3 0)), (5, one (ci .i64 (x0))), (13, one (cb true))], [(3, 24, [ci .i64 (x1.c0), ci .i64 (x1.c1), ci .i64 (x1.c2), ci .i64 (x1.c3), ci .i64 (x1.c4), ci .i64 (x1.c5), ci .i64 (x1.c6), ci .i64 (x1.c7)])]⟩) (ob := True ∧ (True ∧ (((x0) == 1)) = true) ∧ True) (by kernel_rfl) hN (by kernel_rfl) ⟨trivial, ⟨trivial, c11⟩, trivial⟩ (by decide) (by decide) ?_
      refine thenC ?_
      refine goCondT (by kernel_rfl) (by kernel_rfl) ?_
      refine goSeq (by kernel_rfl) ?_
      obtain ⟨v12, ev12, h⟩ := bnd_some h
      refine goReg (N := 45) (hints := [(5, .val (one (ci .i64 v12)))]) (l := [4]) (m := []) (s₂ := ⟨[(4, one (ci .i64 (v12)))], []⟩) (ob := True ∧ True ∧ True ∧ True ∧ True ∧ (True ∧ one (ci .i64 ((IntKind.wrap .i64 (((IntKind.wrap .i64 (4 * (x1.c3)))) + (x1.c0))))) = one (ci .i64 v12)) ∧ True ∧ True) (by kernel_rfl) hN (by kernel_rfl) ⟨trivial, trivial, trivial, trivial, trivial, ⟨trivial, congrArg (fun x => one (ci .i64 x)) ev12⟩, trivial, trivial⟩ (by decide) (by decide) ?_
      refine thenC ?_
      refine goRet (by kernel_rfl) ?_
      refine blkRet ?_
      refine thenRet ?_
      obtain rfl := top_some h
      exact retOk (by kernel_rfl)
    · skip
      refine goReg (N := 45) (hints := [(1, .bool false)]) (l := [3, 5, 13]) (m := [3]) (s₂ := ⟨[(3, one (.ptr 3 0)), (5, one (ci .i64 (x0))), (13, one (cb false))], [(3, 24, [ci .i64 (x1.c0), ci .i64 (x1.c1), ci .i64 (x1.c2), ci .i64 (x1.c3), ci .i64 (x1.c4), ci .i64 (x1.c5), ci .i64 (x1.c6), ci .i64 (x1.c7)])]⟩) (ob := True ∧ (True ∧ (((x0) == 1)) = false) ∧ True) (by kernel_rfl) hN (by kernel_rfl) ⟨trivial, ⟨trivial, c11⟩, trivial⟩ (by decide) (by decide) ?_
      refine thenC ?_
      refine goCondF (by kernel_rfl) (by kernel_rfl) ?_
      refine goSeq (by kernel_rfl) ?_
      rcases fork_some h with ⟨c13, h⟩ | ⟨c13, h⟩
      · skip
        refine goReg (N := 45) (hints := [(1, .bool true)]) (l := [3, 5, 21]) (m := [3]) (s₂ := ⟨[(3, one (.ptr 3 0)), (5, one (ci .i64 (x0))), (21, one (cb true))], [(3, 24, [ci .i64 (x1.c0), ci .i64 (x1.c1), ci .i64 (x1.c2), ci .i64 (x1.c3), ci .i64 (x1.c4), ci .i64 (x1.c5), ci .i64 (x1.c6), ci .i64 (x1.c7)])]⟩) (ob := True ∧ (True ∧ (((x0) == 2)) = true) ∧ True) (by kernel_rfl) hN (by kernel_rfl) ⟨trivial, ⟨trivial, c13⟩, trivial⟩ (by decide) (by decide) ?_
        refine thenC ?_
        refine goCondT (by kernel_rfl) (by kernel_rfl) ?_
        refine goSeq (by kernel_rfl) ?_
        obtain ⟨v14, ev14, h⟩ := bnd_some h
        refine goReg (N := 45) (hints := [(5, .val (one (ci .i64 v14)))]) (l := [4]) (m := []) (s₂ := ⟨[(4, one (ci .i64 (v14)))], []⟩) (ob := True ∧ True ∧ True ∧ True ∧ True ∧ (True ∧ one (ci .i64 ((IntKind.wrap .i64 (((IntKind.wrap .i64 (4 * (x1.c3)))) - (x1.c0))))) = one (ci .i64 v14)) ∧ True ∧ True) (by kernel_rfl) hN (by kernel_rfl) ⟨trivial, trivial, trivial, trivial, trivial, ⟨trivial, congrArg (fun x => one (ci .i64 x)) ev14⟩, trivial, trivial⟩ (by decide) (by decide) ?_
        refine thenC ?_
        refine goRet (by kernel_rfl) ?_
        refine blkRet ?_
        refine thenRet ?_
        obtain rfl := top_some h
        exact retOk (by kernel_rfl)
      · skip
        refine goReg (N := 45) (hints := [(1, .bool false)]) (l := [3, 5, 21]) (m := [3]) (s₂ := ⟨[(3, one (.ptr 3 0)), (5, one (ci .i64 (x0))), (21, one (cb false))], [(3, 24, [ci .i64 (x1.c0), ci .i64 (x1.c1), ci .i64 (x1.c2), ci .i64 (x1.c3), ci .i64 (x1.c4), ci .i64 (x1.c5), ci .i64 (x1.c6), ci .i64 (x1.c7)])]⟩) (ob := True ∧ (True ∧ (((x0) == 2)) = false) ∧ True) (by kernel_rfl) hN (by kernel_rfl) ⟨trivial, ⟨trivial, c13⟩, trivial⟩ (by decide) (by decide) ?_
        refine thenC ?_
        refine goCondF (by kernel_rfl) (by kernel_rfl) ?_
        refine goSeq (by kernel_rfl) ?_
        rcases fork_some h with ⟨c15, h⟩ | ⟨c15, h⟩
        · skip
          refine goReg (N := 45) (hints := [(1, .bool true)]) (l := [3, 5, 29]) (m := [3]) (s₂ := ⟨[(3, one (.ptr 3 0)), (5, one (ci .i64 (x0))), (29, one (cb true))], [(3, 24, [ci .i64 (x1.c0), ci .i64 (x1.c1), ci .i64 (x1.c2), ci .i64 (x1.c3), ci .i64 (x1.c4), ci .i64 (x1.c5), ci .i64 (x1.c6), ci .i64 (x1.c7)])]⟩) (ob := True ∧ (True ∧ (((x0) == 3)) = true) ∧ True) (by kernel_rfl) hN (by kernel_rfl) ⟨trivial, ⟨trivial, c15⟩, trivial⟩ (by decide) (by decide) ?_
          refine thenC ?_
          refine goCondT (by kernel_rfl) (by kernel_rfl) ?_
          refine goSeq (by kernel_rfl) ?_
          obtain ⟨v16, ev16, h⟩ := bnd_some h
          refine goReg (N := 45) (hints := [(5, .val (one (ci .i64 v16)))]) (l := [4]) (m := []) (s₂ := ⟨[(4, one (ci .i64 (v16)))], []⟩) (ob := True ∧ True ∧ True ∧ True ∧ True ∧ (True ∧ one (ci .i64 ((IntKind.wrap .i64 (((IntKind.wrap .i64 (4 * (x1.c3)))) + (x1.c1))))) = one (ci .i64 v16)) ∧ True ∧ True) (by kernel_rfl) hN (by kernel_rfl) ⟨trivial, trivial, trivial, trivial, trivial, ⟨trivial, congrArg (fun x => one (ci .i64 x)) ev16⟩, trivial, trivial⟩ (by decide) (by decide) ?_
          refine thenC ?_
          refine goRet (by kernel_rfl) ?_
          refine blkRet ?_
          refine thenRet ?_
          obtain rfl := top_some h
          exact retOk (by kernel_rfl)
        · skip
          refine goReg (N := 45) (hints := [(1, .bool false)]) (l := [3, 5, 29]) (m := [3]) (s₂ := ⟨[(3, one (.ptr 3 0)), (5, one (ci .i64 (x0))), (29, one (cb false))], [(3, 24, [ci .i64 (x1.c0), ci .i64 (x1.c1), ci .i64 (x1.c2), ci .i64 (x1.c3), ci .i64 (x1.c4), ci .i64 (x1.c5), ci .i64 (x1.c6), ci .i64 (x1.c7)])]⟩) (ob := True ∧ (True ∧ (((x0) == 3)) = false) ∧ True) (by kernel_rfl) hN (by kernel_rfl) ⟨trivial, ⟨trivial, c15⟩, trivial⟩ (by decide) (by decide) ?_
          refine thenC ?_
          refine goCondF (by kernel_rfl) (by kernel_rfl) ?_
          refine goSeq (by kernel_rfl) ?_
          rcases fork_some h with ⟨c17, h⟩ | ⟨c17, h⟩
          · skip
            refine goReg (N := 45) (hints := [(1, .bool true)]) (l := [3, 37]) (m := [3]) (s₂ := ⟨[(3, one (.ptr 3 0)), (37, one (cb true))], [(3, 24, [ci .i64 (x1.c0), ci .i64 (x1.c1), ci .i64 (x1.c2), ci .i64 (x1.c3), ci .i64 (x1.c4), ci .i64 (x1.c5), ci .i64 (x1.c6), ci .i64 (x1.c7)])]⟩) (ob := True ∧ (True ∧ (((x0) == 4)) = true) ∧ True) (by kernel_rfl) hN (by kernel_rfl) ⟨trivial, ⟨trivial, c17⟩, trivial⟩ (by decide) (by decide) ?_
            refine thenC ?_
            refine goCondT (by kernel_rfl) (by kernel_rfl) ?_
            refine goSeq (by kernel_rfl) ?_
            obtain ⟨v18, ev18, h⟩ := bnd_some h
            refine goReg (N := 45) (hints := [(5, .val (one (ci .i64 v18)))]) (l := [4]) (m := []) (s₂ := ⟨[(4, one (ci .i64 (v18)))], []⟩) (ob := True ∧ True ∧ True ∧ True ∧ True ∧ (True ∧ one (ci .i64 ((IntKind.wrap .i64 (((IntKind.wrap .i64 (4 * (x1.c3)))) - (x1.c1))))) = one (ci .i64 v18)) ∧ True ∧ True) (by kernel_rfl) hN (by kernel_rfl) ⟨trivial, trivial, trivial, trivial, trivial, ⟨trivial, congrArg (fun x => one (ci .i64 x)) ev18⟩, trivial, trivial⟩ (by decide) (by decide) ?_
            refine thenC ?_
            refine goRet (by kernel_rfl) ?_
            refine blkRet ?_
            refine thenRet ?_
            obtain rfl := top_some h
            exact retOk (by kernel_rfl)
          · skip
            refine goReg (N := 45) (hints := [(1, .bool false)]) (l := [3, 37]) (m := [3]) (s₂ := ⟨[(3, one (.ptr 3 0)), (37, one (cb false))], [(3, 24, [ci .i64 (x1.c0), ci .i64 (x1.c1), ci .i64 (x1.c2), ci .i64 (x1.c3), ci .i64 (x1.c4), ci .i64 (x1.c5), ci .i64 (x1.c6), ci .i64 (x1.c7)])]⟩) (ob := True ∧ (True ∧ (((x0) == 4)) = false) ∧ True) (by kernel_rfl) hN (by kernel_rfl) ⟨trivial, ⟨trivial, c17⟩, trivial⟩ (by decide) (by decide) ?_
            refine thenC ?_
            refine goCondF (by kernel_rfl) (by kernel_rfl) ?_
            refine goSkip (by kernel_rfl) ?_
            refine blkN ?_
            refine thenC ?_
            refine goSeq (by kernel_rfl) ?_
            refine goReg (N := 45) (hints := []) (l := [4]) (m := []) (s₂ := ⟨[(4, one (ci .i64 0))], []⟩) (ob := True ∧ True) (by kernel_rfl) hN (by kernel_rfl) ⟨trivial, trivial⟩ (by decide) (by decide) ?_
            refine thenC ?_
            refine goRet (by kernel_rfl) ?_
            obtain rfl := top_some h
            exact retOk (by kernel_rfl)

theorem glazierref01_size_ok (x0 : Int) (r : Int) (h : glazierref01_size x0 = some r) : PureC Try.prog 35 [one (ci .i64 (x0))] (one (ci .u64 (r))) := by
  refine fnOf (fn := Try.f35) (n := 10) (rs := [ResultVar.tmp 2]) (s := ⟨[(0, one (ci .i64 (x0)))], []⟩) (by kernel_rfl) (by kernel_rfl) (by kernel_rfl) (by kernel_rfl) (by kernel_rfl) (by kernel_rfl) (by kernel_rfl) (by kernel_rfl) (fun E hN => ?_)
  unfold glazierref01_size at h
  refine goSeq (by kernel_rfl) ?_
  refine goReg (N := 10) (hints := []) (l := [0]) (m := []) (s₂ := ⟨[(0, one (ci .i64 (x0)))], []⟩) (ob := True ∧ True) (by kernel_rfl) hN (by kernel_rfl) ⟨trivial, trivial⟩ (by decide) (by decide) ?_
  refine thenC ?_
  refine goSeq (by kernel_rfl) ?_
  refine goSeq (by kernel_rfl) ?_
  rcases fork_some h with ⟨c2, h⟩ | ⟨c2, h⟩
  · skip
    refine goReg (N := 10) (hints := [(1, .bool true)]) (l := [0, 4]) (m := []) (s₂ := ⟨[(0, one (ci .i64 (x0))), (4, one (cb true))], []⟩) (ob := True ∧ (True ∧ (decide ((x0) < 0)) = true) ∧ True) (by kernel_rfl) hN (by kernel_rfl) ⟨trivial, ⟨trivial, c2⟩, trivial⟩ (by decide) (by decide) ?_
    refine thenC ?_
    refine goCondT (by kernel_rfl) (by kernel_rfl) ?_
    refine goSeq (by kernel_rfl) ?_
    refine goReg (N := 10) (hints := []) (l := [2]) (m := []) (s₂ := ⟨[(2, one (ci .u64 ((IntKind.wrap .u64 (0 - ((IntKind.wrap .u64 (x0))))))))], []⟩) (ob := True ∧ True ∧ True ∧ True ∧ True) (by kernel_rfl) hN (by kernel_rfl) ⟨trivial, trivial, trivial, trivial, trivial⟩ (by decide) (by decide) ?_
    refine thenC ?_
    refine goRet (by kernel_rfl) ?_
    refine thenRet ?_
    obtain rfl := top_some h
    exact retOk (by kernel_rfl)
  · skip
    refine goReg (N := 10) (hints := [(1, .bool false)]) (l := [0, 4]) (m := []) (s₂ := ⟨[(0, one (ci .i64 (x0))), (4, one (cb false))], []⟩) (ob := True ∧ (True ∧ (decide ((x0) < 0)) = false) ∧ True) (by kernel_rfl) hN (by kernel_rfl) ⟨trivial, ⟨trivial, c2⟩, trivial⟩ (by decide) (by decide) ?_
    refine thenC ?_
    refine goCondF (by kernel_rfl) (by kernel_rfl) ?_
    refine goSkip (by kernel_rfl) ?_
    refine thenC ?_
    refine goSeq (by kernel_rfl) ?_
    refine goReg (N := 10) (hints := []) (l := [2]) (m := []) (s₂ := ⟨[(2, one (ci .u64 ((IntKind.wrap .u64 (x0)))))], []⟩) (ob := True ∧ True ∧ True ∧ True) (by kernel_rfl) hN (by kernel_rfl) ⟨trivial, trivial, trivial, trivial⟩ (by decide) (by decide) ?_
    refine thenC ?_
    refine goRet (by kernel_rfl) ?_
    obtain rfl := top_some h
    exact retOk (by kernel_rfl)

theorem glazierref01_times_ok (fl : Nat) (x0 : Int) (x1 : Int) (r : T_glazierref01_Wide) (h : glazierref01_times fl x0 x1 = some r) : PureC Try.prog 33 [one (ci .i64 (x0)), one (ci .i64 (x1))] (agg [ci .u64 (r.c0), ci .u64 (r.c1), cb r.c2]) := by
  refine fnOf (fn := Try.f33) (n := 56) (rs := [ResultVar.cell 4 59]) (s := ⟨[(0, one (ci .i64 (x0))), (1, one (ci .i64 (x1)))], []⟩) (by kernel_rfl) (by kernel_rfl) (by kernel_rfl) (by kernel_rfl) (by kernel_rfl) (by kernel_rfl) (by kernel_rfl) (by kernel_rfl) (fun E hN => ?_)
  unfold glazierref01_times at h
  refine goSeq (by kernel_rfl) ?_
  refine goReg (N := 56) (hints := []) (l := [0, 1, 4]) (m := [4]) (s₂ := ⟨[(0, one (ci .i64 (x0))), (1, one (ci .i64 (x1))), (4, one (.ptr 4 0))], [(4, 59, [ci .u64 0, ci .u64 0, cb false])]⟩) (ob := True ∧ True) (by kernel_rfl) hN (by kernel_rfl) ⟨trivial, trivial⟩ (by decide) (by decide) ?_
  refine thenC ?_
  refine goSeq (by kernel_rfl) ?_
  obtain ⟨q1, hq1, h⟩ := bind_some h
  refine goReg (N := 56) (hints := [(1, .call (one (ci .u64 (q1))))]) (l := [0, 1, 4, 5]) (m := [4]) (s₂ := ⟨[(0, one (ci .i64 (x0))), (1, one (ci .i64 (x1))), (4, one (.ptr 4 0)), (5, one (ci .u64 (q1)))], [(4, 59, [ci .u64 0, ci .u64 0, cb false])]⟩) (ob := True ∧ PureC Try.prog 35 [one (ci .i64 (x0))] (one (ci .u64 (q1))) ∧ True ∧ True) (by kernel_rfl) hN (by kernel_rfl) ⟨trivial, (glazierref01_size_ok (x0) _ hq1), trivial, trivial⟩ (by decide) (by decide) ?_
  refine thenC ?_
  refine goSeq (by kernel_rfl) ?_
  obtain ⟨q2, hq2, h⟩ := bind_some h
  refine goReg (N := 56) (hints := [(1, .call (one (ci .u64 (q2))))]) (l := [0, 1, 4, 5, 6]) (m := [4]) (s₂ := ⟨[(0, one (ci .i64 (x0))), (1, one (ci .i64 (x1))), (4, one (.ptr 4 0)), (5, one (ci .u64 (q1))), (6, one (ci .u64 (q2)))], [(4, 59, [ci .u64 0, ci .u64 0, cb false])]⟩) (ob := True ∧ PureC Try.prog 35 [one (ci .i64 (x1))] (one (ci .u64 (q2))) ∧ True ∧ True) (by kernel_rfl) hN (by kernel_rfl) ⟨trivial, (glazierref01_size_ok (x1) _ hq2), trivial, trivial⟩ (by decide) (by decide) ?_
  refine thenC ?_
  refine goSeq (by kernel_rfl) ?_
  refine goReg (N := 56) (hints := []) (l := [0, 1, 4, 5, 6, 7]) (m := [4]) (s₂ := ⟨[(0, one (ci .i64 (x0))), (1, one (ci .i64 (x1))), (4, one (.ptr 4 0)), (5, one (ci .u64 (q1))), (6, one (ci .u64 (q2))), (7, one (ci .u64 0))], [(4, 59, [ci .u64 0, ci .u64 0, cb false])]⟩) (ob := True ∧ True) (by kernel_rfl) hN (by kernel_rfl) ⟨trivial, trivial⟩ (by decide) (by decide) ?_
  refine thenC ?_
  refine goSeq (by kernel_rfl) ?_
  refine goReg (N := 56) (hints := []) (l := [0, 1, 4, 5, 6, 7, 8]) (m := [4]) (s₂ := ⟨[(0, one (ci .i64 (x0))), (1, one (ci .i64 (x1))), (4, one (.ptr 4 0)), (5, one (ci .u64 (q1))), (6, one (ci .u64 (q2))), (7, one (ci .u64 0)), (8, one (ci .u64 0))], [(4, 59, [ci .u64 0, ci .u64 0, cb false])]⟩) (ob := True ∧ True) (by kernel_rfl) hN (by kernel_rfl) ⟨trivial, trivial⟩ (by decide) (by decide) ?_
  refine thenC ?_
  refine goSeq (by kernel_rfl) ?_
  refine goSeq (by kernel_rfl) ?_
  refine goReg (N := 56) (hints := []) (l := [0, 1, 4, 5, 6, 7, 8, 9]) (m := [4]) (s₂ := ⟨[(0, one (ci .i64 (x0))), (1, one (ci .i64 (x1))), (4, one (.ptr 4 0)), (5, one (ci .u64 (q1))), (6, one (ci .u64 (q2))), (7, one (ci .u64 0)), (8, one (ci .u64 0)), (9, one (ci .i64 63))], [(4, 59, [ci .u64 0, ci .u64 0, cb false])]⟩) (ob := True ∧ True) (by kernel_rfl) hN (by kernel_rfl) ⟨trivial, trivial⟩ (by decide) (by decide) ?_
  refine thenC ?_
  refine goBlock (i := 0) (by kernel_rfl) (by kernel_rfl) ?_
  refine goLoopK (l := [0, 1, 4, 5, 6, 7, 8, 9]) (m := [4]) (K := fun n1 s => ∃ (x0 : Int) (x1 : Int) (q1 : Int) (q2 : Int) (j386 : Int) (j387 : Int) (j388 : Int), glazierref01_times_l1 n1 fl x0 x1 q1 q2 j386 j387 j388 = some r ∧ s = ⟨[(0, one (ci .i64 (x0))), (1, one (ci .i64 (x1))), (4, one (.ptr 4 0)), (5, one (ci .u64 (q1))), (6, one (ci .u64 (q2))), (7, one (ci .u64 (j386))), (8, one (ci .u64 (j387))), (9, one (ci .i64 (j388)))], [(4, 59, [ci .u64 0, ci .u64 0, cb false])]⟩) (n := fl) (by kernel_rfl) (by decide) (by decide) (Fit.mk [] ⟨x0, x1, q1, q2, (0), (0), (63), h, rfl⟩ (by kernel_rfl)) ?_ ?_
  · skip
    rintro _ ⟨_, _, _, _, _, _, _, h, _⟩
    rw [glazierref01_times_l1] at h
    cases h
  · skip
    rintro n1 _ ⟨x0, x1, q1, q2, j386, j387, j388, h, rfl⟩
    rw [glazierref01_times_l1] at h
    refine goSeq (by kernel_rfl) ?_
    refine goSeq (by kernel_rfl) ?_
    rcases fork_some h with ⟨c412, h⟩ | ⟨c412, h⟩
    · skip
      refine goReg (N := 56) (hints := [(1, .bool true)]) (l := [0, 1, 4, 5, 6, 7, 8, 9, 16]) (m := [4]) (s₂ := ⟨[(0, one (ci .i64 (x0))), (1, one (ci .i64 (x1))), (4, one (.ptr 4 0)), (5, one (ci .u64 (q1))), (6, one (ci .u64 (q2))), (7, one (ci .u64 (j386))), (8, one (ci .u64 (j387))), (9, one (ci .i64 (j388))), (16, one (cb true))], [(4, 59, [ci .u64 0, ci .u64 0, cb false])]⟩) (ob := True ∧ (True ∧ (decide ((j388) ≥ 0)) = true) ∧ True) (by kernel_rfl) hN (by kernel_rfl) ⟨trivial, ⟨trivial, c412⟩, trivial⟩ (by decide) (by decide) ?_
      refine thenC ?_
      refine goCondT (by kernel_rfl) (by kernel_rfl) ?_
      refine goSkip (by kernel_rfl) ?_
      refine thenC ?_
      refine goSeqK (l := [0, 1, 4, 5, 6, 7, 8, 9]) (m := [4]) (K := fun s => ∃ (x0 : Int) (x1 : Int) (q1 : Int) (q2 : Int) (j388 : Int) (j422 : Int) (j423 : Int), glazierref01_times_j2 (fun a0 a1 a2 a3 a4 a5 a6 => glazierref01_times_l1 n1 fl a0 a1 a2 a3 a4 a5 a6) fl x0 x1 q1 q2 j388 j422 j423 = some r ∧ s = ⟨[(0, one (ci .i64 (x0))), (1, one (ci .i64 (x1))), (4, one (.ptr 4 0)), (5, one (ci .u64 (q1))), (6, one (ci .u64 (q2))), (7, one (ci .u64 (j422))), (8, one (ci .u64 (j423))), (9, one (ci .i64 (j388)))], [(4, 59, [ci .u64 0, ci .u64 0, cb false])]⟩) (by kernel_rfl) (by decide) (by decide) ?_ ?_
      · skip
        rintro _ ⟨x0, x1, q1, q2, j388, j422, j423, h, rfl⟩
        unfold glazierref01_times_j2 at h
        refine goReg (N := 56) (hints := []) (l := [0, 1, 4, 5, 6, 7, 8, 9]) (m := [4]) (s₂ := ⟨[(0, one (ci .i64 (x0))), (1, one (ci .i64 (x1))), (4, one (.ptr 4 0)), (5, one (ci .u64 (q1))), (6, one (ci .u64 (q2))), (7, one (ci .u64 (j422))), (8, one (ci .u64 (j423))), (9, one (ci .i64 ((IntKind.wrap .i64 ((j388) - 1)))))], [(4, 59, [ci .u64 0, ci .u64 0, cb false])]⟩) (ob := True ∧ True ∧ True ∧ True) (by kernel_rfl) hN (by kernel_rfl) ⟨trivial, trivial, trivial, trivial⟩ (by decide) (by decide) ?_
        exact Fit.mk [] ⟨x0, x1, q1, q2, j422, j423, ((IntKind.wrap .i64 ((j388) - 1))), h, rfl⟩ (by kernel_rfl)
      · skip
        refine goBlock (i := 1) (by kernel_rfl) (by kernel_rfl) ?_
        refine goSeq (by kernel_rfl) ?_
        obtain ⟨v424, ev424, h⟩ := bnd_some h
        obtain ⟨v425, ev425, h⟩ := bnd_some h
        refine goReg (N := 56) (hints := [(3, .val (one (ci .u64 v424))), (4, .val (one (ci .u64 v425)))]) (l := [0, 1, 4, 5, 6, 7, 8, 9]) (m := [4]) (s₂ := ⟨[(0, one (ci .i64 (x0))), (1, one (ci .i64 (x1))), (4, one (.ptr 4 0)), (5, one (ci .u64 (q1))), (6, one (ci .u64 (q2))), (7, one (ci .u64 (v425))), (8, one (ci .u64 (j387))), (9, one (ci .i64 (j388)))], [(4, 59, [ci .u64 0, ci .u64 0, cb false])]⟩) (ob := True ∧ True ∧ True ∧ (((9223372036854775808 : Int) ≠ 0) ∧ one (ci .u64 ((IntKind.wrap .u64 (Int.tdiv (j387) 9223372036854775808)))) = one (ci .u64 v424)) ∧ (True ∧ one (ci .u64 ((IntKind.wrap .u64 (((IntKind.wrap .u64 ((j386) * 2))) + (v424))))) = one (ci .u64 v425)) ∧ True ∧ True) (by kernel_rfl) hN (by kernel_rfl) ⟨trivial, trivial, trivial, ⟨(by decide), congrArg (fun x => one (ci .u64 x)) ev424⟩, ⟨trivial, congrArg (fun x => one (ci .u64 x)) ev425⟩, trivial, trivial⟩ (by decide) (by decide) ?_
        refine thenC ?_
        refine goSeq (by kernel_rfl) ?_
        refine goReg (N := 56) (hints := []) (l := [0, 1, 4, 5, 6, 7, 8, 9]) (m := [4]) (s₂ := ⟨[(0, one (ci .i64 (x0))), (1, one (ci .i64 (x1))), (4, one (.ptr 4 0)), (5, one (ci .u64 (q1))), (6, one (ci .u64 (q2))), (7, one (ci .u64 (v425))), (8, one (ci .u64 ((IntKind.wrap .u64 ((j387) * 2))))), (9, one (ci .i64 (j388)))], [(4, 59, [ci .u64 0, ci .u64 0, cb false])]⟩) (ob := True ∧ True ∧ True ∧ True) (by kernel_rfl) hN (by kernel_rfl) ⟨trivial, trivial, trivial, trivial⟩ (by decide) (by decide) ?_
        refine thenC ?_
        refine goSeq (by kernel_rfl) ?_
        obtain ⟨g426, h⟩ := guard_some h
        obtain ⟨v427, ev427, h⟩ := bnd_some h
        rcases fork_some h with ⟨c428, h⟩ | ⟨c428, h⟩
        · skip
          refine goReg (N := 56) (hints := [(3, .val (one (ci .u64 v427))), (4, .bool true)]) (l := [0, 1, 4, 5, 6, 7, 8, 9, 30]) (m := [4]) (s₂ := ⟨[(0, one (ci .i64 (x0))), (1, one (ci .i64 (x1))), (4, one (.ptr 4 0)), (5, one (ci .u64 (q1))), (6, one (ci .u64 (q2))), (7, one (ci .u64 (v425))), (8, one (ci .u64 ((IntKind.wrap .u64 ((j387) * 2))))), (9, one (ci .i64 (j388))), (30, one (cb true))], [(4, 59, [ci .u64 0, ci .u64 0, cb false])]⟩) (ob := True ∧ True ∧ (0 ≤ (j388)) ∧ (((2 : Int) ≠ 0) ∧ one (ci .u64 ((Int.tmod ((Int.fdiv (q1) (2 ^ (min (Int.toNat (j388)) 64)))) 2))) = one (ci .u64 v427)) ∧ (True ∧ (((v427) == 1)) = true) ∧ True) (by kernel_rfl) hN (by kernel_rfl) ⟨trivial, trivial, g426, ⟨(by decide), congrArg (fun x => one (ci .u64 x)) ev427⟩, ⟨trivial, c428⟩, trivial⟩ (by decide) (by decide) ?_
          refine thenC ?_
          refine goCondT (by kernel_rfl) (by kernel_rfl) ?_
          refine goSeq (by kernel_rfl) ?_
          obtain ⟨v429, ev429, h⟩ := bnd_some h
          refine goReg (N := 56) (hints := [(2, .val (one (ci .u64 v429)))]) (l := [0, 1, 4, 5, 6, 7, 8, 9, 10]) (m := [4]) (s₂ := ⟨[(0, one (ci .i64 (x0))), (1, one (ci .i64 (x1))), (4, one (.ptr 4 0)), (5, one (ci .u64 (q1))), (6, one (ci .u64 (q2))), (7, one (ci .u64 (v425))), (8, one (ci .u64 ((IntKind.wrap .u64 ((j387) * 2))))), (9, one (ci .i64 (j388))), (10, one (ci .u64 (v429)))], [(4, 59, [ci .u64 0, ci .u64 0, cb false])]⟩) (ob := True ∧ True ∧ (True ∧ one (ci .u64 ((IntKind.wrap .u64 (((IntKind.wrap .u64 ((j387) * 2))) + (q2))))) = one (ci .u64 v429)) ∧ True ∧ True) (by kernel_rfl) hN (by kernel_rfl) ⟨trivial, trivial, ⟨trivial, congrArg (fun x => one (ci .u64 x)) ev429⟩, trivial, trivial⟩ (by decide) (by decide) ?_
          refine thenC ?_
          refine goSeqK (l := [0, 1, 4, 5, 6, 7, 9, 10]) (m := [4]) (K := fun s => ∃ (x0 : Int) (x1 : Int) (q1 : Int) (q2 : Int) (j388 : Int) (v429 : Int) (j431 : Int), glazierref01_times_j3 (fun a0 a1 a2 a3 a4 a5 a6 => glazierref01_times_l1 n1 fl a0 a1 a2 a3 a4 a5 a6) fl x0 x1 q1 q2 j388 v429 j431 = some r ∧ s = ⟨[(0, one (ci .i64 (x0))), (1, one (ci .i64 (x1))), (4, one (.ptr 4 0)), (5, one (ci .u64 (q1))), (6, one (ci .u64 (q2))), (7, one (ci .u64 (j431))), (9, one (ci .i64 (j388))), (10, one (ci .u64 (v429)))], [(4, 59, [ci .u64 0, ci .u64 0, cb false])]⟩) (by kernel_rfl) (by decide) (by decide) ?_ ?_
          · skip
            rintro _ ⟨x0, x1, q1, q2, j388, v429, j431, h, rfl⟩
            unfold glazierref01_times_j3 at h
            refine goReg (N := 56) (hints := []) (l := [0, 1, 4, 5, 6, 7, 8, 9]) (m := [4]) (s₂ := ⟨[(0, one (ci .i64 (x0))), (1, one (ci .i64 (x1))), (4, one (.ptr 4 0)), (5, one (ci .u64 (q1))), (6, one (ci .u64 (q2))), (7, one (ci .u64 (j431))), (8, one (ci .u64 (v429))), (9, one (ci .i64 (j388)))], [(4, 59, [ci .u64 0, ci .u64 0, cb false])]⟩) (ob := True ∧ True ∧ True) (by kernel_rfl) hN (by kernel_rfl) ⟨trivial, trivial, trivial⟩ (by decide) (by decide) ?_
            refine blkN ?_
            exact Fit.mk [] ⟨x0, x1, q1, q2, j388, j431, v429, h, rfl⟩ (by kernel_rfl)
          · skip
            refine goSeq (by kernel_rfl) ?_
            rcases fork_some h with ⟨c432, h⟩ | ⟨c432, h⟩
            · skip
              refine goReg (N := 56) (hints := [(2, .bool true)]) (l := [0, 1, 4, 5, 6, 7, 9, 10, 36]) (m := [4]) (s₂ := ⟨[(0, one (ci .i64 (x0))), (1, one (ci .i64 (x1))), (4, one (.ptr 4 0)), (5, one (ci .u64 (q1))), (6, one (ci .u64 (q2))), (7, one (ci .u64 (v425))), (9, one (ci .i64 (j388))), (10, one (ci .u64 (v429))), (36, one (cb true))], [(4, 59, [ci .u64 0, ci .u64 0, cb false])]⟩) (ob := True ∧ True ∧ (True ∧ (decide ((v429) < ((IntKind.wrap .u64 ((j387) * 2))))) = true) ∧ True) (by kernel_rfl) hN (by kernel_rfl) ⟨trivial, trivial, ⟨trivial, c432⟩, trivial⟩ (by decide) (by decide) ?_
              refine thenC ?_
              refine goCondT (by kernel_rfl) (by kernel_rfl) ?_
              refine goReg (N := 56) (hints := []) (l := [0, 1, 4, 5, 6, 7, 9, 10]) (m := [4]) (s₂ := ⟨[(0, one (ci .i64 (x0))), (1, one (ci .i64 (x1))), (4, one (.ptr 4 0)), (5, one (ci .u64 (q1))), (6, one (ci .u64 (q2))), (7, one (ci .u64 ((IntKind.wrap .u64 ((v425) + 1))))), (9, one (ci .i64 (j388))), (10, one (ci .u64 (v429)))], [(4, 59, [ci .u64 0, ci .u64 0, cb false])]⟩) (ob := True ∧ True ∧ True ∧ True) (by kernel_rfl) hN (by kernel_rfl) ⟨trivial, trivial, trivial, trivial⟩ (by decide) (by decide) ?_
              exact Fit.mk [] ⟨x0, x1, q1, q2, j388, v429, ((IntKind.wrap .u64 ((v425) + 1))), h, rfl⟩ (by kernel_rfl)
            · skip
              refine goReg (N := 56) (hints := [(2, .bool false)]) (l := [0, 1, 4, 5, 6, 7, 9, 10, 36]) (m := [4]) (s₂ := ⟨[(0, one (ci .i64 (x0))), (1, one (ci .i64 (x1))), (4, one (.ptr 4 0)), (5, one (ci .u64 (q1))), (6, one (ci .u64 (q2))), (7, one (ci .u64 (v425))), (9, one (ci .i64 (j388))), (10, one (ci .u64 (v429))), (36, one (cb false))], [(4, 59, [ci .u64 0, ci .u64 0, cb false])]⟩) (ob := True ∧ True ∧ (True ∧ (decide ((v429) < ((IntKind.wrap .u64 ((j387) * 2))))) = false) ∧ True) (by kernel_rfl) hN (by kernel_rfl) ⟨trivial, trivial, ⟨trivial, c432⟩, trivial⟩ (by decide) (by decide) ?_
              refine thenC ?_
              refine goCondF (by kernel_rfl) (by kernel_rfl) ?_
              refine goSkip (by kernel_rfl) ?_
              exact Fit.mk [] ⟨x0, x1, q1, q2, j388, v429, v425, h, rfl⟩ (by kernel_rfl)
        · skip
          refine goReg (N := 56) (hints := [(3, .val (one (ci .u64 v427))), (4, .bool false)]) (l := [0, 1, 4, 5, 6, 7, 8, 9, 30]) (m := [4]) (s₂ := ⟨[(0, one (ci .i64 (x0))), (1, one (ci .i64 (x1))), (4, one (.ptr 4 0)), (5, one (ci .u64 (q1))), (6, one (ci .u64 (q2))), (7, one (ci .u64 (v425))), (8, one (ci .u64 ((IntKind.wrap .u64 ((j387) * 2))))), (9, one (ci .i64 (j388))), (30, one (cb false))], [(4, 59, [ci .u64 0, ci .u64 0, cb false])]⟩) (ob := True ∧ True ∧ (0 ≤ (j388)) ∧ (((2 : Int) ≠ 0) ∧ one (ci .u64 ((Int.tmod ((Int.fdiv (q1) (2 ^ (min (Int.toNat (j388)) 64)))) 2))) = one (ci .u64 v427)) ∧ (True ∧ (((v427) == 1)) = false) ∧ True) (by kernel_rfl) hN (by kernel_rfl) ⟨trivial, trivial, g426, ⟨(by decide), congrArg (fun x => one (ci .u64 x)) ev427⟩, ⟨trivial, c428⟩, trivial⟩ (by decide) (by decide) ?_
          refine thenC ?_
          refine goCondF (by kernel_rfl) (by kernel_rfl) ?_
          refine goSkip (by kernel_rfl) ?_
          refine blkN ?_
          exact Fit.mk [] ⟨x0, x1, q1, q2, j388, v425, ((IntKind.wrap .u64 ((j387) * 2))), h, rfl⟩ (by kernel_rfl)
    · skip
      refine goReg (N := 56) (hints := [(1, .bool false)]) (l := [0, 1, 4, 5, 6, 7, 8, 9, 16]) (m := [4]) (s₂ := ⟨[(0, one (ci .i64 (x0))), (1, one (ci .i64 (x1))), (4, one (.ptr 4 0)), (5, one (ci .u64 (q1))), (6, one (ci .u64 (q2))), (7, one (ci .u64 (j386))), (8, one (ci .u64 (j387))), (9, one (ci .i64 (j388))), (16, one (cb false))], [(4, 59, [ci .u64 0, ci .u64 0, cb false])]⟩) (ob := True ∧ (True ∧ (decide ((j388) ≥ 0)) = false) ∧ True) (by kernel_rfl) hN (by kernel_rfl) ⟨trivial, ⟨trivial, c412⟩, trivial⟩ (by decide) (by decide) ?_
      refine thenC ?_
      refine goCondF (by kernel_rfl) (by kernel_rfl) ?_
      refine goExit (i := 0) (by kernel_rfl) (by kernel_rfl) ?_
      refine thenExit ?_
      refine thenExit ?_
      refine blkHit rfl ?_
      refine thenC ?_
      refine goSeq (by kernel_rfl) ?_
      rcases fork_some h with ⟨c433, h⟩ | ⟨c433, h⟩
      · skip
        rcases fork_some h with ⟨c434, h⟩ | ⟨c434, h⟩
        · skip
          refine goReg (N := 56) (hints := [(7, .bool true), (10, .bool true)]) (l := [4]) (m := [4]) (s₂ := ⟨[(4, one (.ptr 4 0))], [(4, 59, [ci .u64 (j386), ci .u64 (j387), cb true])]⟩) (ob := True ∧ True ∧ True ∧ True ∧ True ∧ True ∧ True ∧ (True ∧ ((!(decide ((x0) < 0) == decide ((x1) < 0)))) = true) ∧ True ∧ True ∧ (True ∧ (decide ((j386) > 0)) = true) ∧ True ∧ True ∧ True ∧ True ∧ True ∧ True ∧ True) (by kernel_rfl) hN (by kernel_rfl) ⟨trivial, trivial, trivial, trivial, trivial, trivial, trivial, ⟨trivial, c433⟩, trivial, trivial, ⟨trivial, c434⟩, trivial, trivial, trivial, trivial, trivial, trivial, trivial⟩ (by decide) (by decide) ?_
          refine thenC ?_
          refine goRet (by kernel_rfl) ?_
          obtain rfl := top_some h
          exact retOk (by kernel_rfl)
        · skip
          refine goReg (N := 56) (hints := [(7, .bool true), (10, .bool false)]) (l := [4]) (m := [4]) (s₂ := ⟨[(4, one (.ptr 4 0))], [(4, 59, [ci .u64 (j386), ci .u64 (j387), cb (decide ((j387) > 0))])]⟩) (ob := True ∧ True ∧ True ∧ True ∧ True ∧ True ∧ True ∧ (True ∧ ((!(decide ((x0) < 0) == decide ((x1) < 0)))) = true) ∧ True ∧ True ∧ (True ∧ (decide ((j386) > 0)) = false) ∧ True ∧ True ∧ True ∧ True ∧ True ∧ True ∧ True) (by kernel_rfl) hN (by kernel_rfl) ⟨trivial, trivial, trivial, trivial, trivial, trivial, trivial, ⟨trivial, c433⟩, trivial, trivial, ⟨trivial, c434⟩, trivial, trivial, trivial, trivial, trivial, trivial, trivial⟩ (by decide) (by decide) ?_
          refine thenC ?_
          refine goRet (by kernel_rfl) ?_
          obtain rfl := top_some h
          exact retOk (by kernel_rfl)
      · skip
        refine goReg (N := 56) (hints := [(7, .bool false)]) (l := [4]) (m := [4]) (s₂ := ⟨[(4, one (.ptr 4 0))], [(4, 59, [ci .u64 (j386), ci .u64 (j387), cb false])]⟩) (ob := True ∧ True ∧ True ∧ True ∧ True ∧ True ∧ True ∧ (True ∧ ((!(decide ((x0) < 0) == decide ((x1) < 0)))) = false) ∧ True ∧ True ∧ True ∧ True ∧ True ∧ True ∧ True ∧ True ∧ True ∧ True) (by kernel_rfl) hN (by kernel_rfl) ⟨trivial, trivial, trivial, trivial, trivial, trivial, trivial, ⟨trivial, c433⟩, trivial, trivial, trivial, trivial, trivial, trivial, trivial, trivial, trivial, trivial⟩ (by decide) (by decide) ?_
        refine thenC ?_
        refine goRet (by kernel_rfl) ?_
        obtain rfl := top_some h
        exact retOk (by kernel_rfl)

theorem glazierref01_parts_ok (fl : Nat) (x0 : T_glazierref01_Wide) (x1 : Int) (r : Int × Int × Int) (h : glazierref01_parts fl x0 x1 = some r) : PureC Try.prog 34 [agg [ci .u64 (x0.c0), ci .u64 (x0.c1), cb x0.c2], one (ci .u64 (x1))] (⟨.tup [(false, 1), (false, 1), (false, 1)], [ci .u64 (r.1), ci .u64 (r.2.1), ci .u64 (r.2.2)]⟩) := by
  refine fnOf (fn := Try.f34) (n := 57) (rs := [ResultVar.tmp 4, ResultVar.tmp 5, ResultVar.tmp 6]) (s := ⟨[(0, agg [ci .u64 (x0.c0), ci .u64 (x0.c1), cb x0.c2]), (1, one (ci .u64 (x1)))], []⟩) (by kernel_rfl) (by kernel_rfl) (by kernel_rfl) (by kernel_rfl) (by kernel_rfl) (by kernel_rfl) (by kernel_rfl) (by kernel_rfl) (fun E hN => ?_)
  unfold glazierref01_parts at h
  refine goSeq (by kernel_rfl) ?_
  refine goReg (N := 57) (hints := []) (l := [1, 2]) (m := [2]) (s₂ := ⟨[(1, one (ci .u64 (x1))), (2, one (.ptr 2 0))], [(2, 59, [ci .u64 (x0.c0), ci .u64 (x0.c1), cb x0.c2])]⟩) (ob := True ∧ True ∧ True ∧ True ∧ True) (by kernel_rfl) hN (by kernel_rfl) ⟨trivial, trivial, trivial, trivial, trivial⟩ (by decide) (by decide) ?_
  refine thenC ?_
  refine goSeq (by kernel_rfl) ?_
  refine goReg (N := 57) (hints := []) (l := [1, 2, 7]) (m := [2]) (s₂ := ⟨[(1, one (ci .u64 (x1))), (2, one (.ptr 2 0)), (7, one (ci .u64 0))], [(2, 59, [ci .u64 (x0.c0), ci .u64 (x0.c1), cb x0.c2])]⟩) (ob := True ∧ True) (by kernel_rfl) hN (by kernel_rfl) ⟨trivial, trivial⟩ (by decide) (by decide) ?_
  refine thenC ?_
  refine goSeq (by kernel_rfl) ?_
  refine goReg (N := 57) (hints := []) (l := [1, 2, 7, 8]) (m := [2]) (s₂ := ⟨[(1, one (ci .u64 (x1))), (2, one (.ptr 2 0)), (7, one (ci .u64 0)), (8, one (ci .u64 0))], [(2, 59, [ci .u64 (x0.c0), ci .u64 (x0.c1), cb x0.c2])]⟩) (ob := True ∧ True) (by kernel_rfl) hN (by kernel_rfl) ⟨trivial, trivial⟩ (by decide) (by decide) ?_
  refine thenC ?_
  refine goSeq (by kernel_rfl) ?_
  refine goReg (N := 57) (hints := []) (l := [1, 2, 7, 8, 9]) (m := [2]) (s₂ := ⟨[(1, one (ci .u64 (x1))), (2, one (.ptr 2 0)), (7, one (ci .u64 0)), (8, one (ci .u64 0)), (9, one (ci .u64 0))], [(2, 59, [ci .u64 (x0.c0), ci .u64 (x0.c1), cb x0.c2])]⟩) (ob := True ∧ True) (by kernel_rfl) hN (by kernel_rfl) ⟨trivial, trivial⟩ (by decide) (by decide) ?_
  refine thenC ?_
  refine goSeq (by kernel_rfl) ?_
  refine goSeq (by kernel_rfl) ?_
  refine goReg (N := 57) (hints := []) (l := [1, 2, 7, 8, 9, 10]) (m := [2]) (s₂ := ⟨[(1, one (ci .u64 (x1))), (2, one (.ptr 2 0)), (7, one (ci .u64 0)), (8, one (ci .u64 0)), (9, one (ci .u64 0)), (10, one (ci .i64 127))], [(2, 59, [ci .u64 (x0.c0), ci .u64 (x0.c1), cb x0.c2])]⟩) (ob := True ∧ True) (by kernel_rfl) hN (by kernel_rfl) ⟨trivial, trivial⟩ (by decide) (by decide) ?_
  refine thenC ?_
  refine goBlock (i := 0) (by kernel_rfl) (by kernel_rfl) ?_
  refine goLoopK (l := [1, 2, 7, 8, 9, 10]) (m := [2]) (K := fun n1 s => ∃ (x1 : Int) (j486 : Int) (j445 : Int) (j446 : Int) (j447 : Int) (x0 : T_glazierref01_Wide), glazierref01_parts_l1 n1 fl x1 j486 j445 j446 j447 x0 = some r ∧ s = ⟨[(1, one (ci .u64 (x1))), (2, one (.ptr 2 0)), (7, one (ci .u64 (j486))), (8, one (ci .u64 (j445))), (9, one (ci .u64 (j446))), (10, one (ci .i64 (j447)))], [(2, 59, [ci .u64 (x0.c0), ci .u64 (x0.c1), cb x0.c2])]⟩) (n := fl) (by kernel_rfl) (by decide) (by decide) (Fit.mk [] ⟨x1, (0), (0), (0), (127), x0, h, rfl⟩ (by kernel_rfl)) ?_ ?_
  · skip
    rintro _ ⟨_, _, _, _, _, _, h, _⟩
    rw [glazierref01_parts_l1] at h
    cases h
  · skip
    rintro n1 _ ⟨x1, j486, j445, j446, j447, x0, h, rfl⟩
    rw [glazierref01_parts_l1] at h
    refine goSeq (by kernel_rfl) ?_
    refine goSeq (by kernel_rfl) ?_
    rcases fork_some h with ⟨c528, h⟩ | ⟨c528, h⟩
    · skip
      refine goReg (N := 57) (hints := [(1, .bool true)]) (l := [1, 2, 7, 8, 9, 10, 14]) (m := [2]) (s₂ := ⟨[(1, one (ci .u64 (x1))), (2, one (.ptr 2 0)), (7, one (ci .u64 (j486))), (8, one (ci .u64 (j445))), (9, one (ci .u64 (j446))), (10, one (ci .i64 (j447))), (14, one (cb true))], [(2, 59, [ci .u64 (x0.c0), ci .u64 (x0.c1), cb x0.c2])]⟩) (ob := True ∧ (True ∧ (decide ((j447) ≥ 0)) = true) ∧ True) (by kernel_rfl) hN (by kernel_rfl) ⟨trivial, ⟨trivial, c528⟩, trivial⟩ (by decide) (by decide) ?_
      refine thenC ?_
      refine goCondT (by kernel_rfl) (by kernel_rfl) ?_
      refine goSkip (by kernel_rfl) ?_
      refine thenC ?_
      refine goSeqK (l := [1, 2, 7, 8, 9, 10]) (m := [2]) (K := fun s => ∃ (x1 : Int) (v537 : Int) (j447 : Int) (x0 : T_glazierref01_Wide) (j547 : Int) (j548 : Int), glazierref01_parts_j2 (fun a0 a1 a2 a3 a4 a5 => glazierref01_parts_l1 n1 fl a0 a1 a2 a3 a4 a5) fl x1 v537 j447 x0 j547 j548 = some r ∧ s = ⟨[(1, one (ci .u64 (x1))), (2, one (.ptr 2 0)), (7, one (ci .u64 (v537))), (8, one (ci .u64 (j547))), (9, one (ci .u64 (j548))), (10, one (ci .i64 (j447)))], [(2, 59, [ci .u64 (x0.c0), ci .u64 (x0.c1), cb x0.c2])]⟩) (by kernel_rfl) (by decide) (by decide) ?_ ?_
      · skip
        rintro _ ⟨x1, v537, j447, x0, j547, j548, h, rfl⟩
        unfold glazierref01_parts_j2 at h
        refine goReg (N := 57) (hints := []) (l := [1, 2, 7, 8, 9, 10]) (m := [2]) (s₂ := ⟨[(1, one (ci .u64 (x1))), (2, one (.ptr 2 0)), (7, one (ci .u64 (v537))), (8, one (ci .u64 (j547))), (9, one (ci .u64 (j548))), (10, one (ci .i64 ((IntKind.wrap .i64 ((j447) - 1)))))], [(2, 59, [ci .u64 (x0.c0), ci .u64 (x0.c1), cb x0.c2])]⟩) (ob := True ∧ True ∧ True ∧ True) (by kernel_rfl) hN (by kernel_rfl) ⟨trivial, trivial, trivial, trivial⟩ (by decide) (by decide) ?_
        exact Fit.mk [] ⟨x1, v537, j547, j548, ((IntKind.wrap .i64 ((j447) - 1))), x0, h, rfl⟩ (by kernel_rfl)
      · skip
        refine goBlock (i := 1) (by kernel_rfl) (by kernel_rfl) ?_
        refine goSeq (by kernel_rfl) ?_
        refine goReg (N := 57) (hints := []) (l := [1, 2, 7, 8, 9, 10]) (m := [2]) (s₂ := ⟨[(1, one (ci .u64 (x1))), (2, one (.ptr 2 0)), (7, one (ci .u64 (j486))), (8, one (ci .u64 (j445))), (9, one (ci .u64 (j446))), (10, one (ci .i64 (j447)))], [(2, 59, [ci .u64 (x0.c0), ci .u64 (x0.c1), cb x0.c2])]⟩) (ob := True ∧ True) (by kernel_rfl) hN (by kernel_rfl) ⟨trivial, trivial⟩ (by decide) (by decide) ?_
        refine thenC ?_
        refine goSeqK (l := [1, 2, 7, 8, 9, 10, 11]) (m := [2]) (K := fun s => ∃ (x1 : Int) (j486 : Int) (j445 : Int) (j446 : Int) (j447 : Int) (x0 : T_glazierref01_Wide) (j554 : Int), glazierref01_parts_j3 (fun a0 a1 a2 a3 a4 a5 => glazierref01_parts_l1 n1 fl a0 a1 a2 a3 a4 a5) fl x1 j486 j445 j446 j447 x0 j554 = some r ∧ s = ⟨[(1, one (ci .u64 (x1))), (2, one (.ptr 2 0)), (7, one (ci .u64 (j486))), (8, one (ci .u64 (j445))), (9, one (ci .u64 (j446))), (10, one (ci .i64 (j447))), (11, one (ci .u64 (j554)))], [(2, 59, [ci .u64 (x0.c0), ci .u64 (x0.c1), cb x0.c2])]⟩) (by kernel_rfl) (by decide) (by decide) ?_ ?_
        · skip
          rintro _ ⟨x1, j486, j445, j446, j447, x0, j554, h, rfl⟩
          unfold glazierref01_parts_j3 at h
          refine goSeq (by kernel_rfl) ?_
          refine goReg (N := 57) (hints := []) (l := [1, 2, 7, 8, 9, 10, 11, 12]) (m := [2]) (s₂ := ⟨[(1, one (ci .u64 (x1))), (2, one (.ptr 2 0)), (7, one (ci .u64 (j486))), (8, one (ci .u64 (j445))), (9, one (ci .u64 (j446))), (10, one (ci .i64 (j447))), (11, one (ci .u64 (j554))), (12, one (cb (decide ((j446) ≥ 9223372036854775808))))], [(2, 59, [ci .u64 (x0.c0), ci .u64 (x0.c1), cb x0.c2])]⟩) (ob := True ∧ True ∧ True ∧ True) (by kernel_rfl) hN (by kernel_rfl) ⟨trivial, trivial, trivial, trivial⟩ (by decide) (by decide) ?_
          refine thenC ?_
          refine goSeq (by kernel_rfl) ?_
          obtain ⟨v555, ev555, h⟩ := bnd_some h
          refine goReg (N := 57) (hints := [(3, .val (one (ci .u64 v555)))]) (l := [1, 2, 7, 8, 9, 10, 12]) (m := [2]) (s₂ := ⟨[(1, one (ci .u64 (x1))), (2, one (.ptr 2 0)), (7, one (ci .u64 (j486))), (8, one (ci .u64 (j445))), (9, one (ci .u64 (v555))), (10, one (ci .i64 (j447))), (12, one (cb (decide ((j446) ≥ 9223372036854775808))))], [(2, 59, [ci .u64 (x0.c0), ci .u64 (x0.c1), cb x0.c2])]⟩) (ob := True ∧ True ∧ True ∧ (True ∧ one (ci .u64 ((IntKind.wrap .u64 (((IntKind.wrap .u64 ((j446) * 2))) + (j554))))) = one (ci .u64 v555)) ∧ True ∧ True) (by kernel_rfl) hN (by kernel_rfl) ⟨trivial, trivial, trivial, ⟨trivial, congrArg (fun x => one (ci .u64 x)) ev555⟩, trivial, trivial⟩ (by decide) (by decide) ?_
          refine thenC ?_
          refine goSeq (by kernel_rfl) ?_
          obtain ⟨v556, ev556, h⟩ := bnd_some h
          obtain ⟨v557, ev557, h⟩ := bnd_some h
          refine goReg (N := 57) (hints := [(3, .val (one (ci .u64 v556))), (4, .val (one (ci .u64 v557)))]) (l := [1, 2, 7, 8, 9, 10, 12]) (m := [2]) (s₂ := ⟨[(1, one (ci .u64 (x1))), (2, one (.ptr 2 0)), (7, one (ci .u64 (v557))), (8, one (ci .u64 (j445))), (9, one (ci .u64 (v555))), (10, one (ci .i64 (j447))), (12, one (cb (decide ((j446) ≥ 9223372036854775808))))], [(2, 59, [ci .u64 (x0.c0), ci .u64 (x0.c1), cb x0.c2])]⟩) (ob := True ∧ True ∧ True ∧ (((9223372036854775808 : Int) ≠ 0) ∧ one (ci .u64 ((IntKind.wrap .u64 (Int.tdiv (j445) 9223372036854775808)))) = one (ci .u64 v556)) ∧ (True ∧ one (ci .u64 ((IntKind.wrap .u64 (((IntKind.wrap .u64 ((j486) * 2))) + (v556))))) = one (ci .u64 v557)) ∧ True ∧ True) (by kernel_rfl) hN (by kernel_rfl) ⟨trivial, trivial, trivial, ⟨(by decide), congrArg (fun x => one (ci .u64 x)) ev556⟩, ⟨trivial, congrArg (fun x => one (ci .u64 x)) ev557⟩, trivial, trivial⟩ (by decide) (by decide) ?_
          refine thenC ?_
          refine goSeq (by kernel_rfl) ?_
          refine goReg (N := 57) (hints := []) (l := [1, 2, 7, 8, 9, 10, 12]) (m := [2]) (s₂ := ⟨[(1, one (ci .u64 (x1))), (2, one (.ptr 2 0)), (7, one (ci .u64 (v557))), (8, one (ci .u64 ((IntKind.wrap .u64 ((j445) * 2))))), (9, one (ci .u64 (v555))), (10, one (ci .i64 (j447))), (12, one (cb (decide ((j446) ≥ 9223372036854775808))))], [(2, 59, [ci .u64 (x0.c0), ci .u64 (x0.c1), cb x0.c2])]⟩) (ob := True ∧ True ∧ True ∧ True) (by kernel_rfl) hN (by kernel_rfl) ⟨trivial, trivial, trivial, trivial⟩ (by decide) (by decide) ?_
          refine thenC ?_
          refine goSeq (by kernel_rfl) ?_
          rcases fork_some h with ⟨c558, h⟩ | ⟨c558, h⟩
          · skip
            refine goReg (N := 57) (hints := [(1, .bool true)]) (l := [1, 2, 7, 8, 9, 10, 45, 46, 47, 48]) (m := [2]) (s₂ := ⟨[(1, one (ci .u64 (x1))), (2, one (.ptr 2 0)), (7, one (ci .u64 (v557))), (8, one (ci .u64 ((IntKind.wrap .u64 ((j445) * 2))))), (9, one (ci .u64 (v555))), (10, one (ci .i64 (j447))), (45, ⟨.tup [], []⟩), (46, ⟨.tup [], []⟩), (47, ⟨.tup [], []⟩), (48, one (cb true))], [(2, 59, [ci .u64 (x0.c0), ci .u64 (x0.c1), cb x0.c2])]⟩) (ob := True ∧ (True ∧ (decide ((j446) ≥ 9223372036854775808)) = true) ∧ True ∧ True ∧ True ∧ True ∧ True) (by kernel_rfl) hN (by kernel_rfl) ⟨trivial, ⟨trivial, c558⟩, trivial, trivial, trivial, trivial, trivial⟩ (by decide) (by decide) ?_
            refine thenC ?_
            refine goCondT (by kernel_rfl) (by kernel_rfl) ?_
            refine goSeq (by kernel_rfl) ?_
            refine goReg (N := 57) (hints := []) (l := [1, 2, 7, 8, 9, 10, 45, 46, 47]) (m := [2]) (s₂ := ⟨[(1, one (ci .u64 (x1))), (2, one (.ptr 2 0)), (7, one (ci .u64 (v557))), (8, one (ci .u64 ((IntKind.wrap .u64 ((j445) * 2))))), (9, one (ci .u64 ((IntKind.wrap .u64 ((v555) - (x1)))))), (10, one (ci .i64 (j447))), (45, ⟨.tup [], []⟩), (46, ⟨.tup [], []⟩), (47, ⟨.tup [], []⟩)], [(2, 59, [ci .u64 (x0.c0), ci .u64 (x0.c1), cb x0.c2])]⟩) (ob := True ∧ True ∧ True ∧ True ∧ True) (by kernel_rfl) hN (by kernel_rfl) ⟨trivial, trivial, trivial, trivial, trivial⟩ (by decide) (by decide) ?_
            refine thenC ?_
            obtain ⟨v559, ev559, h⟩ := bnd_some h
            refine goReg (N := 57) (hints := [(1, .val (one (ci .u64 v559)))]) (l := [1, 2, 7, 8, 9, 10, 45, 46, 47]) (m := [2]) (s₂ := ⟨[(1, one (ci .u64 (x1))), (2, one (.ptr 2 0)), (7, one (ci .u64 (v557))), (8, one (ci .u64 (v559))), (9, one (ci .u64 ((IntKind.wrap .u64 ((v555) - (x1)))))), (10, one (ci .i64 (j447))), (45, ⟨.tup [], []⟩), (46, ⟨.tup [], []⟩), (47, ⟨.tup [], []⟩)], [(2, 59, [ci .u64 (x0.c0), ci .u64 (x0.c1), cb x0.c2])]⟩) (ob := True ∧ (True ∧ one (ci .u64 ((IntKind.wrap .u64 (((IntKind.wrap .u64 ((j445) * 2))) + 1)))) = one (ci .u64 v559)) ∧ True ∧ True) (by kernel_rfl) hN (by kernel_rfl) ⟨trivial, ⟨trivial, congrArg (fun x => one (ci .u64 x)) ev559⟩, trivial, trivial⟩ (by decide) (by decide) ?_
            refine blkN ?_
            exact Fit.mk [] ⟨x1, v557, j447, x0, v559, ((IntKind.wrap .u64 ((v555) - (x1)))), h, rfl⟩ (by kernel_rfl)
          · skip
            rcases fork_some h with ⟨c560, h⟩ | ⟨c560, h⟩
            · skip
              refine goReg (N := 57) (hints := [(1, .bool false), (5, .bool true)]) (l := [1, 2, 7, 8, 9, 10, 45, 46, 47, 48]) (m := [2]) (s₂ := ⟨[(1, one (ci .u64 (x1))), (2, one (.ptr 2 0)), (7, one (ci .u64 (v557))), (8, one (ci .u64 ((IntKind.wrap .u64 ((j445) * 2))))), (9, one (ci .u64 (v555))), (10, one (ci .i64 (j447))), (45, one (ci .u64 (v555))), (46, one (ci .u64 (x1))), (47, one (cb (decide ((v555) ≥ (x1))))), (48, one (cb true))], [(2, 59, [ci .u64 (x0.c0), ci .u64 (x0.c1), cb x0.c2])]⟩) (ob := True ∧ (True ∧ (decide ((j446) ≥ 9223372036854775808)) = false) ∧ True ∧ True ∧ True ∧ (True ∧ (decide ((v555) ≥ (x1))) = true) ∧ True) (by kernel_rfl) hN (by kernel_rfl) ⟨trivial, ⟨trivial, c558⟩, trivial, trivial, trivial, ⟨trivial, c560⟩, trivial⟩ (by decide) (by decide) ?_
              refine thenC ?_
              refine goCondT (by kernel_rfl) (by kernel_rfl) ?_
              refine goSeq (by kernel_rfl) ?_
              refine goReg (N := 57) (hints := []) (l := [1, 2, 7, 8, 9, 10, 45, 46, 47]) (m := [2]) (s₂ := ⟨[(1, one (ci .u64 (x1))), (2, one (.ptr 2 0)), (7, one (ci .u64 (v557))), (8, one (ci .u64 ((IntKind.wrap .u64 ((j445) * 2))))), (9, one (ci .u64 ((IntKind.wrap .u64 ((v555) - (x1)))))), (10, one (ci .i64 (j447))), (45, one (ci .u64 (v555))), (46, one (ci .u64 (x1))), (47, one (cb (decide ((v555) ≥ (x1)))))], [(2, 59, [ci .u64 (x0.c0), ci .u64 (x0.c1), cb x0.c2])]⟩) (ob := True ∧ True ∧ True ∧ True ∧ True) (by kernel_rfl) hN (by kernel_rfl) ⟨trivial, trivial, trivial, trivial, trivial⟩ (by decide) (by decide) ?_
              refine thenC ?_
              obtain ⟨v561, ev561, h⟩ := bnd_some h
              refine goReg (N := 57) (hints := [(1, .val (one (ci .u64 v561)))]) (l := [1, 2, 7, 8, 9, 10, 45, 46, 47]) (m := [2]) (s₂ := ⟨[(1, one (ci .u64 (x1))), (2, one (.ptr 2 0)), (7, one (ci .u64 (v557))), (8, one (ci .u64 (v561))), (9, one (ci .u64 ((IntKind.wrap .u64 ((v555) - (x1)))))), (10, one (ci .i64 (j447))), (45, one (ci .u64 (v555))), (46, one (ci .u64 (x1))), (47, one (cb (decide ((v555) ≥ (x1)))))], [(2, 59, [ci .u64 (x0.c0), ci .u64 (x0.c1), cb x0.c2])]⟩) (ob := True ∧ (True ∧ one (ci .u64 ((IntKind.wrap .u64 (((IntKind.wrap .u64 ((j445) * 2))) + 1)))) = one (ci .u64 v561)) ∧ True ∧ True) (by kernel_rfl) hN (by kernel_rfl) ⟨trivial, ⟨trivial, congrArg (fun x => one (ci .u64 x)) ev561⟩, trivial, trivial⟩ (by decide) (by decide) ?_
              refine blkN ?_
              exact Fit.mk [] ⟨x1, v557, j447, x0, v561, ((IntKind.wrap .u64 ((v555) - (x1)))), h, rfl⟩ (by kernel_rfl)
            · skip
              refine goReg (N := 57) (hints := [(1, .bool false), (5, .bool false)]) (l := [1, 2, 7, 8, 9, 10, 45, 46, 47, 48]) (m := [2]) (s₂ := ⟨[(1, one (ci .u64 (x1))), (2, one (.ptr 2 0)), (7, one (ci .u64 (v557))), (8, one (ci .u64 ((IntKind.wrap .u64 ((j445) * 2))))), (9, one (ci .u64 (v555))), (10, one (ci .i64 (j447))), (45, one (ci .u64 (v555))), (46, one (ci .u64 (x1))), (47, one (cb (decide ((v555) ≥ (x1))))), (48, one (cb false))], [(2, 59, [ci .u64 (x0.c0), ci .u64 (x0.c1), cb x0.c2])]⟩) (ob := True ∧ (True ∧ (decide ((j446) ≥ 9223372036854775808)) = false) ∧ True ∧ True ∧ True ∧ (True ∧ (decide ((v555) ≥ (x1))) = false) ∧ True) (by kernel_rfl) hN (by kernel_rfl) ⟨trivial, ⟨trivial, c558⟩, trivial, trivial, trivial, ⟨trivial, c560⟩, trivial⟩ (by decide) (by decide) ?_
              refine thenC ?_
              refine goCondF (by kernel_rfl) (by kernel_rfl) ?_
              refine goSkip (by kernel_rfl) ?_
              refine blkN ?_
              exact Fit.mk [] ⟨x1, v557, j447, x0, ((IntKind.wrap .u64 ((j445) * 2))), v555, h, rfl⟩ (by kernel_rfl)
        · skip
          refine goSeq (by kernel_rfl) ?_
          rcases fork_some h with ⟨c562, h⟩ | ⟨c562, h⟩
          · skip
            refine goReg (N := 57) (hints := [(1, .bool true)]) (l := [1, 2, 7, 8, 9, 10, 18]) (m := [2]) (s₂ := ⟨[(1, one (ci .u64 (x1))), (2, one (.ptr 2 0)), (7, one (ci .u64 (j486))), (8, one (ci .u64 (j445))), (9, one (ci .u64 (j446))), (10, one (ci .i64 (j447))), (18, one (cb true))], [(2, 59, [ci .u64 (x0.c0), ci .u64 (x0.c1), cb x0.c2])]⟩) (ob := True ∧ (True ∧ (decide ((j447) > 63)) = true) ∧ True) (by kernel_rfl) hN (by kernel_rfl) ⟨trivial, ⟨trivial, c562⟩, trivial⟩ (by decide) (by decide) ?_
            refine thenC ?_
            refine goCondT (by kernel_rfl) (by kernel_rfl) ?_
            obtain ⟨g563, h⟩ := guard_some h
            obtain ⟨v564, ev564, h⟩ := bnd_some h
            refine goReg (N := 57) (hints := [(4, .val (one (ci .u64 v564)))]) (l := [1, 2, 7, 8, 9, 10, 11]) (m := [2]) (s₂ := ⟨[(1, one (ci .u64 (x1))), (2, one (.ptr 2 0)), (7, one (ci .u64 (j486))), (8, one (ci .u64 (j445))), (9, one (ci .u64 (j446))), (10, one (ci .i64 (j447))), (11, one (ci .u64 ((Int.tmod (v564) 2))))], [(2, 59, [ci .u64 (x0.c0), ci .u64 (x0.c1), cb x0.c2])]⟩) (ob := True ∧ True ∧ True ∧ True ∧ ((0 ≤ ((IntKind.wrap .i64 ((j447) - 64)))) ∧ one (ci .u64 ((Int.fdiv (x0.c0) (2 ^ (min (Int.toNat ((IntKind.wrap .i64 ((j447) - 64)))) 64))))) = one (ci .u64 v564)) ∧ ((2 : Int) ≠ 0) ∧ True ∧ True) (by kernel_rfl) hN (by kernel_rfl) ⟨trivial, trivial, trivial, trivial, ⟨g563, congrArg (fun x => one (ci .u64 x)) ev564⟩, (by decide), trivial, trivial⟩ (by decide) (by decide) ?_
            exact Fit.mk [] ⟨x1, j486, j445, j446, j447, x0, ((Int.tmod (v564) 2)), h, rfl⟩ (by kernel_rfl)
          · skip
            refine goReg (N := 57) (hints := [(1, .bool false)]) (l := [1, 2, 7, 8, 9, 10, 18]) (m := [2]) (s₂ := ⟨[(1, one (ci .u64 (x1))), (2, one (.ptr 2 0)), (7, one (ci .u64 (j486))), (8, one (ci .u64 (j445))), (9, one (ci .u64 (j446))), (10, one (ci .i64 (j447))), (18, one (cb false))], [(2, 59, [ci .u64 (x0.c0), ci .u64 (x0.c1), cb x0.c2])]⟩) (ob := True ∧ (True ∧ (decide ((j447) > 63)) = false) ∧ True) (by kernel_rfl) hN (by kernel_rfl) ⟨trivial, ⟨trivial, c562⟩, trivial⟩ (by decide) (by decide) ?_
            refine thenC ?_
            refine goCondF (by kernel_rfl) (by kernel_rfl) ?_
            obtain ⟨g565, h⟩ := guard_some h
            obtain ⟨v566, ev566, h⟩ := bnd_some h
            refine goReg (N := 57) (hints := [(4, .val (one (ci .u64 v566)))]) (l := [1, 2, 7, 8, 9, 10, 11]) (m := [2]) (s₂ := ⟨[(1, one (ci .u64 (x1))), (2, one (.ptr 2 0)), (7, one (ci .u64 (j486))), (8, one (ci .u64 (j445))), (9, one (ci .u64 (j446))), (10, one (ci .i64 (j447))), (11, one (ci .u64 (v566)))], [(2, 59, [ci .u64 (x0.c0), ci .u64 (x0.c1), cb x0.c2])]⟩) (ob := True ∧ True ∧ True ∧ (0 ≤ (j447)) ∧ (((2 : Int) ≠ 0) ∧ one (ci .u64 ((Int.tmod ((Int.fdiv (x0.c1) (2 ^ (min (Int.toNat (j447)) 64)))) 2))) = one (ci .u64 v566)) ∧ True ∧ True) (by kernel_rfl) hN (by kernel_rfl) ⟨trivial, trivial, trivial, g565, ⟨(by decide), congrArg (fun x => one (ci .u64 x)) ev566⟩, trivial, trivial⟩ (by decide) (by decide) ?_
            exact Fit.mk [] ⟨x1, j486, j445, j446, j447, x0, v566, h, rfl⟩ (by kernel_rfl)
    · skip
      refine goReg (N := 57) (hints := [(1, .bool false)]) (l := [1, 2, 7, 8, 9, 10, 14]) (m := [2]) (s₂ := ⟨[(1, one (ci .u64 (x1))), (2, one (.ptr 2 0)), (7, one (ci .u64 (j486))), (8, one (ci .u64 (j445))), (9, one (ci .u64 (j446))), (10, one (ci .i64 (j447))), (14, one (cb false))], [(2, 59, [ci .u64 (x0.c0), ci .u64 (x0.c1), cb x0.c2])]⟩) (ob := True ∧ (True ∧ (decide ((j447) ≥ 0)) = false) ∧ True) (by kernel_rfl) hN (by kernel_rfl) ⟨trivial, ⟨trivial, c528⟩, trivial⟩ (by decide) (by decide) ?_
      refine thenC ?_
      refine goCondF (by kernel_rfl) (by kernel_rfl) ?_
      refine goExit (i := 0) (by kernel_rfl) (by kernel_rfl) ?_
      refine thenExit ?_
      refine thenExit ?_
      refine blkHit rfl ?_
      refine thenC ?_
      refine goSeq (by kernel_rfl) ?_
      refine goReg (N := 57) (hints := []) (l := [4, 5, 6]) (m := []) (s₂ := ⟨[(4, one (ci .u64 (j486))), (5, one (ci .u64 (j445))), (6, one (ci .u64 (j446)))], []⟩) (ob := True ∧ True ∧ True ∧ True ∧ True ∧ True ∧ True) (by kernel_rfl) hN (by kernel_rfl) ⟨trivial, trivial, trivial, trivial, trivial, trivial, trivial⟩ (by decide) (by decide) ?_
      refine thenC ?_
      refine goRet (by kernel_rfl) ?_
      obtain rfl := top_some h
      exact retOk (by kernel_rfl)

theorem glazierref01_told_ok (x0 : Int) (x1 : Int) (x2 : Bool) (r : Int × Int) (h : glazierref01_told x0 x1 x2 = some r) : PureC Try.prog 36 [one (ci .u64 (x0)), one (ci .u64 (x1)), one (cb x2)] (⟨.tup [(false, 1), (false, 1)], [ci .i64 (r.1), ci .i64 (r.2)]⟩) := by
  refine fnOf (fn := Try.f36) (n := 25) (rs := [ResultVar.tmp 6, ResultVar.tmp 7]) (s := ⟨[(0, one (ci .u64 (x0))), (1, one (ci .u64 (x1))), (2, one (cb x2))], []⟩) (by kernel_rfl) (by kernel_rfl) (by kernel_rfl) (by kernel_rfl) (by kernel_rfl) (by kernel_rfl) (by kernel_rfl) (by kernel_rfl) (fun E hN => ?_)
  unfold glazierref01_told at h
  refine goSeq (by kernel_rfl) ?_
  refine goReg (N := 25) (hints := []) (l := [0, 1, 2]) (m := []) (s₂ := ⟨[(0, one (ci .u64 (x0))), (1, one (ci .u64 (x1))), (2, one (cb x2))], []⟩) (ob := True ∧ True ∧ True) (by kernel_rfl) hN (by kernel_rfl) ⟨trivial, trivial, trivial⟩ (by decide) (by decide) ?_
  refine thenC ?_
  refine goSeq (by kernel_rfl) ?_
  refine goReg (N := 25) (hints := []) (l := [0, 1, 2, 8]) (m := []) (s₂ := ⟨[(0, one (ci .u64 (x0))), (1, one (ci .u64 (x1))), (2, one (cb x2)), (8, one (ci .u64 9223372036854775807))], []⟩) (ob := True ∧ True) (by kernel_rfl) hN (by kernel_rfl) ⟨trivial, trivial⟩ (by decide) (by decide) ?_
  refine thenC ?_
  refine goSeqK (l := [0, 1, 2, 8]) (m := []) (K := fun s => ∃ (x0 : Int) (x1 : Int) (x2 : Bool) (j2 : Int), glazierref01_told_j1 x0 x1 x2 j2 = some r ∧ s = ⟨[(0, one (ci .u64 (x0))), (1, one (ci .u64 (x1))), (2, one (cb x2)), (8, one (ci .u64 (j2)))], []⟩) (by kernel_rfl) (by decide) (by decide) ?_ ?_
  · skip
    rintro _ ⟨x0, x1, x2, j2, h, rfl⟩
    unfold glazierref01_told_j1 at h
    refine goSeq (by kernel_rfl) ?_
    refine goSeq (by kernel_rfl) ?_
    rcases fork_some h with ⟨c5, h⟩ | ⟨c5, h⟩
    · skip
      refine goReg (N := 25) (hints := [(2, .bool true)]) (l := [1, 2, 18]) (m := []) (s₂ := ⟨[(1, one (ci .u64 (x1))), (2, one (cb x2)), (18, one (cb true))], []⟩) (ob := True ∧ True ∧ (True ∧ (decide ((x0) > 0)) = true) ∧ True ∧ True ∧ True ∧ True ∧ True) (by kernel_rfl) hN (by kernel_rfl) ⟨trivial, trivial, ⟨trivial, c5⟩, trivial, trivial, trivial, trivial, trivial⟩ (by decide) (by decide) ?_
      refine thenC ?_
      refine goCondT (by kernel_rfl) (by kernel_rfl) ?_
      refine goSeq (by kernel_rfl) ?_
      refine goReg (N := 25) (hints := []) (l := [6, 7]) (m := []) (s₂ := ⟨[(6, one (ci .i64 0)), (7, one (ci .i64 2))], []⟩) (ob := True ∧ True ∧ True) (by kernel_rfl) hN (by kernel_rfl) ⟨trivial, trivial, trivial⟩ (by decide) (by decide) ?_
      refine thenC ?_
      refine goRet (by kernel_rfl) ?_
      refine thenRet ?_
      obtain rfl := top_some h
      exact retOk (by kernel_rfl)
    · skip
      rcases fork_some h with ⟨c6, h⟩ | ⟨c6, h⟩
      · skip
        refine goReg (N := 25) (hints := [(2, .bool false), (6, .bool true)]) (l := [1, 2, 18]) (m := []) (s₂ := ⟨[(1, one (ci .u64 (x1))), (2, one (cb x2)), (18, one (cb true))], []⟩) (ob := True ∧ True ∧ (True ∧ (decide ((x0) > 0)) = false) ∧ True ∧ True ∧ True ∧ (True ∧ (decide ((x1) > (j2))) = true) ∧ True) (by kernel_rfl) hN (by kernel_rfl) ⟨trivial, trivial, ⟨trivial, c5⟩, trivial, trivial, trivial, ⟨trivial, c6⟩, trivial⟩ (by decide) (by decide) ?_
        refine thenC ?_
        refine goCondT (by kernel_rfl) (by kernel_rfl) ?_
        refine goSeq (by kernel_rfl) ?_
        refine goReg (N := 25) (hints := []) (l := [6, 7]) (m := []) (s₂ := ⟨[(6, one (ci .i64 0)), (7, one (ci .i64 2))], []⟩) (ob := True ∧ True ∧ True) (by kernel_rfl) hN (by kernel_rfl) ⟨trivial, trivial, trivial⟩ (by decide) (by decide) ?_
        refine thenC ?_
        refine goRet (by kernel_rfl) ?_
        refine thenRet ?_
        obtain rfl := top_some h
        exact retOk (by kernel_rfl)
      · skip
        refine goReg (N := 25) (hints := [(2, .bool false), (6, .bool false)]) (l := [1, 2, 18]) (m := []) (s₂ := ⟨[(1, one (ci .u64 (x1))), (2, one (cb x2)), (18, one (cb false))], []⟩) (ob := True ∧ True ∧ (True ∧ (decide ((x0) > 0)) = false) ∧ True ∧ True ∧ True ∧ (True ∧ (decide ((x1) > (j2))) = false) ∧ True) (by kernel_rfl) hN (by kernel_rfl) ⟨trivial, trivial, ⟨trivial, c5⟩, trivial, trivial, trivial, ⟨trivial, c6⟩, trivial⟩ (by decide) (by decide) ?_
        refine thenC ?_
        refine goCondF (by kernel_rfl) (by kernel_rfl) ?_
        refine goSkip (by kernel_rfl) ?_
        refine thenC ?_
        refine goSeq (by kernel_rfl) ?_
        refine goSeq (by kernel_rfl) ?_
        rcases fork_some h with ⟨c8, h⟩ | ⟨c8, h⟩
        · skip
          refine goReg (N := 25) (hints := [(0, .bool true)]) (l := [1, 19]) (m := []) (s₂ := ⟨[(1, one (ci .u64 (x1))), (19, one (cb true))], []⟩) (ob := (True ∧ (x2) = true) ∧ True) (by kernel_rfl) hN (by kernel_rfl) ⟨⟨trivial, c8⟩, trivial⟩ (by decide) (by decide) ?_
          refine thenC ?_
          refine goCondT (by kernel_rfl) (by kernel_rfl) ?_
          refine goSeq (by kernel_rfl) ?_
          refine goReg (N := 25) (hints := []) (l := [6, 7]) (m := []) (s₂ := ⟨[(6, one (ci .i64 ((IntKind.wrap .i64 ((IntKind.wrap .u64 (0 - (x1)))))))), (7, one (ci .i64 0))], []⟩) (ob := True ∧ True ∧ True ∧ True ∧ True ∧ True) (by kernel_rfl) hN (by kernel_rfl) ⟨trivial, trivial, trivial, trivial, trivial, trivial⟩ (by decide) (by decide) ?_
          refine thenC ?_
          refine goRet (by kernel_rfl) ?_
          refine thenRet ?_
          obtain rfl := top_some h
          exact retOk (by kernel_rfl)
        · skip
          refine goReg (N := 25) (hints := [(0, .bool false)]) (l := [1, 19]) (m := []) (s₂ := ⟨[(1, one (ci .u64 (x1))), (19, one (cb false))], []⟩) (ob := (True ∧ (x2) = false) ∧ True) (by kernel_rfl) hN (by kernel_rfl) ⟨⟨trivial, c8⟩, trivial⟩ (by decide) (by decide) ?_
          refine thenC ?_
          refine goCondF (by kernel_rfl) (by kernel_rfl) ?_
          refine goSkip (by kernel_rfl) ?_
          refine thenC ?_
          refine goSeq (by kernel_rfl) ?_
          refine goReg (N := 25) (hints := []) (l := [6, 7]) (m := []) (s₂ := ⟨[(6, one (ci .i64 ((IntKind.wrap .i64 (x1))))), (7, one (ci .i64 0))], []⟩) (ob := True ∧ True ∧ True ∧ True ∧ True) (by kernel_rfl) hN (by kernel_rfl) ⟨trivial, trivial, trivial, trivial, trivial⟩ (by decide) (by decide) ?_
          refine thenC ?_
          refine goRet (by kernel_rfl) ?_
          obtain rfl := top_some h
          exact retOk (by kernel_rfl)
  · skip
    refine goSeq (by kernel_rfl) ?_
    rcases fork_some h with ⟨c9, h⟩ | ⟨c9, h⟩
    · skip
      refine goReg (N := 25) (hints := [(0, .bool true)]) (l := [0, 1, 2, 8, 9]) (m := []) (s₂ := ⟨[(0, one (ci .u64 (x0))), (1, one (ci .u64 (x1))), (2, one (cb x2)), (8, one (ci .u64 9223372036854775807)), (9, one (cb true))], []⟩) (ob := (True ∧ (x2) = true) ∧ True) (by kernel_rfl) hN (by kernel_rfl) ⟨⟨trivial, c9⟩, trivial⟩ (by decide) (by decide) ?_
      refine thenC ?_
      refine goCondT (by kernel_rfl) (by kernel_rfl) ?_
      refine goReg (N := 25) (hints := []) (l := [0, 1, 2, 8]) (m := []) (s₂ := ⟨[(0, one (ci .u64 (x0))), (1, one (ci .u64 (x1))), (2, one (cb x2)), (8, one (ci .u64 9223372036854775808))], []⟩) (ob := True ∧ True ∧ True ∧ True) (by kernel_rfl) hN (by kernel_rfl) ⟨trivial, trivial, trivial, trivial⟩ (by decide) (by decide) ?_
      exact Fit.mk [] ⟨x0, x1, x2, (9223372036854775808), h, rfl⟩ (by kernel_rfl)
    · skip
      refine goReg (N := 25) (hints := [(0, .bool false)]) (l := [0, 1, 2, 8, 9]) (m := []) (s₂ := ⟨[(0, one (ci .u64 (x0))), (1, one (ci .u64 (x1))), (2, one (cb x2)), (8, one (ci .u64 9223372036854775807)), (9, one (cb false))], []⟩) (ob := (True ∧ (x2) = false) ∧ True) (by kernel_rfl) hN (by kernel_rfl) ⟨⟨trivial, c9⟩, trivial⟩ (by decide) (by decide) ?_
      refine thenC ?_
      refine goCondF (by kernel_rfl) (by kernel_rfl) ?_
      refine goSkip (by kernel_rfl) ?_
      exact Fit.mk [] ⟨x0, x1, x2, (9223372036854775807), h, rfl⟩ (by kernel_rfl)

theorem glazierref01_MulDiv_ok (fl : Nat) (x0 : Int) (x1 : Int) (x2 : Int) (r : Int × Int) (h : glazierref01_MulDiv fl x0 x1 x2 = some r) : PureC Try.prog 31 [one (ci .i64 (x0)), one (ci .i64 (x1)), one (ci .i64 (x2))] (⟨.tup [(false, 1), (false, 1)], [ci .i64 (r.1), ci .i64 (r.2)]⟩) := by
  refine fnOf (fn := Try.f31) (n := 58) (rs := [ResultVar.tmp 6, ResultVar.tmp 7]) (s := ⟨[(0, one (ci .i64 (x0))), (1, one (ci .i64 (x1))), (2, one (ci .i64 (x2)))], []⟩) (by kernel_rfl) (by kernel_rfl) (by kernel_rfl) (by kernel_rfl) (by kernel_rfl) (by kernel_rfl) (by kernel_rfl) (by kernel_rfl) (fun E hN => ?_)
  unfold glazierref01_MulDiv at h
  refine goSeq (by kernel_rfl) ?_
  refine goReg (N := 58) (hints := []) (l := [0, 1, 2]) (m := []) (s₂ := ⟨[(0, one (ci .i64 (x0))), (1, one (ci .i64 (x1))), (2, one (ci .i64 (x2)))], []⟩) (ob := True ∧ True ∧ True) (by kernel_rfl) hN (by kernel_rfl) ⟨trivial, trivial, trivial⟩ (by decide) (by decide) ?_
  refine thenC ?_
  refine goSeq (by kernel_rfl) ?_
  refine goSeq (by kernel_rfl) ?_
  rcases fork_some h with ⟨c2, h⟩ | ⟨c2, h⟩
  · skip
    refine goReg (N := 58) (hints := [(1, .bool true)]) (l := [0, 1, 2, 14]) (m := []) (s₂ := ⟨[(0, one (ci .i64 (x0))), (1, one (ci .i64 (x1))), (2, one (ci .i64 (x2))), (14, one (cb true))], []⟩) (ob := True ∧ (True ∧ (((x2) == 0)) = true) ∧ True) (by kernel_rfl) hN (by kernel_rfl) ⟨trivial, ⟨trivial, c2⟩, trivial⟩ (by decide) (by decide) ?_
    refine thenC ?_
    refine goCondT (by kernel_rfl) (by kernel_rfl) ?_
    refine goSeq (by kernel_rfl) ?_
    refine goReg (N := 58) (hints := []) (l := [6, 7]) (m := []) (s₂ := ⟨[(6, one (ci .i64 0)), (7, one (ci .i64 3))], []⟩) (ob := True ∧ True ∧ True) (by kernel_rfl) hN (by kernel_rfl) ⟨trivial, trivial, trivial⟩ (by decide) (by decide) ?_
    refine thenC ?_
    refine goRet (by kernel_rfl) ?_
    refine thenRet ?_
    obtain rfl := top_some h
    exact retOk (by kernel_rfl)
  · skip
    refine goReg (N := 58) (hints := [(1, .bool false)]) (l := [0, 1, 2, 14]) (m := []) (s₂ := ⟨[(0, one (ci .i64 (x0))), (1, one (ci .i64 (x1))), (2, one (ci .i64 (x2))), (14, one (cb false))], []⟩) (ob := True ∧ (True ∧ (((x2) == 0)) = false) ∧ True) (by kernel_rfl) hN (by kernel_rfl) ⟨trivial, ⟨trivial, c2⟩, trivial⟩ (by decide) (by decide) ?_
    refine thenC ?_
    refine goCondF (by kernel_rfl) (by kernel_rfl) ?_
    refine goSkip (by kernel_rfl) ?_
    refine thenC ?_
    refine goSeq (by kernel_rfl) ?_
    obtain ⟨q3, hq3, h⟩ := bind_some h
    refine goReg (N := 58) (hints := [(2, .call (agg [ci .u64 (q3.c0), ci .u64 (q3.c1), cb q3.c2]))]) (l := [2, 8]) (m := [8]) (s₂ := ⟨[(2, one (ci .i64 (x2))), (8, one (.ptr 8 0))], [(8, 59, [ci .u64 (q3.c0), ci .u64 (q3.c1), cb q3.c2])]⟩) (ob := True ∧ True ∧ PureC Try.prog 33 [one (ci .i64 (x0)), one (ci .i64 (x1))] (agg [ci .u64 (q3.c0), ci .u64 (q3.c1), cb q3.c2]) ∧ True ∧ True ∧ True) (by kernel_rfl) hN (by kernel_rfl) ⟨trivial, trivial, (glazierref01_times_ok fl (x0) (x1) _ hq3), trivial, trivial, trivial⟩ (by decide) (by decide) ?_
    refine thenC ?_
    refine goSeqK (l := [2, 8, 9]) (m := [8]) (K := fun s => ∃ (x2 : Int) (q3 : T_glazierref01_Wide) (j6 : Bool), glazierref01_MulDiv_j1 fl x2 q3 j6 = some r ∧ s = ⟨[(2, one (ci .i64 (x2))), (8, one (.ptr 8 0)), (9, one (cb j6))], [(8, 59, [ci .u64 (q3.c0), ci .u64 (q3.c1), cb q3.c2])]⟩) (by kernel_rfl) (by decide) (by decide) ?_ ?_
    · skip
      rintro _ ⟨x2, q3, j6, h, rfl⟩
      unfold glazierref01_MulDiv_j1 at h
      refine goSeq (by kernel_rfl) ?_
      obtain ⟨q7, hq7, h⟩ := bind_some h
      obtain ⟨q8, hq8, h⟩ := bind_some h
      refine goDraw (N := 58) (m0 := 11) (hints := [(2, .call (one (ci .u64 (q7)))), (3, .call (⟨.tup [(false, 1), (false, 1), (false, 1)], [ci .u64 (q8.1), ci .u64 (q8.2.1), ci .u64 (q8.2.2)]⟩))]) (l := [9, 10, 11, 12]) (m := []) (s₂ := ⟨[(9, one (cb j6)), (10, one (ci .u64 (q8.1))), (11, one (ci .u64 (q8.2.1))), (12, one (ci .u64 (q8.2.2)))], []⟩) (ob := (True ∧ True ∧ PureC Try.prog 35 [one (ci .i64 (x2))] (one (ci .u64 (q7))) ∧ PureC Try.prog 34 [agg [ci .u64 (q3.c0), ci .u64 (q3.c1), cb q3.c2], one (ci .u64 (q7))] (⟨.tup [(false, 1), (false, 1), (false, 1)], [ci .u64 (q8.1), ci .u64 (q8.2.1), ci .u64 (q8.2.2)]⟩) ∧ True ∧ True ∧ True ∧ True ∧ True ∧ True ∧ True ∧ True) ∧ (True)) (by kernel_rfl) hN (by kernel_rfl) (by kernel_rfl) ⟨⟨trivial, trivial, (glazierref01_size_ok (x2) _ hq7), (glazierref01_parts_ok fl q3 (q7) _ hq8), trivial, trivial, trivial, trivial, trivial, trivial, trivial, trivial⟩, trivial⟩ (by decide) (by decide) ?_
      refine thenC ?_
      refine goSeqK (l := [9, 10, 11]) (m := []) (K := fun s => ∃ (j6 : Bool) (j12 : Int) (j13 : Int), glazierref01_MulDiv_j2 fl j6 j12 j13 = some r ∧ s = ⟨[(9, one (cb j6)), (10, one (ci .u64 (j12))), (11, one (ci .u64 (j13)))], []⟩) (by kernel_rfl) (by decide) (by decide) ?_ ?_
      · skip
        rintro _ ⟨j6, j12, j13, h, rfl⟩
        unfold glazierref01_MulDiv_j2 at h
        refine goSeq (by kernel_rfl) ?_
        obtain ⟨q14, hq14, h⟩ := bind_some h
        refine goReg (N := 58) (hints := [(3, .call (⟨.tup [(false, 1), (false, 1)], [ci .i64 (q14.1), ci .i64 (q14.2)]⟩))]) (l := [6, 7]) (m := []) (s₂ := ⟨[(6, one (ci .i64 (q14.1))), (7, one (ci .i64 (q14.2)))], []⟩) (ob := True ∧ True ∧ True ∧ PureC Try.prog 36 [one (ci .u64 (j12)), one (ci .u64 (j13)), one (cb j6)] (⟨.tup [(false, 1), (false, 1)], [ci .i64 (q14.1), ci .i64 (q14.2)]⟩) ∧ True ∧ True ∧ True ∧ True ∧ True) (by kernel_rfl) hN (by kernel_rfl) ⟨trivial, trivial, trivial, (glazierref01_told_ok (j12) (j13) (j6) _ hq14), trivial, trivial, trivial, trivial, trivial⟩ (by decide) (by decide) ?_
        refine thenC ?_
        refine goRet (by kernel_rfl) ?_
        obtain rfl := top_some h
        exact retOk (by kernel_rfl)
      · skip
        refine goSeq (by kernel_rfl) ?_
        rcases fork_some h with ⟨c15, h⟩ | ⟨c15, h⟩
        · skip
          rcases fork_some h with ⟨c16, h⟩ | ⟨c16, h⟩
          · skip
            refine goReg (N := 58) (hints := [(1, .bool true), (4, .bool true)]) (l := [9, 10, 11, 45]) (m := []) (s₂ := ⟨[(9, one (cb j6)), (10, one (ci .u64 (q8.1))), (11, one (ci .u64 (q8.2.1))), (45, one (cb true))], []⟩) (ob := True ∧ (True ∧ (j6) = true) ∧ True ∧ True ∧ (True ∧ (decide ((q8.2.2) > 0)) = true) ∧ True) (by kernel_rfl) hN (by kernel_rfl) ⟨trivial, ⟨trivial, c15⟩, trivial, trivial, ⟨trivial, c16⟩, trivial⟩ (by decide) (by decide) ?_
            refine thenC ?_
            refine goCondT (by kernel_rfl) (by kernel_rfl) ?_
            refine goSeq (by kernel_rfl) ?_
            refine goReg (N := 58) (hints := []) (l := [9, 10, 11]) (m := []) (s₂ := ⟨[(9, one (cb j6)), (10, one (ci .u64 (q8.1))), (11, one (ci .u64 ((IntKind.wrap .u64 ((q8.2.1) + 1)))))], []⟩) (ob := True ∧ True ∧ True ∧ True) (by kernel_rfl) hN (by kernel_rfl) ⟨trivial, trivial, trivial, trivial⟩ (by decide) (by decide) ?_
            refine thenC ?_
            refine goSeq (by kernel_rfl) ?_
            rcases fork_some h with ⟨c17, h⟩ | ⟨c17, h⟩
            · skip
              refine goReg (N := 58) (hints := [(1, .bool true)]) (l := [9, 10, 11, 49]) (m := []) (s₂ := ⟨[(9, one (cb j6)), (10, one (ci .u64 (q8.1))), (11, one (ci .u64 ((IntKind.wrap .u64 ((q8.2.1) + 1))))), (49, one (cb true))], []⟩) (ob := True ∧ (True ∧ ((((IntKind.wrap .u64 ((q8.2.1) + 1))) == 0)) = true) ∧ True) (by kernel_rfl) hN (by kernel_rfl) ⟨trivial, ⟨trivial, c17⟩, trivial⟩ (by decide) (by decide) ?_
              refine thenC ?_
              refine goCondT (by kernel_rfl) (by kernel_rfl) ?_
              refine goReg (N := 58) (hints := []) (l := [9, 10, 11]) (m := []) (s₂ := ⟨[(9, one (cb j6)), (10, one (ci .u64 ((IntKind.wrap .u64 ((q8.1) + 1))))), (11, one (ci .u64 ((IntKind.wrap .u64 ((q8.2.1) + 1)))))], []⟩) (ob := True ∧ True ∧ True ∧ True) (by kernel_rfl) hN (by kernel_rfl) ⟨trivial, trivial, trivial, trivial⟩ (by decide) (by decide) ?_
              exact Fit.mk [] ⟨j6, ((IntKind.wrap .u64 ((q8.1) + 1))), ((IntKind.wrap .u64 ((q8.2.1) + 1))), h, rfl⟩ (by kernel_rfl)
            · skip
              refine goReg (N := 58) (hints := [(1, .bool false)]) (l := [9, 10, 11, 49]) (m := []) (s₂ := ⟨[(9, one (cb j6)), (10, one (ci .u64 (q8.1))), (11, one (ci .u64 ((IntKind.wrap .u64 ((q8.2.1) + 1))))), (49, one (cb false))], []⟩) (ob := True ∧ (True ∧ ((((IntKind.wrap .u64 ((q8.2.1) + 1))) == 0)) = false) ∧ True) (by kernel_rfl) hN (by kernel_rfl) ⟨trivial, ⟨trivial, c17⟩, trivial⟩ (by decide) (by decide) ?_
              refine thenC ?_
              refine goCondF (by kernel_rfl) (by kernel_rfl) ?_
              refine goSkip (by kernel_rfl) ?_
              exact Fit.mk [] ⟨j6, q8.1, ((IntKind.wrap .u64 ((q8.2.1) + 1))), h, rfl⟩ (by kernel_rfl)
          · skip
            refine goReg (N := 58) (hints := [(1, .bool true), (4, .bool false)]) (l := [9, 10, 11, 45]) (m := []) (s₂ := ⟨[(9, one (cb j6)), (10, one (ci .u64 (q8.1))), (11, one (ci .u64 (q8.2.1))), (45, one (cb false))], []⟩) (ob := True ∧ (True ∧ (j6) = true) ∧ True ∧ True ∧ (True ∧ (decide ((q8.2.2) > 0)) = false) ∧ True) (by kernel_rfl) hN (by kernel_rfl) ⟨trivial, ⟨trivial, c15⟩, trivial, trivial, ⟨trivial, c16⟩, trivial⟩ (by decide) (by decide) ?_
            refine thenC ?_
            refine goCondF (by kernel_rfl) (by kernel_rfl) ?_
            refine goSkip (by kernel_rfl) ?_
            exact Fit.mk [] ⟨j6, q8.1, q8.2.1, h, rfl⟩ (by kernel_rfl)
        · skip
          refine goReg (N := 58) (hints := [(1, .bool false)]) (l := [9, 10, 11, 45]) (m := []) (s₂ := ⟨[(9, one (cb j6)), (10, one (ci .u64 (q8.1))), (11, one (ci .u64 (q8.2.1))), (45, one (cb false))], []⟩) (ob := True ∧ (True ∧ (j6) = false) ∧ True ∧ True ∧ True ∧ True) (by kernel_rfl) hN (by kernel_rfl) ⟨trivial, ⟨trivial, c15⟩, trivial, trivial, trivial, trivial⟩ (by decide) (by decide) ?_
          refine thenC ?_
          refine goCondF (by kernel_rfl) (by kernel_rfl) ?_
          refine goSkip (by kernel_rfl) ?_
          exact Fit.mk [] ⟨j6, q8.1, q8.2.1, h, rfl⟩ (by kernel_rfl)
    · skip
      rcases fork_some h with ⟨c18, h⟩ | ⟨c18, h⟩
      · skip
        rcases fork_some h with ⟨c19, h⟩ | ⟨c19, h⟩
        · skip
          refine goReg (N := 58) (hints := [(5, .bool true), (9, .bool true)]) (l := [2, 8, 9]) (m := [8]) (s₂ := ⟨[(2, one (ci .i64 (x2))), (8, one (.ptr 8 0)), (9, one (cb true))], [(8, 59, [ci .u64 (q3.c0), ci .u64 (q3.c1), cb q3.c2])]⟩) (ob := True ∧ True ∧ True ∧ True ∧ True ∧ (True ∧ ((!(q3.c2 == decide ((x2) < 0)))) = true) ∧ True ∧ True ∧ True ∧ (True ∧ (decide ((q3.c0) > 0)) = true) ∧ True ∧ True ∧ True ∧ True ∧ True ∧ True ∧ True) (by kernel_rfl) hN (by kernel_rfl) ⟨trivial, trivial, trivial, trivial, trivial, ⟨trivial, c18⟩, trivial, trivial, trivial, ⟨trivial, c19⟩, trivial, trivial, trivial, trivial, trivial, trivial, trivial⟩ (by decide) (by decide) ?_
          exact Fit.mk [] ⟨x2, q3, true, h, rfl⟩ (by kernel_rfl)
        · skip
          refine goReg (N := 58) (hints := [(5, .bool true), (9, .bool false)]) (l := [2, 8, 9]) (m := [8]) (s₂ := ⟨[(2, one (ci .i64 (x2))), (8, one (.ptr 8 0)), (9, one (cb (decide ((q3.c1) > 0))))], [(8, 59, [ci .u64 (q3.c0), ci .u64 (q3.c1), cb q3.c2])]⟩) (ob := True ∧ True ∧ True ∧ True ∧ True ∧ (True ∧ ((!(q3.c2 == decide ((x2) < 0)))) = true) ∧ True ∧ True ∧ True ∧ (True ∧ (decide ((q3.c0) > 0)) = false) ∧ True ∧ True ∧ True ∧ True ∧ True ∧ True ∧ True) (by kernel_rfl) hN (by kernel_rfl) ⟨trivial, trivial, trivial, trivial, trivial, ⟨trivial, c18⟩, trivial, trivial, trivial, ⟨trivial, c19⟩, trivial, trivial, trivial, trivial, trivial, trivial, trivial⟩ (by decide) (by decide) ?_
          exact Fit.mk [] ⟨x2, q3, (decide ((q3.c1) > 0)), h, rfl⟩ (by kernel_rfl)
      · skip
        refine goReg (N := 58) (hints := [(5, .bool false)]) (l := [2, 8, 9]) (m := [8]) (s₂ := ⟨[(2, one (ci .i64 (x2))), (8, one (.ptr 8 0)), (9, one (cb false))], [(8, 59, [ci .u64 (q3.c0), ci .u64 (q3.c1), cb q3.c2])]⟩) (ob := True ∧ True ∧ True ∧ True ∧ True ∧ (True ∧ ((!(q3.c2 == decide ((x2) < 0)))) = false) ∧ True ∧ True ∧ True ∧ True ∧ True ∧ True ∧ True ∧ True ∧ True ∧ True ∧ True) (by kernel_rfl) hN (by kernel_rfl) ⟨trivial, trivial, trivial, trivial, trivial, ⟨trivial, c18⟩, trivial, trivial, trivial, trivial, trivial, trivial, trivial, trivial, trivial, trivial, trivial⟩ (by decide) (by decide) ?_
        exact Fit.mk [] ⟨x2, q3, false, h, rfl⟩ (by kernel_rfl)

theorem glazierref01_Floor_ok (fl : Nat) (x0 : Int) (x1 : Int) (r : Int × Int) (h : glazierref01_Floor fl x0 x1 = some r) : PureC Try.prog 28 [one (ci .i64 (x0)), one (ci .i64 (x1))] (⟨.tup [(false, 1), (false, 1)], [ci .i64 (r.1), ci .i64 (r.2)]⟩) := by
  refine fnOf (fn := Try.f28) (n := 11) (rs := [ResultVar.tmp 4, ResultVar.tmp 5]) (s := ⟨[(0, one (ci .i64 (x0))), (1, one (ci .i64 (x1)))], []⟩) (by kernel_rfl) (by kernel_rfl) (by kernel_rfl) (by kernel_rfl) (by kernel_rfl) (by kernel_rfl) (by kernel_rfl) (by kernel_rfl) (fun E hN => ?_)
  unfold glazierref01_Floor at h
  refine goSeq (by kernel_rfl) ?_
  refine goReg (N := 11) (hints := []) (l := [0, 1]) (m := []) (s₂ := ⟨[(0, one (ci .i64 (x0))), (1, one (ci .i64 (x1)))], []⟩) (ob := True ∧ True ∧ True) (by kernel_rfl) hN (by kernel_rfl) ⟨trivial, trivial, trivial⟩ (by decide) (by decide) ?_
  refine thenC ?_
  refine goSeq (by kernel_rfl) ?_
  obtain ⟨q1, hq1, h⟩ := bind_some h
  refine goReg (N := 11) (hints := [(2, .call (⟨.tup [(false, 1), (false, 1)], [ci .i64 (q1.1), ci .i64 (q1.2)]⟩))]) (l := [4, 5]) (m := []) (s₂ := ⟨[(4, one (ci .i64 (q1.1))), (5, one (ci .i64 (q1.2)))], []⟩) (ob := True ∧ True ∧ PureC Try.prog 31 [one (ci .i64 (x0)), one (ci .i64 1), one (ci .i64 (x1))] (⟨.tup [(false, 1), (false, 1)], [ci .i64 (q1.1), ci .i64 (q1.2)]⟩) ∧ True ∧ True ∧ True ∧ True ∧ True) (by kernel_rfl) hN (by kernel_rfl) ⟨trivial, trivial, (glazierref01_MulDiv_ok fl (x0) (1) (x1) _ hq1), trivial, trivial, trivial, trivial, trivial⟩ (by decide) (by decide) ?_
  refine thenC ?_
  refine goRet (by kernel_rfl) ?_
  obtain rfl := top_some h
  exact retOk (by kernel_rfl)

theorem glazierref01_Down_ok (fl : Nat) (x0 : Int) (x1 : Int) (r : Int) (h : glazierref01_Down fl x0 x1 = some r) : PureC Try.prog 21 [one (ci .i64 (x0)), one (ci .i64 (x1))] (one (ci .i64 (r))) := by
  refine fnOf (fn := Try.f21) (n := 14) (rs := [ResultVar.tmp 4]) (s := ⟨[(0, one (ci .i64 (x0))), (1, one (ci .i64 (x1)))], []⟩) (by kernel_rfl) (by kernel_rfl) (by kernel_rfl) (by kernel_rfl) (by kernel_rfl) (by kernel_rfl) (by kernel_rfl) (by kernel_rfl) (fun E hN => ?_)
  unfold glazierref01_Down at h
  refine goSeq (by kernel_rfl) ?_
  refine goReg (N := 14) (hints := []) (l := [0, 1]) (m := []) (s₂ := ⟨[(0, one (ci .i64 (x0))), (1, one (ci .i64 (x1)))], []⟩) (ob := True ∧ True) (by kernel_rfl) hN (by kernel_rfl) ⟨trivial, trivial⟩ (by decide) (by decide) ?_
  refine thenC ?_
  refine goSeq (by kernel_rfl) ?_
  obtain ⟨q1, hq1, h⟩ := bind_some h
  refine goReg (N := 14) (hints := [(2, .call (⟨.tup [(false, 1), (false, 1)], [ci .i64 (q1.1), ci .i64 (q1.2)]⟩))]) (l := [5]) (m := []) (s₂ := ⟨[(5, one (ci .i64 (q1.1)))], []⟩) (ob := True ∧ True ∧ PureC Try.prog 28 [one (ci .i64 (x0)), one (ci .i64 (x1))] (⟨.tup [(false, 1), (false, 1)], [ci .i64 (q1.1), ci .i64 (q1.2)]⟩) ∧ True ∧ True ∧ True ∧ True ∧ True ∧ True) (by kernel_rfl) hN (by kernel_rfl) ⟨trivial, trivial, (glazierref01_Floor_ok fl (x0) (x1) _ hq1), trivial, trivial, trivial, trivial, trivial, trivial⟩ (by decide) (by decide) ?_
  refine thenC ?_
  refine goSeq (by kernel_rfl) ?_
  refine goReg (N := 14) (hints := []) (l := [4]) (m := []) (s₂ := ⟨[(4, one (ci .i64 (q1.1)))], []⟩) (ob := True ∧ True ∧ True) (by kernel_rfl) hN (by kernel_rfl) ⟨trivial, trivial, trivial⟩ (by decide) (by decide) ?_
  refine thenC ?_
  refine goRet (by kernel_rfl) ?_
  obtain rfl := top_some h
  exact retOk (by kernel_rfl)


end Go.Proofs.Ytmiffokcdmehhaa.G
