/- Each Go function comes to its plain one: printed by program. Part 0. -/
import Derived.Test.YtmiffokcdmehhaaGenV1
import Derived.Test.YtmiffokcdmehhaaProg
set_option linter.unusedVariables false
namespace Go.Proofs.Ytmiffokcdmehhaa.G
open Go Go.RowKit Go.Proofs.Ytmiffokcdmehhaa.E

theorem vec_Dist_ok (x0 : Int) (x1 : T_api_Vec) (r : Int) (h : vec_Dist x0 x1 = some r) : PureC Try.prog 11 [one (ci .i64 (x0)), agg [ci .i64 (x1.c0), ci .i64 (x1.c1), ci .i64 (x1.c2), ci .i64 (x1.c3), ci .i64 (x1.c4), ci .i64 (x1.c5), ci .i64 (x1.c6), ci .i64 (x1.c7)]] (one (ci .i64 (r))) := by
  refine fnOf (fn := Try.f11) (n := 39) (rs := [ResultVar.tmp 4]) (s := ⟨[(0, one (ci .i64 (x0))), (1, agg [ci .i64 (x1.c0), ci .i64 (x1.c1), ci .i64 (x1.c2), ci .i64 (x1.c3), ci .i64 (x1.c4), ci .i64 (x1.c5), ci .i64 (x1.c6), ci .i64 (x1.c7)])], []⟩) (by kernel_rfl) (by kernel_rfl) (by kernel_rfl) (by kernel_rfl) (by kernel_rfl) (by kernel_rfl) (by kernel_rfl) (by kernel_rfl) (fun E hN => ?_)
  unfold vec_Dist at h
  refine goSeq (by kernel_rfl) ?_
  refine goReg (N := 39) (hints := []) (l := [0, 3]) (m := [3]) (s₂ := ⟨[(0, one (ci .i64 (x0))), (3, one (.ptr 3 0))], [(3, 24, [ci .i64 (x1.c0), ci .i64 (x1.c1), ci .i64 (x1.c2), ci .i64 (x1.c3), ci .i64 (x1.c4), ci .i64 (x1.c5), ci .i64 (x1.c6), ci .i64 (x1.c7)])]⟩) (ob := True ∧ True ∧ True) (by kernel_rfl) hN (by kernel_rfl) ⟨trivial, trivial, trivial⟩ (by decide) (by decide) ?_
  refine thenC ?_
  refine goSeq (by kernel_rfl) ?_
  refine goSeq (by kernel_rfl) ?_
  rcases fork_some h with ⟨c3, h⟩ | ⟨c3, h⟩
  · skip
    refine goReg (N := 39) (hints := [(2, .bool true)]) (l := [0, 3, 11]) (m := [3]) (s₂ := ⟨[(0, one (ci .i64 (x0))), (3, one (.ptr 3 0)), (11, one (cb true))], [(3, 24, [ci .i64 (x1.c0), ci .i64 (x1.c1), ci .i64 (x1.c2), ci .i64 (x1.c3), ci .i64 (x1.c4), ci .i64 (x1.c5), ci .i64 (x1.c6), ci .i64 (x1.c7)])]⟩) (ob := True ∧ True ∧ (True ∧ (decide ((x0) < 0)) = true) ∧ True ∧ True ∧ True ∧ True) (by kernel_rfl) hN (by kernel_rfl) ⟨trivial, trivial, ⟨trivial, c3⟩, trivial, trivial, trivial, trivial⟩ (by decide) (by decide) ?_
    refine thenC ?_
    refine goCondT (by kernel_rfl) (by kernel_rfl) ?_
    refine goSeq (by kernel_rfl) ?_
    refine goReg (N := 39) (hints := []) (l := [4]) (m := []) (s₂ := ⟨[(4, one (ci .i64 0))], []⟩) (ob := True ∧ True) (by kernel_rfl) hN (by kernel_rfl) ⟨trivial, trivial⟩ (by decide) (by decide) ?_
    refine thenC ?_
    refine goRet (by kernel_rfl) ?_
    refine thenRet ?_
    obtain rfl := top_some h
    exact retOk (by kernel_rfl)
  · skip
    rcases fork_some h with ⟨c4, h⟩ | ⟨c4, h⟩
    · skip
      refine goReg (N := 39) (hints := [(2, .bool false), (5, .bool true)]) (l := [0, 3, 11]) (m := [3]) (s₂ := ⟨[(0, one (ci .i64 (x0))), (3, one (.ptr 3 0)), (11, one (cb true))], [(3, 24, [ci .i64 (x1.c0), ci .i64 (x1.c1), ci .i64 (x1.c2), ci .i64 (x1.c3), ci .i64 (x1.c4), ci .i64 (x1.c5), ci .i64 (x1.c6), ci .i64 (x1.c7)])]⟩) (ob := True ∧ True ∧ (True ∧ (decide ((x0) < 0)) = false) ∧ True ∧ True ∧ (True ∧ (decide ((x0) ≥ 5)) = true) ∧ True) (by kernel_rfl) hN (by kernel_rfl) ⟨trivial, trivial, ⟨trivial, c3⟩, trivial, trivial, ⟨trivial, c4⟩, trivial⟩ (by decide) (by decide) ?_
      refine thenC ?_
      refine goCondT (by kernel_rfl) (by kernel_rfl) ?_
      refine goSeq (by kernel_rfl) ?_
      refine goReg (N := 39) (hints := []) (l := [4]) (m := []) (s₂ := ⟨[(4, one (ci .i64 0))], []⟩) (ob := True ∧ True) (by kernel_rfl) hN (by kernel_rfl) ⟨trivial, trivial⟩ (by decide) (by decide) ?_
      refine thenC ?_
      refine goRet (by kernel_rfl) ?_
      refine thenRet ?_
      obtain rfl := top_some h
      exact retOk (by kernel_rfl)
    · skip
      refine goReg (N := 39) (hints := [(2, .bool false), (5, .bool false)]) (l := [0, 3, 11]) (m := [3]) (s₂ := ⟨[(0, one (ci .i64 (x0))), (3, one (.ptr 3 0)), (11, one (cb false))], [(3, 24, [ci .i64 (x1.c0), ci .i64 (x1.c1), ci .i64 (x1.c2), ci .i64 (x1.c3), ci .i64 (x1.c4), ci .i64 (x1.c5), ci .i64 (x1.c6), ci .i64 (x1.c7)])]⟩) (ob := True ∧ True ∧ (True ∧ (decide ((x0) < 0)) = false) ∧ True ∧ True ∧ (True ∧ (decide ((x0) ≥ 5)) = false) ∧ True) (by kernel_rfl) hN (by kernel_rfl) ⟨trivial, trivial, ⟨trivial, c3⟩, trivial, trivial, ⟨trivial, c4⟩, trivial⟩ (by decide) (by decide) ?_
      refine thenC ?_
      refine goCondF (by kernel_rfl) (by kernel_rfl) ?_
      refine goSkip (by kernel_rfl) ?_
      refine thenC ?_
      refine goSeq (by kernel_rfl) ?_
      refine goReg (N := 39) (hints := []) (l := [0, 3, 5]) (m := [3]) (s₂ := ⟨[(0, one (ci .i64 (x0))), (3, one (.ptr 3 0)), (5, one (ci .i64 ((IntKind.wrap .i64 (4 * (x1.c3))))))], [(3, 24, [ci .i64 (x1.c0), ci .i64 (x1.c1), ci .i64 (x1.c2), ci .i64 (x1.c3), ci .i64 (x1.c4), ci .i64 (x1.c5), ci .i64 (x1.c6), ci .i64 (x1.c7)])]⟩) (ob := True ∧ True ∧ True ∧ True ∧ True) (by kernel_rfl) hN (by kernel_rfl) ⟨trivial, trivial, trivial, trivial, trivial⟩ (by decide) (by decide) ?_
      refine thenC ?_
      refine goSeq (by kernel_rfl) ?_
      obtain ⟨v5, ev5, h⟩ := bnd_some h
      obtain ⟨v6, ev6, h⟩ := bnd_some h
      obtain ⟨v7, ev7, h⟩ := bnd_some h
      obtain ⟨v8, ev8, h⟩ := bnd_some h
      obtain ⟨gv9, h⟩ := guard_some h
      obtain ⟨v9, hv9, h⟩ := bind_some h
      refine goReg (N := 39) (hints := [(8, .val (one (ci .i64 v5))), (12, .val (one (ci .i64 v6))), (16, .val (one (ci .i64 v7))), (20, .val (one (ci .i64 v8))), (23, .val (one (ci .i64 (v9))))]) (l := [4]) (m := []) (s₂ := ⟨[(4, one (ci .i64 (v9)))], []⟩) (ob := True ∧ True ∧ True ∧ True ∧ True ∧ True ∧ True ∧ True ∧ (True ∧ one (ci .i64 ((IntKind.wrap .i64 (((IntKind.wrap .i64 (4 * (x1.c3)))) + (x1.c0))))) = one (ci .i64 v5)) ∧ True ∧ True ∧ True ∧ (True ∧ one (ci .i64 ((IntKind.wrap .i64 (((IntKind.wrap .i64 (4 * (x1.c3)))) - (x1.c0))))) = one (ci .i64 v6)) ∧ True ∧ True ∧ True ∧ (True ∧ one (ci .i64 ((IntKind.wrap .i64 (((IntKind.wrap .i64 (4 * (x1.c3)))) + (x1.c1))))) = one (ci .i64 v7)) ∧ True ∧ True ∧ True ∧ (True ∧ one (ci .i64 ((IntKind.wrap .i64 (((IntKind.wrap .i64 (4 * (x1.c3)))) - (x1.c1))))) = one (ci .i64 v8)) ∧ True ∧ True ∧ ((0 ≤ (x0)) ∧ ((x0) < 5) ∧ (List.map (fun x => Cell.v (Value.int .i64 x)) [(IntKind.wrap .i64 ((x1.c2) + (x1.c3))), v5, v6, v7, v8])[Int.toNat (x0) * 1]? = some (ci .i64 (v9))) ∧ True ∧ True) (by kernel_rfl) hN (by kernel_rfl) ⟨trivial, trivial, trivial, trivial, trivial, trivial, trivial, trivial, ⟨trivial, congrArg (fun x => one (ci .i64 x)) ev5⟩, trivial, trivial, trivial, ⟨trivial, congrArg (fun x => one (ci .i64 x)) ev6⟩, trivial, trivial, trivial, ⟨trivial, congrArg (fun x => one (ci .i64 x)) ev7⟩, trivial, trivial, trivial, ⟨trivial, congrArg (fun x => one (ci .i64 x)) ev8⟩, trivial, trivial, ⟨gv9.1, gv9.2, ix_map hv9⟩, trivial, trivial⟩ (by decide) (by decide) ?_
      refine thenC ?_
      refine goRet (by kernel_rfl) ?_
      obtain rfl := top_some h
      exact retOk (by kernel_rfl)

theorem vec_row_ok (x0 : T_api_Vec) (r : T_8_int) (h : vec_row x0 = some r) : PureC Try.prog 18 [agg [ci .i64 (x0.c0), ci .i64 (x0.c1), ci .i64 (x0.c2), ci .i64 (x0.c3), ci .i64 (x0.c4), ci .i64 (x0.c5), ci .i64 (x0.c6), ci .i64 (x0.c7)]] (agg [ci .i64 (r.c0), ci .i64 (r.c1), ci .i64 (r.c2), ci .i64 (r.c3), ci .i64 (r.c4), ci .i64 (r.c5), ci .i64 (r.c6), ci .i64 (r.c7)]) := by
  refine fnOf (fn := Try.f18) (n := 24) (rs := [ResultVar.cell 2 36]) (s := ⟨[(0, agg [ci .i64 (x0.c0), ci .i64 (x0.c1), ci .i64 (x0.c2), ci .i64 (x0.c3), ci .i64 (x0.c4), ci .i64 (x0.c5), ci .i64 (x0.c6), ci .i64 (x0.c7)])], []⟩) (by kernel_rfl) (by kernel_rfl) (by kernel_rfl) (by kernel_rfl) (by kernel_rfl) (by kernel_rfl) (by kernel_rfl) (by kernel_rfl) (fun E hN => ?_)
  unfold vec_row at h
  refine goSeq (by kernel_rfl) ?_
  refine goReg (N := 24) (hints := []) (l := [1, 2]) (m := [1, 2]) (s₂ := ⟨[(1, one (.ptr 1 0)), (2, one (.ptr 2 0))], [(1, 24, [ci .i64 (x0.c0), ci .i64 (x0.c1), ci .i64 (x0.c2), ci .i64 (x0.c3), ci .i64 (x0.c4), ci .i64 (x0.c5), ci .i64 (x0.c6), ci .i64 (x0.c7)]), (2, 36, [ci .i64 0, ci .i64 0, ci .i64 0, ci .i64 0, ci .i64 0, ci .i64 0, ci .i64 0, ci .i64 0])]⟩) (ob := True ∧ True ∧ True) (by kernel_rfl) hN (by kernel_rfl) ⟨trivial, trivial, trivial⟩ (by decide) (by decide) ?_
  refine thenC ?_
  refine goSeq (by kernel_rfl) ?_
  refine goReg (N := 24) (hints := []) (l := [2]) (m := [2]) (s₂ := ⟨[(2, one (.ptr 2 0))], [(2, 36, [ci .i64 (x0.c0), ci .i64 (x0.c1), ci .i64 (x0.c2), ci .i64 (x0.c3), ci .i64 (x0.c4), ci .i64 (x0.c5), ci .i64 (x0.c6), ci .i64 (x0.c7)])]⟩) (ob := True ∧ True ∧ True ∧ True ∧ True ∧ True ∧ True ∧ True ∧ True ∧ (0 ≤ (0 : Int) ∧ (0 : Int) < 4) ∧ True ∧ True ∧ (0 ≤ (1 : Int) ∧ (1 : Int) < 4) ∧ True ∧ True ∧ (0 ≤ (2 : Int) ∧ (2 : Int) < 4) ∧ True ∧ True ∧ (0 ≤ (3 : Int) ∧ (3 : Int) < 4) ∧ True ∧ True ∧ True ∧ True) (by kernel_rfl) hN (by kernel_rfl) ⟨trivial, trivial, trivial, trivial, trivial, trivial, trivial, trivial, trivial, (by decide), trivial, trivial, (by decide), trivial, trivial, (by decide), trivial, trivial, (by decide), trivial, trivial, trivial, trivial⟩ (by decide) (by decide) ?_
  refine thenC ?_
  refine goRet (by kernel_rfl) ?_
  obtain rfl := top_some h
  exact retOk (by kernel_rfl)

theorem fixed_size_ok (x0 : Int) (r : Int) (h : fixed_size x0 = some r) : PureC Try.prog 25 [one (ci .i64 (x0))] (one (ci .u64 (r))) := by
  refine fnOf (fn := Try.f25) (n := 8) (rs := [ResultVar.tmp 2]) (s := ⟨[(0, one (ci .i64 (x0)))], []⟩) (by kernel_rfl) (by kernel_rfl) (by kernel_rfl) (by kernel_rfl) (by kernel_rfl) (by kernel_rfl) (by kernel_rfl) (by kernel_rfl) (fun E hN => ?_)
  unfold fixed_size at h
  refine goSeq (by kernel_rfl) ?_
  refine goReg (N := 8) (hints := []) (l := [0]) (m := []) (s₂ := ⟨[(0, one (ci .i64 (x0)))], []⟩) (ob := True ∧ True) (by kernel_rfl) hN (by kernel_rfl) ⟨trivial, trivial⟩ (by decide) (by decide) ?_
  refine thenC ?_
  refine goSeq (by kernel_rfl) ?_
  obtain ⟨v1, ev1, h⟩ := bnd_some h
  refine goReg (N := 8) (hints := [(3, .val (one (ci .i64 v1)))]) (l := [2]) (m := []) (s₂ := ⟨[(2, one (ci .u64 ((IntKind.wrap .u64 (v1)))))], []⟩) (ob := True ∧ True ∧ True ∧ (True ∧ one (ci .i64 ((if ((IntKind.wrap .i64 (0 - (x0)))) > (x0) then ((IntKind.wrap .i64 (0 - (x0)))) else (x0)))) = one (ci .i64 v1)) ∧ True ∧ True ∧ True) (by kernel_rfl) hN (by kernel_rfl) ⟨trivial, trivial, trivial, ⟨trivial, congrArg (fun x => one (ci .i64 x)) ev1⟩, trivial, trivial, trivial⟩ (by decide) (by decide) ?_
  refine thenC ?_
  refine goRet (by kernel_rfl) ?_
  obtain rfl := top_some h
  exact retOk (by kernel_rfl)

theorem math_bits_Mul64_ok (x0 : Int) (x1 : Int) (r : Int × Int) (h : math_bits_Mul64 x0 x1 = some r) : PureC Try.prog 24 [one (ci .u64 (x0)), one (ci .u64 (x1))] (⟨.tup [(false, 1), (false, 1)], [ci .u64 (r.1), ci .u64 (r.2)]⟩) := by
  refine fnOf (fn := Try.f24) (n := 51) (rs := [ResultVar.tmp 4, ResultVar.tmp 5]) (s := ⟨[(0, one (ci .u64 (x0))), (1, one (ci .u64 (x1)))], []⟩) (by kernel_rfl) (by kernel_rfl) (by kernel_rfl) (by kernel_rfl) (by kernel_rfl) (by kernel_rfl) (by kernel_rfl) (by kernel_rfl) (fun E hN => ?_)
  unfold math_bits_Mul64 at h
  refine goSeq (by kernel_rfl) ?_
  refine goReg (N := 51) (hints := []) (l := [0, 1]) (m := []) (s₂ := ⟨[(0, one (ci .u64 (x0))), (1, one (ci .u64 (x1)))], []⟩) (ob := True ∧ True ∧ True) (by kernel_rfl) hN (by kernel_rfl) ⟨trivial, trivial, trivial⟩ (by decide) (by decide) ?_
  refine thenC ?_
  refine goSeq (by kernel_rfl) ?_
  obtain ⟨v1, ev1, h⟩ := bnd_some h
  refine goReg (N := 51) (hints := [(1, .val (one (ci .u64 v1)))]) (l := [0, 1, 6]) (m := []) (s₂ := ⟨[(0, one (ci .u64 (x0))), (1, one (ci .u64 (x1))), (6, one (ci .u64 (v1)))], []⟩) (ob := True ∧ (True ∧ one (ci .u64 ((IntKind.wrap .u64 ((BitVec.toNat (BitVec.ofInt 64 (x0) &&& (BitVec.ofInt 64 4294967295)) : Nat) : Int)))) = one (ci .u64 v1)) ∧ True ∧ True) (by kernel_rfl) hN (by kernel_rfl) ⟨trivial, ⟨trivial, congrArg (fun x => one (ci .u64 x)) ev1⟩, trivial, trivial⟩ (by decide) (by decide) ?_
  refine thenC ?_
  refine goSeq (by kernel_rfl) ?_
  refine goReg (N := 51) (hints := []) (l := [0, 1, 6, 7]) (m := []) (s₂ := ⟨[(0, one (ci .u64 (x0))), (1, one (ci .u64 (x1))), (6, one (ci .u64 (v1))), (7, one (ci .u64 ((Int.fdiv (x0) (2 ^ 32)))))], []⟩) (ob := True ∧ (0 ≤ (32 : Int)) ∧ True ∧ True) (by kernel_rfl) hN (by kernel_rfl) ⟨trivial, (by decide), trivial, trivial⟩ (by decide) (by decide) ?_
  refine thenC ?_
  refine goSeq (by kernel_rfl) ?_
  obtain ⟨v2, ev2, h⟩ := bnd_some h
  refine goReg (N := 51) (hints := [(1, .val (one (ci .u64 v2)))]) (l := [0, 1, 6, 7, 8]) (m := []) (s₂ := ⟨[(0, one (ci .u64 (x0))), (1, one (ci .u64 (x1))), (6, one (ci .u64 (v1))), (7, one (ci .u64 ((Int.fdiv (x0) (2 ^ 32))))), (8, one (ci .u64 (v2)))], []⟩) (ob := True ∧ (True ∧ one (ci .u64 ((IntKind.wrap .u64 ((BitVec.toNat (BitVec.ofInt 64 (x1) &&& (BitVec.ofInt 64 4294967295)) : Nat) : Int)))) = one (ci .u64 v2)) ∧ True ∧ True) (by kernel_rfl) hN (by kernel_rfl) ⟨trivial, ⟨trivial, congrArg (fun x => one (ci .u64 x)) ev2⟩, trivial, trivial⟩ (by decide) (by decide) ?_
  refine thenC ?_
  refine goSeq (by kernel_rfl) ?_
  refine goReg (N := 51) (hints := []) (l := [0, 1, 6, 7, 8, 9]) (m := []) (s₂ := ⟨[(0, one (ci .u64 (x0))), (1, one (ci .u64 (x1))), (6, one (ci .u64 (v1))), (7, one (ci .u64 ((Int.fdiv (x0) (2 ^ 32))))), (8, one (ci .u64 (v2))), (9, one (ci .u64 ((Int.fdiv (x1) (2 ^ 32)))))], []⟩) (ob := True ∧ (0 ≤ (32 : Int)) ∧ True ∧ True) (by kernel_rfl) hN (by kernel_rfl) ⟨trivial, (by decide), trivial, trivial⟩ (by decide) (by decide) ?_
  refine thenC ?_
  refine goSeq (by kernel_rfl) ?_
  refine goReg (N := 51) (hints := []) (l := [0, 1, 6, 7, 8, 9, 10]) (m := []) (s₂ := ⟨[(0, one (ci .u64 (x0))), (1, one (ci .u64 (x1))), (6, one (ci .u64 (v1))), (7, one (ci .u64 ((Int.fdiv (x0) (2 ^ 32))))), (8, one (ci .u64 (v2))), (9, one (ci .u64 ((Int.fdiv (x1) (2 ^ 32))))), (10, one (ci .u64 ((IntKind.wrap .u64 ((v1) * (v2))))))], []⟩) (ob := True ∧ True ∧ True ∧ True ∧ True) (by kernel_rfl) hN (by kernel_rfl) ⟨trivial, trivial, trivial, trivial, trivial⟩ (by decide) (by decide) ?_
  refine thenC ?_
  refine goSeq (by kernel_rfl) ?_
  obtain ⟨v3, ev3, h⟩ := bnd_some h
  refine goReg (N := 51) (hints := [(5, .val (one (ci .u64 v3)))]) (l := [0, 1, 6, 7, 9, 11]) (m := []) (s₂ := ⟨[(0, one (ci .u64 (x0))), (1, one (ci .u64 (x1))), (6, one (ci .u64 (v1))), (7, one (ci .u64 ((Int.fdiv (x0) (2 ^ 32))))), (9, one (ci .u64 ((Int.fdiv (x1) (2 ^ 32))))), (11, one (ci .u64 (v3)))], []⟩) (ob := True ∧ True ∧ True ∧ True ∧ (0 ≤ (32 : Int)) ∧ (True ∧ one (ci .u64 ((IntKind.wrap .u64 (((IntKind.wrap .u64 (((Int.fdiv (x0) (2 ^ 32))) * (v2)))) + ((Int.fdiv ((IntKind.wrap .u64 ((v1) * (v2)))) (2 ^ 32))))))) = one (ci .u64 v3)) ∧ True ∧ True) (by kernel_rfl) hN (by kernel_rfl) ⟨trivial, trivial, trivial, trivial, (by decide), ⟨trivial, congrArg (fun x => one (ci .u64 x)) ev3⟩, trivial, trivial⟩ (by decide) (by decide) ?_
  refine thenC ?_
  refine goSeq (by kernel_rfl) ?_
  obtain ⟨v4, ev4, h⟩ := bnd_some h
  refine goReg (N := 51) (hints := [(1, .val (one (ci .u64 v4)))]) (l := [0, 1, 6, 7, 9, 11, 12]) (m := []) (s₂ := ⟨[(0, one (ci .u64 (x0))), (1, one (ci .u64 (x1))), (6, one (ci .u64 (v1))), (7, one (ci .u64 ((Int.fdiv (x0) (2 ^ 32))))), (9, one (ci .u64 ((Int.fdiv (x1) (2 ^ 32))))), (11, one (ci .u64 (v3))), (12, one (ci .u64 (v4)))], []⟩) (ob := True ∧ (True ∧ one (ci .u64 ((IntKind.wrap .u64 ((BitVec.toNat (BitVec.ofInt 64 (v3) &&& (BitVec.ofInt 64 4294967295)) : Nat) : Int)))) = one (ci .u64 v4)) ∧ True ∧ True) (by kernel_rfl) hN (by kernel_rfl) ⟨trivial, ⟨trivial, congrArg (fun x => one (ci .u64 x)) ev4⟩, trivial, trivial⟩ (by decide) (by decide) ?_
  refine thenC ?_
  refine goSeq (by kernel_rfl) ?_
  refine goReg (N := 51) (hints := []) (l := [0, 1, 6, 7, 9, 12, 13]) (m := []) (s₂ := ⟨[(0, one (ci .u64 (x0))), (1, one (ci .u64 (x1))), (6, one (ci .u64 (v1))), (7, one (ci .u64 ((Int.fdiv (x0) (2 ^ 32))))), (9, one (ci .u64 ((Int.fdiv (x1) (2 ^ 32))))), (12, one (ci .u64 (v4))), (13, one (ci .u64 ((Int.fdiv (v3) (2 ^ 32)))))], []⟩) (ob := True ∧ (0 ≤ (32 : Int)) ∧ True ∧ True) (by kernel_rfl) hN (by kernel_rfl) ⟨trivial, (by decide), trivial, trivial⟩ (by decide) (by decide) ?_
  refine thenC ?_
  refine goSeq (by kernel_rfl) ?_
  obtain ⟨v5, ev5, h⟩ := bnd_some h
  refine goReg (N := 51) (hints := [(4, .val (one (ci .u64 v5)))]) (l := [0, 1, 7, 9, 12, 13]) (m := []) (s₂ := ⟨[(0, one (ci .u64 (x0))), (1, one (ci .u64 (x1))), (7, one (ci .u64 ((Int.fdiv (x0) (2 ^ 32))))), (9, one (ci .u64 ((Int.fdiv (x1) (2 ^ 32))))), (12, one (ci .u64 (v5))), (13, one (ci .u64 ((Int.fdiv (v3) (2 ^ 32)))))], []⟩) (ob := True ∧ True ∧ True ∧ True ∧ (True ∧ one (ci .u64 ((IntKind.wrap .u64 ((v4) + ((IntKind.wrap .u64 ((v1) * ((Int.fdiv (x1) (2 ^ 32)))))))))) = one (ci .u64 v5)) ∧ True ∧ True) (by kernel_rfl) hN (by kernel_rfl) ⟨trivial, trivial, trivial, trivial, ⟨trivial, congrArg (fun x => one (ci .u64 x)) ev5⟩, trivial, trivial⟩ (by decide) (by decide) ?_
  refine thenC ?_
  refine goSeq (by kernel_rfl) ?_
  obtain ⟨v6, ev6, h⟩ := bnd_some h
  obtain ⟨v7, ev7, h⟩ := bnd_some h
  refine goReg (N := 51) (hints := [(2, .val (one (ci .u64 v6))), (7, .val (one (ci .u64 v7)))]) (l := [0, 1, 4]) (m := []) (s₂ := ⟨[(0, one (ci .u64 (x0))), (1, one (ci .u64 (x1))), (4, one (ci .u64 (v7)))], []⟩) (ob := True ∧ True ∧ (True ∧ one (ci .u64 ((IntKind.wrap .u64 (((Int.fdiv (x0) (2 ^ 32))) * ((Int.fdiv (x1) (2 ^ 32))))))) = one (ci .u64 v6)) ∧ True ∧ True ∧ True ∧ (0 ≤ (32 : Int)) ∧ (True ∧ one (ci .u64 ((IntKind.wrap .u64 (((IntKind.wrap .u64 ((v6) + ((Int.fdiv (v3) (2 ^ 32)))))) + ((Int.fdiv (v5) (2 ^ 32))))))) = one (ci .u64 v7)) ∧ True ∧ True) (by kernel_rfl) hN (by kernel_rfl) ⟨trivial, trivial, ⟨trivial, congrArg (fun x => one (ci .u64 x)) ev6⟩, trivial, trivial, trivial, (by decide), ⟨trivial, congrArg (fun x => one (ci .u64 x)) ev7⟩, trivial, trivial⟩ (by decide) (by decide) ?_
  refine thenC ?_
  refine goSeq (by kernel_rfl) ?_
  refine goReg (N := 51) (hints := []) (l := [4, 5]) (m := []) (s₂ := ⟨[(4, one (ci .u64 (v7))), (5, one (ci .u64 ((IntKind.wrap .u64 ((x0) * (x1))))))], []⟩) (ob := True ∧ True ∧ True ∧ True ∧ True) (by kernel_rfl) hN (by kernel_rfl) ⟨trivial, trivial, trivial, trivial, trivial⟩ (by decide) (by decide) ?_
  refine thenC ?_
  refine goRet (by kernel_rfl) ?_
  obtain rfl := top_some h
  exact retOk (by kernel_rfl)

theorem math_bits_Div64_ok (x0 : Int) (x1 : Int) (x2 : Int) (r : Int × Int) (h : math_bits_Div64 x0 x1 x2 = some r) : PureC Try.prog 26 [one (ci .u64 (x0)), one (ci .u64 (x1)), one (ci .u64 (x2))] (⟨.tup [(false, 1), (false, 1)], [ci .u64 (r.1), ci .u64 (r.2)]⟩) := by
  refine fnOf (fn := Try.f26) (n := 135) (rs := [ResultVar.tmp 6, ResultVar.tmp 7]) (s := ⟨[(0, one (ci .u64 (x0))), (1, one (ci .u64 (x1))), (2, one (ci .u64 (x2)))], []⟩) (by kernel_rfl) (by kernel_rfl) (by kernel_rfl) (by kernel_rfl) (by kernel_rfl) (by kernel_rfl) (by kernel_rfl) (by kernel_rfl) (fun E hN => ?_)
  unfold math_bits_Div64 at h
  refine goSeq (by kernel_rfl) ?_
  refine goReg (N := 135) (hints := []) (l := [0, 1, 2]) (m := []) (s₂ := ⟨[(0, one (ci .u64 (x0))), (1, one (ci .u64 (x1))), (2, one (ci .u64 (x2)))], []⟩) (ob := True ∧ True ∧ True) (by kernel_rfl) hN (by kernel_rfl) ⟨trivial, trivial, trivial⟩ (by decide) (by decide) ?_
  refine thenC ?_
  refine goSeq (by kernel_rfl) ?_
  refine goSeq (by kernel_rfl) ?_
  rcases fork_some h with ⟨c2, h⟩ | ⟨c2, h⟩
  · skip
    refine goReg (N := 135) (hints := [(1, .bool true)]) (l := [0, 1, 2, 20]) (m := []) (s₂ := ⟨[(0, one (ci .u64 (x0))), (1, one (ci .u64 (x1))), (2, one (ci .u64 (x2))), (20, one (cb true))], []⟩) (ob := True ∧ (True ∧ (((x2) == 0)) = true) ∧ True) (by kernel_rfl) hN (by kernel_rfl) ⟨trivial, ⟨trivial, c2⟩, trivial⟩ (by decide) (by decide) ?_
    refine thenC ?_
    refine goCondT (by kernel_rfl) (by kernel_rfl) ?_
    cases h
  · skip
    refine goReg (N := 135) (hints := [(1, .bool false)]) (l := [0, 1, 2, 20]) (m := []) (s₂ := ⟨[(0, one (ci .u64 (x0))), (1, one (ci .u64 (x1))), (2, one (ci .u64 (x2))), (20, one (cb false))], []⟩) (ob := True ∧ (True ∧ (((x2) == 0)) = false) ∧ True) (by kernel_rfl) hN (by kernel_rfl) ⟨trivial, ⟨trivial, c2⟩, trivial⟩ (by decide) (by decide) ?_
    refine thenC ?_
    refine goCondF (by kernel_rfl) (by kernel_rfl) ?_
    refine goSkip (by kernel_rfl) ?_
    refine thenC ?_
    refine goSeq (by kernel_rfl) ?_
    refine goSeq (by kernel_rfl) ?_
    rcases fork_some h with ⟨c4, h⟩ | ⟨c4, h⟩
    · skip
      refine goReg (N := 135) (hints := [(2, .bool true)]) (l := [0, 1, 2, 24]) (m := []) (s₂ := ⟨[(0, one (ci .u64 (x0))), (1, one (ci .u64 (x1))), (2, one (ci .u64 (x2))), (24, one (cb true))], []⟩) (ob := True ∧ True ∧ (True ∧ (decide ((x2) ≤ (x0))) = true) ∧ True) (by kernel_rfl) hN (by kernel_rfl) ⟨trivial, trivial, ⟨trivial, c4⟩, trivial⟩ (by decide) (by decide) ?_
      refine thenC ?_
      refine goCondT (by kernel_rfl) (by kernel_rfl) ?_
      cases h
    · skip
      refine goReg (N := 135) (hints := [(2, .bool false)]) (l := [0, 1, 2, 24]) (m := []) (s₂ := ⟨[(0, one (ci .u64 (x0))), (1, one (ci .u64 (x1))), (2, one (ci .u64 (x2))), (24, one (cb false))], []⟩) (ob := True ∧ True ∧ (True ∧ (decide ((x2) ≤ (x0))) = false) ∧ True) (by kernel_rfl) hN (by kernel_rfl) ⟨trivial, trivial, ⟨trivial, c4⟩, trivial⟩ (by decide) (by decide) ?_
      refine thenC ?_
      refine goCondF (by kernel_rfl) (by kernel_rfl) ?_
      refine goSkip (by kernel_rfl) ?_
      refine thenC ?_
      refine goSeq (by kernel_rfl) ?_
      refine goSeq (by kernel_rfl) ?_
      rcases fork_some h with ⟨c8, h⟩ | ⟨c8, h⟩
      · skip
        refine goReg (N := 135) (hints := [(1, .bool true)]) (l := [0, 1, 2, 27]) (m := []) (s₂ := ⟨[(0, one (ci .u64 (x0))), (1, one (ci .u64 (x1))), (2, one (ci .u64 (x2))), (27, one (cb true))], []⟩) (ob := True ∧ (True ∧ (((x0) == 0)) = true) ∧ True) (by kernel_rfl) hN (by kernel_rfl) ⟨trivial, ⟨trivial, c8⟩, trivial⟩ (by decide) (by decide) ?_
        refine thenC ?_
        refine goCondT (by kernel_rfl) (by kernel_rfl) ?_
        refine goSeq (by kernel_rfl) ?_
        obtain ⟨g9, h⟩ := guard_some h
        obtain ⟨g10, h⟩ := guard_some h
        refine goDraw (N := 135) (m0 := 8) (hints := []) (l := [6, 7]) (m := []) (s₂ := ⟨[(6, one (ci .u64 ((IntKind.wrap .u64 (Int.tdiv (x1) (x2)))))), (7, one (ci .u64 ((Int.tmod (x1) (x2)))))], []⟩) (ob := (True ∧ True ∧ ((x2) ≠ 0) ∧ True ∧ True ∧ ((x2) ≠ 0) ∧ True ∧ True ∧ True) ∧ (True)) (by kernel_rfl) hN (by kernel_rfl) (by kernel_rfl) ⟨⟨trivial, trivial, g9, trivial, trivial, g10, trivial, trivial, trivial⟩, trivial⟩ (by decide) (by decide) ?_
        refine thenC ?_
        refine goRet (by kernel_rfl) ?_
        refine thenRet ?_
        obtain rfl := top_some h
        exact retOk (by kernel_rfl)
      · skip
        refine goReg (N := 135) (hints := [(1, .bool false)]) (l := [0, 1, 2, 27]) (m := []) (s₂ := ⟨[(0, one (ci .u64 (x0))), (1, one (ci .u64 (x1))), (2, one (ci .u64 (x2))), (27, one (cb false))], []⟩) (ob := True ∧ (True ∧ (((x0) == 0)) = false) ∧ True) (by kernel_rfl) hN (by kernel_rfl) ⟨trivial, ⟨trivial, c8⟩, trivial⟩ (by decide) (by decide) ?_
        refine thenC ?_
        refine goCondF (by kernel_rfl) (by kernel_rfl) ?_
        refine goSkip (by kernel_rfl) ?_
        refine thenC ?_
        refine goSeq (by kernel_rfl) ?_
        cases h

theorem fixed_checked_ok (x0 : Int) (x1 : Bool) (r : Int × Int) (h : fixed_checked x0 x1 = some r) : PureC Try.prog 30 [one (ci .i64 (x0)), one (cb x1)] (⟨.tup [(false, 1), (false, 1)], [ci .i64 (r.1), ci .i64 (r.2)]⟩) := by
  refine fnOf (fn := Try.f30) (n := 9) (rs := [ResultVar.tmp 4, ResultVar.tmp 5]) (s := ⟨[(0, one (ci .i64 (x0))), (1, one (cb x1))], []⟩) (by kernel_rfl) (by kernel_rfl) (by kernel_rfl) (by kernel_rfl) (by kernel_rfl) (by kernel_rfl) (by kernel_rfl) (by kernel_rfl) (fun E hN => ?_)
  unfold fixed_checked at h
  refine goSeq (by kernel_rfl) ?_
  refine goReg (N := 9) (hints := []) (l := [0, 1]) (m := []) (s₂ := ⟨[(0, one (ci .i64 (x0))), (1, one (cb x1))], []⟩) (ob := True ∧ True ∧ True) (by kernel_rfl) hN (by kernel_rfl) ⟨trivial, trivial, trivial⟩ (by decide) (by decide) ?_
  refine thenC ?_
  refine goSeq (by kernel_rfl) ?_
  refine goSeq (by kernel_rfl) ?_
  rcases fork_some h with ⟨c2, h⟩ | ⟨c2, h⟩
  · skip
    refine goReg (N := 9) (hints := [(1, .bool true)]) (l := [0, 7]) (m := []) (s₂ := ⟨[(0, one (ci .i64 (x0))), (7, one (cb true))], []⟩) (ob := True ∧ (True ∧ ((!x1)) = true) ∧ True) (by kernel_rfl) hN (by kernel_rfl) ⟨trivial, ⟨trivial, c2⟩, trivial⟩ (by decide) (by decide) ?_
    refine thenC ?_
    refine goCondT (by kernel_rfl) (by kernel_rfl) ?_
    refine goSeq (by kernel_rfl) ?_
    refine goReg (N := 9) (hints := []) (l := [4, 5]) (m := []) (s₂ := ⟨[(4, one (ci .i64 0)), (5, one (ci .i64 2))], []⟩) (ob := True ∧ True ∧ True) (by kernel_rfl) hN (by kernel_rfl) ⟨trivial, trivial, trivial⟩ (by decide) (by decide) ?_
    refine thenC ?_
    refine goRet (by kernel_rfl) ?_
    refine thenRet ?_
    obtain rfl := top_some h
    exact retOk (by kernel_rfl)
  · skip
    refine goReg (N := 9) (hints := [(1, .bool false)]) (l := [0, 7]) (m := []) (s₂ := ⟨[(0, one (ci .i64 (x0))), (7, one (cb false))], []⟩) (ob := True ∧ (True ∧ ((!x1)) = false) ∧ True) (by kernel_rfl) hN (by kernel_rfl) ⟨trivial, ⟨trivial, c2⟩, trivial⟩ (by decide) (by decide) ?_
    refine thenC ?_
    refine goCondF (by kernel_rfl) (by kernel_rfl) ?_
    refine goSkip (by kernel_rfl) ?_
    refine thenC ?_
    refine goSeq (by kernel_rfl) ?_
    refine goReg (N := 9) (hints := []) (l := [4, 5]) (m := []) (s₂ := ⟨[(4, one (ci .i64 (x0))), (5, one (ci .i64 0))], []⟩) (ob := True ∧ True ∧ True ∧ True) (by kernel_rfl) hN (by kernel_rfl) ⟨trivial, trivial, trivial, trivial⟩ (by decide) (by decide) ?_
    refine thenC ?_
    refine goRet (by kernel_rfl) ?_
    obtain rfl := top_some h
    exact retOk (by kernel_rfl)

theorem fixed_signed_ok (x0 : Int) (x1 : Bool) (r : Int × Int) (h : fixed_signed x0 x1 = some r) : PureC Try.prog 27 [one (ci .u64 (x0)), one (cb x1)] (⟨.tup [(false, 1), (false, 1)], [ci .i64 (r.1), ci .i64 (r.2)]⟩) := by
  refine fnOf (fn := Try.f27) (n := 22) (rs := [ResultVar.tmp 4, ResultVar.tmp 5]) (s := ⟨[(0, one (ci .u64 (x0))), (1, one (cb x1))], []⟩) (by kernel_rfl) (by kernel_rfl) (by kernel_rfl) (by kernel_rfl) (by kernel_rfl) (by kernel_rfl) (by kernel_rfl) (by kernel_rfl) (fun E hN => ?_)
  unfold fixed_signed at h
  refine goSeq (by kernel_rfl) ?_
  refine goReg (N := 22) (hints := []) (l := [0, 1]) (m := []) (s₂ := ⟨[(0, one (ci .u64 (x0))), (1, one (cb x1))], []⟩) (ob := True ∧ True ∧ True) (by kernel_rfl) hN (by kernel_rfl) ⟨trivial, trivial, trivial⟩ (by decide) (by decide) ?_
  refine thenC ?_
  refine goSeq (by kernel_rfl) ?_
  refine goSeq (by kernel_rfl) ?_
  rcases fork_some h with ⟨c3, h⟩ | ⟨c3, h⟩
  · skip
    refine goReg (N := 22) (hints := [(0, .bool true)]) (l := [0, 6]) (m := []) (s₂ := ⟨[(0, one (ci .u64 (x0))), (6, one (cb true))], []⟩) (ob := (True ∧ (x1) = true) ∧ True) (by kernel_rfl) hN (by kernel_rfl) ⟨⟨trivial, c3⟩, trivial⟩ (by decide) (by decide) ?_
    refine thenC ?_
    refine goCondT (by kernel_rfl) (by kernel_rfl) ?_
    refine goSeq (by kernel_rfl) ?_
    obtain ⟨q4, hq4, h⟩ := bind_some h
    refine goReg (N := 22) (hints := [(5, .call (⟨.tup [(false, 1), (false, 1)], [ci .i64 (q4.1), ci .i64 (q4.2)]⟩))]) (l := [4, 5]) (m := []) (s₂ := ⟨[(4, one (ci .i64 (q4.1))), (5, one (ci .i64 (q4.2)))], []⟩) (ob := True ∧ True ∧ True ∧ True ∧ True ∧ PureC Try.prog 30 [one (ci .i64 ((IntKind.wrap .i64 ((IntKind.wrap .u64 (0 - (x0))))))), one (cb (decide ((x0) ≤ 9223372036854775808)))] (⟨.tup [(false, 1), (false, 1)], [ci .i64 (q4.1), ci .i64 (q4.2)]⟩) ∧ True ∧ True ∧ True ∧ True ∧ True) (by kernel_rfl) hN (by kernel_rfl) ⟨trivial, trivial, trivial, trivial, trivial, (fixed_checked_ok ((IntKind.wrap .i64 ((IntKind.wrap .u64 (0 - (x0)))))) (decide ((x0) ≤ 9223372036854775808)) _ hq4), trivial, trivial, trivial, trivial, trivial⟩ (by decide) (by decide) ?_
    refine thenC ?_
    refine goRet (by kernel_rfl) ?_
    refine thenRet ?_
    obtain rfl := top_some h
    exact retOk (by kernel_rfl)
  · skip
    refine goReg (N := 22) (hints := [(0, .bool false)]) (l := [0, 6]) (m := []) (s₂ := ⟨[(0, one (ci .u64 (x0))), (6, one (cb false))], []⟩) (ob := (True ∧ (x1) = false) ∧ True) (by kernel_rfl) hN (by kernel_rfl) ⟨⟨trivial, c3⟩, trivial⟩ (by decide) (by decide) ?_
    refine thenC ?_
    refine goCondF (by kernel_rfl) (by kernel_rfl) ?_
    refine goSkip (by kernel_rfl) ?_
    refine thenC ?_
    refine goSeq (by kernel_rfl) ?_
    obtain ⟨q5, hq5, h⟩ := bind_some h
    refine goReg (N := 22) (hints := [(4, .call (⟨.tup [(false, 1), (false, 1)], [ci .i64 (q5.1), ci .i64 (q5.2)]⟩))]) (l := [4, 5]) (m := []) (s₂ := ⟨[(4, one (ci .i64 (q5.1))), (5, one (ci .i64 (q5.2)))], []⟩) (ob := True ∧ True ∧ True ∧ True ∧ PureC Try.prog 30 [one (ci .i64 ((IntKind.wrap .i64 (x0)))), one (cb (decide ((x0) ≤ 9223372036854775807)))] (⟨.tup [(false, 1), (false, 1)], [ci .i64 (q5.1), ci .i64 (q5.2)]⟩) ∧ True ∧ True ∧ True ∧ True ∧ True) (by kernel_rfl) hN (by kernel_rfl) ⟨trivial, trivial, trivial, trivial, (fixed_checked_ok ((IntKind.wrap .i64 (x0))) (decide ((x0) ≤ 9223372036854775807)) _ hq5), trivial, trivial, trivial, trivial, trivial⟩ (by decide) (by decide) ?_
    refine thenC ?_
    refine goRet (by kernel_rfl) ?_
    obtain rfl := top_some h
    exact retOk (by kernel_rfl)

theorem fixed_MulDiv_ok (x0 : Int) (x1 : Int) (x2 : Int) (r : Int × Int) (h : fixed_MulDiv x0 x1 x2 = some r) : PureC Try.prog 19 [one (ci .i64 (x0)), one (ci .i64 (x1)), one (ci .i64 (x2))] (⟨.tup [(false, 1), (false, 1)], [ci .i64 (r.1), ci .i64 (r.2)]⟩) := by
  refine fnOf (fn := Try.f19) (n := 58) (rs := [ResultVar.tmp 6, ResultVar.tmp 7]) (s := ⟨[(0, one (ci .i64 (x0))), (1, one (ci .i64 (x1))), (2, one (ci .i64 (x2)))], []⟩) (by kernel_rfl) (by kernel_rfl) (by kernel_rfl) (by kernel_rfl) (by kernel_rfl) (by kernel_rfl) (by kernel_rfl) (by kernel_rfl) (fun E hN => ?_)
  unfold fixed_MulDiv at h
  refine goSeq (by kernel_rfl) ?_
  refine goReg (N := 58) (hints := []) (l := [0, 1, 2]) (m := []) (s₂ := ⟨[(0, one (ci .i64 (x0))), (1, one (ci .i64 (x1))), (2, one (ci .i64 (x2)))], []⟩) (ob := True ∧ True ∧ True) (by kernel_rfl) hN (by kernel_rfl) ⟨trivial, trivial, trivial⟩ (by decide) (by decide) ?_
  refine thenC ?_
  refine goSeq (by kernel_rfl) ?_
  refine goSeq (by kernel_rfl) ?_
  rcases fork_some h with ⟨c2, h⟩ | ⟨c2, h⟩
  · skip
    refine goReg (N := 58) (hints := [(1, .bool true)]) (l := [0, 1, 2, 15]) (m := []) (s₂ := ⟨[(0, one (ci .i64 (x0))), (1, one (ci .i64 (x1))), (2, one (ci .i64 (x2))), (15, one (cb true))], []⟩) (ob := True ∧ (True ∧ (((x2) == 0)) = true) ∧ True) (by kernel_rfl) hN (by kernel_rfl) ⟨trivial, ⟨trivial, c2⟩, trivial⟩ (by decide) (by decide) ?_
    refine thenC ?_
    refine goCondT (by kernel_rfl) (by kernel_rfl) ?_
    refine goSeq (by kernel_rfl) ?_
    refine goReg (N := 58) (hints := []) (l := [6, 7]) (m := []) (s₂ := ⟨[(6, one (ci .i64 0)), (7, one (ci .i64 3))], []⟩) (ob := True ∧ True ∧ True) (by kernel_rfl) hN (by kernel_rfl) ⟨trivial, trivial, trivial⟩ (by decide) (by decide) ?_
    refine thenC ?_
    refine goRet (by kernel_rfl) ?_
    refine thenRet ?_
    obtain rfl := top_some h
    exact retOk (by kernel_rfl)
  · skip
    refine goReg (N := 58) (hints := [(1, .bool false)]) (l := [0, 1, 2, 15]) (m := []) (s₂ := ⟨[(0, one (ci .i64 (x0))), (1, one (ci .i64 (x1))), (2, one (ci .i64 (x2))), (15, one (cb false))], []⟩) (ob := True ∧ (True ∧ (((x2) == 0)) = false) ∧ True) (by kernel_rfl) hN (by kernel_rfl) ⟨trivial, ⟨trivial, c2⟩, trivial⟩ (by decide) (by decide) ?_
    refine thenC ?_
    refine goCondF (by kernel_rfl) (by kernel_rfl) ?_
    refine goSkip (by kernel_rfl) ?_
    refine thenC ?_
    refine goSeq (by kernel_rfl) ?_
    obtain ⟨q3, hq3, h⟩ := bind_some h
    obtain ⟨q4, hq4, h⟩ := bind_some h
    obtain ⟨q5, hq5, h⟩ := bind_some h
    refine goReg (N := 58) (hints := [(1, .call (one (ci .u64 (q3)))), (3, .call (one (ci .u64 (q4)))), (4, .call (⟨.tup [(false, 1), (false, 1)], [ci .u64 (q5.1), ci .u64 (q5.2)]⟩))]) (l := [0, 1, 2, 8, 9]) (m := []) (s₂ := ⟨[(0, one (ci .i64 (x0))), (1, one (ci .i64 (x1))), (2, one (ci .i64 (x2))), (8, one (ci .u64 (q5.1))), (9, one (ci .u64 (q5.2)))], []⟩) (ob := True ∧ PureC Try.prog 25 [one (ci .i64 (x0))] (one (ci .u64 (q3))) ∧ True ∧ PureC Try.prog 25 [one (ci .i64 (x1))] (one (ci .u64 (q4))) ∧ PureC Try.prog 24 [one (ci .u64 (q3)), one (ci .u64 (q4))] (⟨.tup [(false, 1), (false, 1)], [ci .u64 (q5.1), ci .u64 (q5.2)]⟩) ∧ True ∧ True ∧ True ∧ True ∧ True ∧ True) (by kernel_rfl) hN (by kernel_rfl) ⟨trivial, (fixed_size_ok (x0) _ hq3), trivial, (fixed_size_ok (x1) _ hq4), (math_bits_Mul64_ok (q3) (q4) _ hq5), trivial, trivial, trivial, trivial, trivial, trivial⟩ (by decide) (by decide) ?_
    refine thenC ?_
    refine goSeq (by kernel_rfl) ?_
    obtain ⟨q6, hq6, h⟩ := bind_some h
    refine goReg (N := 58) (hints := [(1, .call (one (ci .u64 (q6))))]) (l := [0, 1, 2, 8, 9, 10]) (m := []) (s₂ := ⟨[(0, one (ci .i64 (x0))), (1, one (ci .i64 (x1))), (2, one (ci .i64 (x2))), (8, one (ci .u64 (q5.1))), (9, one (ci .u64 (q5.2))), (10, one (ci .u64 (q6)))], []⟩) (ob := True ∧ PureC Try.prog 25 [one (ci .i64 (x2))] (one (ci .u64 (q6))) ∧ True ∧ True) (by kernel_rfl) hN (by kernel_rfl) ⟨trivial, (fixed_size_ok (x2) _ hq6), trivial, trivial⟩ (by decide) (by decide) ?_
    refine thenC ?_
    refine goSeq (by kernel_rfl) ?_
    refine goSeq (by kernel_rfl) ?_
    rcases fork_some h with ⟨c8, h⟩ | ⟨c8, h⟩
    · skip
      refine goReg (N := 58) (hints := [(2, .bool true)]) (l := [0, 1, 2, 8, 9, 10, 28]) (m := []) (s₂ := ⟨[(0, one (ci .i64 (x0))), (1, one (ci .i64 (x1))), (2, one (ci .i64 (x2))), (8, one (ci .u64 (q5.1))), (9, one (ci .u64 (q5.2))), (10, one (ci .u64 (q6))), (28, one (cb true))], []⟩) (ob := True ∧ True ∧ (True ∧ (decide ((q5.1) ≥ (q6))) = true) ∧ True) (by kernel_rfl) hN (by kernel_rfl) ⟨trivial, trivial, ⟨trivial, c8⟩, trivial⟩ (by decide) (by decide) ?_
      refine thenC ?_
      refine goCondT (by kernel_rfl) (by kernel_rfl) ?_
      refine goSeq (by kernel_rfl) ?_
      refine goReg (N := 58) (hints := []) (l := [6, 7]) (m := []) (s₂ := ⟨[(6, one (ci .i64 0)), (7, one (ci .i64 2))], []⟩) (ob := True ∧ True ∧ True) (by kernel_rfl) hN (by kernel_rfl) ⟨trivial, trivial, trivial⟩ (by decide) (by decide) ?_
      refine thenC ?_
      refine goRet (by kernel_rfl) ?_
      refine thenRet ?_
      obtain rfl := top_some h
      exact retOk (by kernel_rfl)
    · skip
      refine goReg (N := 58) (hints := [(2, .bool false)]) (l := [0, 1, 2, 8, 9, 10, 28]) (m := []) (s₂ := ⟨[(0, one (ci .i64 (x0))), (1, one (ci .i64 (x1))), (2, one (ci .i64 (x2))), (8, one (ci .u64 (q5.1))), (9, one (ci .u64 (q5.2))), (10, one (ci .u64 (q6))), (28, one (cb false))], []⟩) (ob := True ∧ True ∧ (True ∧ (decide ((q5.1) ≥ (q6))) = false) ∧ True) (by kernel_rfl) hN (by kernel_rfl) ⟨trivial, trivial, ⟨trivial, c8⟩, trivial⟩ (by decide) (by decide) ?_
      refine thenC ?_
      refine goCondF (by kernel_rfl) (by kernel_rfl) ?_
      refine goSkip (by kernel_rfl) ?_
      refine thenC ?_
      refine goSeq (by kernel_rfl) ?_
      obtain ⟨q9, hq9, h⟩ := bind_some h
      refine goReg (N := 58) (hints := [(3, .call (⟨.tup [(false, 1), (false, 1)], [ci .u64 (q9.1), ci .u64 (q9.2)]⟩))]) (l := [0, 1, 2, 11, 12]) (m := []) (s₂ := ⟨[(0, one (ci .i64 (x0))), (1, one (ci .i64 (x1))), (2, one (ci .i64 (x2))), (11, one (ci .u64 (q9.1))), (12, one (ci .u64 (q9.2)))], []⟩) (ob := True ∧ True ∧ True ∧ PureC Try.prog 26 [one (ci .u64 (q5.1)), one (ci .u64 (q5.2)), one (ci .u64 (q6))] (⟨.tup [(false, 1), (false, 1)], [ci .u64 (q9.1), ci .u64 (q9.2)]⟩) ∧ True ∧ True ∧ True ∧ True ∧ True ∧ True) (by kernel_rfl) hN (by kernel_rfl) ⟨trivial, trivial, trivial, (math_bits_Div64_ok (q5.1) (q5.2) (q6) _ hq9), trivial, trivial, trivial, trivial, trivial, trivial⟩ (by decide) (by decide) ?_
      refine thenC ?_
      refine goSeq (by kernel_rfl) ?_
      refine goReg (N := 58) (hints := []) (l := [11, 12, 13]) (m := []) (s₂ := ⟨[(11, one (ci .u64 (q9.1))), (12, one (ci .u64 (q9.2))), (13, one (cb ((!((!(decide ((x0) < 0) == decide ((x1) < 0))) == decide ((x2) < 0))))))], []⟩) (ob := True ∧ True ∧ True ∧ True ∧ True ∧ True ∧ True ∧ True ∧ True ∧ True) (by kernel_rfl) hN (by kernel_rfl) ⟨trivial, trivial, trivial, trivial, trivial, trivial, trivial, trivial, trivial, trivial⟩ (by decide) (by decide) ?_
      refine thenC ?_
      refine goSeqK (l := [11, 13]) (m := []) (K := fun s => ∃ (x0 : Int) (x1 : Int) (x2 : Int) (j13 : Int), fixed_MulDiv_j1 x0 x1 x2 j13 = some r ∧ s = ⟨[(11, one (ci .u64 (j13))), (13, one (cb ((!((!(decide ((x0) < 0) == decide ((x1) < 0))) == decide ((x2) < 0))))))], []⟩) (by kernel_rfl) (by decide) (by decide) ?_ ?_
      · skip
        rintro _ ⟨x0, x1, x2, j13, h, rfl⟩
        unfold fixed_MulDiv_j1 at h
        refine goSeq (by kernel_rfl) ?_
        obtain ⟨q14, hq14, h⟩ := bind_some h
        refine goReg (N := 58) (hints := [(2, .call (⟨.tup [(false, 1), (false, 1)], [ci .i64 (q14.1), ci .i64 (q14.2)]⟩))]) (l := [6, 7]) (m := []) (s₂ := ⟨[(6, one (ci .i64 (q14.1))), (7, one (ci .i64 (q14.2)))], []⟩) (ob := True ∧ True ∧ PureC Try.prog 27 [one (ci .u64 (j13)), one (cb ((!((!(decide ((x0) < 0) == decide ((x1) < 0))) == decide ((x2) < 0)))))] (⟨.tup [(false, 1), (false, 1)], [ci .i64 (q14.1), ci .i64 (q14.2)]⟩) ∧ True ∧ True ∧ True ∧ True ∧ True) (by kernel_rfl) hN (by kernel_rfl) ⟨trivial, trivial, (fixed_signed_ok (j13) ((!((!(decide ((x0) < 0) == decide ((x1) < 0))) == decide ((x2) < 0)))) _ hq14), trivial, trivial, trivial, trivial, trivial⟩ (by decide) (by decide) ?_
        refine thenC ?_
        refine goRet (by kernel_rfl) ?_
        obtain rfl := top_some h
        exact retOk (by kernel_rfl)
      · skip
        refine goSeq (by kernel_rfl) ?_
        rcases fork_some h with ⟨c15, h⟩ | ⟨c15, h⟩
        · skip
          rcases fork_some h with ⟨c16, h⟩ | ⟨c16, h⟩
          · skip
            refine goReg (N := 58) (hints := [(1, .bool true), (4, .bool true)]) (l := [11, 13, 48]) (m := []) (s₂ := ⟨[(11, one (ci .u64 (q9.1))), (13, one (cb ((!((!(decide ((x0) < 0) == decide ((x1) < 0))) == decide ((x2) < 0)))))), (48, one (cb true))], []⟩) (ob := True ∧ (True ∧ ((!((!(decide ((x0) < 0) == decide ((x1) < 0))) == decide ((x2) < 0)))) = true) ∧ True ∧ True ∧ (True ∧ (decide ((q9.2) > 0)) = true) ∧ True) (by kernel_rfl) hN (by kernel_rfl) ⟨trivial, ⟨trivial, c15⟩, trivial, trivial, ⟨trivial, c16⟩, trivial⟩ (by decide) (by decide) ?_
            refine thenC ?_
            refine goCondT (by kernel_rfl) (by kernel_rfl) ?_
            refine goSeq (by kernel_rfl) ?_
            refine goReg (N := 58) (hints := []) (l := [11, 13]) (m := []) (s₂ := ⟨[(11, one (ci .u64 ((IntKind.wrap .u64 ((q9.1) + 1))))), (13, one (cb ((!((!(decide ((x0) < 0) == decide ((x1) < 0))) == decide ((x2) < 0))))))], []⟩) (ob := True ∧ True ∧ True ∧ True) (by kernel_rfl) hN (by kernel_rfl) ⟨trivial, trivial, trivial, trivial⟩ (by decide) (by decide) ?_
            refine thenC ?_
            refine goSeq (by kernel_rfl) ?_
            rcases fork_some h with ⟨c17, h⟩ | ⟨c17, h⟩
            · skip
              refine goReg (N := 58) (hints := [(1, .bool true)]) (l := [11, 13, 52]) (m := []) (s₂ := ⟨[(11, one (ci .u64 ((IntKind.wrap .u64 ((q9.1) + 1))))), (13, one (cb ((!((!(decide ((x0) < 0) == decide ((x1) < 0))) == decide ((x2) < 0)))))), (52, one (cb true))], []⟩) (ob := True ∧ (True ∧ ((((IntKind.wrap .u64 ((q9.1) + 1))) == 0)) = true) ∧ True) (by kernel_rfl) hN (by kernel_rfl) ⟨trivial, ⟨trivial, c17⟩, trivial⟩ (by decide) (by decide) ?_
              refine thenC ?_
              refine goCondT (by kernel_rfl) (by kernel_rfl) ?_
              refine goSeq (by kernel_rfl) ?_
              refine goReg (N := 58) (hints := []) (l := [6, 7]) (m := []) (s₂ := ⟨[(6, one (ci .i64 0)), (7, one (ci .i64 2))], []⟩) (ob := True ∧ True ∧ True) (by kernel_rfl) hN (by kernel_rfl) ⟨trivial, trivial, trivial⟩ (by decide) (by decide) ?_
              refine thenC ?_
              refine goRet (by kernel_rfl) ?_
              refine thenRet ?_
              obtain rfl := top_some h
              exact retOk (by kernel_rfl)
            · skip
              refine goReg (N := 58) (hints := [(1, .bool false)]) (l := [11, 13, 52]) (m := []) (s₂ := ⟨[(11, one (ci .u64 ((IntKind.wrap .u64 ((q9.1) + 1))))), (13, one (cb ((!((!(decide ((x0) < 0) == decide ((x1) < 0))) == decide ((x2) < 0)))))), (52, one (cb false))], []⟩) (ob := True ∧ (True ∧ ((((IntKind.wrap .u64 ((q9.1) + 1))) == 0)) = false) ∧ True) (by kernel_rfl) hN (by kernel_rfl) ⟨trivial, ⟨trivial, c17⟩, trivial⟩ (by decide) (by decide) ?_
              refine thenC ?_
              refine goCondF (by kernel_rfl) (by kernel_rfl) ?_
              refine goSkip (by kernel_rfl) ?_
              exact Fit.mk [] ⟨x0, x1, x2, ((IntKind.wrap .u64 ((q9.1) + 1))), h, rfl⟩ (by kernel_rfl)
          · skip
            refine goReg (N := 58) (hints := [(1, .bool true), (4, .bool false)]) (l := [11, 13, 48]) (m := []) (s₂ := ⟨[(11, one (ci .u64 (q9.1))), (13, one (cb ((!((!(decide ((x0) < 0) == decide ((x1) < 0))) == decide ((x2) < 0)))))), (48, one (cb false))], []⟩) (ob := True ∧ (True ∧ ((!((!(decide ((x0) < 0) == decide ((x1) < 0))) == decide ((x2) < 0)))) = true) ∧ True ∧ True ∧ (True ∧ (decide ((q9.2) > 0)) = false) ∧ True) (by kernel_rfl) hN (by kernel_rfl) ⟨trivial, ⟨trivial, c15⟩, trivial, trivial, ⟨trivial, c16⟩, trivial⟩ (by decide) (by decide) ?_
            refine thenC ?_
            refine goCondF (by kernel_rfl) (by kernel_rfl) ?_
            refine goSkip (by kernel_rfl) ?_
            exact Fit.mk [] ⟨x0, x1, x2, q9.1, h, rfl⟩ (by kernel_rfl)
        · skip
          refine goReg (N := 58) (hints := [(1, .bool false)]) (l := [11, 13, 48]) (m := []) (s₂ := ⟨[(11, one (ci .u64 (q9.1))), (13, one (cb ((!((!(decide ((x0) < 0) == decide ((x1) < 0))) == decide ((x2) < 0)))))), (48, one (cb false))], []⟩) (ob := True ∧ (True ∧ ((!((!(decide ((x0) < 0) == decide ((x1) < 0))) == decide ((x2) < 0)))) = false) ∧ True ∧ True ∧ True ∧ True) (by kernel_rfl) hN (by kernel_rfl) ⟨trivial, ⟨trivial, c15⟩, trivial, trivial, trivial, trivial⟩ (by decide) (by decide) ?_
          refine thenC ?_
          refine goCondF (by kernel_rfl) (by kernel_rfl) ?_
          refine goSkip (by kernel_rfl) ?_
          exact Fit.mk [] ⟨x0, x1, x2, q9.1, h, rfl⟩ (by kernel_rfl)

theorem vec_made_ok (x0 : T_8_int) (r : T_api_Vec) (h : vec_made x0 = some r) : PureC Try.prog 20 [agg [ci .i64 (x0.c0), ci .i64 (x0.c1), ci .i64 (x0.c2), ci .i64 (x0.c3), ci .i64 (x0.c4), ci .i64 (x0.c5), ci .i64 (x0.c6), ci .i64 (x0.c7)]] (agg [ci .i64 (r.c0), ci .i64 (r.c1), ci .i64 (r.c2), ci .i64 (r.c3), ci .i64 (r.c4), ci .i64 (r.c5), ci .i64 (r.c6), ci .i64 (r.c7)]) := by
  refine fnOf (fn := Try.f20) (n := 15) (rs := [ResultVar.cell 2 24]) (s := ⟨[(0, agg [ci .i64 (x0.c0), ci .i64 (x0.c1), ci .i64 (x0.c2), ci .i64 (x0.c3), ci .i64 (x0.c4), ci .i64 (x0.c5), ci .i64 (x0.c6), ci .i64 (x0.c7)])], []⟩) (by kernel_rfl) (by kernel_rfl) (by kernel_rfl) (by kernel_rfl) (by kernel_rfl) (by kernel_rfl) (by kernel_rfl) (by kernel_rfl) (fun E hN => ?_)
  unfold vec_made at h
  refine goSeq (by kernel_rfl) ?_
  refine goReg (N := 15) (hints := []) (l := [1, 2]) (m := [1, 2]) (s₂ := ⟨[(1, one (.ptr 1 0)), (2, one (.ptr 2 0))], [(1, 36, [ci .i64 (x0.c0), ci .i64 (x0.c1), ci .i64 (x0.c2), ci .i64 (x0.c3), ci .i64 (x0.c4), ci .i64 (x0.c5), ci .i64 (x0.c6), ci .i64 (x0.c7)]), (2, 24, [ci .i64 0, ci .i64 0, ci .i64 0, ci .i64 0, ci .i64 0, ci .i64 0, ci .i64 0, ci .i64 0])]⟩) (ob := True ∧ True ∧ True) (by kernel_rfl) hN (by kernel_rfl) ⟨trivial, trivial, trivial⟩ (by decide) (by decide) ?_
  refine thenC ?_
  refine goSeq (by kernel_rfl) ?_
  refine goDraw (N := 15) (m0 := 12) (hints := []) (l := [2]) (m := [2]) (s₂ := ⟨[(2, one (.ptr 2 0))], [(2, 24, [ci .i64 (x0.c0), ci .i64 (x0.c1), ci .i64 (x0.c2), ci .i64 (x0.c3), ci .i64 (x0.c4), ci .i64 (x0.c5), ci .i64 (x0.c6), ci .i64 (x0.c7)])]⟩) (ob := ((0 ≤ (0 : Int) ∧ (0 : Int) < 8) ∧ True ∧ (0 ≤ (1 : Int) ∧ (1 : Int) < 8) ∧ True ∧ (0 ≤ (2 : Int) ∧ (2 : Int) < 8) ∧ True ∧ (0 ≤ (3 : Int) ∧ (3 : Int) < 8) ∧ True ∧ (0 ≤ (4 : Int) ∧ (4 : Int) < (8 : Nat) ∧ (4 : Int) ≤ (8 : Int) ∧ (8 : Int) ≤ (8 : Nat)) ∧ True ∧ True ∧ True ∧ True) ∧ (True ∧ True)) (by kernel_rfl) hN (by kernel_rfl) (by kernel_rfl) ⟨⟨(by decide), trivial, (by decide), trivial, (by decide), trivial, (by decide), trivial, (by decide), trivial, trivial, trivial, trivial⟩, ⟨trivial, trivial⟩⟩ (by decide) (by decide) ?_
  refine thenC ?_
  refine goRet (by kernel_rfl) ?_
  obtain rfl := top_some h
  exact retOk (by kernel_rfl)

theorem vec_Between_ok (x0 : T_api_Vec) (x1 : T_api_Vec) (x2 : Int) (r : T_api_Vec × Bool) (h : vec_Between x0 x1 x2 = some r) : PureC Try.prog 12 [agg [ci .i64 (x0.c0), ci .i64 (x0.c1), ci .i64 (x0.c2), ci .i64 (x0.c3), ci .i64 (x0.c4), ci .i64 (x0.c5), ci .i64 (x0.c6), ci .i64 (x0.c7)], agg [ci .i64 (x1.c0), ci .i64 (x1.c1), ci .i64 (x1.c2), ci .i64 (x1.c3), ci .i64 (x1.c4), ci .i64 (x1.c5), ci .i64 (x1.c6), ci .i64 (x1.c7)], one (ci .i64 (x2))] (⟨.tup [(true, 8), (false, 1)], [ci .i64 (r.1.c0), ci .i64 (r.1.c1), ci .i64 (r.1.c2), ci .i64 (r.1.c3), ci .i64 (r.1.c4), ci .i64 (r.1.c5), ci .i64 (r.1.c6), ci .i64 (r.1.c7), cb r.2]⟩) := by
  refine fnOf (fn := Try.f12) (n := 67) (rs := [ResultVar.cell 6 24, ResultVar.tmp 7]) (s := ⟨[(0, agg [ci .i64 (x0.c0), ci .i64 (x0.c1), ci .i64 (x0.c2), ci .i64 (x0.c3), ci .i64 (x0.c4), ci .i64 (x0.c5), ci .i64 (x0.c6), ci .i64 (x0.c7)]), (1, agg [ci .i64 (x1.c0), ci .i64 (x1.c1), ci .i64 (x1.c2), ci .i64 (x1.c3), ci .i64 (x1.c4), ci .i64 (x1.c5), ci .i64 (x1.c6), ci .i64 (x1.c7)]), (2, one (ci .i64 (x2)))], []⟩) (by kernel_rfl) (by kernel_rfl) (by kernel_rfl) (by kernel_rfl) (by kernel_rfl) (by kernel_rfl) (by kernel_rfl) (by kernel_rfl) (fun E hN => ?_)
  unfold vec_Between at h
  refine goSeq (by kernel_rfl) ?_
  refine goReg (N := 67) (hints := []) (l := [2, 3, 4, 6]) (m := [3, 4, 6]) (s₂ := ⟨[(2, one (ci .i64 (x2))), (3, one (.ptr 3 0)), (4, one (.ptr 4 0)), (6, one (.ptr 6 0))], [(3, 24, [ci .i64 (x0.c0), ci .i64 (x0.c1), ci .i64 (x0.c2), ci .i64 (x0.c3), ci .i64 (x0.c4), ci .i64 (x0.c5), ci .i64 (x0.c6), ci .i64 (x0.c7)]), (4, 24, [ci .i64 (x1.c0), ci .i64 (x1.c1), ci .i64 (x1.c2), ci .i64 (x1.c3), ci .i64 (x1.c4), ci .i64 (x1.c5), ci .i64 (x1.c6), ci .i64 (x1.c7)]), (6, 24, [ci .i64 0, ci .i64 0, ci .i64 0, ci .i64 0, ci .i64 0, ci .i64 0, ci .i64 0, ci .i64 0])]⟩) (ob := True ∧ True ∧ True ∧ True ∧ True) (by kernel_rfl) hN (by kernel_rfl) ⟨trivial, trivial, trivial, trivial, trivial⟩ (by decide) (by decide) ?_
  refine thenC ?_
  refine goSeq (by kernel_rfl) ?_
  obtain ⟨q1, hq1, h⟩ := bind_some h
  obtain ⟨q2, hq2, h⟩ := bind_some h
  refine goDraw (N := 67) (m0 := 8) (hints := [(2, .call (one (ci .i64 (q1)))), (5, .call (one (ci .i64 (q2))))]) (l := [2, 3, 4, 6, 8, 9]) (m := [3, 4, 6]) (s₂ := ⟨[(2, one (ci .i64 (x2))), (3, one (.ptr 3 0)), (4, one (.ptr 4 0)), (6, one (.ptr 6 0)), (8, one (ci .i64 (q1))), (9, one (ci .i64 (q2)))], [(3, 24, [ci .i64 (x0.c0), ci .i64 (x0.c1), ci .i64 (x0.c2), ci .i64 (x0.c3), ci .i64 (x0.c4), ci .i64 (x0.c5), ci .i64 (x0.c6), ci .i64 (x0.c7)]), (4, 24, [ci .i64 (x1.c0), ci .i64 (x1.c1), ci .i64 (x1.c2), ci .i64 (x1.c3), ci .i64 (x1.c4), ci .i64 (x1.c5), ci .i64 (x1.c6), ci .i64 (x1.c7)]), (6, 24, [ci .i64 0, ci .i64 0, ci .i64 0, ci .i64 0, ci .i64 0, ci .i64 0, ci .i64 0, ci .i64 0])]⟩) (ob := (True ∧ True ∧ PureC Try.prog 11 [one (ci .i64 (x2)), agg [ci .i64 (x0.c0), ci .i64 (x0.c1), ci .i64 (x0.c2), ci .i64 (x0.c3), ci .i64 (x0.c4), ci .i64 (x0.c5), ci .i64 (x0.c6), ci .i64 (x0.c7)]] (one (ci .i64 (q1))) ∧ True ∧ True ∧ PureC Try.prog 11 [one (ci .i64 (x2)), agg [ci .i64 (x1.c0), ci .i64 (x1.c1), ci .i64 (x1.c2), ci .i64 (x1.c3), ci .i64 (x1.c4), ci .i64 (x1.c5), ci .i64 (x1.c6), ci .i64 (x1.c7)]] (one (ci .i64 (q2))) ∧ True ∧ True ∧ True) ∧ (True)) (by kernel_rfl) hN (by kernel_rfl) (by kernel_rfl) ⟨⟨trivial, trivial, (vec_Dist_ok (x2) x0 _ hq1), trivial, trivial, (vec_Dist_ok (x2) x1 _ hq2), trivial, trivial, trivial⟩, trivial⟩ (by decide) (by decide) ?_
  refine thenC ?_
  refine goSeq (by kernel_rfl) ?_
  refine goSeq (by kernel_rfl) ?_
  rcases fork_some h with ⟨c7, h⟩ | ⟨c7, h⟩
  · skip
    refine goReg (N := 67) (hints := [(2, .bool true)]) (l := [3, 4, 6, 8, 9, 34]) (m := [3, 4, 6]) (s₂ := ⟨[(3, one (.ptr 3 0)), (4, one (.ptr 4 0)), (6, one (.ptr 6 0)), (8, one (ci .i64 (q1))), (9, one (ci .i64 (q2))), (34, one (cb true))], [(3, 24, [ci .i64 (x0.c0), ci .i64 (x0.c1), ci .i64 (x0.c2), ci .i64 (x0.c3), ci .i64 (x0.c4), ci .i64 (x0.c5), ci .i64 (x0.c6), ci .i64 (x0.c7)]), (4, 24, [ci .i64 (x1.c0), ci .i64 (x1.c1), ci .i64 (x1.c2), ci .i64 (x1.c3), ci .i64 (x1.c4), ci .i64 (x1.c5), ci .i64 (x1.c6), ci .i64 (x1.c7)]), (6, 24, [ci .i64 0, ci .i64 0, ci .i64 0, ci .i64 0, ci .i64 0, ci .i64 0, ci .i64 0, ci .i64 0])]⟩) (ob := True ∧ True ∧ (True ∧ (decide ((x2) < 0)) = true) ∧ True ∧ True ∧ True ∧ True ∧ True ∧ True ∧ True ∧ True ∧ True ∧ True ∧ True ∧ True) (by kernel_rfl) hN (by kernel_rfl) ⟨trivial, trivial, ⟨trivial, c7⟩, trivial, trivial, trivial, trivial, trivial, trivial, trivial, trivial, trivial, trivial, trivial, trivial⟩ (by decide) (by decide) ?_
    refine thenC ?_
    refine goCondT (by kernel_rfl) (by kernel_rfl) ?_
    refine goSeq (by kernel_rfl) ?_
    refine goReg (N := 67) (hints := []) (l := [6, 7]) (m := [6]) (s₂ := ⟨[(6, one (.ptr 6 0)), (7, one (cb false))], [(6, 24, [ci .i64 0, ci .i64 0, ci .i64 0, ci .i64 0, ci .i64 0, ci .i64 0, ci .i64 0, ci .i64 0])]⟩) (ob := True ∧ True ∧ True ∧ True) (by kernel_rfl) hN (by kernel_rfl) ⟨trivial, trivial, trivial, trivial⟩ (by decide) (by decide) ?_
    refine thenC ?_
    refine goRet (by kernel_rfl) ?_
    refine thenRet ?_
    obtain rfl := top_some h
    exact retOk (by kernel_rfl)
  · skip
    rcases fork_some h with ⟨c8, h⟩ | ⟨c8, h⟩
    · skip
      refine goReg (N := 67) (hints := [(2, .bool false), (6, .bool true)]) (l := [3, 4, 6, 8, 9, 34]) (m := [3, 4, 6]) (s₂ := ⟨[(3, one (.ptr 3 0)), (4, one (.ptr 4 0)), (6, one (.ptr 6 0)), (8, one (ci .i64 (q1))), (9, one (ci .i64 (q2))), (34, one (cb true))], [(3, 24, [ci .i64 (x0.c0), ci .i64 (x0.c1), ci .i64 (x0.c2), ci .i64 (x0.c3), ci .i64 (x0.c4), ci .i64 (x0.c5), ci .i64 (x0.c6), ci .i64 (x0.c7)]), (4, 24, [ci .i64 (x1.c0), ci .i64 (x1.c1), ci .i64 (x1.c2), ci .i64 (x1.c3), ci .i64 (x1.c4), ci .i64 (x1.c5), ci .i64 (x1.c6), ci .i64 (x1.c7)]), (6, 24, [ci .i64 0, ci .i64 0, ci .i64 0, ci .i64 0, ci .i64 0, ci .i64 0, ci .i64 0, ci .i64 0])]⟩) (ob := True ∧ True ∧ (True ∧ (decide ((x2) < 0)) = false) ∧ True ∧ True ∧ True ∧ (True ∧ (decide ((x2) ≥ 5)) = true) ∧ True ∧ True ∧ True ∧ True ∧ True ∧ True ∧ True ∧ True) (by kernel_rfl) hN (by kernel_rfl) ⟨trivial, trivial, ⟨trivial, c7⟩, trivial, trivial, trivial, ⟨trivial, c8⟩, trivial, trivial, trivial, trivial, trivial, trivial, trivial, trivial⟩ (by decide) (by decide) ?_
      refine thenC ?_
      refine goCondT (by kernel_rfl) (by kernel_rfl) ?_
      refine goSeq (by kernel_rfl) ?_
      refine goReg (N := 67) (hints := []) (l := [6, 7]) (m := [6]) (s₂ := ⟨[(6, one (.ptr 6 0)), (7, one (cb false))], [(6, 24, [ci .i64 0, ci .i64 0, ci .i64 0, ci .i64 0, ci .i64 0, ci .i64 0, ci .i64 0, ci .i64 0])]⟩) (ob := True ∧ True ∧ True ∧ True) (by kernel_rfl) hN (by kernel_rfl) ⟨trivial, trivial, trivial, trivial⟩ (by decide) (by decide) ?_
      refine thenC ?_
      refine goRet (by kernel_rfl) ?_
      refine thenRet ?_
      obtain rfl := top_some h
      exact retOk (by kernel_rfl)
    · skip
      rcases fork_some h with ⟨c9, h⟩ | ⟨c9, h⟩
      · skip
        refine goReg (N := 67) (hints := [(2, .bool false), (6, .bool false), (10, .bool true)]) (l := [3, 4, 6, 8, 9, 34]) (m := [3, 4, 6]) (s₂ := ⟨[(3, one (.ptr 3 0)), (4, one (.ptr 4 0)), (6, one (.ptr 6 0)), (8, one (ci .i64 (q1))), (9, one (ci .i64 (q2))), (34, one (cb true))], [(3, 24, [ci .i64 (x0.c0), ci .i64 (x0.c1), ci .i64 (x0.c2), ci .i64 (x0.c3), ci .i64 (x0.c4), ci .i64 (x0.c5), ci .i64 (x0.c6), ci .i64 (x0.c7)]), (4, 24, [ci .i64 (x1.c0), ci .i64 (x1.c1), ci .i64 (x1.c2), ci .i64 (x1.c3), ci .i64 (x1.c4), ci .i64 (x1.c5), ci .i64 (x1.c6), ci .i64 (x1.c7)]), (6, 24, [ci .i64 0, ci .i64 0, ci .i64 0, ci .i64 0, ci .i64 0, ci .i64 0, ci .i64 0, ci .i64 0])]⟩) (ob := True ∧ True ∧ (True ∧ (decide ((x2) < 0)) = false) ∧ True ∧ True ∧ True ∧ (True ∧ (decide ((x2) ≥ 5)) = false) ∧ True ∧ True ∧ True ∧ (True ∧ (decide ((q1) < 0)) = true) ∧ True ∧ True ∧ True ∧ True) (by kernel_rfl) hN (by kernel_rfl) ⟨trivial, trivial, ⟨trivial, c7⟩, trivial, trivial, trivial, ⟨trivial, c8⟩, trivial, trivial, trivial, ⟨trivial, c9⟩, trivial, trivial, trivial, trivial⟩ (by decide) (by decide) ?_
        refine thenC ?_
        refine goCondT (by kernel_rfl) (by kernel_rfl) ?_
        refine goSeq (by kernel_rfl) ?_
        refine goReg (N := 67) (hints := []) (l := [6, 7]) (m := [6]) (s₂ := ⟨[(6, one (.ptr 6 0)), (7, one (cb false))], [(6, 24, [ci .i64 0, ci .i64 0, ci .i64 0, ci .i64 0, ci .i64 0, ci .i64 0, ci .i64 0, ci .i64 0])]⟩) (ob := True ∧ True ∧ True ∧ True) (by kernel_rfl) hN (by kernel_rfl) ⟨trivial, trivial, trivial, trivial⟩ (by decide) (by decide) ?_
        refine thenC ?_
        refine goRet (by kernel_rfl) ?_
        refine thenRet ?_
        obtain rfl := top_some h
        exact retOk (by kernel_rfl)
      · skip
        rcases fork_some h with ⟨c10, h⟩ | ⟨c10, h⟩
        · skip
          refine goReg (N := 67) (hints := [(2, .bool false), (6, .bool false), (10, .bool false), (13, .bool true)]) (l := [3, 4, 6, 8, 9, 34]) (m := [3, 4, 6]) (s₂ := ⟨[(3, one (.ptr 3 0)), (4, one (.ptr 4 0)), (6, one (.ptr 6 0)), (8, one (ci .i64 (q1))), (9, one (ci .i64 (q2))), (34, one (cb true))], [(3, 24, [ci .i64 (x0.c0), ci .i64 (x0.c1), ci .i64 (x0.c2), ci .i64 (x0.c3), ci .i64 (x0.c4), ci .i64 (x0.c5), ci .i64 (x0.c6), ci .i64 (x0.c7)]), (4, 24, [ci .i64 (x1.c0), ci .i64 (x1.c1), ci .i64 (x1.c2), ci .i64 (x1.c3), ci .i64 (x1.c4), ci .i64 (x1.c5), ci .i64 (x1.c6), ci .i64 (x1.c7)]), (6, 24, [ci .i64 0, ci .i64 0, ci .i64 0, ci .i64 0, ci .i64 0, ci .i64 0, ci .i64 0, ci .i64 0])]⟩) (ob := True ∧ True ∧ (True ∧ (decide ((x2) < 0)) = false) ∧ True ∧ True ∧ True ∧ (True ∧ (decide ((x2) ≥ 5)) = false) ∧ True ∧ True ∧ True ∧ (True ∧ (decide ((q1) < 0)) = false) ∧ True ∧ True ∧ (True ∧ (decide ((q2) ≥ 0)) = true) ∧ True) (by kernel_rfl) hN (by kernel_rfl) ⟨trivial, trivial, ⟨trivial, c7⟩, trivial, trivial, trivial, ⟨trivial, c8⟩, trivial, trivial, trivial, ⟨trivial, c9⟩, trivial, trivial, ⟨trivial, c10⟩, trivial⟩ (by decide) (by decide) ?_
          refine thenC ?_
          refine goCondT (by kernel_rfl) (by kernel_rfl) ?_
          refine goSeq (by kernel_rfl) ?_
          refine goReg (N := 67) (hints := []) (l := [6, 7]) (m := [6]) (s₂ := ⟨[(6, one (.ptr 6 0)), (7, one (cb false))], [(6, 24, [ci .i64 0, ci .i64 0, ci .i64 0, ci .i64 0, ci .i64 0, ci .i64 0, ci .i64 0, ci .i64 0])]⟩) (ob := True ∧ True ∧ True ∧ True) (by kernel_rfl) hN (by kernel_rfl) ⟨trivial, trivial, trivial, trivial⟩ (by decide) (by decide) ?_
          refine thenC ?_
          refine goRet (by kernel_rfl) ?_
          refine thenRet ?_
          obtain rfl := top_some h
          exact retOk (by kernel_rfl)
        · skip
          refine goReg (N := 67) (hints := [(2, .bool false), (6, .bool false), (10, .bool false), (13, .bool false)]) (l := [3, 4, 6, 8, 9, 34]) (m := [3, 4, 6]) (s₂ := ⟨[(3, one (.ptr 3 0)), (4, one (.ptr 4 0)), (6, one (.ptr 6 0)), (8, one (ci .i64 (q1))), (9, one (ci .i64 (q2))), (34, one (cb false))], [(3, 24, [ci .i64 (x0.c0), ci .i64 (x0.c1), ci .i64 (x0.c2), ci .i64 (x0.c3), ci .i64 (x0.c4), ci .i64 (x0.c5), ci .i64 (x0.c6), ci .i64 (x0.c7)]), (4, 24, [ci .i64 (x1.c0), ci .i64 (x1.c1), ci .i64 (x1.c2), ci .i64 (x1.c3), ci .i64 (x1.c4), ci .i64 (x1.c5), ci .i64 (x1.c6), ci .i64 (x1.c7)]), (6, 24, [ci .i64 0, ci .i64 0, ci .i64 0, ci .i64 0, ci .i64 0, ci .i64 0, ci .i64 0, ci .i64 0])]⟩) (ob := True ∧ True ∧ (True ∧ (decide ((x2) < 0)) = false) ∧ True ∧ True ∧ True ∧ (True ∧ (decide ((x2) ≥ 5)) = false) ∧ True ∧ True ∧ True ∧ (True ∧ (decide ((q1) < 0)) = false) ∧ True ∧ True ∧ (True ∧ (decide ((q2) ≥ 0)) = false) ∧ True) (by kernel_rfl) hN (by kernel_rfl) ⟨trivial, trivial, ⟨trivial, c7⟩, trivial, trivial, trivial, ⟨trivial, c8⟩, trivial, trivial, trivial, ⟨trivial, c9⟩, trivial, trivial, ⟨trivial, c10⟩, trivial⟩ (by decide) (by decide) ?_
          refine thenC ?_
          refine goCondF (by kernel_rfl) (by kernel_rfl) ?_
          refine goSkip (by kernel_rfl) ?_
          refine thenC ?_
          refine goSeq (by kernel_rfl) ?_
          obtain ⟨q11, hq11, h⟩ := bind_some h
          obtain ⟨q12, hq12, h⟩ := bind_some h
          refine goDraw (N := 67) (m0 := 6) (hints := [(1, .call (agg [ci .i64 (q11.c0), ci .i64 (q11.c1), ci .i64 (q11.c2), ci .i64 (q11.c3), ci .i64 (q11.c4), ci .i64 (q11.c5), ci .i64 (q11.c6), ci .i64 (q11.c7)])), (3, .call (agg [ci .i64 (q12.c0), ci .i64 (q12.c1), ci .i64 (q12.c2), ci .i64 (q12.c3), ci .i64 (q12.c4), ci .i64 (q12.c5), ci .i64 (q12.c6), ci .i64 (q12.c7)]))]) (l := [6, 8, 9, 10, 11]) (m := [6, 10, 11]) (s₂ := ⟨[(6, one (.ptr 6 0)), (8, one (ci .i64 (q1))), (9, one (ci .i64 (q2))), (10, one (.ptr 10 0)), (11, one (.ptr 11 0))], [(6, 24, [ci .i64 0, ci .i64 0, ci .i64 0, ci .i64 0, ci .i64 0, ci .i64 0, ci .i64 0, ci .i64 0]), (10, 36, [ci .i64 (q11.c0), ci .i64 (q11.c1), ci .i64 (q11.c2), ci .i64 (q11.c3), ci .i64 (q11.c4), ci .i64 (q11.c5), ci .i64 (q11.c6), ci .i64 (q11.c7)]), (11, 36, [ci .i64 (q12.c0), ci .i64 (q12.c1), ci .i64 (q12.c2), ci .i64 (q12.c3), ci .i64 (q12.c4), ci .i64 (q12.c5), ci .i64 (q12.c6), ci .i64 (q12.c7)])]⟩) (ob := (True ∧ PureC Try.prog 18 [agg [ci .i64 (x0.c0), ci .i64 (x0.c1), ci .i64 (x0.c2), ci .i64 (x0.c3), ci .i64 (x0.c4), ci .i64 (x0.c5), ci .i64 (x0.c6), ci .i64 (x0.c7)]] (agg [ci .i64 (q11.c0), ci .i64 (q11.c1), ci .i64 (q11.c2), ci .i64 (q11.c3), ci .i64 (q11.c4), ci .i64 (q11.c5), ci .i64 (q11.c6), ci .i64 (q11.c7)]) ∧ True ∧ PureC Try.prog 18 [agg [ci .i64 (x1.c0), ci .i64 (x1.c1), ci .i64 (x1.c2), ci .i64 (x1.c3), ci .i64 (x1.c4), ci .i64 (x1.c5), ci .i64 (x1.c6), ci .i64 (x1.c7)]] (agg [ci .i64 (q12.c0), ci .i64 (q12.c1), ci .i64 (q12.c2), ci .i64 (q12.c3), ci .i64 (q12.c4), ci .i64 (q12.c5), ci .i64 (q12.c6), ci .i64 (q12.c7)]) ∧ True ∧ True ∧ True) ∧ (True ∧ True ∧ True)) (by kernel_rfl) hN (by kernel_rfl) (by kernel_rfl) ⟨⟨trivial, (vec_row_ok x0 _ hq11), trivial, (vec_row_ok x1 _ hq12), trivial, trivial, trivial⟩, ⟨trivial, trivial, trivial⟩⟩ (by decide) (by decide) ?_
          refine thenC ?_
          refine goSeq (by kernel_rfl) ?_
          refine goSeq (by kernel_rfl) ?_
          refine goReg (N := 67) (hints := []) (l := [6, 8, 9, 10, 11, 40]) (m := [6, 10, 11]) (s₂ := ⟨[(6, one (.ptr 6 0)), (8, one (ci .i64 (q1))), (9, one (ci .i64 (q2))), (10, one (.ptr 10 0)), (11, one (.ptr 11 0)), (40, one (ci .i64 0))], [(6, 24, [ci .i64 0, ci .i64 0, ci .i64 0, ci .i64 0, ci .i64 0, ci .i64 0, ci .i64 0, ci .i64 0]), (10, 36, [ci .i64 (q11.c0), ci .i64 (q11.c1), ci .i64 (q11.c2), ci .i64 (q11.c3), ci .i64 (q11.c4), ci .i64 (q11.c5), ci .i64 (q11.c6), ci .i64 (q11.c7)]), (11, 36, [ci .i64 (q12.c0), ci .i64 (q12.c1), ci .i64 (q12.c2), ci .i64 (q12.c3), ci .i64 (q12.c4), ci .i64 (q12.c5), ci .i64 (q12.c6), ci .i64 (q12.c7)])]⟩) (ob := True ∧ True) (by kernel_rfl) hN (by kernel_rfl) ⟨trivial, trivial⟩ (by decide) (by decide) ?_
          refine thenC ?_
          refine goBlock (i := 0) (by kernel_rfl) (by kernel_rfl) ?_
          refine goLoop1 (by kernel_rfl) ?_
          refine roundC ?_
          refine goSeq (by kernel_rfl) ?_
          refine goReg (N := 67) (hints := []) (l := [6, 8, 9, 10, 11, 40, 41]) (m := [6, 10, 11]) (s₂ := ⟨[(6, one (.ptr 6 0)), (8, one (ci .i64 (q1))), (9, one (ci .i64 (q2))), (10, one (.ptr 10 0)), (11, one (.ptr 11 0)), (40, one (ci .i64 0)), (41, one (cb true))], [(6, 24, [ci .i64 0, ci .i64 0, ci .i64 0, ci .i64 0, ci .i64 0, ci .i64 0, ci .i64 0, ci .i64 0]), (10, 36, [ci .i64 (q11.c0), ci .i64 (q11.c1), ci .i64 (q11.c2), ci .i64 (q11.c3), ci .i64 (q11.c4), ci .i64 (q11.c5), ci .i64 (q11.c6), ci .i64 (q11.c7)]), (11, 36, [ci .i64 (q12.c0), ci .i64 (q12.c1), ci .i64 (q12.c2), ci .i64 (q12.c3), ci .i64 (q12.c4), ci .i64 (q12.c5), ci .i64 (q12.c6), ci .i64 (q12.c7)])]⟩) (ob := True ∧ True) (by kernel_rfl) hN (by kernel_rfl) ⟨trivial, trivial⟩ (by decide) (by decide) ?_
          refine thenC ?_
          refine goSeq (by kernel_rfl) ?_
          refine goCondT (by kernel_rfl) (by kernel_rfl) ?_
          refine goSkip (by kernel_rfl) ?_
          refine thenC ?_
          refine goSeq (by kernel_rfl) ?_
          refine goBlock (i := 1) (by kernel_rfl) (by kernel_rfl) ?_
          refine goSeq (by kernel_rfl) ?_
          refine goReg (N := 67) (hints := []) (l := [6, 8, 9, 10, 11, 12, 40]) (m := [6, 10, 11]) (s₂ := ⟨[(6, one (.ptr 6 0)), (8, one (ci .i64 (q1))), (9, one (ci .i64 (q2))), (10, one (.ptr 10 0)), (11, one (.ptr 11 0)), (12, one (ci .i64 0)), (40, one (ci .i64 0))], [(6, 24, [ci .i64 0, ci .i64 0, ci .i64 0, ci .i64 0, ci .i64 0, ci .i64 0, ci .i64 0, ci .i64 0]), (10, 36, [ci .i64 (q11.c0), ci .i64 (q11.c1), ci .i64 (q11.c2), ci .i64 (q11.c3), ci .i64 (q11.c4), ci .i64 (q11.c5), ci .i64 (q11.c6), ci .i64 (q11.c7)]), (11, 36, [ci .i64 (q12.c0), ci .i64 (q12.c1), ci .i64 (q12.c2), ci .i64 (q12.c3), ci .i64 (q12.c4), ci .i64 (q12.c5), ci .i64 (q12.c6), ci .i64 (q12.c7)])]⟩) (ob := True ∧ True ∧ True) (by kernel_rfl) hN (by kernel_rfl) ⟨trivial, trivial, trivial⟩ (by decide) (by decide) ?_
          refine thenC ?_
          refine goSeq (by kernel_rfl) ?_
          obtain ⟨q46, hq46, h⟩ := bind_some h
          refine goDraw (N := 67) (m0 := 17) (hints := [(11, .call (⟨.tup [(false, 1), (false, 1)], [ci .i64 (q46.1), ci .i64 (q46.2)]⟩))]) (l := [6, 8, 9, 10, 11, 12, 13, 40]) (m := [6, 10, 11]) (s₂ := ⟨[(6, one (.ptr 6 0)), (8, one (ci .i64 (q1))), (9, one (ci .i64 (q2))), (10, one (.ptr 10 0)), (11, one (.ptr 11 0)), (12, one (ci .i64 0)), (13, one (ci .i64 (q46.1))), (40, one (ci .i64 0))], [(6, 24, [ci .i64 0, ci .i64 0, ci .i64 0, ci .i64 0, ci .i64 0, ci .i64 0, ci .i64 0, ci .i64 0]), (10, 36, [ci .i64 (q11.c0), ci .i64 (q11.c1), ci .i64 (q11.c2), ci .i64 (q11.c3), ci .i64 (q11.c4), ci .i64 (q11.c5), ci .i64 (q11.c6), ci .i64 (q11.c7)]), (11, 36, [ci .i64 (q12.c0), ci .i64 (q12.c1), ci .i64 (q12.c2), ci .i64 (q12.c3), ci .i64 (q12.c4), ci .i64 (q12.c5), ci .i64 (q12.c6), ci .i64 (q12.c7)])]⟩) (ob := (True ∧ (0 ≤ (0 : Int) ∧ (0 : Int) < 8) ∧ True ∧ True ∧ (0 ≤ (0 : Int) ∧ (0 : Int) < 8) ∧ True ∧ True ∧ True ∧ True ∧ True ∧ True ∧ PureC Try.prog 19 [one (ci .i64 ((IntKind.wrap .i64 ((q12.c0) - (q11.c0))))), one (ci .i64 (q1)), one (ci .i64 ((IntKind.wrap .i64 ((q1) - (q2)))))] (⟨.tup [(false, 1), (false, 1)], [ci .i64 (q46.1), ci .i64 (q46.2)]⟩) ∧ True ∧ True ∧ True ∧ True ∧ True ∧ True) ∧ (True)) (by kernel_rfl) hN (by kernel_rfl) (by kernel_rfl) ⟨⟨trivial, (by decide), trivial, trivial, (by decide), trivial, trivial, trivial, trivial, trivial, trivial, (fixed_MulDiv_ok ((IntKind.wrap .i64 ((q12.c0) - (q11.c0)))) (q1) ((IntKind.wrap .i64 ((q1) - (q2)))) _ hq46), trivial, trivial, trivial, trivial, trivial, trivial⟩, trivial⟩ (by decide) (by decide) ?_
          refine thenC ?_
          refine goReg (N := 67) (hints := []) (l := [6, 8, 9, 10, 11, 40]) (m := [6, 10, 11]) (s₂ := ⟨[(6, one (.ptr 6 0)), (8, one (ci .i64 (q1))), (9, one (ci .i64 (q2))), (10, one (.ptr 10 0)), (11, one (.ptr 11 0)), (40, one (ci .i64 0))], [(6, 24, [ci .i64 0, ci .i64 0, ci .i64 0, ci .i64 0, ci .i64 0, ci .i64 0, ci .i64 0, ci .i64 0]), (10, 36, [ci .i64 ((IntKind.wrap .i64 ((q11.c0) + (q46.1)))), ci .i64 (q11.c1), ci .i64 (q11.c2), ci .i64 (q11.c3), ci .i64 (q11.c4), ci .i64 (q11.c5), ci .i64 (q11.c6), ci .i64 (q11.c7)]), (11, 36, [ci .i64 (q12.c0), ci .i64 (q12.c1), ci .i64 (q12.c2), ci .i64 (q12.c3), ci .i64 (q12.c4), ci .i64 (q12.c5), ci .i64 (q12.c6), ci .i64 (q12.c7)])]⟩) (ob := True ∧ (0 ≤ (0 : Int) ∧ (0 : Int) < 8) ∧ True ∧ True ∧ True ∧ (0 ≤ (0 : Int) ∧ (0 : Int) < 8) ∧ True ∧ True) (by kernel_rfl) hN (by kernel_rfl) ⟨trivial, (by decide), trivial, trivial, trivial, (by decide), trivial, trivial⟩ (by decide) (by decide) ?_
          refine blkN ?_
          refine thenC ?_
          refine goReg (N := 67) (hints := []) (l := [6, 8, 9, 10, 11, 40]) (m := [6, 10, 11]) (s₂ := ⟨[(6, one (.ptr 6 0)), (8, one (ci .i64 (q1))), (9, one (ci .i64 (q2))), (10, one (.ptr 10 0)), (11, one (.ptr 11 0)), (40, one (ci .i64 1))], [(6, 24, [ci .i64 0, ci .i64 0, ci .i64 0, ci .i64 0, ci .i64 0, ci .i64 0, ci .i64 0, ci .i64 0]), (10, 36, [ci .i64 ((IntKind.wrap .i64 ((q11.c0) + (q46.1)))), ci .i64 (q11.c1), ci .i64 (q11.c2), ci .i64 (q11.c3), ci .i64 (q11.c4), ci .i64 (q11.c5), ci .i64 (q11.c6), ci .i64 (q11.c7)]), (11, 36, [ci .i64 (q12.c0), ci .i64 (q12.c1), ci .i64 (q12.c2), ci .i64 (q12.c3), ci .i64 (q12.c4), ci .i64 (q12.c5), ci .i64 (q12.c6), ci .i64 (q12.c7)])]⟩) (ob := True ∧ True ∧ True) (by kernel_rfl) hN (by kernel_rfl) ⟨trivial, trivial, trivial⟩ (by decide) (by decide) ?_
          refine thenN (roundC ?_)
          refine goSeq (by kernel_rfl) ?_
          refine goReg (N := 67) (hints := []) (l := [6, 8, 9, 10, 11, 40, 41]) (m := [6, 10, 11]) (s₂ := ⟨[(6, one (.ptr 6 0)), (8, one (ci .i64 (q1))), (9, one (ci .i64 (q2))), (10, one (.ptr 10 0)), (11, one (.ptr 11 0)), (40, one (ci .i64 1)), (41, one (cb true))], [(6, 24, [ci .i64 0, ci .i64 0, ci .i64 0, ci .i64 0, ci .i64 0, ci .i64 0, ci .i64 0, ci .i64 0]), (10, 36, [ci .i64 ((IntKind.wrap .i64 ((q11.c0) + (q46.1)))), ci .i64 (q11.c1), ci .i64 (q11.c2), ci .i64 (q11.c3), ci .i64 (q11.c4), ci .i64 (q11.c5), ci .i64 (q11.c6), ci .i64 (q11.c7)]), (11, 36, [ci .i64 (q12.c0), ci .i64 (q12.c1), ci .i64 (q12.c2), ci .i64 (q12.c3), ci .i64 (q12.c4), ci .i64 (q12.c5), ci .i64 (q12.c6), ci .i64 (q12.c7)])]⟩) (ob := True ∧ True) (by kernel_rfl) hN (by kernel_rfl) ⟨trivial, trivial⟩ (by decide) (by decide) ?_
          refine thenC ?_
          refine goSeq (by kernel_rfl) ?_
          refine goCondT (by kernel_rfl) (by kernel_rfl) ?_
          refine goSkip (by kernel_rfl) ?_
          refine thenC ?_
          refine goSeq (by kernel_rfl) ?_
          refine goBlock (i := 1) (by kernel_rfl) (by kernel_rfl) ?_
          refine goSeq (by kernel_rfl) ?_
          refine goReg (N := 67) (hints := []) (l := [6, 8, 9, 10, 11, 12, 40]) (m := [6, 10, 11]) (s₂ := ⟨[(6, one (.ptr 6 0)), (8, one (ci .i64 (q1))), (9, one (ci .i64 (q2))), (10, one (.ptr 10 0)), (11, one (.ptr 11 0)), (12, one (ci .i64 1)), (40, one (ci .i64 1))], [(6, 24, [ci .i64 0, ci .i64 0, ci .i64 0, ci .i64 0, ci .i64 0, ci .i64 0, ci .i64 0, ci .i64 0]), (10, 36, [ci .i64 ((IntKind.wrap .i64 ((q11.c0) + (q46.1)))), ci .i64 (q11.c1), ci .i64 (q11.c2), ci .i64 (q11.c3), ci .i64 (q11.c4), ci .i64 (q11.c5), ci .i64 (q11.c6), ci .i64 (q11.c7)]), (11, 36, [ci .i64 (q12.c0), ci .i64 (q12.c1), ci .i64 (q12.c2), ci .i64 (q12.c3), ci .i64 (q12.c4), ci .i64 (q12.c5), ci .i64 (q12.c6), ci .i64 (q12.c7)])]⟩) (ob := True ∧ True ∧ True) (by kernel_rfl) hN (by kernel_rfl) ⟨trivial, trivial, trivial⟩ (by decide) (by decide) ?_
          refine thenC ?_
          refine goSeq (by kernel_rfl) ?_
          obtain ⟨q48, hq48, h⟩ := bind_some h
          refine goDraw (N := 67) (m0 := 17) (hints := [(11, .call (⟨.tup [(false, 1), (false, 1)], [ci .i64 (q48.1), ci .i64 (q48.2)]⟩))]) (l := [6, 8, 9, 10, 11, 12, 13, 40]) (m := [6, 10, 11]) (s₂ := ⟨[(6, one (.ptr 6 0)), (8, one (ci .i64 (q1))), (9, one (ci .i64 (q2))), (10, one (.ptr 10 0)), (11, one (.ptr 11 0)), (12, one (ci .i64 1)), (13, one (ci .i64 (q48.1))), (40, one (ci .i64 1))], [(6, 24, [ci .i64 0, ci .i64 0, ci .i64 0, ci .i64 0, ci .i64 0, ci .i64 0, ci .i64 0, ci .i64 0]), (10, 36, [ci .i64 ((IntKind.wrap .i64 ((q11.c0) + (q46.1)))), ci .i64 (q11.c1), ci .i64 (q11.c2), ci .i64 (q11.c3), ci .i64 (q11.c4), ci .i64 (q11.c5), ci .i64 (q11.c6), ci .i64 (q11.c7)]), (11, 36, [ci .i64 (q12.c0), ci .i64 (q12.c1), ci .i64 (q12.c2), ci .i64 (q12.c3), ci .i64 (q12.c4), ci .i64 (q12.c5), ci .i64 (q12.c6), ci .i64 (q12.c7)])]⟩) (ob := (True ∧ (0 ≤ (1 : Int) ∧ (1 : Int) < 8) ∧ True ∧ True ∧ (0 ≤ (1 : Int) ∧ (1 : Int) < 8) ∧ True ∧ True ∧ True ∧ True ∧ True ∧ True ∧ PureC Try.prog 19 [one (ci .i64 ((IntKind.wrap .i64 ((q12.c1) - (q11.c1))))), one (ci .i64 (q1)), one (ci .i64 ((IntKind.wrap .i64 ((q1) - (q2)))))] (⟨.tup [(false, 1), (false, 1)], [ci .i64 (q48.1), ci .i64 (q48.2)]⟩) ∧ True ∧ True ∧ True ∧ True ∧ True ∧ True) ∧ (True)) (by kernel_rfl) hN (by kernel_rfl) (by kernel_rfl) ⟨⟨trivial, (by decide), trivial, trivial, (by decide), trivial, trivial, trivial, trivial, trivial, trivial, (fixed_MulDiv_ok ((IntKind.wrap .i64 ((q12.c1) - (q11.c1)))) (q1) ((IntKind.wrap .i64 ((q1) - (q2)))) _ hq48), trivial, trivial, trivial, trivial, trivial, trivial⟩, trivial⟩ (by decide) (by decide) ?_
          refine thenC ?_
          refine goReg (N := 67) (hints := []) (l := [6, 8, 9, 10, 11, 40]) (m := [6, 10, 11]) (s₂ := ⟨[(6, one (.ptr 6 0)), (8, one (ci .i64 (q1))), (9, one (ci .i64 (q2))), (10, one (.ptr 10 0)), (11, one (.ptr 11 0)), (40, one (ci .i64 1))], [(6, 24, [ci .i64 0, ci .i64 0, ci .i64 0, ci .i64 0, ci .i64 0, ci .i64 0, ci .i64 0, ci .i64 0]), (10, 36, [ci .i64 ((IntKind.wrap .i64 ((q11.c0) + (q46.1)))), ci .i64 ((IntKind.wrap .i64 ((q11.c1) + (q48.1)))), ci .i64 (q11.c2), ci .i64 (q11.c3), ci .i64 (q11.c4), ci .i64 (q11.c5), ci .i64 (q11.c6), ci .i64 (q11.c7)]), (11, 36, [ci .i64 (q12.c0), ci .i64 (q12.c1), ci .i64 (q12.c2), ci .i64 (q12.c3), ci .i64 (q12.c4), ci .i64 (q12.c5), ci .i64 (q12.c6), ci .i64 (q12.c7)])]⟩) (ob := True ∧ (0 ≤ (1 : Int) ∧ (1 : Int) < 8) ∧ True ∧ True ∧ True ∧ (0 ≤ (1 : Int) ∧ (1 : Int) < 8) ∧ True ∧ True) (by kernel_rfl) hN (by kernel_rfl) ⟨trivial, (by decide), trivial, trivial, trivial, (by decide), trivial, trivial⟩ (by decide) (by decide) ?_
          refine blkN ?_
          refine thenC ?_
          refine goReg (N := 67) (hints := []) (l := [6, 8, 9, 10, 11, 40]) (m := [6, 10, 11]) (s₂ := ⟨[(6, one (.ptr 6 0)), (8, one (ci .i64 (q1))), (9, one (ci .i64 (q2))), (10, one (.ptr 10 0)), (11, one (.ptr 11 0)), (40, one (ci .i64 2))], [(6, 24, [ci .i64 0, ci .i64 0, ci .i64 0, ci .i64 0, ci .i64 0, ci .i64 0, ci .i64 0, ci .i64 0]), (10, 36, [ci .i64 ((IntKind.wrap .i64 ((q11.c0) + (q46.1)))), ci .i64 ((IntKind.wrap .i64 ((q11.c1) + (q48.1)))), ci .i64 (q11.c2), ci .i64 (q11.c3), ci .i64 (q11.c4), ci .i64 (q11.c5), ci .i64 (q11.c6), ci .i64 (q11.c7)]), (11, 36, [ci .i64 (q12.c0), ci .i64 (q12.c1), ci .i64 (q12.c2), ci .i64 (q12.c3), ci .i64 (q12.c4), ci .i64 (q12.c5), ci .i64 (q12.c6), ci .i64 (q12.c7)])]⟩) (ob := True ∧ True ∧ True) (by kernel_rfl) hN (by kernel_rfl) ⟨trivial, trivial, trivial⟩ (by decide) (by decide) ?_
          refine thenN (roundC ?_)
          refine goSeq (by kernel_rfl) ?_
          refine goReg (N := 67) (hints := []) (l := [6, 8, 9, 10, 11, 40, 41]) (m := [6, 10, 11]) (s₂ := ⟨[(6, one (.ptr 6 0)), (8, one (ci .i64 (q1))), (9, one (ci .i64 (q2))), (10, one (.ptr 10 0)), (11, one (.ptr 11 0)), (40, one (ci .i64 2)), (41, one (cb true))], [(6, 24, [ci .i64 0, ci .i64 0, ci .i64 0, ci .i64 0, ci .i64 0, ci .i64 0, ci .i64 0, ci .i64 0]), (10, 36, [ci .i64 ((IntKind.wrap .i64 ((q11.c0) + (q46.1)))), ci .i64 ((IntKind.wrap .i64 ((q11.c1) + (q48.1)))), ci .i64 (q11.c2), ci .i64 (q11.c3), ci .i64 (q11.c4), ci .i64 (q11.c5), ci .i64 (q11.c6), ci .i64 (q11.c7)]), (11, 36, [ci .i64 (q12.c0), ci .i64 (q12.c1), ci .i64 (q12.c2), ci .i64 (q12.c3), ci .i64 (q12.c4), ci .i64 (q12.c5), ci .i64 (q12.c6), ci .i64 (q12.c7)])]⟩) (ob := True ∧ True) (by kernel_rfl) hN (by kernel_rfl) ⟨trivial, trivial⟩ (by decide) (by decide) ?_
          refine thenC ?_
          refine goSeq (by kernel_rfl) ?_
          refine goCondT (by kernel_rfl) (by kernel_rfl) ?_
          refine goSkip (by kernel_rfl) ?_
          refine thenC ?_
          refine goSeq (by kernel_rfl) ?_
          refine goBlock (i := 1) (by kernel_rfl) (by kernel_rfl) ?_
          refine goSeq (by kernel_rfl) ?_
          refine goReg (N := 67) (hints := []) (l := [6, 8, 9, 10, 11, 12, 40]) (m := [6, 10, 11]) (s₂ := ⟨[(6, one (.ptr 6 0)), (8, one (ci .i64 (q1))), (9, one (ci .i64 (q2))), (10, one (.ptr 10 0)), (11, one (.ptr 11 0)), (12, one (ci .i64 2)), (40, one (ci .i64 2))], [(6, 24, [ci .i64 0, ci .i64 0, ci .i64 0, ci .i64 0, ci .i64 0, ci .i64 0, ci .i64 0, ci .i64 0]), (10, 36, [ci .i64 ((IntKind.wrap .i64 ((q11.c0) + (q46.1)))), ci .i64 ((IntKind.wrap .i64 ((q11.c1) + (q48.1)))), ci .i64 (q11.c2), ci .i64 (q11.c3), ci .i64 (q11.c4), ci .i64 (q11.c5), ci .i64 (q11.c6), ci .i64 (q11.c7)]), (11, 36, [ci .i64 (q12.c0), ci .i64 (q12.c1), ci .i64 (q12.c2), ci .i64 (q12.c3), ci .i64 (q12.c4), ci .i64 (q12.c5), ci .i64 (q12.c6), ci .i64 (q12.c7)])]⟩) (ob := True ∧ True ∧ True) (by kernel_rfl) hN (by kernel_rfl) ⟨trivial, trivial, trivial⟩ (by decide) (by decide) ?_
          refine thenC ?_
          refine goSeq (by kernel_rfl) ?_
          obtain ⟨q50, hq50, h⟩ := bind_some h
          refine goDraw (N := 67) (m0 := 17) (hints := [(11, .call (⟨.tup [(false, 1), (false, 1)], [ci .i64 (q50.1), ci .i64 (q50.2)]⟩))]) (l := [6, 8, 9, 10, 11, 12, 13, 40]) (m := [6, 10, 11]) (s₂ := ⟨[(6, one (.ptr 6 0)), (8, one (ci .i64 (q1))), (9, one (ci .i64 (q2))), (10, one (.ptr 10 0)), (11, one (.ptr 11 0)), (12, one (ci .i64 2)), (13, one (ci .i64 (q50.1))), (40, one (ci .i64 2))], [(6, 24, [ci .i64 0, ci .i64 0, ci .i64 0, ci .i64 0, ci .i64 0, ci .i64 0, ci .i64 0, ci .i64 0]), (10, 36, [ci .i64 ((IntKind.wrap .i64 ((q11.c0) + (q46.1)))), ci .i64 ((IntKind.wrap .i64 ((q11.c1) + (q48.1)))), ci .i64 (q11.c2), ci .i64 (q11.c3), ci .i64 (q11.c4), ci .i64 (q11.c5), ci .i64 (q11.c6), ci .i64 (q11.c7)]), (11, 36, [ci .i64 (q12.c0), ci .i64 (q12.c1), ci .i64 (q12.c2), ci .i64 (q12.c3), ci .i64 (q12.c4), ci .i64 (q12.c5), ci .i64 (q12.c6), ci .i64 (q12.c7)])]⟩) (ob := (True ∧ (0 ≤ (2 : Int) ∧ (2 : Int) < 8) ∧ True ∧ True ∧ (0 ≤ (2 : Int) ∧ (2 : Int) < 8) ∧ True ∧ True ∧ True ∧ True ∧ True ∧ True ∧ PureC Try.prog 19 [one (ci .i64 ((IntKind.wrap .i64 ((q12.c2) - (q11.c2))))), one (ci .i64 (q1)), one (ci .i64 ((IntKind.wrap .i64 ((q1) - (q2)))))] (⟨.tup [(false, 1), (false, 1)], [ci .i64 (q50.1), ci .i64 (q50.2)]⟩) ∧ True ∧ True ∧ True ∧ True ∧ True ∧ True) ∧ (True)) (by kernel_rfl) hN (by kernel_rfl) (by kernel_rfl) ⟨⟨trivial, (by decide), trivial, trivial, (by decide), trivial, trivial, trivial, trivial, trivial, trivial, (fixed_MulDiv_ok ((IntKind.wrap .i64 ((q12.c2) - (q11.c2)))) (q1) ((IntKind.wrap .i64 ((q1) - (q2)))) _ hq50), trivial, trivial, trivial, trivial, trivial, trivial⟩, trivial⟩ (by decide) (by decide) ?_
          refine thenC ?_
          refine goReg (N := 67) (hints := []) (l := [6, 8, 9, 10, 11, 40]) (m := [6, 10, 11]) (s₂ := ⟨[(6, one (.ptr 6 0)), (8, one (ci .i64 (q1))), (9, one (ci .i64 (q2))), (10, one (.ptr 10 0)), (11, one (.ptr 11 0)), (40, one (ci .i64 2))], [(6, 24, [ci .i64 0, ci .i64 0, ci .i64 0, ci .i64 0, ci .i64 0, ci .i64 0, ci .i64 0, ci .i64 0]), (10, 36, [ci .i64 ((IntKind.wrap .i64 ((q11.c0) + (q46.1)))), ci .i64 ((IntKind.wrap .i64 ((q11.c1) + (q48.1)))), ci .i64 ((IntKind.wrap .i64 ((q11.c2) + (q50.1)))), ci .i64 (q11.c3), ci .i64 (q11.c4), ci .i64 (q11.c5), ci .i64 (q11.c6), ci .i64 (q11.c7)]), (11, 36, [ci .i64 (q12.c0), ci .i64 (q12.c1), ci .i64 (q12.c2), ci .i64 (q12.c3), ci .i64 (q12.c4), ci .i64 (q12.c5), ci .i64 (q12.c6), ci .i64 (q12.c7)])]⟩) (ob := True ∧ (0 ≤ (2 : Int) ∧ (2 : Int) < 8) ∧ True ∧ True ∧ True ∧ (0 ≤ (2 : Int) ∧ (2 : Int) < 8) ∧ True ∧ True) (by kernel_rfl) hN (by kernel_rfl) ⟨trivial, (by decide), trivial, trivial, trivial, (by decide), trivial, trivial⟩ (by decide) (by decide) ?_
          refine blkN ?_
          refine thenC ?_
          refine goReg (N := 67) (hints := []) (l := [6, 8, 9, 10, 11, 40]) (m := [6, 10, 11]) (s₂ := ⟨[(6, one (.ptr 6 0)), (8, one (ci .i64 (q1))), (9, one (ci .i64 (q2))), (10, one (.ptr 10 0)), (11, one (.ptr 11 0)), (40, one (ci .i64 3))], [(6, 24, [ci .i64 0, ci .i64 0, ci .i64 0, ci .i64 0, ci .i64 0, ci .i64 0, ci .i64 0, ci .i64 0]), (10, 36, [ci .i64 ((IntKind.wrap .i64 ((q11.c0) + (q46.1)))), ci .i64 ((IntKind.wrap .i64 ((q11.c1) + (q48.1)))), ci .i64 ((IntKind.wrap .i64 ((q11.c2) + (q50.1)))), ci .i64 (q11.c3), ci .i64 (q11.c4), ci .i64 (q11.c5), ci .i64 (q11.c6), ci .i64 (q11.c7)]), (11, 36, [ci .i64 (q12.c0), ci .i64 (q12.c1), ci .i64 (q12.c2), ci .i64 (q12.c3), ci .i64 (q12.c4), ci .i64 (q12.c5), ci .i64 (q12.c6), ci .i64 (q12.c7)])]⟩) (ob := True ∧ True ∧ True) (by kernel_rfl) hN (by kernel_rfl) ⟨trivial, trivial, trivial⟩ (by decide) (by decide) ?_
          refine thenN (roundC ?_)
          refine goSeq (by kernel_rfl) ?_
          refine goReg (N := 67) (hints := []) (l := [6, 8, 9, 10, 11, 40, 41]) (m := [6, 10, 11]) (s₂ := ⟨[(6, one (.ptr 6 0)), (8, one (ci .i64 (q1))), (9, one (ci .i64 (q2))), (10, one (.ptr 10 0)), (11, one (.ptr 11 0)), (40, one (ci .i64 3)), (41, one (cb true))], [(6, 24, [ci .i64 0, ci .i64 0, ci .i64 0, ci .i64 0, ci .i64 0, ci .i64 0, ci .i64 0, ci .i64 0]), (10, 36, [ci .i64 ((IntKind.wrap .i64 ((q11.c0) + (q46.1)))), ci .i64 ((IntKind.wrap .i64 ((q11.c1) + (q48.1)))), ci .i64 ((IntKind.wrap .i64 ((q11.c2) + (q50.1)))), ci .i64 (q11.c3), ci .i64 (q11.c4), ci .i64 (q11.c5), ci .i64 (q11.c6), ci .i64 (q11.c7)]), (11, 36, [ci .i64 (q12.c0), ci .i64 (q12.c1), ci .i64 (q12.c2), ci .i64 (q12.c3), ci .i64 (q12.c4), ci .i64 (q12.c5), ci .i64 (q12.c6), ci .i64 (q12.c7)])]⟩) (ob := True ∧ True) (by kernel_rfl) hN (by kernel_rfl) ⟨trivial, trivial⟩ (by decide) (by decide) ?_
          refine thenC ?_
          refine goSeq (by kernel_rfl) ?_
          refine goCondT (by kernel_rfl) (by kernel_rfl) ?_
          refine goSkip (by kernel_rfl) ?_
          refine thenC ?_
          refine goSeq (by kernel_rfl) ?_
          refine goBlock (i := 1) (by kernel_rfl) (by kernel_rfl) ?_
          refine goSeq (by kernel_rfl) ?_
          refine goReg (N := 67) (hints := []) (l := [6, 8, 9, 10, 11, 12, 40]) (m := [6, 10, 11]) (s₂ := ⟨[(6, one (.ptr 6 0)), (8, one (ci .i64 (q1))), (9, one (ci .i64 (q2))), (10, one (.ptr 10 0)), (11, one (.ptr 11 0)), (12, one (ci .i64 3)), (40, one (ci .i64 3))], [(6, 24, [ci .i64 0, ci .i64 0, ci .i64 0, ci .i64 0, ci .i64 0, ci .i64 0, ci .i64 0, ci .i64 0]), (10, 36, [ci .i64 ((IntKind.wrap .i64 ((q11.c0) + (q46.1)))), ci .i64 ((IntKind.wrap .i64 ((q11.c1) + (q48.1)))), ci .i64 ((IntKind.wrap .i64 ((q11.c2) + (q50.1)))), ci .i64 (q11.c3), ci .i64 (q11.c4), ci .i64 (q11.c5), ci .i64 (q11.c6), ci .i64 (q11.c7)]), (11, 36, [ci .i64 (q12.c0), ci .i64 (q12.c1), ci .i64 (q12.c2), ci .i64 (q12.c3), ci .i64 (q12.c4), ci .i64 (q12.c5), ci .i64 (q12.c6), ci .i64 (q12.c7)])]⟩) (ob := True ∧ True ∧ True) (by kernel_rfl) hN (by kernel_rfl) ⟨trivial, trivial, trivial⟩ (by decide) (by decide) ?_
          refine thenC ?_
          refine goSeq (by kernel_rfl) ?_
          obtain ⟨q52, hq52, h⟩ := bind_some h
          refine goDraw (N := 67) (m0 := 17) (hints := [(11, .call (⟨.tup [(false, 1), (false, 1)], [ci .i64 (q52.1), ci .i64 (q52.2)]⟩))]) (l := [6, 8, 9, 10, 11, 12, 13, 40]) (m := [6, 10, 11]) (s₂ := ⟨[(6, one (.ptr 6 0)), (8, one (ci .i64 (q1))), (9, one (ci .i64 (q2))), (10, one (.ptr 10 0)), (11, one (.ptr 11 0)), (12, one (ci .i64 3)), (13, one (ci .i64 (q52.1))), (40, one (ci .i64 3))], [(6, 24, [ci .i64 0, ci .i64 0, ci .i64 0, ci .i64 0, ci .i64 0, ci .i64 0, ci .i64 0, ci .i64 0]), (10, 36, [ci .i64 ((IntKind.wrap .i64 ((q11.c0) + (q46.1)))), ci .i64 ((IntKind.wrap .i64 ((q11.c1) + (q48.1)))), ci .i64 ((IntKind.wrap .i64 ((q11.c2) + (q50.1)))), ci .i64 (q11.c3), ci .i64 (q11.c4), ci .i64 (q11.c5), ci .i64 (q11.c6), ci .i64 (q11.c7)]), (11, 36, [ci .i64 (q12.c0), ci .i64 (q12.c1), ci .i64 (q12.c2), ci .i64 (q12.c3), ci .i64 (q12.c4), ci .i64 (q12.c5), ci .i64 (q12.c6), ci .i64 (q12.c7)])]⟩) (ob := (True ∧ (0 ≤ (3 : Int) ∧ (3 : Int) < 8) ∧ True ∧ True ∧ (0 ≤ (3 : Int) ∧ (3 : Int) < 8) ∧ True ∧ True ∧ True ∧ True ∧ True ∧ True ∧ PureC Try.prog 19 [one (ci .i64 ((IntKind.wrap .i64 ((q12.c3) - (q11.c3))))), one (ci .i64 (q1)), one (ci .i64 ((IntKind.wrap .i64 ((q1) - (q2)))))] (⟨.tup [(false, 1), (false, 1)], [ci .i64 (q52.1), ci .i64 (q52.2)]⟩) ∧ True ∧ True ∧ True ∧ True ∧ True ∧ True) ∧ (True)) (by kernel_rfl) hN (by kernel_rfl) (by kernel_rfl) ⟨⟨trivial, (by decide), trivial, trivial, (by decide), trivial, trivial, trivial, trivial, trivial, trivial, (fixed_MulDiv_ok ((IntKind.wrap .i64 ((q12.c3) - (q11.c3)))) (q1) ((IntKind.wrap .i64 ((q1) - (q2)))) _ hq52), trivial, trivial, trivial, trivial, trivial, trivial⟩, trivial⟩ (by decide) (by decide) ?_
          refine thenC ?_
          refine goReg (N := 67) (hints := []) (l := [6, 8, 9, 10, 11, 40]) (m := [6, 10, 11]) (s₂ := ⟨[(6, one (.ptr 6 0)), (8, one (ci .i64 (q1))), (9, one (ci .i64 (q2))), (10, one (.ptr 10 0)), (11, one (.ptr 11 0)), (40, one (ci .i64 3))], [(6, 24, [ci .i64 0, ci .i64 0, ci .i64 0, ci .i64 0, ci .i64 0, ci .i64 0, ci .i64 0, ci .i64 0]), (10, 36, [ci .i64 ((IntKind.wrap .i64 ((q11.c0) + (q46.1)))), ci .i64 ((IntKind.wrap .i64 ((q11.c1) + (q48.1)))), ci .i64 ((IntKind.wrap .i64 ((q11.c2) + (q50.1)))), ci .i64 ((IntKind.wrap .i64 ((q11.c3) + (q52.1)))), ci .i64 (q11.c4), ci .i64 (q11.c5), ci .i64 (q11.c6), ci .i64 (q11.c7)]), (11, 36, [ci .i64 (q12.c0), ci .i64 (q12.c1), ci .i64 (q12.c2), ci .i64 (q12.c3), ci .i64 (q12.c4), ci .i64 (q12.c5), ci .i64 (q12.c6), ci .i64 (q12.c7)])]⟩) (ob := True ∧ (0 ≤ (3 : Int) ∧ (3 : Int) < 8) ∧ True ∧ True ∧ True ∧ (0 ≤ (3 : Int) ∧ (3 : Int) < 8) ∧ True ∧ True) (by kernel_rfl) hN (by kernel_rfl) ⟨trivial, (by decide), trivial, trivial, trivial, (by decide), trivial, trivial⟩ (by decide) (by decide) ?_
          refine blkN ?_
          refine thenC ?_
          refine goReg (N := 67) (hints := []) (l := [6, 8, 9, 10, 11, 40]) (m := [6, 10, 11]) (s₂ := ⟨[(6, one (.ptr 6 0)), (8, one (ci .i64 (q1))), (9, one (ci .i64 (q2))), (10, one (.ptr 10 0)), (11, one (.ptr 11 0)), (40, one (ci .i64 4))], [(6, 24, [ci .i64 0, ci .i64 0, ci .i64 0, ci .i64 0, ci .i64 0, ci .i64 0, ci .i64 0, ci .i64 0]), (10, 36, [ci .i64 ((IntKind.wrap .i64 ((q11.c0) + (q46.1)))), ci .i64 ((IntKind.wrap .i64 ((q11.c1) + (q48.1)))), ci .i64 ((IntKind.wrap .i64 ((q11.c2) + (q50.1)))), ci .i64 ((IntKind.wrap .i64 ((q11.c3) + (q52.1)))), ci .i64 (q11.c4), ci .i64 (q11.c5), ci .i64 (q11.c6), ci .i64 (q11.c7)]), (11, 36, [ci .i64 (q12.c0), ci .i64 (q12.c1), ci .i64 (q12.c2), ci .i64 (q12.c3), ci .i64 (q12.c4), ci .i64 (q12.c5), ci .i64 (q12.c6), ci .i64 (q12.c7)])]⟩) (ob := True ∧ True ∧ True) (by kernel_rfl) hN (by kernel_rfl) ⟨trivial, trivial, trivial⟩ (by decide) (by decide) ?_
          refine thenN (roundC ?_)
          refine goSeq (by kernel_rfl) ?_
          refine goReg (N := 67) (hints := []) (l := [6, 8, 9, 10, 11, 40, 41]) (m := [6, 10, 11]) (s₂ := ⟨[(6, one (.ptr 6 0)), (8, one (ci .i64 (q1))), (9, one (ci .i64 (q2))), (10, one (.ptr 10 0)), (11, one (.ptr 11 0)), (40, one (ci .i64 4)), (41, one (cb true))], [(6, 24, [ci .i64 0, ci .i64 0, ci .i64 0, ci .i64 0, ci .i64 0, ci .i64 0, ci .i64 0, ci .i64 0]), (10, 36, [ci .i64 ((IntKind.wrap .i64 ((q11.c0) + (q46.1)))), ci .i64 ((IntKind.wrap .i64 ((q11.c1) + (q48.1)))), ci .i64 ((IntKind.wrap .i64 ((q11.c2) + (q50.1)))), ci .i64 ((IntKind.wrap .i64 ((q11.c3) + (q52.1)))), ci .i64 (q11.c4), ci .i64 (q11.c5), ci .i64 (q11.c6), ci .i64 (q11.c7)]), (11, 36, [ci .i64 (q12.c0), ci .i64 (q12.c1), ci .i64 (q12.c2), ci .i64 (q12.c3), ci .i64 (q12.c4), ci .i64 (q12.c5), ci .i64 (q12.c6), ci .i64 (q12.c7)])]⟩) (ob := True ∧ True) (by kernel_rfl) hN (by kernel_rfl) ⟨trivial, trivial⟩ (by decide) (by decide) ?_
          refine thenC ?_
          refine goSeq (by kernel_rfl) ?_
          refine goCondT (by kernel_rfl) (by kernel_rfl) ?_
          refine goSkip (by kernel_rfl) ?_
          refine thenC ?_
          refine goSeq (by kernel_rfl) ?_
          refine goBlock (i := 1) (by kernel_rfl) (by kernel_rfl) ?_
          refine goSeq (by kernel_rfl) ?_
          refine goReg (N := 67) (hints := []) (l := [6, 8, 9, 10, 11, 12, 40]) (m := [6, 10, 11]) (s₂ := ⟨[(6, one (.ptr 6 0)), (8, one (ci .i64 (q1))), (9, one (ci .i64 (q2))), (10, one (.ptr 10 0)), (11, one (.ptr 11 0)), (12, one (ci .i64 4)), (40, one (ci .i64 4))], [(6, 24, [ci .i64 0, ci .i64 0, ci .i64 0, ci .i64 0, ci .i64 0, ci .i64 0, ci .i64 0, ci .i64 0]), (10, 36, [ci .i64 ((IntKind.wrap .i64 ((q11.c0) + (q46.1)))), ci .i64 ((IntKind.wrap .i64 ((q11.c1) + (q48.1)))), ci .i64 ((IntKind.wrap .i64 ((q11.c2) + (q50.1)))), ci .i64 ((IntKind.wrap .i64 ((q11.c3) + (q52.1)))), ci .i64 (q11.c4), ci .i64 (q11.c5), ci .i64 (q11.c6), ci .i64 (q11.c7)]), (11, 36, [ci .i64 (q12.c0), ci .i64 (q12.c1), ci .i64 (q12.c2), ci .i64 (q12.c3), ci .i64 (q12.c4), ci .i64 (q12.c5), ci .i64 (q12.c6), ci .i64 (q12.c7)])]⟩) (ob := True ∧ True ∧ True) (by kernel_rfl) hN (by kernel_rfl) ⟨trivial, trivial, trivial⟩ (by decide) (by decide) ?_
          refine thenC ?_
          refine goSeq (by kernel_rfl) ?_
          obtain ⟨q54, hq54, h⟩ := bind_some h
          refine goDraw (N := 67) (m0 := 17) (hints := [(11, .call (⟨.tup [(false, 1), (false, 1)], [ci .i64 (q54.1), ci .i64 (q54.2)]⟩))]) (l := [6, 8, 9, 10, 11, 12, 13, 40]) (m := [6, 10, 11]) (s₂ := ⟨[(6, one (.ptr 6 0)), (8, one (ci .i64 (q1))), (9, one (ci .i64 (q2))), (10, one (.ptr 10 0)), (11, one (.ptr 11 0)), (12, one (ci .i64 4)), (13, one (ci .i64 (q54.1))), (40, one (ci .i64 4))], [(6, 24, [ci .i64 0, ci .i64 0, ci .i64 0, ci .i64 0, ci .i64 0, ci .i64 0, ci .i64 0, ci .i64 0]), (10, 36, [ci .i64 ((IntKind.wrap .i64 ((q11.c0) + (q46.1)))), ci .i64 ((IntKind.wrap .i64 ((q11.c1) + (q48.1)))), ci .i64 ((IntKind.wrap .i64 ((q11.c2) + (q50.1)))), ci .i64 ((IntKind.wrap .i64 ((q11.c3) + (q52.1)))), ci .i64 (q11.c4), ci .i64 (q11.c5), ci .i64 (q11.c6), ci .i64 (q11.c7)]), (11, 36, [ci .i64 (q12.c0), ci .i64 (q12.c1), ci .i64 (q12.c2), ci .i64 (q12.c3), ci .i64 (q12.c4), ci .i64 (q12.c5), ci .i64 (q12.c6), ci .i64 (q12.c7)])]⟩) (ob := (True ∧ (0 ≤ (4 : Int) ∧ (4 : Int) < 8) ∧ True ∧ True ∧ (0 ≤ (4 : Int) ∧ (4 : Int) < 8) ∧ True ∧ True ∧ True ∧ True ∧ True ∧ True ∧ PureC Try.prog 19 [one (ci .i64 ((IntKind.wrap .i64 ((q12.c4) - (q11.c4))))), one (ci .i64 (q1)), one (ci .i64 ((IntKind.wrap .i64 ((q1) - (q2)))))] (⟨.tup [(false, 1), (false, 1)], [ci .i64 (q54.1), ci .i64 (q54.2)]⟩) ∧ True ∧ True ∧ True ∧ True ∧ True ∧ True) ∧ (True)) (by kernel_rfl) hN (by kernel_rfl) (by kernel_rfl) ⟨⟨trivial, (by decide), trivial, trivial, (by decide), trivial, trivial, trivial, trivial, trivial, trivial, (fixed_MulDiv_ok ((IntKind.wrap .i64 ((q12.c4) - (q11.c4)))) (q1) ((IntKind.wrap .i64 ((q1) - (q2)))) _ hq54), trivial, trivial, trivial, trivial, trivial, trivial⟩, trivial⟩ (by decide) (by decide) ?_
          refine thenC ?_
          refine goReg (N := 67) (hints := []) (l := [6, 8, 9, 10, 11, 40]) (m := [6, 10, 11]) (s₂ := ⟨[(6, one (.ptr 6 0)), (8, one (ci .i64 (q1))), (9, one (ci .i64 (q2))), (10, one (.ptr 10 0)), (11, one (.ptr 11 0)), (40, one (ci .i64 4))], [(6, 24, [ci .i64 0, ci .i64 0, ci .i64 0, ci .i64 0, ci .i64 0, ci .i64 0, ci .i64 0, ci .i64 0]), (10, 36, [ci .i64 ((IntKind.wrap .i64 ((q11.c0) + (q46.1)))), ci .i64 ((IntKind.wrap .i64 ((q11.c1) + (q48.1)))), ci .i64 ((IntKind.wrap .i64 ((q11.c2) + (q50.1)))), ci .i64 ((IntKind.wrap .i64 ((q11.c3) + (q52.1)))), ci .i64 ((IntKind.wrap .i64 ((q11.c4) + (q54.1)))), ci .i64 (q11.c5), ci .i64 (q11.c6), ci .i64 (q11.c7)]), (11, 36, [ci .i64 (q12.c0), ci .i64 (q12.c1), ci .i64 (q12.c2), ci .i64 (q12.c3), ci .i64 (q12.c4), ci .i64 (q12.c5), ci .i64 (q12.c6), ci .i64 (q12.c7)])]⟩) (ob := True ∧ (0 ≤ (4 : Int) ∧ (4 : Int) < 8) ∧ True ∧ True ∧ True ∧ (0 ≤ (4 : Int) ∧ (4 : Int) < 8) ∧ True ∧ True) (by kernel_rfl) hN (by kernel_rfl) ⟨trivial, (by decide), trivial, trivial, trivial, (by decide), trivial, trivial⟩ (by decide) (by decide) ?_
          refine blkN ?_
          refine thenC ?_
          refine goReg (N := 67) (hints := []) (l := [6, 8, 9, 10, 11, 40]) (m := [6, 10, 11]) (s₂ := ⟨[(6, one (.ptr 6 0)), (8, one (ci .i64 (q1))), (9, one (ci .i64 (q2))), (10, one (.ptr 10 0)), (11, one (.ptr 11 0)), (40, one (ci .i64 5))], [(6, 24, [ci .i64 0, ci .i64 0, ci .i64 0, ci .i64 0, ci .i64 0, ci .i64 0, ci .i64 0, ci .i64 0]), (10, 36, [ci .i64 ((IntKind.wrap .i64 ((q11.c0) + (q46.1)))), ci .i64 ((IntKind.wrap .i64 ((q11.c1) + (q48.1)))), ci .i64 ((IntKind.wrap .i64 ((q11.c2) + (q50.1)))), ci .i64 ((IntKind.wrap .i64 ((q11.c3) + (q52.1)))), ci .i64 ((IntKind.wrap .i64 ((q11.c4) + (q54.1)))), ci .i64 (q11.c5), ci .i64 (q11.c6), ci .i64 (q11.c7)]), (11, 36, [ci .i64 (q12.c0), ci .i64 (q12.c1), ci .i64 (q12.c2), ci .i64 (q12.c3), ci .i64 (q12.c4), ci .i64 (q12.c5), ci .i64 (q12.c6), ci .i64 (q12.c7)])]⟩) (ob := True ∧ True ∧ True) (by kernel_rfl) hN (by kernel_rfl) ⟨trivial, trivial, trivial⟩ (by decide) (by decide) ?_
          refine thenN (roundC ?_)
          refine goSeq (by kernel_rfl) ?_
          refine goReg (N := 67) (hints := []) (l := [6, 8, 9, 10, 11, 40, 41]) (m := [6, 10, 11]) (s₂ := ⟨[(6, one (.ptr 6 0)), (8, one (ci .i64 (q1))), (9, one (ci .i64 (q2))), (10, one (.ptr 10 0)), (11, one (.ptr 11 0)), (40, one (ci .i64 5)), (41, one (cb true))], [(6, 24, [ci .i64 0, ci .i64 0, ci .i64 0, ci .i64 0, ci .i64 0, ci .i64 0, ci .i64 0, ci .i64 0]), (10, 36, [ci .i64 ((IntKind.wrap .i64 ((q11.c0) + (q46.1)))), ci .i64 ((IntKind.wrap .i64 ((q11.c1) + (q48.1)))), ci .i64 ((IntKind.wrap .i64 ((q11.c2) + (q50.1)))), ci .i64 ((IntKind.wrap .i64 ((q11.c3) + (q52.1)))), ci .i64 ((IntKind.wrap .i64 ((q11.c4) + (q54.1)))), ci .i64 (q11.c5), ci .i64 (q11.c6), ci .i64 (q11.c7)]), (11, 36, [ci .i64 (q12.c0), ci .i64 (q12.c1), ci .i64 (q12.c2), ci .i64 (q12.c3), ci .i64 (q12.c4), ci .i64 (q12.c5), ci .i64 (q12.c6), ci .i64 (q12.c7)])]⟩) (ob := True ∧ True) (by kernel_rfl) hN (by kernel_rfl) ⟨trivial, trivial⟩ (by decide) (by decide) ?_
          refine thenC ?_
          refine goSeq (by kernel_rfl) ?_
          refine goCondT (by kernel_rfl) (by kernel_rfl) ?_
          refine goSkip (by kernel_rfl) ?_
          refine thenC ?_
          refine goSeq (by kernel_rfl) ?_
          refine goBlock (i := 1) (by kernel_rfl) (by kernel_rfl) ?_
          refine goSeq (by kernel_rfl) ?_
          refine goReg (N := 67) (hints := []) (l := [6, 8, 9, 10, 11, 12, 40]) (m := [6, 10, 11]) (s₂ := ⟨[(6, one (.ptr 6 0)), (8, one (ci .i64 (q1))), (9, one (ci .i64 (q2))), (10, one (.ptr 10 0)), (11, one (.ptr 11 0)), (12, one (ci .i64 5)), (40, one (ci .i64 5))], [(6, 24, [ci .i64 0, ci .i64 0, ci .i64 0, ci .i64 0, ci .i64 0, ci .i64 0, ci .i64 0, ci .i64 0]), (10, 36, [ci .i64 ((IntKind.wrap .i64 ((q11.c0) + (q46.1)))), ci .i64 ((IntKind.wrap .i64 ((q11.c1) + (q48.1)))), ci .i64 ((IntKind.wrap .i64 ((q11.c2) + (q50.1)))), ci .i64 ((IntKind.wrap .i64 ((q11.c3) + (q52.1)))), ci .i64 ((IntKind.wrap .i64 ((q11.c4) + (q54.1)))), ci .i64 (q11.c5), ci .i64 (q11.c6), ci .i64 (q11.c7)]), (11, 36, [ci .i64 (q12.c0), ci .i64 (q12.c1), ci .i64 (q12.c2), ci .i64 (q12.c3), ci .i64 (q12.c4), ci .i64 (q12.c5), ci .i64 (q12.c6), ci .i64 (q12.c7)])]⟩) (ob := True ∧ True ∧ True) (by kernel_rfl) hN (by kernel_rfl) ⟨trivial, trivial, trivial⟩ (by decide) (by decide) ?_
          refine thenC ?_
          refine goSeq (by kernel_rfl) ?_
          obtain ⟨q56, hq56, h⟩ := bind_some h
          refine goDraw (N := 67) (m0 := 17) (hints := [(11, .call (⟨.tup [(false, 1), (false, 1)], [ci .i64 (q56.1), ci .i64 (q56.2)]⟩))]) (l := [6, 8, 9, 10, 11, 12, 13, 40]) (m := [6, 10, 11]) (s₂ := ⟨[(6, one (.ptr 6 0)), (8, one (ci .i64 (q1))), (9, one (ci .i64 (q2))), (10, one (.ptr 10 0)), (11, one (.ptr 11 0)), (12, one (ci .i64 5)), (13, one (ci .i64 (q56.1))), (40, one (ci .i64 5))], [(6, 24, [ci .i64 0, ci .i64 0, ci .i64 0, ci .i64 0, ci .i64 0, ci .i64 0, ci .i64 0, ci .i64 0]), (10, 36, [ci .i64 ((IntKind.wrap .i64 ((q11.c0) + (q46.1)))), ci .i64 ((IntKind.wrap .i64 ((q11.c1) + (q48.1)))), ci .i64 ((IntKind.wrap .i64 ((q11.c2) + (q50.1)))), ci .i64 ((IntKind.wrap .i64 ((q11.c3) + (q52.1)))), ci .i64 ((IntKind.wrap .i64 ((q11.c4) + (q54.1)))), ci .i64 (q11.c5), ci .i64 (q11.c6), ci .i64 (q11.c7)]), (11, 36, [ci .i64 (q12.c0), ci .i64 (q12.c1), ci .i64 (q12.c2), ci .i64 (q12.c3), ci .i64 (q12.c4), ci .i64 (q12.c5), ci .i64 (q12.c6), ci .i64 (q12.c7)])]⟩) (ob := (True ∧ (0 ≤ (5 : Int) ∧ (5 : Int) < 8) ∧ True ∧ True ∧ (0 ≤ (5 : Int) ∧ (5 : Int) < 8) ∧ True ∧ True ∧ True ∧ True ∧ True ∧ True ∧ PureC Try.prog 19 [one (ci .i64 ((IntKind.wrap .i64 ((q12.c5) - (q11.c5))))), one (ci .i64 (q1)), one (ci .i64 ((IntKind.wrap .i64 ((q1) - (q2)))))] (⟨.tup [(false, 1), (false, 1)], [ci .i64 (q56.1), ci .i64 (q56.2)]⟩) ∧ True ∧ True ∧ True ∧ True ∧ True ∧ True) ∧ (True)) (by kernel_rfl) hN (by kernel_rfl) (by kernel_rfl) ⟨⟨trivial, (by decide), trivial, trivial, (by decide), trivial, trivial, trivial, trivial, trivial, trivial, (fixed_MulDiv_ok ((IntKind.wrap .i64 ((q12.c5) - (q11.c5)))) (q1) ((IntKind.wrap .i64 ((q1) - (q2)))) _ hq56), trivial, trivial, trivial, trivial, trivial, trivial⟩, trivial⟩ (by decide) (by decide) ?_
          refine thenC ?_
          refine goReg (N := 67) (hints := []) (l := [6, 8, 9, 10, 11, 40]) (m := [6, 10, 11]) (s₂ := ⟨[(6, one (.ptr 6 0)), (8, one (ci .i64 (q1))), (9, one (ci .i64 (q2))), (10, one (.ptr 10 0)), (11, one (.ptr 11 0)), (40, one (ci .i64 5))], [(6, 24, [ci .i64 0, ci .i64 0, ci .i64 0, ci .i64 0, ci .i64 0, ci .i64 0, ci .i64 0, ci .i64 0]), (10, 36, [ci .i64 ((IntKind.wrap .i64 ((q11.c0) + (q46.1)))), ci .i64 ((IntKind.wrap .i64 ((q11.c1) + (q48.1)))), ci .i64 ((IntKind.wrap .i64 ((q11.c2) + (q50.1)))), ci .i64 ((IntKind.wrap .i64 ((q11.c3) + (q52.1)))), ci .i64 ((IntKind.wrap .i64 ((q11.c4) + (q54.1)))), ci .i64 ((IntKind.wrap .i64 ((q11.c5) + (q56.1)))), ci .i64 (q11.c6), ci .i64 (q11.c7)]), (11, 36, [ci .i64 (q12.c0), ci .i64 (q12.c1), ci .i64 (q12.c2), ci .i64 (q12.c3), ci .i64 (q12.c4), ci .i64 (q12.c5), ci .i64 (q12.c6), ci .i64 (q12.c7)])]⟩) (ob := True ∧ (0 ≤ (5 : Int) ∧ (5 : Int) < 8) ∧ True ∧ True ∧ True ∧ (0 ≤ (5 : Int) ∧ (5 : Int) < 8) ∧ True ∧ True) (by kernel_rfl) hN (by kernel_rfl) ⟨trivial, (by decide), trivial, trivial, trivial, (by decide), trivial, trivial⟩ (by decide) (by decide) ?_
          refine blkN ?_
          refine thenC ?_
          refine goReg (N := 67) (hints := []) (l := [6, 8, 9, 10, 11, 40]) (m := [6, 10, 11]) (s₂ := ⟨[(6, one (.ptr 6 0)), (8, one (ci .i64 (q1))), (9, one (ci .i64 (q2))), (10, one (.ptr 10 0)), (11, one (.ptr 11 0)), (40, one (ci .i64 6))], [(6, 24, [ci .i64 0, ci .i64 0, ci .i64 0, ci .i64 0, ci .i64 0, ci .i64 0, ci .i64 0, ci .i64 0]), (10, 36, [ci .i64 ((IntKind.wrap .i64 ((q11.c0) + (q46.1)))), ci .i64 ((IntKind.wrap .i64 ((q11.c1) + (q48.1)))), ci .i64 ((IntKind.wrap .i64 ((q11.c2) + (q50.1)))), ci .i64 ((IntKind.wrap .i64 ((q11.c3) + (q52.1)))), ci .i64 ((IntKind.wrap .i64 ((q11.c4) + (q54.1)))), ci .i64 ((IntKind.wrap .i64 ((q11.c5) + (q56.1)))), ci .i64 (q11.c6), ci .i64 (q11.c7)]), (11, 36, [ci .i64 (q12.c0), ci .i64 (q12.c1), ci .i64 (q12.c2), ci .i64 (q12.c3), ci .i64 (q12.c4), ci .i64 (q12.c5), ci .i64 (q12.c6), ci .i64 (q12.c7)])]⟩) (ob := True ∧ True ∧ True) (by kernel_rfl) hN (by kernel_rfl) ⟨trivial, trivial, trivial⟩ (by decide) (by decide) ?_
          refine thenN (roundC ?_)
          refine goSeq (by kernel_rfl) ?_
          refine goReg (N := 67) (hints := []) (l := [6, 8, 9, 10, 11, 40, 41]) (m := [6, 10, 11]) (s₂ := ⟨[(6, one (.ptr 6 0)), (8, one (ci .i64 (q1))), (9, one (ci .i64 (q2))), (10, one (.ptr 10 0)), (11, one (.ptr 11 0)), (40, one (ci .i64 6)), (41, one (cb true))], [(6, 24, [ci .i64 0, ci .i64 0, ci .i64 0, ci .i64 0, ci .i64 0, ci .i64 0, ci .i64 0, ci .i64 0]), (10, 36, [ci .i64 ((IntKind.wrap .i64 ((q11.c0) + (q46.1)))), ci .i64 ((IntKind.wrap .i64 ((q11.c1) + (q48.1)))), ci .i64 ((IntKind.wrap .i64 ((q11.c2) + (q50.1)))), ci .i64 ((IntKind.wrap .i64 ((q11.c3) + (q52.1)))), ci .i64 ((IntKind.wrap .i64 ((q11.c4) + (q54.1)))), ci .i64 ((IntKind.wrap .i64 ((q11.c5) + (q56.1)))), ci .i64 (q11.c6), ci .i64 (q11.c7)]), (11, 36, [ci .i64 (q12.c0), ci .i64 (q12.c1), ci .i64 (q12.c2), ci .i64 (q12.c3), ci .i64 (q12.c4), ci .i64 (q12.c5), ci .i64 (q12.c6), ci .i64 (q12.c7)])]⟩) (ob := True ∧ True) (by kernel_rfl) hN (by kernel_rfl) ⟨trivial, trivial⟩ (by decide) (by decide) ?_
          refine thenC ?_
          refine goSeq (by kernel_rfl) ?_
          refine goCondT (by kernel_rfl) (by kernel_rfl) ?_
          refine goSkip (by kernel_rfl) ?_
          refine thenC ?_
          refine goSeq (by kernel_rfl) ?_
          refine goBlock (i := 1) (by kernel_rfl) (by kernel_rfl) ?_
          refine goSeq (by kernel_rfl) ?_
          refine goReg (N := 67) (hints := []) (l := [6, 8, 9, 10, 11, 12, 40]) (m := [6, 10, 11]) (s₂ := ⟨[(6, one (.ptr 6 0)), (8, one (ci .i64 (q1))), (9, one (ci .i64 (q2))), (10, one (.ptr 10 0)), (11, one (.ptr 11 0)), (12, one (ci .i64 6)), (40, one (ci .i64 6))], [(6, 24, [ci .i64 0, ci .i64 0, ci .i64 0, ci .i64 0, ci .i64 0, ci .i64 0, ci .i64 0, ci .i64 0]), (10, 36, [ci .i64 ((IntKind.wrap .i64 ((q11.c0) + (q46.1)))), ci .i64 ((IntKind.wrap .i64 ((q11.c1) + (q48.1)))), ci .i64 ((IntKind.wrap .i64 ((q11.c2) + (q50.1)))), ci .i64 ((IntKind.wrap .i64 ((q11.c3) + (q52.1)))), ci .i64 ((IntKind.wrap .i64 ((q11.c4) + (q54.1)))), ci .i64 ((IntKind.wrap .i64 ((q11.c5) + (q56.1)))), ci .i64 (q11.c6), ci .i64 (q11.c7)]), (11, 36, [ci .i64 (q12.c0), ci .i64 (q12.c1), ci .i64 (q12.c2), ci .i64 (q12.c3), ci .i64 (q12.c4), ci .i64 (q12.c5), ci .i64 (q12.c6), ci .i64 (q12.c7)])]⟩) (ob := True ∧ True ∧ True) (by kernel_rfl) hN (by kernel_rfl) ⟨trivial, trivial, trivial⟩ (by decide) (by decide) ?_
          refine thenC ?_
          refine goSeq (by kernel_rfl) ?_
          obtain ⟨q58, hq58, h⟩ := bind_some h
          refine goDraw (N := 67) (m0 := 17) (hints := [(11, .call (⟨.tup [(false, 1), (false, 1)], [ci .i64 (q58.1), ci .i64 (q58.2)]⟩))]) (l := [6, 8, 9, 10, 11, 12, 13, 40]) (m := [6, 10, 11]) (s₂ := ⟨[(6, one (.ptr 6 0)), (8, one (ci .i64 (q1))), (9, one (ci .i64 (q2))), (10, one (.ptr 10 0)), (11, one (.ptr 11 0)), (12, one (ci .i64 6)), (13, one (ci .i64 (q58.1))), (40, one (ci .i64 6))], [(6, 24, [ci .i64 0, ci .i64 0, ci .i64 0, ci .i64 0, ci .i64 0, ci .i64 0, ci .i64 0, ci .i64 0]), (10, 36, [ci .i64 ((IntKind.wrap .i64 ((q11.c0) + (q46.1)))), ci .i64 ((IntKind.wrap .i64 ((q11.c1) + (q48.1)))), ci .i64 ((IntKind.wrap .i64 ((q11.c2) + (q50.1)))), ci .i64 ((IntKind.wrap .i64 ((q11.c3) + (q52.1)))), ci .i64 ((IntKind.wrap .i64 ((q11.c4) + (q54.1)))), ci .i64 ((IntKind.wrap .i64 ((q11.c5) + (q56.1)))), ci .i64 (q11.c6), ci .i64 (q11.c7)]), (11, 36, [ci .i64 (q12.c0), ci .i64 (q12.c1), ci .i64 (q12.c2), ci .i64 (q12.c3), ci .i64 (q12.c4), ci .i64 (q12.c5), ci .i64 (q12.c6), ci .i64 (q12.c7)])]⟩) (ob := (True ∧ (0 ≤ (6 : Int) ∧ (6 : Int) < 8) ∧ True ∧ True ∧ (0 ≤ (6 : Int) ∧ (6 : Int) < 8) ∧ True ∧ True ∧ True ∧ True ∧ True ∧ True ∧ PureC Try.prog 19 [one (ci .i64 ((IntKind.wrap .i64 ((q12.c6) - (q11.c6))))), one (ci .i64 (q1)), one (ci .i64 ((IntKind.wrap .i64 ((q1) - (q2)))))] (⟨.tup [(false, 1), (false, 1)], [ci .i64 (q58.1), ci .i64 (q58.2)]⟩) ∧ True ∧ True ∧ True ∧ True ∧ True ∧ True) ∧ (True)) (by kernel_rfl) hN (by kernel_rfl) (by kernel_rfl) ⟨⟨trivial, (by decide), trivial, trivial, (by decide), trivial, trivial, trivial, trivial, trivial, trivial, (fixed_MulDiv_ok ((IntKind.wrap .i64 ((q12.c6) - (q11.c6)))) (q1) ((IntKind.wrap .i64 ((q1) - (q2)))) _ hq58), trivial, trivial, trivial, trivial, trivial, trivial⟩, trivial⟩ (by decide) (by decide) ?_
          refine thenC ?_
          refine goReg (N := 67) (hints := []) (l := [6, 8, 9, 10, 11, 40]) (m := [6, 10, 11]) (s₂ := ⟨[(6, one (.ptr 6 0)), (8, one (ci .i64 (q1))), (9, one (ci .i64 (q2))), (10, one (.ptr 10 0)), (11, one (.ptr 11 0)), (40, one (ci .i64 6))], [(6, 24, [ci .i64 0, ci .i64 0, ci .i64 0, ci .i64 0, ci .i64 0, ci .i64 0, ci .i64 0, ci .i64 0]), (10, 36, [ci .i64 ((IntKind.wrap .i64 ((q11.c0) + (q46.1)))), ci .i64 ((IntKind.wrap .i64 ((q11.c1) + (q48.1)))), ci .i64 ((IntKind.wrap .i64 ((q11.c2) + (q50.1)))), ci .i64 ((IntKind.wrap .i64 ((q11.c3) + (q52.1)))), ci .i64 ((IntKind.wrap .i64 ((q11.c4) + (q54.1)))), ci .i64 ((IntKind.wrap .i64 ((q11.c5) + (q56.1)))), ci .i64 ((IntKind.wrap .i64 ((q11.c6) + (q58.1)))), ci .i64 (q11.c7)]), (11, 36, [ci .i64 (q12.c0), ci .i64 (q12.c1), ci .i64 (q12.c2), ci .i64 (q12.c3), ci .i64 (q12.c4), ci .i64 (q12.c5), ci .i64 (q12.c6), ci .i64 (q12.c7)])]⟩) (ob := True ∧ (0 ≤ (6 : Int) ∧ (6 : Int) < 8) ∧ True ∧ True ∧ True ∧ (0 ≤ (6 : Int) ∧ (6 : Int) < 8) ∧ True ∧ True) (by kernel_rfl) hN (by kernel_rfl) ⟨trivial, (by decide), trivial, trivial, trivial, (by decide), trivial, trivial⟩ (by decide) (by decide) ?_
          refine blkN ?_
          refine thenC ?_
          refine goReg (N := 67) (hints := []) (l := [6, 8, 9, 10, 11, 40]) (m := [6, 10, 11]) (s₂ := ⟨[(6, one (.ptr 6 0)), (8, one (ci .i64 (q1))), (9, one (ci .i64 (q2))), (10, one (.ptr 10 0)), (11, one (.ptr 11 0)), (40, one (ci .i64 7))], [(6, 24, [ci .i64 0, ci .i64 0, ci .i64 0, ci .i64 0, ci .i64 0, ci .i64 0, ci .i64 0, ci .i64 0]), (10, 36, [ci .i64 ((IntKind.wrap .i64 ((q11.c0) + (q46.1)))), ci .i64 ((IntKind.wrap .i64 ((q11.c1) + (q48.1)))), ci .i64 ((IntKind.wrap .i64 ((q11.c2) + (q50.1)))), ci .i64 ((IntKind.wrap .i64 ((q11.c3) + (q52.1)))), ci .i64 ((IntKind.wrap .i64 ((q11.c4) + (q54.1)))), ci .i64 ((IntKind.wrap .i64 ((q11.c5) + (q56.1)))), ci .i64 ((IntKind.wrap .i64 ((q11.c6) + (q58.1)))), ci .i64 (q11.c7)]), (11, 36, [ci .i64 (q12.c0), ci .i64 (q12.c1), ci .i64 (q12.c2), ci .i64 (q12.c3), ci .i64 (q12.c4), ci .i64 (q12.c5), ci .i64 (q12.c6), ci .i64 (q12.c7)])]⟩) (ob := True ∧ True ∧ True) (by kernel_rfl) hN (by kernel_rfl) ⟨trivial, trivial, trivial⟩ (by decide) (by decide) ?_
          refine thenN (roundC ?_)
          refine goSeq (by kernel_rfl) ?_
          refine goReg (N := 67) (hints := []) (l := [6, 8, 9, 10, 11, 40, 41]) (m := [6, 10, 11]) (s₂ := ⟨[(6, one (.ptr 6 0)), (8, one (ci .i64 (q1))), (9, one (ci .i64 (q2))), (10, one (.ptr 10 0)), (11, one (.ptr 11 0)), (40, one (ci .i64 7)), (41, one (cb true))], [(6, 24, [ci .i64 0, ci .i64 0, ci .i64 0, ci .i64 0, ci .i64 0, ci .i64 0, ci .i64 0, ci .i64 0]), (10, 36, [ci .i64 ((IntKind.wrap .i64 ((q11.c0) + (q46.1)))), ci .i64 ((IntKind.wrap .i64 ((q11.c1) + (q48.1)))), ci .i64 ((IntKind.wrap .i64 ((q11.c2) + (q50.1)))), ci .i64 ((IntKind.wrap .i64 ((q11.c3) + (q52.1)))), ci .i64 ((IntKind.wrap .i64 ((q11.c4) + (q54.1)))), ci .i64 ((IntKind.wrap .i64 ((q11.c5) + (q56.1)))), ci .i64 ((IntKind.wrap .i64 ((q11.c6) + (q58.1)))), ci .i64 (q11.c7)]), (11, 36, [ci .i64 (q12.c0), ci .i64 (q12.c1), ci .i64 (q12.c2), ci .i64 (q12.c3), ci .i64 (q12.c4), ci .i64 (q12.c5), ci .i64 (q12.c6), ci .i64 (q12.c7)])]⟩) (ob := True ∧ True) (by kernel_rfl) hN (by kernel_rfl) ⟨trivial, trivial⟩ (by decide) (by decide) ?_
          refine thenC ?_
          refine goSeq (by kernel_rfl) ?_
          refine goCondT (by kernel_rfl) (by kernel_rfl) ?_
          refine goSkip (by kernel_rfl) ?_
          refine thenC ?_
          refine goSeq (by kernel_rfl) ?_
          refine goBlock (i := 1) (by kernel_rfl) (by kernel_rfl) ?_
          refine goSeq (by kernel_rfl) ?_
          refine goReg (N := 67) (hints := []) (l := [6, 8, 9, 10, 11, 12, 40]) (m := [6, 10, 11]) (s₂ := ⟨[(6, one (.ptr 6 0)), (8, one (ci .i64 (q1))), (9, one (ci .i64 (q2))), (10, one (.ptr 10 0)), (11, one (.ptr 11 0)), (12, one (ci .i64 7)), (40, one (ci .i64 7))], [(6, 24, [ci .i64 0, ci .i64 0, ci .i64 0, ci .i64 0, ci .i64 0, ci .i64 0, ci .i64 0, ci .i64 0]), (10, 36, [ci .i64 ((IntKind.wrap .i64 ((q11.c0) + (q46.1)))), ci .i64 ((IntKind.wrap .i64 ((q11.c1) + (q48.1)))), ci .i64 ((IntKind.wrap .i64 ((q11.c2) + (q50.1)))), ci .i64 ((IntKind.wrap .i64 ((q11.c3) + (q52.1)))), ci .i64 ((IntKind.wrap .i64 ((q11.c4) + (q54.1)))), ci .i64 ((IntKind.wrap .i64 ((q11.c5) + (q56.1)))), ci .i64 ((IntKind.wrap .i64 ((q11.c6) + (q58.1)))), ci .i64 (q11.c7)]), (11, 36, [ci .i64 (q12.c0), ci .i64 (q12.c1), ci .i64 (q12.c2), ci .i64 (q12.c3), ci .i64 (q12.c4), ci .i64 (q12.c5), ci .i64 (q12.c6), ci .i64 (q12.c7)])]⟩) (ob := True ∧ True ∧ True) (by kernel_rfl) hN (by kernel_rfl) ⟨trivial, trivial, trivial⟩ (by decide) (by decide) ?_
          refine thenC ?_
          refine goSeq (by kernel_rfl) ?_
          obtain ⟨q60, hq60, h⟩ := bind_some h
          refine goDraw (N := 67) (m0 := 17) (hints := [(11, .call (⟨.tup [(false, 1), (false, 1)], [ci .i64 (q60.1), ci .i64 (q60.2)]⟩))]) (l := [6, 8, 9, 10, 11, 12, 13, 40]) (m := [6, 10, 11]) (s₂ := ⟨[(6, one (.ptr 6 0)), (8, one (ci .i64 (q1))), (9, one (ci .i64 (q2))), (10, one (.ptr 10 0)), (11, one (.ptr 11 0)), (12, one (ci .i64 7)), (13, one (ci .i64 (q60.1))), (40, one (ci .i64 7))], [(6, 24, [ci .i64 0, ci .i64 0, ci .i64 0, ci .i64 0, ci .i64 0, ci .i64 0, ci .i64 0, ci .i64 0]), (10, 36, [ci .i64 ((IntKind.wrap .i64 ((q11.c0) + (q46.1)))), ci .i64 ((IntKind.wrap .i64 ((q11.c1) + (q48.1)))), ci .i64 ((IntKind.wrap .i64 ((q11.c2) + (q50.1)))), ci .i64 ((IntKind.wrap .i64 ((q11.c3) + (q52.1)))), ci .i64 ((IntKind.wrap .i64 ((q11.c4) + (q54.1)))), ci .i64 ((IntKind.wrap .i64 ((q11.c5) + (q56.1)))), ci .i64 ((IntKind.wrap .i64 ((q11.c6) + (q58.1)))), ci .i64 (q11.c7)]), (11, 36, [ci .i64 (q12.c0), ci .i64 (q12.c1), ci .i64 (q12.c2), ci .i64 (q12.c3), ci .i64 (q12.c4), ci .i64 (q12.c5), ci .i64 (q12.c6), ci .i64 (q12.c7)])]⟩) (ob := (True ∧ (0 ≤ (7 : Int) ∧ (7 : Int) < 8) ∧ True ∧ True ∧ (0 ≤ (7 : Int) ∧ (7 : Int) < 8) ∧ True ∧ True ∧ True ∧ True ∧ True ∧ True ∧ PureC Try.prog 19 [one (ci .i64 ((IntKind.wrap .i64 ((q12.c7) - (q11.c7))))), one (ci .i64 (q1)), one (ci .i64 ((IntKind.wrap .i64 ((q1) - (q2)))))] (⟨.tup [(false, 1), (false, 1)], [ci .i64 (q60.1), ci .i64 (q60.2)]⟩) ∧ True ∧ True ∧ True ∧ True ∧ True ∧ True) ∧ (True)) (by kernel_rfl) hN (by kernel_rfl) (by kernel_rfl) ⟨⟨trivial, (by decide), trivial, trivial, (by decide), trivial, trivial, trivial, trivial, trivial, trivial, (fixed_MulDiv_ok ((IntKind.wrap .i64 ((q12.c7) - (q11.c7)))) (q1) ((IntKind.wrap .i64 ((q1) - (q2)))) _ hq60), trivial, trivial, trivial, trivial, trivial, trivial⟩, trivial⟩ (by decide) (by decide) ?_
          refine thenC ?_
          refine goReg (N := 67) (hints := []) (l := [6, 8, 9, 10, 11, 40]) (m := [6, 10, 11]) (s₂ := ⟨[(6, one (.ptr 6 0)), (8, one (ci .i64 (q1))), (9, one (ci .i64 (q2))), (10, one (.ptr 10 0)), (11, one (.ptr 11 0)), (40, one (ci .i64 7))], [(6, 24, [ci .i64 0, ci .i64 0, ci .i64 0, ci .i64 0, ci .i64 0, ci .i64 0, ci .i64 0, ci .i64 0]), (10, 36, [ci .i64 ((IntKind.wrap .i64 ((q11.c0) + (q46.1)))), ci .i64 ((IntKind.wrap .i64 ((q11.c1) + (q48.1)))), ci .i64 ((IntKind.wrap .i64 ((q11.c2) + (q50.1)))), ci .i64 ((IntKind.wrap .i64 ((q11.c3) + (q52.1)))), ci .i64 ((IntKind.wrap .i64 ((q11.c4) + (q54.1)))), ci .i64 ((IntKind.wrap .i64 ((q11.c5) + (q56.1)))), ci .i64 ((IntKind.wrap .i64 ((q11.c6) + (q58.1)))), ci .i64 ((IntKind.wrap .i64 ((q11.c7) + (q60.1))))]), (11, 36, [ci .i64 (q12.c0), ci .i64 (q12.c1), ci .i64 (q12.c2), ci .i64 (q12.c3), ci .i64 (q12.c4), ci .i64 (q12.c5), ci .i64 (q12.c6), ci .i64 (q12.c7)])]⟩) (ob := True ∧ (0 ≤ (7 : Int) ∧ (7 : Int) < 8) ∧ True ∧ True ∧ True ∧ (0 ≤ (7 : Int) ∧ (7 : Int) < 8) ∧ True ∧ True) (by kernel_rfl) hN (by kernel_rfl) ⟨trivial, (by decide), trivial, trivial, trivial, (by decide), trivial, trivial⟩ (by decide) (by decide) ?_
          refine blkN ?_
          refine thenC ?_
          refine goReg (N := 67) (hints := []) (l := [6, 8, 9, 10, 11, 40]) (m := [6, 10, 11]) (s₂ := ⟨[(6, one (.ptr 6 0)), (8, one (ci .i64 (q1))), (9, one (ci .i64 (q2))), (10, one (.ptr 10 0)), (11, one (.ptr 11 0)), (40, one (ci .i64 8))], [(6, 24, [ci .i64 0, ci .i64 0, ci .i64 0, ci .i64 0, ci .i64 0, ci .i64 0, ci .i64 0, ci .i64 0]), (10, 36, [ci .i64 ((IntKind.wrap .i64 ((q11.c0) + (q46.1)))), ci .i64 ((IntKind.wrap .i64 ((q11.c1) + (q48.1)))), ci .i64 ((IntKind.wrap .i64 ((q11.c2) + (q50.1)))), ci .i64 ((IntKind.wrap .i64 ((q11.c3) + (q52.1)))), ci .i64 ((IntKind.wrap .i64 ((q11.c4) + (q54.1)))), ci .i64 ((IntKind.wrap .i64 ((q11.c5) + (q56.1)))), ci .i64 ((IntKind.wrap .i64 ((q11.c6) + (q58.1)))), ci .i64 ((IntKind.wrap .i64 ((q11.c7) + (q60.1))))]), (11, 36, [ci .i64 (q12.c0), ci .i64 (q12.c1), ci .i64 (q12.c2), ci .i64 (q12.c3), ci .i64 (q12.c4), ci .i64 (q12.c5), ci .i64 (q12.c6), ci .i64 (q12.c7)])]⟩) (ob := True ∧ True ∧ True) (by kernel_rfl) hN (by kernel_rfl) ⟨trivial, trivial, trivial⟩ (by decide) (by decide) ?_
          refine thenN (roundC ?_)
          refine goSeq (by kernel_rfl) ?_
          refine goReg (N := 67) (hints := []) (l := [6, 8, 9, 10, 11, 40, 41]) (m := [6, 10, 11]) (s₂ := ⟨[(6, one (.ptr 6 0)), (8, one (ci .i64 (q1))), (9, one (ci .i64 (q2))), (10, one (.ptr 10 0)), (11, one (.ptr 11 0)), (40, one (ci .i64 8)), (41, one (cb false))], [(6, 24, [ci .i64 0, ci .i64 0, ci .i64 0, ci .i64 0, ci .i64 0, ci .i64 0, ci .i64 0, ci .i64 0]), (10, 36, [ci .i64 ((IntKind.wrap .i64 ((q11.c0) + (q46.1)))), ci .i64 ((IntKind.wrap .i64 ((q11.c1) + (q48.1)))), ci .i64 ((IntKind.wrap .i64 ((q11.c2) + (q50.1)))), ci .i64 ((IntKind.wrap .i64 ((q11.c3) + (q52.1)))), ci .i64 ((IntKind.wrap .i64 ((q11.c4) + (q54.1)))), ci .i64 ((IntKind.wrap .i64 ((q11.c5) + (q56.1)))), ci .i64 ((IntKind.wrap .i64 ((q11.c6) + (q58.1)))), ci .i64 ((IntKind.wrap .i64 ((q11.c7) + (q60.1))))]), (11, 36, [ci .i64 (q12.c0), ci .i64 (q12.c1), ci .i64 (q12.c2), ci .i64 (q12.c3), ci .i64 (q12.c4), ci .i64 (q12.c5), ci .i64 (q12.c6), ci .i64 (q12.c7)])]⟩) (ob := True ∧ True) (by kernel_rfl) hN (by kernel_rfl) ⟨trivial, trivial⟩ (by decide) (by decide) ?_
          refine thenC ?_
          refine goSeq (by kernel_rfl) ?_
          refine goCondF (by kernel_rfl) (by kernel_rfl) ?_
          refine goExit (i := 0) (by kernel_rfl) (by kernel_rfl) ?_
          refine thenExit ?_
          refine thenExit ?_
          refine blkHit rfl ?_
          refine thenC ?_
          refine goSeq (by kernel_rfl) ?_
          obtain ⟨q61, hq61, h⟩ := bind_some h
          refine goReg (N := 67) (hints := [(1, .call (agg [ci .i64 (q61.c0), ci .i64 (q61.c1), ci .i64 (q61.c2), ci .i64 (q61.c3), ci .i64 (q61.c4), ci .i64 (q61.c5), ci .i64 (q61.c6), ci .i64 (q61.c7)]))]) (l := [6, 7]) (m := [6]) (s₂ := ⟨[(6, one (.ptr 6 0)), (7, one (cb true))], [(6, 24, [ci .i64 (q61.c0), ci .i64 (q61.c1), ci .i64 (q61.c2), ci .i64 (q61.c3), ci .i64 (q61.c4), ci .i64 (q61.c5), ci .i64 (q61.c6), ci .i64 (q61.c7)])]⟩) (ob := True ∧ PureC Try.prog 20 [agg [ci .i64 ((IntKind.wrap .i64 ((q11.c0) + (q46.1)))), ci .i64 ((IntKind.wrap .i64 ((q11.c1) + (q48.1)))), ci .i64 ((IntKind.wrap .i64 ((q11.c2) + (q50.1)))), ci .i64 ((IntKind.wrap .i64 ((q11.c3) + (q52.1)))), ci .i64 ((IntKind.wrap .i64 ((q11.c4) + (q54.1)))), ci .i64 ((IntKind.wrap .i64 ((q11.c5) + (q56.1)))), ci .i64 ((IntKind.wrap .i64 ((q11.c6) + (q58.1)))), ci .i64 ((IntKind.wrap .i64 ((q11.c7) + (q60.1))))]] (agg [ci .i64 (q61.c0), ci .i64 (q61.c1), ci .i64 (q61.c2), ci .i64 (q61.c3), ci .i64 (q61.c4), ci .i64 (q61.c5), ci .i64 (q61.c6), ci .i64 (q61.c7)]) ∧ True ∧ True ∧ True) (by kernel_rfl) hN (by kernel_rfl) ⟨trivial, (vec_made_ok (⟨(IntKind.wrap .i64 ((q11.c0) + (q46.1))), (IntKind.wrap .i64 ((q11.c1) + (q48.1))), (IntKind.wrap .i64 ((q11.c2) + (q50.1))), (IntKind.wrap .i64 ((q11.c3) + (q52.1))), (IntKind.wrap .i64 ((q11.c4) + (q54.1))), (IntKind.wrap .i64 ((q11.c5) + (q56.1))), (IntKind.wrap .i64 ((q11.c6) + (q58.1))), (IntKind.wrap .i64 ((q11.c7) + (q60.1)))⟩ : T_8_int) _ hq61), trivial, trivial, trivial⟩ (by decide) (by decide) ?_
          refine thenC ?_
          refine goRet (by kernel_rfl) ?_
          obtain rfl := top_some h
          exact retOk (by kernel_rfl)

theorem glazierlaw04_shown_ok (r : Bool) (h : glazierlaw04_shown = some r) : PureC Try.prog 9 [] (one (cb r)) := by
  refine fnOf (fn := Try.f9) (n := 15) (rs := [ResultVar.tmp 0]) (s := ⟨[], []⟩) (by kernel_rfl) (by kernel_rfl) (by kernel_rfl) (by kernel_rfl) (by kernel_rfl) (by kernel_rfl) (by kernel_rfl) (by kernel_rfl) (fun E hN => ?_)
  unfold glazierlaw04_shown at h
  refine goSeq (by kernel_rfl) ?_
  refine goReg (N := 15) (hints := []) (l := []) (m := []) (s₂ := ⟨[], []⟩) (ob := True ∧ True) (by kernel_rfl) hN (by kernel_rfl) ⟨trivial, trivial⟩ (by decide) (by decide) ?_
  refine thenC ?_
  refine goSeq (by kernel_rfl) ?_
  obtain ⟨q1, hq1, h⟩ := bind_some h
  refine goReg (N := 15) (hints := [(2, .call (⟨.tup [(true, 8), (false, 1)], [ci .i64 (q1.1.c0), ci .i64 (q1.1.c1), ci .i64 (q1.1.c2), ci .i64 (q1.1.c3), ci .i64 (q1.1.c4), ci .i64 (q1.1.c5), ci .i64 (q1.1.c6), ci .i64 (q1.1.c7), cb q1.2]⟩))]) (l := [1, 2]) (m := [1]) (s₂ := ⟨[(1, one (.ptr 1 0)), (2, one (cb q1.2))], [(1, 24, [ci .i64 (q1.1.c0), ci .i64 (q1.1.c1), ci .i64 (q1.1.c2), ci .i64 (q1.1.c3), ci .i64 (q1.1.c4), ci .i64 (q1.1.c5), ci .i64 (q1.1.c6), ci .i64 (q1.1.c7)])]⟩) (ob := True ∧ True ∧ PureC Try.prog 12 [agg [ci .i64 0, ci .i64 0, ci .i64 0, ci .i64 2, ci .i64 0, ci .i64 0, ci .i64 0, ci .i64 0], agg [ci .i64 0, ci .i64 0, ci .i64 (-6), ci .i64 2, ci .i64 0, ci .i64 0, ci .i64 0, ci .i64 0], one (ci .i64 0)] (⟨.tup [(true, 8), (false, 1)], [ci .i64 (q1.1.c0), ci .i64 (q1.1.c1), ci .i64 (q1.1.c2), ci .i64 (q1.1.c3), ci .i64 (q1.1.c4), ci .i64 (q1.1.c5), ci .i64 (q1.1.c6), ci .i64 (q1.1.c7), cb q1.2]⟩) ∧ True ∧ True ∧ True ∧ True ∧ True ∧ True ∧ True) (by kernel_rfl) hN (by kernel_rfl) ⟨trivial, trivial, (vec_Between_ok (⟨0, 0, 0, 2, 0, 0, 0, 0⟩ : T_api_Vec) (⟨0, 0, (-6), 2, 0, 0, 0, 0⟩ : T_api_Vec) (0) _ hq1), trivial, trivial, trivial, trivial, trivial, trivial, trivial⟩ (by decide) (by decide) ?_
  refine thenC ?_
  refine goSeq (by kernel_rfl) ?_
  rcases fork_some h with ⟨c2, h⟩ | ⟨c2, h⟩
  · skip
    refine goReg (N := 15) (hints := [(1, .bool true), (4, .bin (.bool (decide (q1.1 = (⟨0, 0, (-2), 2, 0, 0, 0, 0⟩ : T_api_Vec)))))]) (l := [0]) (m := []) (s₂ := ⟨[(0, one (cb (decide (q1.1 = (⟨0, 0, (-2), 2, 0, 0, 0, 0⟩ : T_api_Vec)))))], []⟩) (ob := True ∧ (True ∧ (q1.2) = true) ∧ True ∧ True ∧ (EqOb Try.prog .eql 24 (.tmp 11) (.tmp 12) [.int .i64 (q1.1.c0), .int .i64 (q1.1.c1), .int .i64 (q1.1.c2), .int .i64 (q1.1.c3), .int .i64 (q1.1.c4), .int .i64 (q1.1.c5), .int .i64 (q1.1.c6), .int .i64 (q1.1.c7)] [.int .i64 0, .int .i64 0, .int .i64 (-2), .int .i64 2, .int .i64 0, .int .i64 0, .int .i64 0, .int .i64 0] (.bool (decide (q1.1 = (⟨0, 0, (-2), 2, 0, 0, 0, 0⟩ : T_api_Vec))))) ∧ True ∧ True ∧ True) (by kernel_rfl) hN (by kernel_rfl) ⟨trivial, ⟨trivial, c2⟩, trivial, trivial, (eql_ob (by kernel_rfl) (by kernel_rfl) (T_api_Vec.eqB q1.1 (⟨0, 0, (-2), 2, 0, 0, 0, 0⟩ : T_api_Vec))), trivial, trivial, trivial⟩ (by decide) (by decide) ?_
    refine thenC ?_
    refine goRet (by kernel_rfl) ?_
    obtain rfl := top_some h
    exact retOk (by kernel_rfl)
  · skip
    refine goReg (N := 15) (hints := [(1, .bool false)]) (l := [0]) (m := []) (s₂ := ⟨[(0, one (cb false))], []⟩) (ob := True ∧ (True ∧ (q1.2) = false) ∧ True ∧ True ∧ True ∧ True ∧ True ∧ True) (by kernel_rfl) hN (by kernel_rfl) ⟨trivial, ⟨trivial, c2⟩, trivial, trivial, trivial, trivial, trivial, trivial⟩ (by decide) (by decide) ?_
    refine thenC ?_
    refine goRet (by kernel_rfl) ?_
    obtain rfl := top_some h
    exact retOk (by kernel_rfl)

theorem glazierref04_Fit_ok (x0 : T_api_Vec) (r : T_api_Vec) (h : glazierref04_Fit x0 = some r) : PureC Try.prog 10 [agg [ci .i64 (x0.c0), ci .i64 (x0.c1), ci .i64 (x0.c2), ci .i64 (x0.c3), ci .i64 (x0.c4), ci .i64 (x0.c5), ci .i64 (x0.c6), ci .i64 (x0.c7)]] (agg [ci .i64 (r.c0), ci .i64 (r.c1), ci .i64 (r.c2), ci .i64 (r.c3), ci .i64 (r.c4), ci .i64 (r.c5), ci .i64 (r.c6), ci .i64 (r.c7)]) := by
  refine fnOf (fn := Try.f10) (n := 42) (rs := [ResultVar.cell 2 24]) (s := ⟨[(0, agg [ci .i64 (x0.c0), ci .i64 (x0.c1), ci .i64 (x0.c2), ci .i64 (x0.c3), ci .i64 (x0.c4), ci .i64 (x0.c5), ci .i64 (x0.c6), ci .i64 (x0.c7)])], []⟩) (by kernel_rfl) (by kernel_rfl) (by kernel_rfl) (by kernel_rfl) (by kernel_rfl) (by kernel_rfl) (by kernel_rfl) (by kernel_rfl) (fun E hN => ?_)
  unfold glazierref04_Fit at h
  refine goSeq (by kernel_rfl) ?_
  refine goReg (N := 42) (hints := []) (l := [1, 2]) (m := [1, 2]) (s₂ := ⟨[(1, one (.ptr 1 0)), (2, one (.ptr 2 0))], [(1, 24, [ci .i64 (x0.c0), ci .i64 (x0.c1), ci .i64 (x0.c2), ci .i64 (x0.c3), ci .i64 (x0.c4), ci .i64 (x0.c5), ci .i64 (x0.c6), ci .i64 (x0.c7)]), (2, 24, [ci .i64 0, ci .i64 0, ci .i64 0, ci .i64 0, ci .i64 0, ci .i64 0, ci .i64 0, ci .i64 0])]⟩) (ob := True ∧ True ∧ True) (by kernel_rfl) hN (by kernel_rfl) ⟨trivial, trivial, trivial⟩ (by decide) (by decide) ?_
  refine thenC ?_
  refine goSeq (by kernel_rfl) ?_
  refine goReg (N := 42) (hints := []) (l := [1, 2, 3]) (m := [1, 2, 3]) (s₂ := ⟨[(1, one (.ptr 1 0)), (2, one (.ptr 2 0)), (3, one (.ptr 3 0))], [(1, 24, [ci .i64 (x0.c0), ci .i64 (x0.c1), ci .i64 (x0.c2), ci .i64 (x0.c3), ci .i64 (x0.c4), ci .i64 (x0.c5), ci .i64 (x0.c6), ci .i64 (x0.c7)]), (2, 24, [ci .i64 0, ci .i64 0, ci .i64 0, ci .i64 0, ci .i64 0, ci .i64 0, ci .i64 0, ci .i64 0]), (3, 24, [ci .i64 0, ci .i64 0, ci .i64 0, ci .i64 0, ci .i64 0, ci .i64 0, ci .i64 0, ci .i64 0])]⟩) (ob := True ∧ True ∧ True ∧ True) (by kernel_rfl) hN (by kernel_rfl) ⟨trivial, trivial, trivial, trivial⟩ (by decide) (by decide) ?_
  refine thenC ?_
  refine goSeq (by kernel_rfl) ?_
  refine goReg (N := 42) (hints := []) (l := [1, 2, 3]) (m := [1, 2, 3]) (s₂ := ⟨[(1, one (.ptr 1 0)), (2, one (.ptr 2 0)), (3, one (.ptr 3 0))], [(1, 24, [ci .i64 (x0.c0), ci .i64 (x0.c1), ci .i64 (x0.c2), ci .i64 (x0.c3), ci .i64 (x0.c4), ci .i64 (x0.c5), ci .i64 (x0.c6), ci .i64 (x0.c7)]), (2, 24, [ci .i64 0, ci .i64 0, ci .i64 0, ci .i64 0, ci .i64 0, ci .i64 0, ci .i64 0, ci .i64 0]), (3, 24, [ci .i64 ((Int.tmod (x0.c0) 32769)), ci .i64 0, ci .i64 0, ci .i64 0, ci .i64 0, ci .i64 0, ci .i64 0, ci .i64 0])]⟩) (ob := True ∧ True ∧ ((32769 : Int) ≠ 0) ∧ True ∧ True ∧ True) (by kernel_rfl) hN (by kernel_rfl) ⟨trivial, trivial, (by decide), trivial, trivial, trivial⟩ (by decide) (by decide) ?_
  refine thenC ?_
  refine goSeq (by kernel_rfl) ?_
  refine goReg (N := 42) (hints := []) (l := [1, 2, 3]) (m := [1, 2, 3]) (s₂ := ⟨[(1, one (.ptr 1 0)), (2, one (.ptr 2 0)), (3, one (.ptr 3 0))], [(1, 24, [ci .i64 (x0.c0), ci .i64 (x0.c1), ci .i64 (x0.c2), ci .i64 (x0.c3), ci .i64 (x0.c4), ci .i64 (x0.c5), ci .i64 (x0.c6), ci .i64 (x0.c7)]), (2, 24, [ci .i64 0, ci .i64 0, ci .i64 0, ci .i64 0, ci .i64 0, ci .i64 0, ci .i64 0, ci .i64 0]), (3, 24, [ci .i64 ((Int.tmod (x0.c0) 32769)), ci .i64 ((Int.tmod (x0.c1) 32769)), ci .i64 0, ci .i64 0, ci .i64 0, ci .i64 0, ci .i64 0, ci .i64 0])]⟩) (ob := True ∧ True ∧ ((32769 : Int) ≠ 0) ∧ True ∧ True ∧ True) (by kernel_rfl) hN (by kernel_rfl) ⟨trivial, trivial, (by decide), trivial, trivial, trivial⟩ (by decide) (by decide) ?_
  refine thenC ?_
  refine goSeq (by kernel_rfl) ?_
  refine goReg (N := 42) (hints := []) (l := [1, 2, 3]) (m := [1, 2, 3]) (s₂ := ⟨[(1, one (.ptr 1 0)), (2, one (.ptr 2 0)), (3, one (.ptr 3 0))], [(1, 24, [ci .i64 (x0.c0), ci .i64 (x0.c1), ci .i64 (x0.c2), ci .i64 (x0.c3), ci .i64 (x0.c4), ci .i64 (x0.c5), ci .i64 (x0.c6), ci .i64 (x0.c7)]), (2, 24, [ci .i64 0, ci .i64 0, ci .i64 0, ci .i64 0, ci .i64 0, ci .i64 0, ci .i64 0, ci .i64 0]), (3, 24, [ci .i64 ((Int.tmod (x0.c0) 32769)), ci .i64 ((Int.tmod (x0.c1) 32769)), ci .i64 ((Int.tmod (x0.c2) 32769)), ci .i64 0, ci .i64 0, ci .i64 0, ci .i64 0, ci .i64 0])]⟩) (ob := True ∧ True ∧ ((32769 : Int) ≠ 0) ∧ True ∧ True ∧ True) (by kernel_rfl) hN (by kernel_rfl) ⟨trivial, trivial, (by decide), trivial, trivial, trivial⟩ (by decide) (by decide) ?_
  refine thenC ?_
  refine goSeq (by kernel_rfl) ?_
  refine goReg (N := 42) (hints := []) (l := [1, 2, 3, 4]) (m := [1, 2, 3]) (s₂ := ⟨[(1, one (.ptr 1 0)), (2, one (.ptr 2 0)), (3, one (.ptr 3 0)), (4, one (ci .i64 ((Int.tmod (x0.c3) 32768))))], [(1, 24, [ci .i64 (x0.c0), ci .i64 (x0.c1), ci .i64 (x0.c2), ci .i64 (x0.c3), ci .i64 (x0.c4), ci .i64 (x0.c5), ci .i64 (x0.c6), ci .i64 (x0.c7)]), (2, 24, [ci .i64 0, ci .i64 0, ci .i64 0, ci .i64 0, ci .i64 0, ci .i64 0, ci .i64 0, ci .i64 0]), (3, 24, [ci .i64 ((Int.tmod (x0.c0) 32769)), ci .i64 ((Int.tmod (x0.c1) 32769)), ci .i64 ((Int.tmod (x0.c2) 32769)), ci .i64 0, ci .i64 0, ci .i64 0, ci .i64 0, ci .i64 0])]⟩) (ob := True ∧ True ∧ ((32768 : Int) ≠ 0) ∧ True ∧ True) (by kernel_rfl) hN (by kernel_rfl) ⟨trivial, trivial, (by decide), trivial, trivial⟩ (by decide) (by decide) ?_
  refine thenC ?_
  refine goSeqK (l := [1, 2, 3, 4]) (m := [1, 2, 3]) (K := fun s => ∃ (x0 : T_api_Vec) (j2 : Int), glazierref04_Fit_j1 x0 j2 = some r ∧ s = ⟨[(1, one (.ptr 1 0)), (2, one (.ptr 2 0)), (3, one (.ptr 3 0)), (4, one (ci .i64 (j2)))], [(1, 24, [ci .i64 (x0.c0), ci .i64 (x0.c1), ci .i64 (x0.c2), ci .i64 (x0.c3), ci .i64 (x0.c4), ci .i64 (x0.c5), ci .i64 (x0.c6), ci .i64 (x0.c7)]), (2, 24, [ci .i64 0, ci .i64 0, ci .i64 0, ci .i64 0, ci .i64 0, ci .i64 0, ci .i64 0, ci .i64 0]), (3, 24, [ci .i64 ((Int.tmod (x0.c0) 32769)), ci .i64 ((Int.tmod (x0.c1) 32769)), ci .i64 ((Int.tmod (x0.c2) 32769)), ci .i64 0, ci .i64 0, ci .i64 0, ci .i64 0, ci .i64 0])]⟩) (by kernel_rfl) (by decide) (by decide) ?_ ?_
  · skip
    rintro _ ⟨x0, j2, h, rfl⟩
    unfold glazierref04_Fit_j1 at h
    refine goSeq (by kernel_rfl) ?_
    refine goReg (N := 42) (hints := []) (l := [1, 2, 3]) (m := [1, 2, 3]) (s₂ := ⟨[(1, one (.ptr 1 0)), (2, one (.ptr 2 0)), (3, one (.ptr 3 0))], [(1, 24, [ci .i64 (x0.c0), ci .i64 (x0.c1), ci .i64 (x0.c2), ci .i64 (x0.c3), ci .i64 (x0.c4), ci .i64 (x0.c5), ci .i64 (x0.c6), ci .i64 (x0.c7)]), (2, 24, [ci .i64 0, ci .i64 0, ci .i64 0, ci .i64 0, ci .i64 0, ci .i64 0, ci .i64 0, ci .i64 0]), (3, 24, [ci .i64 ((Int.tmod (x0.c0) 32769)), ci .i64 ((Int.tmod (x0.c1) 32769)), ci .i64 ((Int.tmod (x0.c2) 32769)), ci .i64 ((IntKind.wrap .i64 (1 + (j2)))), ci .i64 0, ci .i64 0, ci .i64 0, ci .i64 0])]⟩) (ob := True ∧ True ∧ True ∧ True ∧ True) (by kernel_rfl) hN (by kernel_rfl) ⟨trivial, trivial, trivial, trivial, trivial⟩ (by decide) (by decide) ?_
    refine thenC ?_
    refine goSeq (by kernel_rfl) ?_
    refine goSeq (by kernel_rfl) ?_
    refine goReg (N := 42) (hints := []) (l := [1, 2, 3, 5]) (m := [1, 2, 3]) (s₂ := ⟨[(1, one (.ptr 1 0)), (2, one (.ptr 2 0)), (3, one (.ptr 3 0)), (5, one (ci .i64 0))], [(1, 24, [ci .i64 (x0.c0), ci .i64 (x0.c1), ci .i64 (x0.c2), ci .i64 (x0.c3), ci .i64 (x0.c4), ci .i64 (x0.c5), ci .i64 (x0.c6), ci .i64 (x0.c7)]), (2, 24, [ci .i64 0, ci .i64 0, ci .i64 0, ci .i64 0, ci .i64 0, ci .i64 0, ci .i64 0, ci .i64 0]), (3, 24, [ci .i64 ((Int.tmod (x0.c0) 32769)), ci .i64 ((Int.tmod (x0.c1) 32769)), ci .i64 ((Int.tmod (x0.c2) 32769)), ci .i64 ((IntKind.wrap .i64 (1 + (j2)))), ci .i64 0, ci .i64 0, ci .i64 0, ci .i64 0])]⟩) (ob := True ∧ True) (by kernel_rfl) hN (by kernel_rfl) ⟨trivial, trivial⟩ (by decide) (by decide) ?_
    refine thenC ?_
    refine goBlock (i := 0) (by kernel_rfl) (by kernel_rfl) ?_
    refine goLoop1 (by kernel_rfl) ?_
    refine roundC ?_
    refine goSeq (by kernel_rfl) ?_
    refine goSeq (by kernel_rfl) ?_
    refine goReg (N := 42) (hints := []) (l := [1, 2, 3, 5, 30]) (m := [1, 2, 3]) (s₂ := ⟨[(1, one (.ptr 1 0)), (2, one (.ptr 2 0)), (3, one (.ptr 3 0)), (5, one (ci .i64 0)), (30, one (cb true))], [(1, 24, [ci .i64 (x0.c0), ci .i64 (x0.c1), ci .i64 (x0.c2), ci .i64 (x0.c3), ci .i64 (x0.c4), ci .i64 (x0.c5), ci .i64 (x0.c6), ci .i64 (x0.c7)]), (2, 24, [ci .i64 0, ci .i64 0, ci .i64 0, ci .i64 0, ci .i64 0, ci .i64 0, ci .i64 0, ci .i64 0]), (3, 24, [ci .i64 ((Int.tmod (x0.c0) 32769)), ci .i64 ((Int.tmod (x0.c1) 32769)), ci .i64 ((Int.tmod (x0.c2) 32769)), ci .i64 ((IntKind.wrap .i64 (1 + (j2)))), ci .i64 0, ci .i64 0, ci .i64 0, ci .i64 0])]⟩) (ob := True ∧ True ∧ True) (by kernel_rfl) hN (by kernel_rfl) ⟨trivial, trivial, trivial⟩ (by decide) (by decide) ?_
    refine thenC ?_
    refine goCondT (by kernel_rfl) (by kernel_rfl) ?_
    refine goSkip (by kernel_rfl) ?_
    refine thenC ?_
    refine goSeq (by kernel_rfl) ?_
    refine goBlock (i := 1) (by kernel_rfl) (by kernel_rfl) ?_
    refine goReg (N := 42) (hints := []) (l := [1, 2, 3, 5]) (m := [1, 2, 3]) (s₂ := ⟨[(1, one (.ptr 1 0)), (2, one (.ptr 2 0)), (3, one (.ptr 3 0)), (5, one (ci .i64 0))], [(1, 24, [ci .i64 (x0.c0), ci .i64 (x0.c1), ci .i64 (x0.c2), ci .i64 (x0.c3), ci .i64 (x0.c4), ci .i64 (x0.c5), ci .i64 (x0.c6), ci .i64 (x0.c7)]), (2, 24, [ci .i64 0, ci .i64 0, ci .i64 0, ci .i64 0, ci .i64 0, ci .i64 0, ci .i64 0, ci .i64 0]), (3, 24, [ci .i64 ((Int.tmod (x0.c0) 32769)), ci .i64 ((Int.tmod (x0.c1) 32769)), ci .i64 ((Int.tmod (x0.c2) 32769)), ci .i64 ((IntKind.wrap .i64 (1 + (j2)))), ci .i64 ((Int.tmod (x0.c4) 4097)), ci .i64 0, ci .i64 0, ci .i64 0])]⟩) (ob := True ∧ True ∧ True ∧ (0 ≤ (0 : Int) ∧ (0 : Int) < 4) ∧ True ∧ ((4097 : Int) ≠ 0) ∧ True ∧ (0 ≤ (0 : Int) ∧ (0 : Int) < 4) ∧ True ∧ True) (by kernel_rfl) hN (by kernel_rfl) ⟨trivial, trivial, trivial, (by decide), trivial, (by decide), trivial, (by decide), trivial, trivial⟩ (by decide) (by decide) ?_
    refine blkN ?_
    refine thenC ?_
    refine goReg (N := 42) (hints := []) (l := [1, 2, 3, 5]) (m := [1, 2, 3]) (s₂ := ⟨[(1, one (.ptr 1 0)), (2, one (.ptr 2 0)), (3, one (.ptr 3 0)), (5, one (ci .i64 1))], [(1, 24, [ci .i64 (x0.c0), ci .i64 (x0.c1), ci .i64 (x0.c2), ci .i64 (x0.c3), ci .i64 (x0.c4), ci .i64 (x0.c5), ci .i64 (x0.c6), ci .i64 (x0.c7)]), (2, 24, [ci .i64 0, ci .i64 0, ci .i64 0, ci .i64 0, ci .i64 0, ci .i64 0, ci .i64 0, ci .i64 0]), (3, 24, [ci .i64 ((Int.tmod (x0.c0) 32769)), ci .i64 ((Int.tmod (x0.c1) 32769)), ci .i64 ((Int.tmod (x0.c2) 32769)), ci .i64 ((IntKind.wrap .i64 (1 + (j2)))), ci .i64 ((Int.tmod (x0.c4) 4097)), ci .i64 0, ci .i64 0, ci .i64 0])]⟩) (ob := True ∧ True ∧ True ∧ True) (by kernel_rfl) hN (by kernel_rfl) ⟨trivial, trivial, trivial, trivial⟩ (by decide) (by decide) ?_
    refine thenN (roundC ?_)
    refine goSeq (by kernel_rfl) ?_
    refine goSeq (by kernel_rfl) ?_
    refine goReg (N := 42) (hints := []) (l := [1, 2, 3, 5, 30]) (m := [1, 2, 3]) (s₂ := ⟨[(1, one (.ptr 1 0)), (2, one (.ptr 2 0)), (3, one (.ptr 3 0)), (5, one (ci .i64 1)), (30, one (cb true))], [(1, 24, [ci .i64 (x0.c0), ci .i64 (x0.c1), ci .i64 (x0.c2), ci .i64 (x0.c3), ci .i64 (x0.c4), ci .i64 (x0.c5), ci .i64 (x0.c6), ci .i64 (x0.c7)]), (2, 24, [ci .i64 0, ci .i64 0, ci .i64 0, ci .i64 0, ci .i64 0, ci .i64 0, ci .i64 0, ci .i64 0]), (3, 24, [ci .i64 ((Int.tmod (x0.c0) 32769)), ci .i64 ((Int.tmod (x0.c1) 32769)), ci .i64 ((Int.tmod (x0.c2) 32769)), ci .i64 ((IntKind.wrap .i64 (1 + (j2)))), ci .i64 ((Int.tmod (x0.c4) 4097)), ci .i64 0, ci .i64 0, ci .i64 0])]⟩) (ob := True ∧ True ∧ True) (by kernel_rfl) hN (by kernel_rfl) ⟨trivial, trivial, trivial⟩ (by decide) (by decide) ?_
    refine thenC ?_
    refine goCondT (by kernel_rfl) (by kernel_rfl) ?_
    refine goSkip (by kernel_rfl) ?_
    refine thenC ?_
    refine goSeq (by kernel_rfl) ?_
    refine goBlock (i := 1) (by kernel_rfl) (by kernel_rfl) ?_
    refine goReg (N := 42) (hints := []) (l := [1, 2, 3, 5]) (m := [1, 2, 3]) (s₂ := ⟨[(1, one (.ptr 1 0)), (2, one (.ptr 2 0)), (3, one (.ptr 3 0)), (5, one (ci .i64 1))], [(1, 24, [ci .i64 (x0.c0), ci .i64 (x0.c1), ci .i64 (x0.c2), ci .i64 (x0.c3), ci .i64 (x0.c4), ci .i64 (x0.c5), ci .i64 (x0.c6), ci .i64 (x0.c7)]), (2, 24, [ci .i64 0, ci .i64 0, ci .i64 0, ci .i64 0, ci .i64 0, ci .i64 0, ci .i64 0, ci .i64 0]), (3, 24, [ci .i64 ((Int.tmod (x0.c0) 32769)), ci .i64 ((Int.tmod (x0.c1) 32769)), ci .i64 ((Int.tmod (x0.c2) 32769)), ci .i64 ((IntKind.wrap .i64 (1 + (j2)))), ci .i64 ((Int.tmod (x0.c4) 4097)), ci .i64 ((Int.tmod (x0.c5) 4097)), ci .i64 0, ci .i64 0])]⟩) (ob := True ∧ True ∧ True ∧ (0 ≤ (1 : Int) ∧ (1 : Int) < 4) ∧ True ∧ ((4097 : Int) ≠ 0) ∧ True ∧ (0 ≤ (1 : Int) ∧ (1 : Int) < 4) ∧ True ∧ True) (by kernel_rfl) hN (by kernel_rfl) ⟨trivial, trivial, trivial, (by decide), trivial, (by decide), trivial, (by decide), trivial, trivial⟩ (by decide) (by decide) ?_
    refine blkN ?_
    refine thenC ?_
    refine goReg (N := 42) (hints := []) (l := [1, 2, 3, 5]) (m := [1, 2, 3]) (s₂ := ⟨[(1, one (.ptr 1 0)), (2, one (.ptr 2 0)), (3, one (.ptr 3 0)), (5, one (ci .i64 2))], [(1, 24, [ci .i64 (x0.c0), ci .i64 (x0.c1), ci .i64 (x0.c2), ci .i64 (x0.c3), ci .i64 (x0.c4), ci .i64 (x0.c5), ci .i64 (x0.c6), ci .i64 (x0.c7)]), (2, 24, [ci .i64 0, ci .i64 0, ci .i64 0, ci .i64 0, ci .i64 0, ci .i64 0, ci .i64 0, ci .i64 0]), (3, 24, [ci .i64 ((Int.tmod (x0.c0) 32769)), ci .i64 ((Int.tmod (x0.c1) 32769)), ci .i64 ((Int.tmod (x0.c2) 32769)), ci .i64 ((IntKind.wrap .i64 (1 + (j2)))), ci .i64 ((Int.tmod (x0.c4) 4097)), ci .i64 ((Int.tmod (x0.c5) 4097)), ci .i64 0, ci .i64 0])]⟩) (ob := True ∧ True ∧ True ∧ True) (by kernel_rfl) hN (by kernel_rfl) ⟨trivial, trivial, trivial, trivial⟩ (by decide) (by decide) ?_
    refine thenN (roundC ?_)
    refine goSeq (by kernel_rfl) ?_
    refine goSeq (by kernel_rfl) ?_
    refine goReg (N := 42) (hints := []) (l := [1, 2, 3, 5, 30]) (m := [1, 2, 3]) (s₂ := ⟨[(1, one (.ptr 1 0)), (2, one (.ptr 2 0)), (3, one (.ptr 3 0)), (5, one (ci .i64 2)), (30, one (cb true))], [(1, 24, [ci .i64 (x0.c0), ci .i64 (x0.c1), ci .i64 (x0.c2), ci .i64 (x0.c3), ci .i64 (x0.c4), ci .i64 (x0.c5), ci .i64 (x0.c6), ci .i64 (x0.c7)]), (2, 24, [ci .i64 0, ci .i64 0, ci .i64 0, ci .i64 0, ci .i64 0, ci .i64 0, ci .i64 0, ci .i64 0]), (3, 24, [ci .i64 ((Int.tmod (x0.c0) 32769)), ci .i64 ((Int.tmod (x0.c1) 32769)), ci .i64 ((Int.tmod (x0.c2) 32769)), ci .i64 ((IntKind.wrap .i64 (1 + (j2)))), ci .i64 ((Int.tmod (x0.c4) 4097)), ci .i64 ((Int.tmod (x0.c5) 4097)), ci .i64 0, ci .i64 0])]⟩) (ob := True ∧ True ∧ True) (by kernel_rfl) hN (by kernel_rfl) ⟨trivial, trivial, trivial⟩ (by decide) (by decide) ?_
    refine thenC ?_
    refine goCondT (by kernel_rfl) (by kernel_rfl) ?_
    refine goSkip (by kernel_rfl) ?_
    refine thenC ?_
    refine goSeq (by kernel_rfl) ?_
    refine goBlock (i := 1) (by kernel_rfl) (by kernel_rfl) ?_
    refine goReg (N := 42) (hints := []) (l := [1, 2, 3, 5]) (m := [1, 2, 3]) (s₂ := ⟨[(1, one (.ptr 1 0)), (2, one (.ptr 2 0)), (3, one (.ptr 3 0)), (5, one (ci .i64 2))], [(1, 24, [ci .i64 (x0.c0), ci .i64 (x0.c1), ci .i64 (x0.c2), ci .i64 (x0.c3), ci .i64 (x0.c4), ci .i64 (x0.c5), ci .i64 (x0.c6), ci .i64 (x0.c7)]), (2, 24, [ci .i64 0, ci .i64 0, ci .i64 0, ci .i64 0, ci .i64 0, ci .i64 0, ci .i64 0, ci .i64 0]), (3, 24, [ci .i64 ((Int.tmod (x0.c0) 32769)), ci .i64 ((Int.tmod (x0.c1) 32769)), ci .i64 ((Int.tmod (x0.c2) 32769)), ci .i64 ((IntKind.wrap .i64 (1 + (j2)))), ci .i64 ((Int.tmod (x0.c4) 4097)), ci .i64 ((Int.tmod (x0.c5) 4097)), ci .i64 ((Int.tmod (x0.c6) 4097)), ci .i64 0])]⟩) (ob := True ∧ True ∧ True ∧ (0 ≤ (2 : Int) ∧ (2 : Int) < 4) ∧ True ∧ ((4097 : Int) ≠ 0) ∧ True ∧ (0 ≤ (2 : Int) ∧ (2 : Int) < 4) ∧ True ∧ True) (by kernel_rfl) hN (by kernel_rfl) ⟨trivial, trivial, trivial, (by decide), trivial, (by decide), trivial, (by decide), trivial, trivial⟩ (by decide) (by decide) ?_
    refine blkN ?_
    refine thenC ?_
    refine goReg (N := 42) (hints := []) (l := [1, 2, 3, 5]) (m := [1, 2, 3]) (s₂ := ⟨[(1, one (.ptr 1 0)), (2, one (.ptr 2 0)), (3, one (.ptr 3 0)), (5, one (ci .i64 3))], [(1, 24, [ci .i64 (x0.c0), ci .i64 (x0.c1), ci .i64 (x0.c2), ci .i64 (x0.c3), ci .i64 (x0.c4), ci .i64 (x0.c5), ci .i64 (x0.c6), ci .i64 (x0.c7)]), (2, 24, [ci .i64 0, ci .i64 0, ci .i64 0, ci .i64 0, ci .i64 0, ci .i64 0, ci .i64 0, ci .i64 0]), (3, 24, [ci .i64 ((Int.tmod (x0.c0) 32769)), ci .i64 ((Int.tmod (x0.c1) 32769)), ci .i64 ((Int.tmod (x0.c2) 32769)), ci .i64 ((IntKind.wrap .i64 (1 + (j2)))), ci .i64 ((Int.tmod (x0.c4) 4097)), ci .i64 ((Int.tmod (x0.c5) 4097)), ci .i64 ((Int.tmod (x0.c6) 4097)), ci .i64 0])]⟩) (ob := True ∧ True ∧ True ∧ True) (by kernel_rfl) hN (by kernel_rfl) ⟨trivial, trivial, trivial, trivial⟩ (by decide) (by decide) ?_
    refine thenN (roundC ?_)
    refine goSeq (by kernel_rfl) ?_
    refine goSeq (by kernel_rfl) ?_
    refine goReg (N := 42) (hints := []) (l := [1, 2, 3, 5, 30]) (m := [1, 2, 3]) (s₂ := ⟨[(1, one (.ptr 1 0)), (2, one (.ptr 2 0)), (3, one (.ptr 3 0)), (5, one (ci .i64 3)), (30, one (cb true))], [(1, 24, [ci .i64 (x0.c0), ci .i64 (x0.c1), ci .i64 (x0.c2), ci .i64 (x0.c3), ci .i64 (x0.c4), ci .i64 (x0.c5), ci .i64 (x0.c6), ci .i64 (x0.c7)]), (2, 24, [ci .i64 0, ci .i64 0, ci .i64 0, ci .i64 0, ci .i64 0, ci .i64 0, ci .i64 0, ci .i64 0]), (3, 24, [ci .i64 ((Int.tmod (x0.c0) 32769)), ci .i64 ((Int.tmod (x0.c1) 32769)), ci .i64 ((Int.tmod (x0.c2) 32769)), ci .i64 ((IntKind.wrap .i64 (1 + (j2)))), ci .i64 ((Int.tmod (x0.c4) 4097)), ci .i64 ((Int.tmod (x0.c5) 4097)), ci .i64 ((Int.tmod (x0.c6) 4097)), ci .i64 0])]⟩) (ob := True ∧ True ∧ True) (by kernel_rfl) hN (by kernel_rfl) ⟨trivial, trivial, trivial⟩ (by decide) (by decide) ?_
    refine thenC ?_
    refine goCondT (by kernel_rfl) (by kernel_rfl) ?_
    refine goSkip (by kernel_rfl) ?_
    refine thenC ?_
    refine goSeq (by kernel_rfl) ?_
    refine goBlock (i := 1) (by kernel_rfl) (by kernel_rfl) ?_
    refine goReg (N := 42) (hints := []) (l := [1, 2, 3, 5]) (m := [1, 2, 3]) (s₂ := ⟨[(1, one (.ptr 1 0)), (2, one (.ptr 2 0)), (3, one (.ptr 3 0)), (5, one (ci .i64 3))], [(1, 24, [ci .i64 (x0.c0), ci .i64 (x0.c1), ci .i64 (x0.c2), ci .i64 (x0.c3), ci .i64 (x0.c4), ci .i64 (x0.c5), ci .i64 (x0.c6), ci .i64 (x0.c7)]), (2, 24, [ci .i64 0, ci .i64 0, ci .i64 0, ci .i64 0, ci .i64 0, ci .i64 0, ci .i64 0, ci .i64 0]), (3, 24, [ci .i64 ((Int.tmod (x0.c0) 32769)), ci .i64 ((Int.tmod (x0.c1) 32769)), ci .i64 ((Int.tmod (x0.c2) 32769)), ci .i64 ((IntKind.wrap .i64 (1 + (j2)))), ci .i64 ((Int.tmod (x0.c4) 4097)), ci .i64 ((Int.tmod (x0.c5) 4097)), ci .i64 ((Int.tmod (x0.c6) 4097)), ci .i64 ((Int.tmod (x0.c7) 4097))])]⟩) (ob := True ∧ True ∧ True ∧ (0 ≤ (3 : Int) ∧ (3 : Int) < 4) ∧ True ∧ ((4097 : Int) ≠ 0) ∧ True ∧ (0 ≤ (3 : Int) ∧ (3 : Int) < 4) ∧ True ∧ True) (by kernel_rfl) hN (by kernel_rfl) ⟨trivial, trivial, trivial, (by decide), trivial, (by decide), trivial, (by decide), trivial, trivial⟩ (by decide) (by decide) ?_
    refine blkN ?_
    refine thenC ?_
    refine goReg (N := 42) (hints := []) (l := [1, 2, 3, 5]) (m := [1, 2, 3]) (s₂ := ⟨[(1, one (.ptr 1 0)), (2, one (.ptr 2 0)), (3, one (.ptr 3 0)), (5, one (ci .i64 4))], [(1, 24, [ci .i64 (x0.c0), ci .i64 (x0.c1), ci .i64 (x0.c2), ci .i64 (x0.c3), ci .i64 (x0.c4), ci .i64 (x0.c5), ci .i64 (x0.c6), ci .i64 (x0.c7)]), (2, 24, [ci .i64 0, ci .i64 0, ci .i64 0, ci .i64 0, ci .i64 0, ci .i64 0, ci .i64 0, ci .i64 0]), (3, 24, [ci .i64 ((Int.tmod (x0.c0) 32769)), ci .i64 ((Int.tmod (x0.c1) 32769)), ci .i64 ((Int.tmod (x0.c2) 32769)), ci .i64 ((IntKind.wrap .i64 (1 + (j2)))), ci .i64 ((Int.tmod (x0.c4) 4097)), ci .i64 ((Int.tmod (x0.c5) 4097)), ci .i64 ((Int.tmod (x0.c6) 4097)), ci .i64 ((Int.tmod (x0.c7) 4097))])]⟩) (ob := True ∧ True ∧ True ∧ True) (by kernel_rfl) hN (by kernel_rfl) ⟨trivial, trivial, trivial, trivial⟩ (by decide) (by decide) ?_
    refine thenN (roundC ?_)
    refine goSeq (by kernel_rfl) ?_
    refine goSeq (by kernel_rfl) ?_
    refine goReg (N := 42) (hints := []) (l := [1, 2, 3, 5, 30]) (m := [1, 2, 3]) (s₂ := ⟨[(1, one (.ptr 1 0)), (2, one (.ptr 2 0)), (3, one (.ptr 3 0)), (5, one (ci .i64 4)), (30, one (cb false))], [(1, 24, [ci .i64 (x0.c0), ci .i64 (x0.c1), ci .i64 (x0.c2), ci .i64 (x0.c3), ci .i64 (x0.c4), ci .i64 (x0.c5), ci .i64 (x0.c6), ci .i64 (x0.c7)]), (2, 24, [ci .i64 0, ci .i64 0, ci .i64 0, ci .i64 0, ci .i64 0, ci .i64 0, ci .i64 0, ci .i64 0]), (3, 24, [ci .i64 ((Int.tmod (x0.c0) 32769)), ci .i64 ((Int.tmod (x0.c1) 32769)), ci .i64 ((Int.tmod (x0.c2) 32769)), ci .i64 ((IntKind.wrap .i64 (1 + (j2)))), ci .i64 ((Int.tmod (x0.c4) 4097)), ci .i64 ((Int.tmod (x0.c5) 4097)), ci .i64 ((Int.tmod (x0.c6) 4097)), ci .i64 ((Int.tmod (x0.c7) 4097))])]⟩) (ob := True ∧ True ∧ True) (by kernel_rfl) hN (by kernel_rfl) ⟨trivial, trivial, trivial⟩ (by decide) (by decide) ?_
    refine thenC ?_
    refine goCondF (by kernel_rfl) (by kernel_rfl) ?_
    refine goExit (i := 0) (by kernel_rfl) (by kernel_rfl) ?_
    refine thenExit ?_
    refine thenExit ?_
    refine blkHit rfl ?_
    refine thenC ?_
    refine goSeq (by kernel_rfl) ?_
    refine goReg (N := 42) (hints := []) (l := [2]) (m := [2]) (s₂ := ⟨[(2, one (.ptr 2 0))], [(2, 24, [ci .i64 ((Int.tmod (x0.c0) 32769)), ci .i64 ((Int.tmod (x0.c1) 32769)), ci .i64 ((Int.tmod (x0.c2) 32769)), ci .i64 ((IntKind.wrap .i64 (1 + (j2)))), ci .i64 ((Int.tmod (x0.c4) 4097)), ci .i64 ((Int.tmod (x0.c5) 4097)), ci .i64 ((Int.tmod (x0.c6) 4097)), ci .i64 ((Int.tmod (x0.c7) 4097))])]⟩) (ob := True ∧ True ∧ True) (by kernel_rfl) hN (by kernel_rfl) ⟨trivial, trivial, trivial⟩ (by decide) (by decide) ?_
    refine thenC ?_
    refine goRet (by kernel_rfl) ?_
    obtain rfl := top_some h
    exact retOk (by kernel_rfl)
  · skip
    refine goSeq (by kernel_rfl) ?_
    rcases fork_some h with ⟨c3, h⟩ | ⟨c3, h⟩
    · skip
      refine goReg (N := 42) (hints := [(1, .bool true)]) (l := [1, 2, 3, 4, 23]) (m := [1, 2, 3]) (s₂ := ⟨[(1, one (.ptr 1 0)), (2, one (.ptr 2 0)), (3, one (.ptr 3 0)), (4, one (ci .i64 ((Int.tmod (x0.c3) 32768)))), (23, one (cb true))], [(1, 24, [ci .i64 (x0.c0), ci .i64 (x0.c1), ci .i64 (x0.c2), ci .i64 (x0.c3), ci .i64 (x0.c4), ci .i64 (x0.c5), ci .i64 (x0.c6), ci .i64 (x0.c7)]), (2, 24, [ci .i64 0, ci .i64 0, ci .i64 0, ci .i64 0, ci .i64 0, ci .i64 0, ci .i64 0, ci .i64 0]), (3, 24, [ci .i64 ((Int.tmod (x0.c0) 32769)), ci .i64 ((Int.tmod (x0.c1) 32769)), ci .i64 ((Int.tmod (x0.c2) 32769)), ci .i64 0, ci .i64 0, ci .i64 0, ci .i64 0, ci .i64 0])]⟩) (ob := True ∧ (True ∧ (decide (((Int.tmod (x0.c3) 32768)) < 0)) = true) ∧ True) (by kernel_rfl) hN (by kernel_rfl) ⟨trivial, ⟨trivial, c3⟩, trivial⟩ (by decide) (by decide) ?_
      refine thenC ?_
      refine goCondT (by kernel_rfl) (by kernel_rfl) ?_
      refine goReg (N := 42) (hints := []) (l := [1, 2, 3, 4]) (m := [1, 2, 3]) (s₂ := ⟨[(1, one (.ptr 1 0)), (2, one (.ptr 2 0)), (3, one (.ptr 3 0)), (4, one (ci .i64 ((IntKind.wrap .i64 (0 - ((Int.tmod (x0.c3) 32768)))))))], [(1, 24, [ci .i64 (x0.c0), ci .i64 (x0.c1), ci .i64 (x0.c2), ci .i64 (x0.c3), ci .i64 (x0.c4), ci .i64 (x0.c5), ci .i64 (x0.c6), ci .i64 (x0.c7)]), (2, 24, [ci .i64 0, ci .i64 0, ci .i64 0, ci .i64 0, ci .i64 0, ci .i64 0, ci .i64 0, ci .i64 0]), (3, 24, [ci .i64 ((Int.tmod (x0.c0) 32769)), ci .i64 ((Int.tmod (x0.c1) 32769)), ci .i64 ((Int.tmod (x0.c2) 32769)), ci .i64 0, ci .i64 0, ci .i64 0, ci .i64 0, ci .i64 0])]⟩) (ob := True ∧ True ∧ True ∧ True) (by kernel_rfl) hN (by kernel_rfl) ⟨trivial, trivial, trivial, trivial⟩ (by decide) (by decide) ?_
      exact Fit.mk [] ⟨x0, ((IntKind.wrap .i64 (0 - ((Int.tmod (x0.c3) 32768))))), h, rfl⟩ (by kernel_rfl)
    · skip
      refine goReg (N := 42) (hints := [(1, .bool false)]) (l := [1, 2, 3, 4, 23]) (m := [1, 2, 3]) (s₂ := ⟨[(1, one (.ptr 1 0)), (2, one (.ptr 2 0)), (3, one (.ptr 3 0)), (4, one (ci .i64 ((Int.tmod (x0.c3) 32768)))), (23, one (cb false))], [(1, 24, [ci .i64 (x0.c0), ci .i64 (x0.c1), ci .i64 (x0.c2), ci .i64 (x0.c3), ci .i64 (x0.c4), ci .i64 (x0.c5), ci .i64 (x0.c6), ci .i64 (x0.c7)]), (2, 24, [ci .i64 0, ci .i64 0, ci .i64 0, ci .i64 0, ci .i64 0, ci .i64 0, ci .i64 0, ci .i64 0]), (3, 24, [ci .i64 ((Int.tmod (x0.c0) 32769)), ci .i64 ((Int.tmod (x0.c1) 32769)), ci .i64 ((Int.tmod (x0.c2) 32769)), ci .i64 0, ci .i64 0, ci .i64 0, ci .i64 0, ci .i64 0])]⟩) (ob := True ∧ (True ∧ (decide (((Int.tmod (x0.c3) 32768)) < 0)) = false) ∧ True) (by kernel_rfl) hN (by kernel_rfl) ⟨trivial, ⟨trivial, c3⟩, trivial⟩ (by decide) (by decide) ?_
      refine thenC ?_
      refine goCondF (by kernel_rfl) (by kernel_rfl) ?_
      refine goSkip (by kernel_rfl) ?_
      exact Fit.mk [] ⟨x0, ((Int.tmod (x0.c3) 32768)), h, rfl⟩ (by kernel_rfl)


end Go.Proofs.Ytmiffokcdmehhaa.G
