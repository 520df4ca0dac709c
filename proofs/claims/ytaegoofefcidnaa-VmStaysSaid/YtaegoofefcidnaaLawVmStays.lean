/- What is not told stays; programs one behind the other. Printed by law_stays.py. -/
import Derived.Test.YtaegoofefcidnaaLawVmStraight
set_option linter.unusedVariables false
namespace Go.Proofs.Ytaegoofefcidnaa.G
open Go Go.RowKit Go.Proofs.Ytaegoofefcidnaa.M

abbrev B8 := Bool × Bool × Bool × Bool × Bool × Bool × Bool × Bool

def pk (d : Int) (t : B8) : B8 := (F.pick d 0 true t.1, (F.pick d 1 true t.2.1, (F.pick d 2 true t.2.2.1, (F.pick d 3 true t.2.2.2.1, (F.pick d 4 true t.2.2.2.2.1, (F.pick d 5 true t.2.2.2.2.2.1, (F.pick d 6 true t.2.2.2.2.2.2.1, F.pick d 7 true t.2.2.2.2.2.2.2)))))))
def flag (t : B8) (i : Int) : Bool := ([t.1, t.2.1, t.2.2.1, t.2.2.2.1, t.2.2.2.2.1, t.2.2.2.2.2.1, t.2.2.2.2.2.2.1, t.2.2.2.2.2.2.2] : List Bool).getD i.toNat false
def toldL (l : List Ins) (t : B8) : B8 := l.foldl (fun t x => pk x.2.1 t) t

theorem pick_flag (d : Int) (k : Nat) (b : Bool) : F.pick d k true b = (decide (d = (k : Int)) || b) := by
  unfold F.pick
  by_cases h : d = (k : Int)
  · rw [if_pos h, decide_eq_true h]; rfl
  · rw [if_neg h, decide_eq_false h]; rfl

theorem flag_pk {d i : Int} (hi : 0 ≤ i ∧ i ≤ 7) (t : B8) : flag (pk d t) i = (decide (d = i) || flag t i) := by
  rcases reg_in hi.1 hi.2 with rfl | rfl | rfl | rfl | rfl | rfl | rfl | rfl
  · exact pick_flag d 0 _
  · exact pick_flag d 1 _
  · exact pick_flag d 2 _
  · exact pick_flag d 3 _
  · exact pick_flag d 4 _
  · exact pick_flag d 5 _
  · exact pick_flag d 6 _
  · exact pick_flag d 7 _

theorem flag_told {i : Int} (hi : 0 ≤ i ∧ i ≤ 7) : ∀ (l : List Ins) (t : B8), flag (toldL l t) i = false → flag t i = false ∧ ∀ x ∈ l, x.2.1 ≠ i
  | [], t, h => ⟨h, fun x hx => by simp at hx⟩
  | x :: l, t, h => by
    obtain ⟨h1, h2⟩ := flag_told hi l (pk x.2.1 t) h
    rw [flag_pk hi, Bool.or_eq_false_iff] at h1
    refine ⟨h1.2, fun y hy => ?_⟩
    rcases List.mem_cons.1 hy with rfl | hy
    · exact of_decide_eq_false h1.1
    · exact h2 y hy

theorem told_loop (fl : Nat) (h : Bool) {p : List Ins} (hp : ∀ x ∈ p, sok x) (hl : p.length ≤ 32) (r a : R8) : ∀ (k n i : Nat) (t : B8), i + k = p.length → k + 1 ≤ n →
    glazierlaw13_VmStays_l1 fl n h p i r.1 r.2.1 r.2.2.1 r.2.2.2.1 r.2.2.2.2.1 r.2.2.2.2.2.1 r.2.2.2.2.2.2.1 r.2.2.2.2.2.2.2 a.1 a.2.1 a.2.2.1 a.2.2.2.1 a.2.2.2.2.1 a.2.2.2.2.2.1 a.2.2.2.2.2.2.1 a.2.2.2.2.2.2.2 t.1 t.2.1 t.2.2.1 t.2.2.2.1 t.2.2.2.2.1 t.2.2.2.2.2.1 t.2.2.2.2.2.2.1 t.2.2.2.2.2.2.2 = some (let t := toldL (p.drop i) t; (h, (p, (r.1, (r.2.1, (r.2.2.1, (r.2.2.2.1, (r.2.2.2.2.1, (r.2.2.2.2.2.1, (r.2.2.2.2.2.2.1, (r.2.2.2.2.2.2.2, (a.1, (a.2.1, (a.2.2.1, (a.2.2.2.1, (a.2.2.2.2.1, (a.2.2.2.2.2.1, (a.2.2.2.2.2.2.1, (a.2.2.2.2.2.2.2, (t.1, (t.2.1, (t.2.2.1, (t.2.2.2.1, (t.2.2.2.2.1, (t.2.2.2.2.2.1, (t.2.2.2.2.2.2.1, (t.2.2.2.2.2.2.2, ())))))))))))))))))))))))))))
  | 0, n, i, t, hk, hn => by
    obtain ⟨n, rfl⟩ : ∃ m, n = m + 1 := ⟨n - 1, by omega⟩
    rw [glazierlaw13_VmStays_l1, bnd_eq, bnd_eq, lenK, lt_f (by omega), bite_f, List.drop_eq_nil_of_le (by omega)]
    rfl
  | k + 1, n, i, t, hk, hn => by
    obtain ⟨n, rfl⟩ : ∃ m, n = m + 1 := ⟨n - 1, by omega⟩
    have hi : i < p.length := by omega
    have hx := hp _ (List.getElem_mem hi)
    have hb := hx.1.2.1
    have h7 := (hx.2.2 0 1).1.1
    rw [glazierlaw13_VmStays_l1]
    simp only [bnd_eq]
    rw [lenK, lt_t (by omega), bite_t, lgetK hi, ob_some, within8 hb.1 h7, bgd_t, addI (by omega)]
    have := told_loop fl h hp hl r a k n (i + 1) (pk p[i].2.1 t) (by omega) (by omega)
    rw [Int.natCast_add] at this
    refine this.trans ?_
    rw [List.drop_eq_getElem_cons hi]
    rfl

theorem conv32 (x : Int) : F.conv .i64 (F.conv .i32 x) = W x := convI (W_64 x)

theorem W_more (x : Int) : W (F.add .i64 x 4294967296) = W x := by
  show W (IntKind.wrap .i64 (x + 4294967296)) = W x
  rw [W_wrap, W_eq, W_eq]
  omega

theorem j2 (fl : Nat) (h : Bool) (p : List Ins) (r a : R8) (t : B8) (h32 : r32 a.1) (ht : t.1 = false → a.1 = W r.1) :
    glazierlaw13_VmStays_j2 fl h p r.1 r.2.1 r.2.2.1 r.2.2.2.1 r.2.2.2.2.1 r.2.2.2.2.2.1 r.2.2.2.2.2.2.1 r.2.2.2.2.2.2.2 a.1 a.2.1 a.2.2.1 a.2.2.2.1 a.2.2.2.2.1 a.2.2.2.2.2.1 a.2.2.2.2.2.2.1 a.2.2.2.2.2.2.2 t.1 t.2.1 t.2.2.1 t.2.2.2.1 t.2.2.2.2.1 t.2.2.2.2.2.1 t.2.2.2.2.2.2.1 t.2.2.2.2.2.2.2  = some (.inr (h, (p, (r.1, (r.2.1, (r.2.2.1, (r.2.2.2.1, (r.2.2.2.2.1, (r.2.2.2.2.2.1, (r.2.2.2.2.2.2.1, (r.2.2.2.2.2.2.2, (a.1, (a.2.1, (a.2.2.1, (a.2.2.2.1, (a.2.2.2.2.1, (a.2.2.2.2.2.1, (a.2.2.2.2.2.2.1, (a.2.2.2.2.2.2.2, (t.1, (t.2.1, (t.2.2.1, (t.2.2.2.1, (t.2.2.2.2.1, (t.2.2.2.2.2.1, (t.2.2.2.2.2.2.1, (t.2.2.2.2.2.2.2, (F.add .i64 r.1 4294967296, ())))))))))))))))))))))))))))) := by
  unfold glazierlaw13_VmStays_j2 r32 at *
  simp only [bnd_eq]
  rw [lt_f (by omega), ge_f (by omega)]
  cases e : t.1 with
  | false => rw [show F.not false = true from rfl, bite_t, conv32, ne_f (ht e), bite_f, bite_f, bite_f]
  | true => rw [show F.not true = false from rfl, bite_f, bite_f, bite_f]

theorem j3 (fl : Nat) (h : Bool) (p : List Ins) (r a : R8) (t : B8) (h32 : r32 a.2.1) (ht : t.2.1 = false → a.2.1 = W r.2.1) :
    glazierlaw13_VmStays_j3 fl h p r.1 r.2.1 r.2.2.1 r.2.2.2.1 r.2.2.2.2.1 r.2.2.2.2.2.1 r.2.2.2.2.2.2.1 r.2.2.2.2.2.2.2 a.1 a.2.1 a.2.2.1 a.2.2.2.1 a.2.2.2.2.1 a.2.2.2.2.2.1 a.2.2.2.2.2.2.1 a.2.2.2.2.2.2.2 t.1 t.2.1 t.2.2.1 t.2.2.2.1 t.2.2.2.2.1 t.2.2.2.2.2.1 t.2.2.2.2.2.2.1 t.2.2.2.2.2.2.2 (F.add .i64 r.1 4294967296) = some (.inr (h, (p, (r.1, (r.2.1, (r.2.2.1, (r.2.2.2.1, (r.2.2.2.2.1, (r.2.2.2.2.2.1, (r.2.2.2.2.2.2.1, (r.2.2.2.2.2.2.2, (a.1, (a.2.1, (a.2.2.1, (a.2.2.2.1, (a.2.2.2.2.1, (a.2.2.2.2.2.1, (a.2.2.2.2.2.2.1, (a.2.2.2.2.2.2.2, (t.1, (t.2.1, (t.2.2.1, (t.2.2.2.1, (t.2.2.2.2.1, (t.2.2.2.2.2.1, (t.2.2.2.2.2.2.1, (t.2.2.2.2.2.2.2, (F.add .i64 r.1 4294967296, (F.add .i64 r.2.1 4294967296, ()))))))))))))))))))))))))))))) := by
  unfold glazierlaw13_VmStays_j3 r32 at *
  simp only [bnd_eq]
  rw [lt_f (by omega), ge_f (by omega)]
  cases e : t.2.1 with
  | false => rw [show F.not false = true from rfl, bite_t, conv32, ne_f (ht e), bite_f, bite_f, bite_f]
  | true => rw [show F.not true = false from rfl, bite_f, bite_f, bite_f]

theorem j4 (fl : Nat) (h : Bool) (p : List Ins) (r a : R8) (t : B8) (h32 : r32 a.2.2.1) (ht : t.2.2.1 = false → a.2.2.1 = W r.2.2.1) :
    glazierlaw13_VmStays_j4 fl h p r.1 r.2.1 r.2.2.1 r.2.2.2.1 r.2.2.2.2.1 r.2.2.2.2.2.1 r.2.2.2.2.2.2.1 r.2.2.2.2.2.2.2 a.1 a.2.1 a.2.2.1 a.2.2.2.1 a.2.2.2.2.1 a.2.2.2.2.2.1 a.2.2.2.2.2.2.1 a.2.2.2.2.2.2.2 t.1 t.2.1 t.2.2.1 t.2.2.2.1 t.2.2.2.2.1 t.2.2.2.2.2.1 t.2.2.2.2.2.2.1 t.2.2.2.2.2.2.2 (F.add .i64 r.1 4294967296) (F.add .i64 r.2.1 4294967296) = some (.inr (h, (p, (r.1, (r.2.1, (r.2.2.1, (r.2.2.2.1, (r.2.2.2.2.1, (r.2.2.2.2.2.1, (r.2.2.2.2.2.2.1, (r.2.2.2.2.2.2.2, (a.1, (a.2.1, (a.2.2.1, (a.2.2.2.1, (a.2.2.2.2.1, (a.2.2.2.2.2.1, (a.2.2.2.2.2.2.1, (a.2.2.2.2.2.2.2, (t.1, (t.2.1, (t.2.2.1, (t.2.2.2.1, (t.2.2.2.2.1, (t.2.2.2.2.2.1, (t.2.2.2.2.2.2.1, (t.2.2.2.2.2.2.2, (F.add .i64 r.1 4294967296, (F.add .i64 r.2.1 4294967296, (F.add .i64 r.2.2.1 4294967296, ())))))))))))))))))))))))))))))) := by
  unfold glazierlaw13_VmStays_j4 r32 at *
  simp only [bnd_eq]
  rw [lt_f (by omega), ge_f (by omega)]
  cases e : t.2.2.1 with
  | false => rw [show F.not false = true from rfl, bite_t, conv32, ne_f (ht e), bite_f, bite_f, bite_f]
  | true => rw [show F.not true = false from rfl, bite_f, bite_f, bite_f]

theorem j5 (fl : Nat) (h : Bool) (p : List Ins) (r a : R8) (t : B8) (h32 : r32 a.2.2.2.1) (ht : t.2.2.2.1 = false → a.2.2.2.1 = W r.2.2.2.1) :
    glazierlaw13_VmStays_j5 fl h p r.1 r.2.1 r.2.2.1 r.2.2.2.1 r.2.2.2.2.1 r.2.2.2.2.2.1 r.2.2.2.2.2.2.1 r.2.2.2.2.2.2.2 a.1 a.2.1 a.2.2.1 a.2.2.2.1 a.2.2.2.2.1 a.2.2.2.2.2.1 a.2.2.2.2.2.2.1 a.2.2.2.2.2.2.2 t.1 t.2.1 t.2.2.1 t.2.2.2.1 t.2.2.2.2.1 t.2.2.2.2.2.1 t.2.2.2.2.2.2.1 t.2.2.2.2.2.2.2 (F.add .i64 r.1 4294967296) (F.add .i64 r.2.1 4294967296) (F.add .i64 r.2.2.1 4294967296) = some (.inr (h, (p, (r.1, (r.2.1, (r.2.2.1, (r.2.2.2.1, (r.2.2.2.2.1, (r.2.2.2.2.2.1, (r.2.2.2.2.2.2.1, (r.2.2.2.2.2.2.2, (a.1, (a.2.1, (a.2.2.1, (a.2.2.2.1, (a.2.2.2.2.1, (a.2.2.2.2.2.1, (a.2.2.2.2.2.2.1, (a.2.2.2.2.2.2.2, (t.1, (t.2.1, (t.2.2.1, (t.2.2.2.1, (t.2.2.2.2.1, (t.2.2.2.2.2.1, (t.2.2.2.2.2.2.1, (t.2.2.2.2.2.2.2, (F.add .i64 r.1 4294967296, (F.add .i64 r.2.1 4294967296, (F.add .i64 r.2.2.1 4294967296, (F.add .i64 r.2.2.2.1 4294967296, ()))))))))))))))))))))))))))))))) := by
  unfold glazierlaw13_VmStays_j5 r32 at *
  simp only [bnd_eq]
  rw [lt_f (by omega), ge_f (by omega)]
  cases e : t.2.2.2.1 with
  | false => rw [show F.not false = true from rfl, bite_t, conv32, ne_f (ht e), bite_f, bite_f, bite_f]
  | true => rw [show F.not true = false from rfl, bite_f, bite_f, bite_f]

theorem j6 (fl : Nat) (h : Bool) (p : List Ins) (r a : R8) (t : B8) (h32 : r32 a.2.2.2.2.1) (ht : t.2.2.2.2.1 = false → a.2.2.2.2.1 = W r.2.2.2.2.1) :
    glazierlaw13_VmStays_j6 fl h p r.1 r.2.1 r.2.2.1 r.2.2.2.1 r.2.2.2.2.1 r.2.2.2.2.2.1 r.2.2.2.2.2.2.1 r.2.2.2.2.2.2.2 a.1 a.2.1 a.2.2.1 a.2.2.2.1 a.2.2.2.2.1 a.2.2.2.2.2.1 a.2.2.2.2.2.2.1 a.2.2.2.2.2.2.2 t.1 t.2.1 t.2.2.1 t.2.2.2.1 t.2.2.2.2.1 t.2.2.2.2.2.1 t.2.2.2.2.2.2.1 t.2.2.2.2.2.2.2 (F.add .i64 r.1 4294967296) (F.add .i64 r.2.1 4294967296) (F.add .i64 r.2.2.1 4294967296) (F.add .i64 r.2.2.2.1 4294967296) = some (.inr (h, (p, (r.1, (r.2.1, (r.2.2.1, (r.2.2.2.1, (r.2.2.2.2.1, (r.2.2.2.2.2.1, (r.2.2.2.2.2.2.1, (r.2.2.2.2.2.2.2, (a.1, (a.2.1, (a.2.2.1, (a.2.2.2.1, (a.2.2.2.2.1, (a.2.2.2.2.2.1, (a.2.2.2.2.2.2.1, (a.2.2.2.2.2.2.2, (t.1, (t.2.1, (t.2.2.1, (t.2.2.2.1, (t.2.2.2.2.1, (t.2.2.2.2.2.1, (t.2.2.2.2.2.2.1, (t.2.2.2.2.2.2.2, (F.add .i64 r.1 4294967296, (F.add .i64 r.2.1 4294967296, (F.add .i64 r.2.2.1 4294967296, (F.add .i64 r.2.2.2.1 4294967296, (F.add .i64 r.2.2.2.2.1 4294967296, ())))))))))))))))))))))))))))))))) := by
  unfold glazierlaw13_VmStays_j6 r32 at *
  simp only [bnd_eq]
  rw [lt_f (by omega), ge_f (by omega)]
  cases e : t.2.2.2.2.1 with
  | false => rw [show F.not false = true from rfl, bite_t, conv32, ne_f (ht e), bite_f, bite_f, bite_f]
  | true => rw [show F.not true = false from rfl, bite_f, bite_f, bite_f]

theorem j7 (fl : Nat) (h : Bool) (p : List Ins) (r a : R8) (t : B8) (h32 : r32 a.2.2.2.2.2.1) (ht : t.2.2.2.2.2.1 = false → a.2.2.2.2.2.1 = W r.2.2.2.2.2.1) :
    glazierlaw13_VmStays_j7 fl h p r.1 r.2.1 r.2.2.1 r.2.2.2.1 r.2.2.2.2.1 r.2.2.2.2.2.1 r.2.2.2.2.2.2.1 r.2.2.2.2.2.2.2 a.1 a.2.1 a.2.2.1 a.2.2.2.1 a.2.2.2.2.1 a.2.2.2.2.2.1 a.2.2.2.2.2.2.1 a.2.2.2.2.2.2.2 t.1 t.2.1 t.2.2.1 t.2.2.2.1 t.2.2.2.2.1 t.2.2.2.2.2.1 t.2.2.2.2.2.2.1 t.2.2.2.2.2.2.2 (F.add .i64 r.1 4294967296) (F.add .i64 r.2.1 4294967296) (F.add .i64 r.2.2.1 4294967296) (F.add .i64 r.2.2.2.1 4294967296) (F.add .i64 r.2.2.2.2.1 4294967296) = some (.inr (h, (p, (r.1, (r.2.1, (r.2.2.1, (r.2.2.2.1, (r.2.2.2.2.1, (r.2.2.2.2.2.1, (r.2.2.2.2.2.2.1, (r.2.2.2.2.2.2.2, (a.1, (a.2.1, (a.2.2.1, (a.2.2.2.1, (a.2.2.2.2.1, (a.2.2.2.2.2.1, (a.2.2.2.2.2.2.1, (a.2.2.2.2.2.2.2, (t.1, (t.2.1, (t.2.2.1, (t.2.2.2.1, (t.2.2.2.2.1, (t.2.2.2.2.2.1, (t.2.2.2.2.2.2.1, (t.2.2.2.2.2.2.2, (F.add .i64 r.1 4294967296, (F.add .i64 r.2.1 4294967296, (F.add .i64 r.2.2.1 4294967296, (F.add .i64 r.2.2.2.1 4294967296, (F.add .i64 r.2.2.2.2.1 4294967296, (F.add .i64 r.2.2.2.2.2.1 4294967296, ()))))))))))))))))))))))))))))))))) := by
  unfold glazierlaw13_VmStays_j7 r32 at *
  simp only [bnd_eq]
  rw [lt_f (by omega), ge_f (by omega)]
  cases e : t.2.2.2.2.2.1 with
  | false => rw [show F.not false = true from rfl, bite_t, conv32, ne_f (ht e), bite_f, bite_f, bite_f]
  | true => rw [show F.not true = false from rfl, bite_f, bite_f, bite_f]

theorem j8 (fl : Nat) (h : Bool) (p : List Ins) (r a : R8) (t : B8) (h32 : r32 a.2.2.2.2.2.2.1) (ht : t.2.2.2.2.2.2.1 = false → a.2.2.2.2.2.2.1 = W r.2.2.2.2.2.2.1) :
    glazierlaw13_VmStays_j8 fl h p r.1 r.2.1 r.2.2.1 r.2.2.2.1 r.2.2.2.2.1 r.2.2.2.2.2.1 r.2.2.2.2.2.2.1 r.2.2.2.2.2.2.2 a.1 a.2.1 a.2.2.1 a.2.2.2.1 a.2.2.2.2.1 a.2.2.2.2.2.1 a.2.2.2.2.2.2.1 a.2.2.2.2.2.2.2 t.1 t.2.1 t.2.2.1 t.2.2.2.1 t.2.2.2.2.1 t.2.2.2.2.2.1 t.2.2.2.2.2.2.1 t.2.2.2.2.2.2.2 (F.add .i64 r.1 4294967296) (F.add .i64 r.2.1 4294967296) (F.add .i64 r.2.2.1 4294967296) (F.add .i64 r.2.2.2.1 4294967296) (F.add .i64 r.2.2.2.2.1 4294967296) (F.add .i64 r.2.2.2.2.2.1 4294967296) = some (.inr (h, (p, (r.1, (r.2.1, (r.2.2.1, (r.2.2.2.1, (r.2.2.2.2.1, (r.2.2.2.2.2.1, (r.2.2.2.2.2.2.1, (r.2.2.2.2.2.2.2, (a.1, (a.2.1, (a.2.2.1, (a.2.2.2.1, (a.2.2.2.2.1, (a.2.2.2.2.2.1, (a.2.2.2.2.2.2.1, (a.2.2.2.2.2.2.2, (t.1, (t.2.1, (t.2.2.1, (t.2.2.2.1, (t.2.2.2.2.1, (t.2.2.2.2.2.1, (t.2.2.2.2.2.2.1, (t.2.2.2.2.2.2.2, (F.add .i64 r.1 4294967296, (F.add .i64 r.2.1 4294967296, (F.add .i64 r.2.2.1 4294967296, (F.add .i64 r.2.2.2.1 4294967296, (F.add .i64 r.2.2.2.2.1 4294967296, (F.add .i64 r.2.2.2.2.2.1 4294967296, (F.add .i64 r.2.2.2.2.2.2.1 4294967296, ())))))))))))))))))))))))))))))))))) := by
  unfold glazierlaw13_VmStays_j8 r32 at *
  simp only [bnd_eq]
  rw [lt_f (by omega), ge_f (by omega)]
  cases e : t.2.2.2.2.2.2.1 with
  | false => rw [show F.not false = true from rfl, bite_t, conv32, ne_f (ht e), bite_f, bite_f, bite_f]
  | true => rw [show F.not true = false from rfl, bite_f, bite_f, bite_f]

theorem j9 (fl : Nat) (h : Bool) (p : List Ins) (r a : R8) (t : B8) (h32 : r32 a.2.2.2.2.2.2.2) (ht : t.2.2.2.2.2.2.2 = false → a.2.2.2.2.2.2.2 = W r.2.2.2.2.2.2.2) :
    glazierlaw13_VmStays_j9 fl h p r.1 r.2.1 r.2.2.1 r.2.2.2.1 r.2.2.2.2.1 r.2.2.2.2.2.1 r.2.2.2.2.2.2.1 r.2.2.2.2.2.2.2 a.1 a.2.1 a.2.2.1 a.2.2.2.1 a.2.2.2.2.1 a.2.2.2.2.2.1 a.2.2.2.2.2.2.1 a.2.2.2.2.2.2.2 t.1 t.2.1 t.2.2.1 t.2.2.2.1 t.2.2.2.2.1 t.2.2.2.2.2.1 t.2.2.2.2.2.2.1 t.2.2.2.2.2.2.2 (F.add .i64 r.1 4294967296) (F.add .i64 r.2.1 4294967296) (F.add .i64 r.2.2.1 4294967296) (F.add .i64 r.2.2.2.1 4294967296) (F.add .i64 r.2.2.2.2.1 4294967296) (F.add .i64 r.2.2.2.2.2.1 4294967296) (F.add .i64 r.2.2.2.2.2.2.1 4294967296) = some (.inr (h, (p, (r.1, (r.2.1, (r.2.2.1, (r.2.2.2.1, (r.2.2.2.2.1, (r.2.2.2.2.2.1, (r.2.2.2.2.2.2.1, (r.2.2.2.2.2.2.2, (a.1, (a.2.1, (a.2.2.1, (a.2.2.2.1, (a.2.2.2.2.1, (a.2.2.2.2.2.1, (a.2.2.2.2.2.2.1, (a.2.2.2.2.2.2.2, (t.1, (t.2.1, (t.2.2.1, (t.2.2.2.1, (t.2.2.2.2.1, (t.2.2.2.2.2.1, (t.2.2.2.2.2.2.1, (t.2.2.2.2.2.2.2, (F.add .i64 r.1 4294967296, (F.add .i64 r.2.1 4294967296, (F.add .i64 r.2.2.1 4294967296, (F.add .i64 r.2.2.2.1 4294967296, (F.add .i64 r.2.2.2.2.1 4294967296, (F.add .i64 r.2.2.2.2.2.1 4294967296, (F.add .i64 r.2.2.2.2.2.2.1 4294967296, (F.add .i64 r.2.2.2.2.2.2.2 4294967296, ()))))))))))))))))))))))))))))))))))) := by
  unfold glazierlaw13_VmStays_j9 r32 at *
  simp only [bnd_eq]
  rw [lt_f (by omega), ge_f (by omega)]
  cases e : t.2.2.2.2.2.2.2 with
  | false => rw [show F.not false = true from rfl, bite_t, conv32, ne_f (ht e), bite_f, bite_f, bite_f]
  | true => rw [show F.not true = false from rfl, bite_f, bite_f, bite_f]

theorem os_inr {α β γ : Type} (y : β) (f : α → Option γ) (g : β → Option γ) : osum (.inr y) f g = g y := rfl

noncomputable def stail (fl : Nat) (h : Bool) (p q : List Ins) (r : R8) : Option Bool :=
  obind (vm_Run fl p (0, (0, [])) r) fun q12 =>
  obind (vm_Run fl q (0, (0, [])) q12.1) fun q13 =>
  bgd (F.appOk (α := Unit) 16 [] p) (
    bgd (F.appOk 16 (F.app [] p) q) (
      obind (vm_Run fl (F.app (F.app [] p) q) (0, (0, [])) r) fun q14 =>
      bnd (F.ne q12.2.2 0) fun v15 =>
      bite v15 (
        some false) (
        bnd (F.ne q13.2.2 0) fun v16 =>
        bite v16 (
          some false) (
          bnd (F.ne q14.2.2 0) fun v17 =>
          bite v17 (
            some false) (
            bnd (F.not (F.both (F.eq q13.1.1 q14.1.1) (F.both (F.eq q13.1.2.1 q14.1.2.1) (F.both (F.eq q13.1.2.2.1 q14.1.2.2.1) (F.both (F.eq q13.1.2.2.2.1 q14.1.2.2.2.1) (F.both (F.eq q13.1.2.2.2.2.1 q14.1.2.2.2.2.1) (F.both (F.eq q13.1.2.2.2.2.2.1 q14.1.2.2.2.2.2.1) (F.both (F.eq q13.1.2.2.2.2.2.2.1 q14.1.2.2.2.2.2.2.1) (F.eq q13.1.2.2.2.2.2.2.2 q14.1.2.2.2.2.2.2.2))))))))) fun v18 =>
            bite v18 (
              some false) (
              bnd (F.add .i64 q12.2.1 q13.2.1) fun v19 =>
              bnd (F.ne v19 q14.2.1) fun v20 =>
              bite v20 (
                some false) (
                bnd (F.len p) fun v21 =>
                bnd (F.ne q12.2.1 v21) fun v22 =>
                bite v22 (
                  some false) (
                  obind (glazierlaw13_VmStays_l1 fl fl h p 0 r.1 r.2.1 r.2.2.1 r.2.2.2.1 r.2.2.2.2.1 r.2.2.2.2.2.1 r.2.2.2.2.2.2.1 r.2.2.2.2.2.2.2 q12.1.1 q12.1.2.1 q12.1.2.2.1 q12.1.2.2.2.1 q12.1.2.2.2.2.1 q12.1.2.2.2.2.2.1 q12.1.2.2.2.2.2.2.1 q12.1.2.2.2.2.2.2.2 false false false false false false false false) fun q23 =>
                  obind (glazierlaw13_VmStays_j2 fl q23.1 q23.2.1 q23.2.2.1 q23.2.2.2.1 q23.2.2.2.2.1 q23.2.2.2.2.2.1 q23.2.2.2.2.2.2.1 q23.2.2.2.2.2.2.2.1 q23.2.2.2.2.2.2.2.2.1 q23.2.2.2.2.2.2.2.2.2.1 q23.2.2.2.2.2.2.2.2.2.2.1 q23.2.2.2.2.2.2.2.2.2.2.2.1 q23.2.2.2.2.2.2.2.2.2.2.2.2.1 q23.2.2.2.2.2.2.2.2.2.2.2.2.2.1 q23.2.2.2.2.2.2.2.2.2.2.2.2.2.2.1 q23.2.2.2.2.2.2.2.2.2.2.2.2.2.2.2.1 q23.2.2.2.2.2.2.2.2.2.2.2.2.2.2.2.2.1 q23.2.2.2.2.2.2.2.2.2.2.2.2.2.2.2.2.2.1 q23.2.2.2.2.2.2.2.2.2.2.2.2.2.2.2.2.2.2.1 q23.2.2.2.2.2.2.2.2.2.2.2.2.2.2.2.2.2.2.2.1 q23.2.2.2.2.2.2.2.2.2.2.2.2.2.2.2.2.2.2.2.2.1 q23.2.2.2.2.2.2.2.2.2.2.2.2.2.2.2.2.2.2.2.2.2.1 q23.2.2.2.2.2.2.2.2.2.2.2.2.2.2.2.2.2.2.2.2.2.2.1 q23.2.2.2.2.2.2.2.2.2.2.2.2.2.2.2.2.2.2.2.2.2.2.2.1 q23.2.2.2.2.2.2.2.2.2.2.2.2.2.2.2.2.2.2.2.2.2.2.2.2.1 q23.2.2.2.2.2.2.2.2.2.2.2.2.2.2.2.2.2.2.2.2.2.2.2.2.2.1) fun q24 =>
                  osum q24 (fun s25 =>
                    some false) (fun r26 =>
                    obind (glazierlaw13_VmStays_j3 fl r26.1 r26.2.1 r26.2.2.1 r26.2.2.2.1 r26.2.2.2.2.1 r26.2.2.2.2.2.1 r26.2.2.2.2.2.2.1 r26.2.2.2.2.2.2.2.1 r26.2.2.2.2.2.2.2.2.1 r26.2.2.2.2.2.2.2.2.2.1 r26.2.2.2.2.2.2.2.2.2.2.1 r26.2.2.2.2.2.2.2.2.2.2.2.1 r26.2.2.2.2.2.2.2.2.2.2.2.2.1 r26.2.2.2.2.2.2.2.2.2.2.2.2.2.1 r26.2.2.2.2.2.2.2.2.2.2.2.2.2.2.1 r26.2.2.2.2.2.2.2.2.2.2.2.2.2.2.2.1 r26.2.2.2.2.2.2.2.2.2.2.2.2.2.2.2.2.1 r26.2.2.2.2.2.2.2.2.2.2.2.2.2.2.2.2.2.1 r26.2.2.2.2.2.2.2.2.2.2.2.2.2.2.2.2.2.2.1 r26.2.2.2.2.2.2.2.2.2.2.2.2.2.2.2.2.2.2.2.1 r26.2.2.2.2.2.2.2.2.2.2.2.2.2.2.2.2.2.2.2.2.1 r26.2.2.2.2.2.2.2.2.2.2.2.2.2.2.2.2.2.2.2.2.2.1 r26.2.2.2.2.2.2.2.2.2.2.2.2.2.2.2.2.2.2.2.2.2.2.1 r26.2.2.2.2.2.2.2.2.2.2.2.2.2.2.2.2.2.2.2.2.2.2.2.1 r26.2.2.2.2.2.2.2.2.2.2.2.2.2.2.2.2.2.2.2.2.2.2.2.2.1 r26.2.2.2.2.2.2.2.2.2.2.2.2.2.2.2.2.2.2.2.2.2.2.2.2.2.1 r26.2.2.2.2.2.2.2.2.2.2.2.2.2.2.2.2.2.2.2.2.2.2.2.2.2.2.1) fun q27 =>
                    osum q27 (fun s28 =>
                      some false) (fun r29 =>
                      obind (glazierlaw13_VmStays_j4 fl r29.1 r29.2.1 r29.2.2.1 r29.2.2.2.1 r29.2.2.2.2.1 r29.2.2.2.2.2.1 r29.2.2.2.2.2.2.1 r29.2.2.2.2.2.2.2.1 r29.2.2.2.2.2.2.2.2.1 r29.2.2.2.2.2.2.2.2.2.1 r29.2.2.2.2.2.2.2.2.2.2.1 r29.2.2.2.2.2.2.2.2.2.2.2.1 r29.2.2.2.2.2.2.2.2.2.2.2.2.1 r29.2.2.2.2.2.2.2.2.2.2.2.2.2.1 r29.2.2.2.2.2.2.2.2.2.2.2.2.2.2.1 r29.2.2.2.2.2.2.2.2.2.2.2.2.2.2.2.1 r29.2.2.2.2.2.2.2.2.2.2.2.2.2.2.2.2.1 r29.2.2.2.2.2.2.2.2.2.2.2.2.2.2.2.2.2.1 r29.2.2.2.2.2.2.2.2.2.2.2.2.2.2.2.2.2.2.1 r29.2.2.2.2.2.2.2.2.2.2.2.2.2.2.2.2.2.2.2.1 r29.2.2.2.2.2.2.2.2.2.2.2.2.2.2.2.2.2.2.2.2.1 r29.2.2.2.2.2.2.2.2.2.2.2.2.2.2.2.2.2.2.2.2.2.1 r29.2.2.2.2.2.2.2.2.2.2.2.2.2.2.2.2.2.2.2.2.2.2.1 r29.2.2.2.2.2.2.2.2.2.2.2.2.2.2.2.2.2.2.2.2.2.2.2.1 r29.2.2.2.2.2.2.2.2.2.2.2.2.2.2.2.2.2.2.2.2.2.2.2.2.1 r29.2.2.2.2.2.2.2.2.2.2.2.2.2.2.2.2.2.2.2.2.2.2.2.2.2.1 r29.2.2.2.2.2.2.2.2.2.2.2.2.2.2.2.2.2.2.2.2.2.2.2.2.2.2.1 r29.2.2.2.2.2.2.2.2.2.2.2.2.2.2.2.2.2.2.2.2.2.2.2.2.2.2.2.1) fun q30 =>
                      osum q30 (fun s31 =>
                        some false) (fun r32 =>
                        obind (glazierlaw13_VmStays_j5 fl r32.1 r32.2.1 r32.2.2.1 r32.2.2.2.1 r32.2.2.2.2.1 r32.2.2.2.2.2.1 r32.2.2.2.2.2.2.1 r32.2.2.2.2.2.2.2.1 r32.2.2.2.2.2.2.2.2.1 r32.2.2.2.2.2.2.2.2.2.1 r32.2.2.2.2.2.2.2.2.2.2.1 r32.2.2.2.2.2.2.2.2.2.2.2.1 r32.2.2.2.2.2.2.2.2.2.2.2.2.1 r32.2.2.2.2.2.2.2.2.2.2.2.2.2.1 r32.2.2.2.2.2.2.2.2.2.2.2.2.2.2.1 r32.2.2.2.2.2.2.2.2.2.2.2.2.2.2.2.1 r32.2.2.2.2.2.2.2.2.2.2.2.2.2.2.2.2.1 r32.2.2.2.2.2.2.2.2.2.2.2.2.2.2.2.2.2.1 r32.2.2.2.2.2.2.2.2.2.2.2.2.2.2.2.2.2.2.1 r32.2.2.2.2.2.2.2.2.2.2.2.2.2.2.2.2.2.2.2.1 r32.2.2.2.2.2.2.2.2.2.2.2.2.2.2.2.2.2.2.2.2.1 r32.2.2.2.2.2.2.2.2.2.2.2.2.2.2.2.2.2.2.2.2.2.1 r32.2.2.2.2.2.2.2.2.2.2.2.2.2.2.2.2.2.2.2.2.2.2.1 r32.2.2.2.2.2.2.2.2.2.2.2.2.2.2.2.2.2.2.2.2.2.2.2.1 r32.2.2.2.2.2.2.2.2.2.2.2.2.2.2.2.2.2.2.2.2.2.2.2.2.1 r32.2.2.2.2.2.2.2.2.2.2.2.2.2.2.2.2.2.2.2.2.2.2.2.2.2.1 r32.2.2.2.2.2.2.2.2.2.2.2.2.2.2.2.2.2.2.2.2.2.2.2.2.2.2.1 r32.2.2.2.2.2.2.2.2.2.2.2.2.2.2.2.2.2.2.2.2.2.2.2.2.2.2.2.1 r32.2.2.2.2.2.2.2.2.2.2.2.2.2.2.2.2.2.2.2.2.2.2.2.2.2.2.2.2.1) fun q33 =>
                        osum q33 (fun s34 =>
                          some false) (fun r35 =>
                          obind (glazierlaw13_VmStays_j6 fl r35.1 r35.2.1 r35.2.2.1 r35.2.2.2.1 r35.2.2.2.2.1 r35.2.2.2.2.2.1 r35.2.2.2.2.2.2.1 r35.2.2.2.2.2.2.2.1 r35.2.2.2.2.2.2.2.2.1 r35.2.2.2.2.2.2.2.2.2.1 r35.2.2.2.2.2.2.2.2.2.2.1 r35.2.2.2.2.2.2.2.2.2.2.2.1 r35.2.2.2.2.2.2.2.2.2.2.2.2.1 r35.2.2.2.2.2.2.2.2.2.2.2.2.2.1 r35.2.2.2.2.2.2.2.2.2.2.2.2.2.2.1 r35.2.2.2.2.2.2.2.2.2.2.2.2.2.2.2.1 r35.2.2.2.2.2.2.2.2.2.2.2.2.2.2.2.2.1 r35.2.2.2.2.2.2.2.2.2.2.2.2.2.2.2.2.2.1 r35.2.2.2.2.2.2.2.2.2.2.2.2.2.2.2.2.2.2.1 r35.2.2.2.2.2.2.2.2.2.2.2.2.2.2.2.2.2.2.2.1 r35.2.2.2.2.2.2.2.2.2.2.2.2.2.2.2.2.2.2.2.2.1 r35.2.2.2.2.2.2.2.2.2.2.2.2.2.2.2.2.2.2.2.2.2.1 r35.2.2.2.2.2.2.2.2.2.2.2.2.2.2.2.2.2.2.2.2.2.2.1 r35.2.2.2.2.2.2.2.2.2.2.2.2.2.2.2.2.2.2.2.2.2.2.2.1 r35.2.2.2.2.2.2.2.2.2.2.2.2.2.2.2.2.2.2.2.2.2.2.2.2.1 r35.2.2.2.2.2.2.2.2.2.2.2.2.2.2.2.2.2.2.2.2.2.2.2.2.2.1 r35.2.2.2.2.2.2.2.2.2.2.2.2.2.2.2.2.2.2.2.2.2.2.2.2.2.2.1 r35.2.2.2.2.2.2.2.2.2.2.2.2.2.2.2.2.2.2.2.2.2.2.2.2.2.2.2.1 r35.2.2.2.2.2.2.2.2.2.2.2.2.2.2.2.2.2.2.2.2.2.2.2.2.2.2.2.2.1 r35.2.2.2.2.2.2.2.2.2.2.2.2.2.2.2.2.2.2.2.2.2.2.2.2.2.2.2.2.2.1) fun q36 =>
                          osum q36 (fun s37 =>
                            some false) (fun r38 =>
                            obind (glazierlaw13_VmStays_j7 fl r38.1 r38.2.1 r38.2.2.1 r38.2.2.2.1 r38.2.2.2.2.1 r38.2.2.2.2.2.1 r38.2.2.2.2.2.2.1 r38.2.2.2.2.2.2.2.1 r38.2.2.2.2.2.2.2.2.1 r38.2.2.2.2.2.2.2.2.2.1 r38.2.2.2.2.2.2.2.2.2.2.1 r38.2.2.2.2.2.2.2.2.2.2.2.1 r38.2.2.2.2.2.2.2.2.2.2.2.2.1 r38.2.2.2.2.2.2.2.2.2.2.2.2.2.1 r38.2.2.2.2.2.2.2.2.2.2.2.2.2.2.1 r38.2.2.2.2.2.2.2.2.2.2.2.2.2.2.2.1 r38.2.2.2.2.2.2.2.2.2.2.2.2.2.2.2.2.1 r38.2.2.2.2.2.2.2.2.2.2.2.2.2.2.2.2.2.1 r38.2.2.2.2.2.2.2.2.2.2.2.2.2.2.2.2.2.2.1 r38.2.2.2.2.2.2.2.2.2.2.2.2.2.2.2.2.2.2.2.1 r38.2.2.2.2.2.2.2.2.2.2.2.2.2.2.2.2.2.2.2.2.1 r38.2.2.2.2.2.2.2.2.2.2.2.2.2.2.2.2.2.2.2.2.2.1 r38.2.2.2.2.2.2.2.2.2.2.2.2.2.2.2.2.2.2.2.2.2.2.1 r38.2.2.2.2.2.2.2.2.2.2.2.2.2.2.2.2.2.2.2.2.2.2.2.1 r38.2.2.2.2.2.2.2.2.2.2.2.2.2.2.2.2.2.2.2.2.2.2.2.2.1 r38.2.2.2.2.2.2.2.2.2.2.2.2.2.2.2.2.2.2.2.2.2.2.2.2.2.1 r38.2.2.2.2.2.2.2.2.2.2.2.2.2.2.2.2.2.2.2.2.2.2.2.2.2.2.1 r38.2.2.2.2.2.2.2.2.2.2.2.2.2.2.2.2.2.2.2.2.2.2.2.2.2.2.2.1 r38.2.2.2.2.2.2.2.2.2.2.2.2.2.2.2.2.2.2.2.2.2.2.2.2.2.2.2.2.1 r38.2.2.2.2.2.2.2.2.2.2.2.2.2.2.2.2.2.2.2.2.2.2.2.2.2.2.2.2.2.1 r38.2.2.2.2.2.2.2.2.2.2.2.2.2.2.2.2.2.2.2.2.2.2.2.2.2.2.2.2.2.2.1) fun q39 =>
                            osum q39 (fun s40 =>
                              some false) (fun r41 =>
                              obind (glazierlaw13_VmStays_j8 fl r41.1 r41.2.1 r41.2.2.1 r41.2.2.2.1 r41.2.2.2.2.1 r41.2.2.2.2.2.1 r41.2.2.2.2.2.2.1 r41.2.2.2.2.2.2.2.1 r41.2.2.2.2.2.2.2.2.1 r41.2.2.2.2.2.2.2.2.2.1 r41.2.2.2.2.2.2.2.2.2.2.1 r41.2.2.2.2.2.2.2.2.2.2.2.1 r41.2.2.2.2.2.2.2.2.2.2.2.2.1 r41.2.2.2.2.2.2.2.2.2.2.2.2.2.1 r41.2.2.2.2.2.2.2.2.2.2.2.2.2.2.1 r41.2.2.2.2.2.2.2.2.2.2.2.2.2.2.2.1 r41.2.2.2.2.2.2.2.2.2.2.2.2.2.2.2.2.1 r41.2.2.2.2.2.2.2.2.2.2.2.2.2.2.2.2.2.1 r41.2.2.2.2.2.2.2.2.2.2.2.2.2.2.2.2.2.2.1 r41.2.2.2.2.2.2.2.2.2.2.2.2.2.2.2.2.2.2.2.1 r41.2.2.2.2.2.2.2.2.2.2.2.2.2.2.2.2.2.2.2.2.1 r41.2.2.2.2.2.2.2.2.2.2.2.2.2.2.2.2.2.2.2.2.2.1 r41.2.2.2.2.2.2.2.2.2.2.2.2.2.2.2.2.2.2.2.2.2.2.1 r41.2.2.2.2.2.2.2.2.2.2.2.2.2.2.2.2.2.2.2.2.2.2.2.1 r41.2.2.2.2.2.2.2.2.2.2.2.2.2.2.2.2.2.2.2.2.2.2.2.2.1 r41.2.2.2.2.2.2.2.2.2.2.2.2.2.2.2.2.2.2.2.2.2.2.2.2.2.1 r41.2.2.2.2.2.2.2.2.2.2.2.2.2.2.2.2.2.2.2.2.2.2.2.2.2.2.1 r41.2.2.2.2.2.2.2.2.2.2.2.2.2.2.2.2.2.2.2.2.2.2.2.2.2.2.2.1 r41.2.2.2.2.2.2.2.2.2.2.2.2.2.2.2.2.2.2.2.2.2.2.2.2.2.2.2.2.1 r41.2.2.2.2.2.2.2.2.2.2.2.2.2.2.2.2.2.2.2.2.2.2.2.2.2.2.2.2.2.1 r41.2.2.2.2.2.2.2.2.2.2.2.2.2.2.2.2.2.2.2.2.2.2.2.2.2.2.2.2.2.2.1 r41.2.2.2.2.2.2.2.2.2.2.2.2.2.2.2.2.2.2.2.2.2.2.2.2.2.2.2.2.2.2.2.1) fun q42 =>
                              osum q42 (fun s43 =>
                                some false) (fun r44 =>
                                obind (glazierlaw13_VmStays_j9 fl r44.1 r44.2.1 r44.2.2.1 r44.2.2.2.1 r44.2.2.2.2.1 r44.2.2.2.2.2.1 r44.2.2.2.2.2.2.1 r44.2.2.2.2.2.2.2.1 r44.2.2.2.2.2.2.2.2.1 r44.2.2.2.2.2.2.2.2.2.1 r44.2.2.2.2.2.2.2.2.2.2.1 r44.2.2.2.2.2.2.2.2.2.2.2.1 r44.2.2.2.2.2.2.2.2.2.2.2.2.1 r44.2.2.2.2.2.2.2.2.2.2.2.2.2.1 r44.2.2.2.2.2.2.2.2.2.2.2.2.2.2.1 r44.2.2.2.2.2.2.2.2.2.2.2.2.2.2.2.1 r44.2.2.2.2.2.2.2.2.2.2.2.2.2.2.2.2.1 r44.2.2.2.2.2.2.2.2.2.2.2.2.2.2.2.2.2.1 r44.2.2.2.2.2.2.2.2.2.2.2.2.2.2.2.2.2.2.1 r44.2.2.2.2.2.2.2.2.2.2.2.2.2.2.2.2.2.2.2.1 r44.2.2.2.2.2.2.2.2.2.2.2.2.2.2.2.2.2.2.2.2.1 r44.2.2.2.2.2.2.2.2.2.2.2.2.2.2.2.2.2.2.2.2.2.1 r44.2.2.2.2.2.2.2.2.2.2.2.2.2.2.2.2.2.2.2.2.2.2.1 r44.2.2.2.2.2.2.2.2.2.2.2.2.2.2.2.2.2.2.2.2.2.2.2.1 r44.2.2.2.2.2.2.2.2.2.2.2.2.2.2.2.2.2.2.2.2.2.2.2.2.1 r44.2.2.2.2.2.2.2.2.2.2.2.2.2.2.2.2.2.2.2.2.2.2.2.2.2.1 r44.2.2.2.2.2.2.2.2.2.2.2.2.2.2.2.2.2.2.2.2.2.2.2.2.2.2.1 r44.2.2.2.2.2.2.2.2.2.2.2.2.2.2.2.2.2.2.2.2.2.2.2.2.2.2.2.1 r44.2.2.2.2.2.2.2.2.2.2.2.2.2.2.2.2.2.2.2.2.2.2.2.2.2.2.2.2.1 r44.2.2.2.2.2.2.2.2.2.2.2.2.2.2.2.2.2.2.2.2.2.2.2.2.2.2.2.2.2.1 r44.2.2.2.2.2.2.2.2.2.2.2.2.2.2.2.2.2.2.2.2.2.2.2.2.2.2.2.2.2.2.1 r44.2.2.2.2.2.2.2.2.2.2.2.2.2.2.2.2.2.2.2.2.2.2.2.2.2.2.2.2.2.2.2.1 r44.2.2.2.2.2.2.2.2.2.2.2.2.2.2.2.2.2.2.2.2.2.2.2.2.2.2.2.2.2.2.2.2.1) fun q45 =>
                                osum q45 (fun s46 =>
                                  some false) (fun r47 =>
                                  obind (vm_Run fl r47.2.1 (0, (0, [])) (r47.2.2.2.2.2.2.2.2.2.2.2.2.2.2.2.2.2.2.2.2.2.2.2.2.2.2.1, (r47.2.2.2.2.2.2.2.2.2.2.2.2.2.2.2.2.2.2.2.2.2.2.2.2.2.2.2.1, (r47.2.2.2.2.2.2.2.2.2.2.2.2.2.2.2.2.2.2.2.2.2.2.2.2.2.2.2.2.1, (r47.2.2.2.2.2.2.2.2.2.2.2.2.2.2.2.2.2.2.2.2.2.2.2.2.2.2.2.2.2.1, (r47.2.2.2.2.2.2.2.2.2.2.2.2.2.2.2.2.2.2.2.2.2.2.2.2.2.2.2.2.2.2.1, (r47.2.2.2.2.2.2.2.2.2.2.2.2.2.2.2.2.2.2.2.2.2.2.2.2.2.2.2.2.2.2.2.1, (r47.2.2.2.2.2.2.2.2.2.2.2.2.2.2.2.2.2.2.2.2.2.2.2.2.2.2.2.2.2.2.2.2.1, r47.2.2.2.2.2.2.2.2.2.2.2.2.2.2.2.2.2.2.2.2.2.2.2.2.2.2.2.2.2.2.2.2.2.1)))))))) fun q48 =>
                                  bite r47.1 (
                                    bnd (F.eq q48.2.2 0) fun v49 =>
                                    bite v49 (
                                      bnd (F.both (F.eq q48.1.1 r47.2.2.2.2.2.2.2.2.2.2.1) (F.both (F.eq q48.1.2.1 r47.2.2.2.2.2.2.2.2.2.2.2.1) (F.both (F.eq q48.1.2.2.1 r47.2.2.2.2.2.2.2.2.2.2.2.2.1) (F.both (F.eq q48.1.2.2.2.1 r47.2.2.2.2.2.2.2.2.2.2.2.2.2.1) (F.both (F.eq q48.1.2.2.2.2.1 r47.2.2.2.2.2.2.2.2.2.2.2.2.2.2.1) (F.both (F.eq q48.1.2.2.2.2.2.1 r47.2.2.2.2.2.2.2.2.2.2.2.2.2.2.2.1) (F.both (F.eq q48.1.2.2.2.2.2.2.1 r47.2.2.2.2.2.2.2.2.2.2.2.2.2.2.2.2.1) (F.eq q48.1.2.2.2.2.2.2.2 r47.2.2.2.2.2.2.2.2.2.2.2.2.2.2.2.2.2.1)))))))) fun v50 =>
                                      some v50) (
                                      some false)) (
                                    some false)))))))))))))))))

theorem flag_comp (t : B8) : t.1 = flag t 0 ∧ t.2.1 = flag t 1 ∧ t.2.2.1 = flag t 2 ∧ t.2.2.2.1 = flag t 3 ∧ t.2.2.2.2.1 = flag t 4 ∧ t.2.2.2.2.2.1 = flag t 5 ∧ t.2.2.2.2.2.2.1 = flag t 6 ∧ t.2.2.2.2.2.2.2 = flag t 7 := ⟨rfl, rfl, rfl, rfl, rfl, rfl, rfl, rfl⟩

theorem stail_spec {fl : Nat} (hfl : 400 ≤ fl) {p q : List Ins} (hp : ∀ x ∈ p, sok x) (hq : ∀ x ∈ q, sok x) (p1 : 1 ≤ p.length) (p2 : p.length ≤ 16) (q1 : 1 ≤ q.length) (q2 : q.length ≤ 16) (r : R8) : stail fl true p q r = some true := by
  unfold stail
  simp only [bnd_eq]
  have hpq : ∀ x ∈ p ++ q, sok x := fun x hx => (List.mem_append.1 hx).elim (hp x) (hq x)
  have ha := srun_32 hp (W8_32 r)
  rw [srun_run (by omega) hp p1 (by omega), ob_some]
  rw [srun_run (by omega) hq q1 (by omega), ob_some, appOk_t (by simp; omega) (by decide), bgd_t, appK, List.nil_append, appOk_t (by omega) (by decide), bgd_t, appK,
    srun_run (by omega) hpq (by simp; omega) (by simp; omega), ob_some, W8_id ha, srun_app]
  rw [ne_f rfl, bite_f, bite_f, bite_f, both8, show F.not true = false from rfl, bite_f]
  dsimp only
  rw [addI (by omega), ne_f (by simp), bite_f, lenK, ne_f rfl, bite_f]
  have stays : ∀ i : Int, 0 ≤ i ∧ i ≤ 7 → flag (toldL p (false, (false, (false, (false, (false, (false, (false, false)))))))) i = false → reg (srun p (W8 r)) i = reg (W8 r) i := fun i hi hf =>
    srun_stays p (W8 r) i hi fun x hx => ⟨(hp x hx).1.2.1, (flag_told hi p _ hf).2 x hx⟩
  generalize ea : srun p (W8 r) = a at *
  have hl := told_loop fl true hp (by omega) r a p.length fl 0 (false, (false, (false, (false, (false, (false, (false, false))))))) (by omega) (by omega)
  rw [List.drop_zero] at hl
  simp only [Int.natCast_zero, show ((0 : Nat) : Int) = 0 from rfl] at hl
  rw [hl, ob_some]
  simp only
  generalize toldL p (false, (false, (false, (false, (false, (false, (false, false))))))) = t at *
  obtain ⟨g0, g1, g2, g3, g4, g5, g6, g7⟩ := ha
  rw [j2 fl true p r a t g0 (fun hf => stays 0 (by decide) hf), ob_some, os_inr]
  rw [j3 fl true p r a t g1 (fun hf => stays 1 (by decide) hf), ob_some, os_inr]
  rw [j4 fl true p r a t g2 (fun hf => stays 2 (by decide) hf), ob_some, os_inr]
  rw [j5 fl true p r a t g3 (fun hf => stays 3 (by decide) hf), ob_some, os_inr]
  rw [j6 fl true p r a t g4 (fun hf => stays 4 (by decide) hf), ob_some, os_inr]
  rw [j7 fl true p r a t g5 (fun hf => stays 5 (by decide) hf), ob_some, os_inr]
  rw [j8 fl true p r a t g6 (fun hf => stays 6 (by decide) hf), ob_some, os_inr]
  rw [j9 fl true p r a t g7 (fun hf => stays 7 (by decide) hf), ob_some, os_inr]
  rw [srun_run (by omega) hp p1 (by omega), ob_some, bite_t]
  unfold W8
  simp only [W_more]
  rw [show (W r.1, (W r.2.1, (W r.2.2.1, (W r.2.2.2.1, (W r.2.2.2.2.1, (W r.2.2.2.2.2.1, (W r.2.2.2.2.2.2.1, W r.2.2.2.2.2.2.2))))))) = W8 r from rfl, ea]
  rw [eq_t rfl, bite_t, both8]

theorem straight_loop (fl : Nat) {m : Nat} (hm : m ≤ 16) : ∀ (k n i : Nat) (l : List Ins), l.length = m → i + k = m → k + 1 ≤ n → (∀ (j : Nat) (h : j < l.length), j < i → sok l[j]) → (∀ (j : Nat) (h : j < l.length), i ≤ j → insB l[j] ∧ iok l[j] j m ∧ l[j].1 ≤ 12) →
    ∃ p, glazierlaw13_straight_l1 fl n l i = some (p, ()) ∧ p.length = m ∧ ∀ x ∈ p, sok x
  | 0, n, i, l, hl, hk, hn, h1, h2 => by
    obtain ⟨n, rfl⟩ : ∃ m, n = m + 1 := ⟨n - 1, by omega⟩
    rw [glazierlaw13_straight_l1, bnd_eq, bnd_eq, lenK, lt_f (by omega), bite_f]
    refine ⟨l, rfl, hl, fun x hx => ?_⟩
    obtain ⟨j, hj, rfl⟩ := List.getElem_of_mem hx
    exact h1 j hj (by omega)
  | k + 1, n, i, l, hl, hk, hn, h1, h2 => by
    obtain ⟨n, rfl⟩ : ∃ m, n = m + 1 := ⟨n - 1, by omega⟩
    have hi : i < l.length := by omega
    obtain ⟨b1, b2, b3⟩ := h2 i hi (Nat.le_refl _)
    rw [glazierlaw13_straight_l1]
    simp only [bnd_eq]
    rw [lenK, lt_t (by omega), bite_t, lgetK hi, ob_some]
    by_cases e : l[i].1 = 12
    · have hx : sok (1, (l[i].2.2.1, (l[i].2.2.1, (0, 0)))) := by
        have hA := b1.2.2.1
        have h7 := b2.1.2.1
        refine sok_of (i := 0) (n := 1) ⟨(show byte 1 by unfold byte; decide), hA, hA, (show byte 0 by unfold byte; decide), (show -9223372036854775808 ≤ (0 : Int) ∧ (0 : Int) ≤ 9223372036854775807 by decide)⟩ ⟨⟨h7, h7, (show (0 : Int) ≤ 7 by decide)⟩, ?_⟩ (show (1 : Int) ≤ 11 by decide)
        exact .inr (.inr (.inl ⟨rfl, rfl, rfl⟩))
      rw [eq_t e, bite_t, ob_some, ob_some, show F.has l (i : Int) = true by unfold F.has; simp [hi], bgd_t, ob_some, addI (by omega), show F.put l (i : Int) (1, (l[i].2.2.1, (l[i].2.2.1, (0, 0)))) = l.set i (1, (l[i].2.2.1, (l[i].2.2.1, (0, 0)))) from rfl]
      have := straight_loop fl hm k n (i + 1) (l.set i (1, (l[i].2.2.1, (l[i].2.2.1, (0, 0))))) (by simpa using hl) (by omega) (by omega) (fun j h hj => by
        rw [List.getElem_set]
        split
        · exact hx
        · exact h1 j (by simpa using h) (by omega)) (fun j h hj => by
        rw [List.getElem_set, if_neg (by omega)]
        exact h2 j (by simpa using h) (by omega))
      rw [Int.natCast_add] at this
      exact this
    · rw [eq_f e, bite_f, addI (by omega)]
      have := straight_loop fl hm k n (i + 1) l hl (by omega) (by omega) (fun j h hj => by
        by_cases hji : j = i
        · subst hji; exact sok_of b1 b2 (by omega)
        · exact h1 j h (by omega)) (fun j h hj => h2 j h (by omega))
      rw [Int.natCast_add] at this
      exact this

theorem straight_spec {fl : Nat} (hfl : 40 ≤ fl) {l : List Ins} (hp : progs l) (h16 : l.length ≤ 16) : ∃ p, glazierlaw13_straight fl l = some p ∧ 1 ≤ p.length ∧ p.length ≤ 16 ∧ ∀ x ∈ p, sok x := by
  unfold glazierlaw13_straight
  obtain ⟨q, e, h1, h2, h3⟩ := sfit_spec hfl hp h16
  obtain ⟨p, e2, h4, h5⟩ := straight_loop fl (m := q.length) h2 q.length fl 0 q rfl (by omega) (by omega) (fun j h hj => by omega) (fun j h _ => h3 j h)
  rw [e, ob_some]
  rw [show ((0 : Nat) : Int) = 0 from rfl] at e2
  rw [e2, ob_some]
  exact ⟨p, rfl, by omega, by omega, h5⟩

theorem stays_eq (fl : Nat) (x0 x1 : List Ins) (x2 : R8) : glazierlaw13_VmStays fl x0 x1 x2 =
    obind (glazierlaw13_shown fl) fun h => bnd (F.len x0) fun v => bnd (F.gt v 16) fun c => bite c (
      bgd (F.cutOk x0 0 16) (bnd (F.cut x0 0 16) fun l => bnd (F.len x1) fun v => bnd (F.gt v 16) fun c => bite c (
        bgd (F.cutOk x1 0 16) (bnd (F.cut x1 0 16) fun m => obind (glazierlaw13_straight fl l) fun p => obind (glazierlaw13_straight fl m) fun q => stail fl h p q x2)) (
        obind (glazierlaw13_straight fl l) fun p => obind (glazierlaw13_straight fl x1) fun q => stail fl h p q x2))) (
      bnd (F.len x1) fun v => bnd (F.gt v 16) fun c => bite c (
        bgd (F.cutOk x1 0 16) (bnd (F.cut x1 0 16) fun m => obind (glazierlaw13_straight fl x0) fun p => obind (glazierlaw13_straight fl m) fun q => stail fl h p q x2)) (
        obind (glazierlaw13_straight fl x0) fun p => obind (glazierlaw13_straight fl x1) fun q => stail fl h p q x2)) := rfl

theorem cut16 {l : List Ins} (h : 16 < (l.length : Int)) : F.cutOk l 0 16 = true := by
  unfold F.cutOk; rw [decide_eq_true (by decide), decide_eq_true (by decide), decide_eq_true (by omega)]; rfl

theorem both_spec {l m : List Ins} (hl : progs l) (hm : progs m) (l16 : l.length ≤ 16) (m16 : m.length ≤ 16) (r : R8) : (obind (glazierlaw13_straight 400 l) fun p => obind (glazierlaw13_straight 400 m) fun q => stail 400 true p q r) = some true := by
  obtain ⟨p, e, h1, h2, h3⟩ := straight_spec (fl := 400) (by decide) hl l16
  obtain ⟨q, e', k1, k2, k3⟩ := straight_spec (fl := 400) (by decide) hm m16
  rw [e, ob_some, e', ob_some]
  exact stail_spec (by decide) h3 k3 h1 h2 k1 k2 r

theorem law0 {x0 x1 : List Ins} (h0 : progs x0) (h1 : progs x1) (x2 : R8) : ∃ fl, glazierlaw13_VmStays fl x0 x1 x2 = some true := by
  refine ⟨400, ?_⟩
  rw [stays_eq, shown13, ob_some]
  simp only [bnd_eq]
  rw [lenK, lenK]
  have t1 : ∀ l : List Ins, (F.cut l 0 16).length ≤ 16 := fun l => by show (l.take 16).length ≤ 16; rw [List.length_take]; omega
  have t2 : ∀ {l : List Ins}, progs l → progs (F.cut l 0 16) := fun h => progs_take h 16
  by_cases c0 : 16 < (x0.length : Int)
  · rw [gt_t c0, bite_t, cut16 c0, bgd_t]
    by_cases c1 : 16 < (x1.length : Int)
    · rw [gt_t c1, bite_t, cut16 c1, bgd_t]
      exact both_spec (t2 h0) (t2 h1) (t1 _) (t1 _) x2
    · rw [gt_f (by omega), bite_f]
      exact both_spec (t2 h0) h1 (t1 _) (by omega) x2
  · rw [gt_f (by omega), bite_f]
    by_cases c1 : 16 < (x1.length : Int)
    · rw [gt_t c1, bite_t, cut16 c1, bgd_t]
      exact both_spec h0 (t2 h1) (by omega) (t1 _) x2
    · rw [gt_f (by omega), bite_f]
      exact both_spec h0 h1 (by omega) (by omega) x2

end Go.Proofs.Ytaegoofefcidnaa.G
namespace Go.Proofs.Ytaegoofefcidnaa.vmStays
open Go Go.RowKit Go.Proofs.Ytaegoofefcidnaa.M Go.Proofs.Ytaegoofefcidnaa.G
theorem law (x0 x1 : (Ty.list (.pair (.int .u8) (.pair (.int .u8) (.pair (.int .u8) (.pair (.int .u8) (.int .i64)))))).T) (x2 : (Ty.pair (.int .i64) (.pair (.int .i64) (.pair (.int .i64) (.pair (.int .i64) (.pair (.int .i64) (.pair (.int .i64) (.pair (.int .i64) (.int .i64)))))))).T) (h0 : okT (.list (.pair (.int .u8) (.pair (.int .u8) (.pair (.int .u8) (.pair (.int .u8) (.int .i64)))))) x0) (h1 : okT (.list (.pair (.int .u8) (.pair (.int .u8) (.pair (.int .u8) (.pair (.int .u8) (.int .i64)))))) x1) (h2 : okT (.pair (.int .i64) (.pair (.int .i64) (.pair (.int .i64) (.pair (.int .i64) (.pair (.int .i64) (.pair (.int .i64) (.pair (.int .i64) (.int .i64)))))))) x2) : ∃ fl, glazierlaw13_VmStays fl x0 x1 x2 = some true :=
  law0 (progs_in h0) (progs_in h1) x2
end Go.Proofs.Ytaegoofefcidnaa.vmStays
