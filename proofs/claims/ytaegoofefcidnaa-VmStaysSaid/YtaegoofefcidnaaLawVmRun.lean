/- The machine of registers: runs. -/
import Derived.Test.YtaegoofefcidnaaLawVm
set_option linter.unusedVariables false
namespace Go.Proofs.Ytaegoofefcidnaa.G
open Go Go.RowKit Go.Proofs.Ytaegoofefcidnaa.M

abbrev R8 := Int × Int × Int × Int × Int × Int × Int × Int

def put (r : R8) (d v : Int) : R8 := (F.pick d 0 v r.1, (F.pick d 1 v r.2.1, (F.pick d 2 v r.2.2.1, (F.pick d 3 v r.2.2.2.1, (F.pick d 4 v r.2.2.2.2.1, (F.pick d 5 v r.2.2.2.2.2.1, (F.pick d 6 v r.2.2.2.2.2.2.1, F.pick d 7 v r.2.2.2.2.2.2.2)))))))
def put4 (r : R8) (d : Int) (c : Pix) : R8 := put (put (put (put r d c.1) (d + 1) c.2.1) (d + 2) c.2.2.1) (d + 3) c.2.2.2
def reg (r : R8) (i : Int) : Int := ([r.1, r.2.1, r.2.2.1, r.2.2.2.1, r.2.2.2.2.1, r.2.2.2.2.2.1, r.2.2.2.2.2.2.1, r.2.2.2.2.2.2.2] : List Int).getD i.toNat 0
def regs32 (r : R8) : Prop := r32 r.1 ∧ r32 r.2.1 ∧ r32 r.2.2.1 ∧ r32 r.2.2.2.1 ∧ r32 r.2.2.2.2.1 ∧ r32 r.2.2.2.2.2.1 ∧ r32 r.2.2.2.2.2.2.1 ∧ r32 r.2.2.2.2.2.2.2
def W8 (r : R8) : R8 := (W r.1, (W r.2.1, (W r.2.2.1, (W r.2.2.2.1, (W r.2.2.2.2.1, (W r.2.2.2.2.2.1, (W r.2.2.2.2.2.2.1, W r.2.2.2.2.2.2.2)))))))

theorem W8_32 (r : R8) : regs32 (W8 r) := ⟨W_32 _, W_32 _, W_32 _, W_32 _, W_32 _, W_32 _, W_32 _, W_32 _⟩

theorem reg_in {i : Int} (h0 : 0 ≤ i) (h : i ≤ 7) : i = 0 ∨ i = 1 ∨ i = 2 ∨ i = 3 ∨ i = 4 ∨ i = 5 ∨ i = 6 ∨ i = 7 := by omega

theorem get_reg {r : R8} {i : Int} (h0 : 0 ≤ i) (h : i ≤ 7) : F.get [r.1, r.2.1, r.2.2.1, r.2.2.2.1, r.2.2.2.2.1, r.2.2.2.2.2.1, r.2.2.2.2.2.2.1, r.2.2.2.2.2.2.2] i = some (reg r i) := by
  rcases reg_in h0 h with rfl | rfl | rfl | rfl | rfl | rfl | rfl | rfl <;> rfl

theorem reg_32 {r : R8} (hr : regs32 r) {i : Int} (h0 : 0 ≤ i) (h : i ≤ 7) : r32 (reg r i) := by
  obtain ⟨a, b, c, d, e, f, g, k⟩ := hr
  rcases reg_in h0 h with rfl | rfl | rfl | rfl | rfl | rfl | rfl | rfl <;> assumption

theorem pick_32 {d : Int} {k : Nat} {v o : Int} (hv : r32 v) (ho : r32 o) : r32 (F.pick d k v o) := by
  unfold F.pick; split <;> assumption

theorem put_32 {r : R8} (hr : regs32 r) {d v : Int} (hv : r32 v) : regs32 (put r d v) := by
  obtain ⟨a, b, c, e, f, g, h, k⟩ := hr
  exact ⟨pick_32 hv a, pick_32 hv b, pick_32 hv c, pick_32 hv e, pick_32 hv f, pick_32 hv g, pick_32 hv h, pick_32 hv k⟩

theorem byte_32 {x : Int} (h : byte x) : r32 x := by unfold byte at h; unfold r32; omega

theorem put4_32 {r : R8} (hr : regs32 r) {d : Int} {c : Pix} (hc : pix c) : regs32 (put4 r d c) :=
  put_32 (put_32 (put_32 (put_32 hr (byte_32 hc.1)) (byte_32 hc.2.1)) (byte_32 hc.2.2.1)) (byte_32 hc.2.2.2)

theorem within8 {d : Int} (h0 : 0 ≤ d) (h : d ≤ 7) : F.within d 8 = true := by
  unfold F.within; rw [decide_eq_true h0, decide_eq_true (by omega)]; rfl

/-- One step. -/
def stp (t : Tx) (x : Ins) (pc : Int) (r : R8) : Int × R8 :=
  if x.1 = 12 then (if reg r x.2.2.1 = 0 then pc + 1 else pc + 1 + x.2.2.2.2, r)
  else if x.1 = 13 then (pc + 1, put4 r x.2.1 (tnear t (reg r x.2.2.1) (reg r x.2.2.2.1)))
  else if x.1 = 14 then (pc + 1, put4 r x.2.1 (tsm t (reg r x.2.2.1) (reg r x.2.2.2.1)))
  else (pc + 1, put r x.2.1 (vval x (reg r x.2.2.1) (reg r x.2.2.2.1)))

noncomputable def vmL (fl n : Nat) (l : List Ins) (s pc : Int) (t : Tx) (r : R8) := vm_Run_l2 fl n l s pc t.1 t.2.1 t.2.2 r.1 r.2.1 r.2.2.1 r.2.2.2.1 r.2.2.2.2.1 r.2.2.2.2.2.1 r.2.2.2.2.2.2.1 r.2.2.2.2.2.2.2
noncomputable def refL (fl n : Nat) (l : List Ins) (s pc : Int) (t : Tx) (r : R8) := glazierref13_Run_l1 fl n l s pc t.1 t.2.1 t.2.2 r.1 r.2.1 r.2.2.1 r.2.2.2.1 r.2.2.2.2.1 r.2.2.2.2.2.1 r.2.2.2.2.2.2.1 r.2.2.2.2.2.2.2

theorem put1_spec {fl : Nat} (hfl : 3 ≤ fl) {d v : Int} (h0 : 0 ≤ d) (h : d ≤ 7) (l : List Ins) (s pc d' : Int) (w hh : Int) (px : List Pix) (r : R8) :
    vm_Run_i26_l3 fl fl d [v] 1 0 l s pc d' w hh px r.1 r.2.1 r.2.2.1 r.2.2.2.1 r.2.2.2.2.1 r.2.2.2.2.2.1 r.2.2.2.2.2.2.1 r.2.2.2.2.2.2.2 =
    some (l, (s, (pc, (d', (w, (hh, (px, ((put r d (W v)).1, ((put r d (W v)).2.1, ((put r d (W v)).2.2.1, ((put r d (W v)).2.2.2.1, ((put r d (W v)).2.2.2.2.1, ((put r d (W v)).2.2.2.2.2.1, ((put r d (W v)).2.2.2.2.2.2.1, ((put r d (W v)).2.2.2.2.2.2.2, ()))))))))))))))) := by
  obtain ⟨n, rfl⟩ : ∃ n, fl = n + 3 := ⟨fl - 3, by omega⟩
  rw [vm_Run_i26_l3]
  simp only [bnd_eq]
  rw [lt_t (by decide), bite_t, show F.get [v] 0 = some v from rfl, ob_some, vwrap, ob_some, convI (by omega), addI (a := d) (by omega), Int.add_zero, within8 h0 h, bgd_t, show F.add .i64 0 1 = 1 from rfl]
  rw [vm_Run_i26_l3]
  simp only [bnd_eq]
  rw [lt_f (by decide), bite_f]
  rfl

noncomputable def pl1 (fl n : Nat) (d : Int) (xs : List Int) (k : Int)  (l : List Ins) (s pc d' : Int) (w hh : Int) (px : List Pix) (r : R8) := vm_Run_i26_l1 fl n d xs 4 k l s pc d' w hh px r.1 r.2.1 r.2.2.1 r.2.2.2.1 r.2.2.2.2.1 r.2.2.2.2.2.1 r.2.2.2.2.2.2.1 r.2.2.2.2.2.2.2
def pout1  (l : List Ins) (s pc d' : Int) (w hh : Int) (px : List Pix) (r : R8) : Option ((List (Int × Int × Int × Int × Int)) × Int × Int × Int × Int × Int × (List (Int × Int × Int × Int)) × Int × Int × Int × Int × Int × Int × Int × Int × Unit) :=
  some (l, (s, (pc, (d', (w, (hh, (px, (r.1, (r.2.1, (r.2.2.1, (r.2.2.2.1, (r.2.2.2.2.1, (r.2.2.2.2.2.1, (r.2.2.2.2.2.2.1, (r.2.2.2.2.2.2.2, ())))))))))))))))
theorem pl1_step {fl n : Nat} {d k v : Int} {xs : List Int} (h0 : 0 ≤ d) (h : d ≤ 4) (k0 : 0 ≤ k) (k4 : k < 4) (e : F.get xs k = some v)  (l : List Ins) (s pc d' : Int) (w hh : Int) (px : List Pix) (r : R8) :
    pl1 fl (n + 1) d xs k l s pc d' w hh px r = pl1 fl n d xs (k + 1) l s pc d' w hh px (put r (d + k) (W v)) := by
  unfold pl1
  rw [vm_Run_i26_l1]
  simp only [bnd_eq]
  rw [lt_t k4, bite_t, e, ob_some, vwrap, ob_some, convI (by omega), addI (a := d) (by omega), within8 (d := d + k) (by omega) (by omega), bgd_t, addI (a := k) (by omega)]
  rfl
theorem pl1_end {fl n : Nat} {d : Int} {xs : List Int}  (l : List Ins) (s pc d' : Int) (w hh : Int) (px : List Pix) (r : R8) :
    pl1 fl (n + 1) d xs 4 l s pc d' w hh px r = pout1 l s pc d' w hh px r := by
  unfold pl1 pout1
  rw [vm_Run_i26_l1]
  simp only [bnd_eq]
  rw [lt_f (by decide), bite_f]
theorem put4_spec1 {fl : Nat} (hfl : 6 ≤ fl) {d : Int} (h0 : 0 ≤ d) (h : d ≤ 4) (a b c e : Int)  (l : List Ins) (s pc d' : Int) (w hh : Int) (px : List Pix) (r : R8) :
    vm_Run_i26_l1 fl fl d [a, b, c, e] 4 0 l s pc d' w hh px r.1 r.2.1 r.2.2.1 r.2.2.2.1 r.2.2.2.2.1 r.2.2.2.2.2.1 r.2.2.2.2.2.2.1 r.2.2.2.2.2.2.2 = pout1 l s pc d' w hh px (put4 r d (W a, (W b, (W c, W e)))) := by
  obtain ⟨n, rfl⟩ : ∃ n, fl = n + 6 := ⟨fl - 6, by omega⟩
  show pl1 (n + 6) (n + 5 + 1) d [a, b, c, e] 0 l s pc d' w hh px r = _
  rw [pl1_step h0 h (by decide) (by decide) (v := a) rfl, show (0 : Int) + 1 = 1 from rfl, pl1_step h0 h (by decide) (by decide) (v := b) rfl, show (1 : Int) + 1 = 2 from rfl,
    pl1_step h0 h (by decide) (by decide) (v := c) rfl, show (2 : Int) + 1 = 3 from rfl, pl1_step h0 h (by decide) (by decide) (v := e) rfl, show (3 : Int) + 1 = 4 from rfl, pl1_end, Int.add_zero]
  rfl

noncomputable def pl2 (fl n : Nat) (d : Int) (xs : List Int) (k : Int)  (l : List Ins) (s pc d' : Int) (w hh : Int) (px : List Pix) (r : R8) := vm_Run_i26_l2 fl n d xs 4 k l s pc d' w hh px r.1 r.2.1 r.2.2.1 r.2.2.2.1 r.2.2.2.2.1 r.2.2.2.2.2.1 r.2.2.2.2.2.2.1 r.2.2.2.2.2.2.2
def pout2  (l : List Ins) (s pc d' : Int) (w hh : Int) (px : List Pix) (r : R8) : Option ((List (Int × Int × Int × Int × Int)) × Int × Int × Int × Int × Int × (List (Int × Int × Int × Int)) × Int × Int × Int × Int × Int × Int × Int × Int × Unit) :=
  some (l, (s, (pc, (d', (w, (hh, (px, (r.1, (r.2.1, (r.2.2.1, (r.2.2.2.1, (r.2.2.2.2.1, (r.2.2.2.2.2.1, (r.2.2.2.2.2.2.1, (r.2.2.2.2.2.2.2, ())))))))))))))))
theorem pl2_step {fl n : Nat} {d k v : Int} {xs : List Int} (h0 : 0 ≤ d) (h : d ≤ 4) (k0 : 0 ≤ k) (k4 : k < 4) (e : F.get xs k = some v)  (l : List Ins) (s pc d' : Int) (w hh : Int) (px : List Pix) (r : R8) :
    pl2 fl (n + 1) d xs k l s pc d' w hh px r = pl2 fl n d xs (k + 1) l s pc d' w hh px (put r (d + k) (W v)) := by
  unfold pl2
  rw [vm_Run_i26_l2]
  simp only [bnd_eq]
  rw [lt_t k4, bite_t, e, ob_some, vwrap, ob_some, convI (by omega), addI (a := d) (by omega), within8 (d := d + k) (by omega) (by omega), bgd_t, addI (a := k) (by omega)]
  rfl
theorem pl2_end {fl n : Nat} {d : Int} {xs : List Int}  (l : List Ins) (s pc d' : Int) (w hh : Int) (px : List Pix) (r : R8) :
    pl2 fl (n + 1) d xs 4 l s pc d' w hh px r = pout2 l s pc d' w hh px r := by
  unfold pl2 pout2
  rw [vm_Run_i26_l2]
  simp only [bnd_eq]
  rw [lt_f (by decide), bite_f]
theorem put4_spec2 {fl : Nat} (hfl : 6 ≤ fl) {d : Int} (h0 : 0 ≤ d) (h : d ≤ 4) (a b c e : Int)  (l : List Ins) (s pc d' : Int) (w hh : Int) (px : List Pix) (r : R8) :
    vm_Run_i26_l2 fl fl d [a, b, c, e] 4 0 l s pc d' w hh px r.1 r.2.1 r.2.2.1 r.2.2.2.1 r.2.2.2.2.1 r.2.2.2.2.2.1 r.2.2.2.2.2.2.1 r.2.2.2.2.2.2.2 = pout2 l s pc d' w hh px (put4 r d (W a, (W b, (W c, W e)))) := by
  obtain ⟨n, rfl⟩ : ∃ n, fl = n + 6 := ⟨fl - 6, by omega⟩
  show pl2 (n + 6) (n + 5 + 1) d [a, b, c, e] 0 l s pc d' w hh px r = _
  rw [pl2_step h0 h (by decide) (by decide) (v := a) rfl, show (0 : Int) + 1 = 1 from rfl, pl2_step h0 h (by decide) (by decide) (v := b) rfl, show (1 : Int) + 1 = 2 from rfl,
    pl2_step h0 h (by decide) (by decide) (v := c) rfl, show (2 : Int) + 1 = 3 from rfl, pl2_step h0 h (by decide) (by decide) (v := e) rfl, show (3 : Int) + 1 = 4 from rfl, pl2_end, Int.add_zero]
  rfl

theorem mid32 {u : Int} (h : r32 u) : mid u := by unfold r32 at h; unfold mid; omega

theorem near_pix {t : Tx} (ht : pxs t) (u v : Int) : pix (tnear t u v) := tat_pix ht _ _
theorem sm_pix {t : Tx} (ht : pxs t) (u v : Int) : pix (tsm t u v) :=
  mixC_pix (mixC_pix (tat_pix ht _ _) (tat_pix ht _ _) (frac_in _)) (mixC_pix (tat_pix ht _ _) (tat_pix ht _ _) (frac_in _)) (frac_in _)

theorem W_pix {c : Pix} (hc : pix c) : (W c.1, (W c.2.1, (W c.2.2.1, W c.2.2.2))) = c := by
  rw [W_id (byte_32 hc.1), W_id (byte_32 hc.2.1), W_id (byte_32 hc.2.2.1), W_id (byte_32 hc.2.2.2)]

theorem convB {x : Int} (h : byte x) : F.conv .i64 x = x := by unfold byte at h; exact convI (by omega)

theorem plain_of {x : Ins} {i n : Int} (hb : insB x) (h : iok x i n) (h12 : x.1 ≠ 12) (h13 : x.1 ≠ 13) (h14 : x.1 ≠ 14) : plain x := by
  have hb1 := hb.1
  unfold iok three at h
  unfold byte at hb1
  unfold plain r32
  omega

theorem four_of {x : Ins} {i n : Int} (h : iok x i n) (h13 : x.1 = 13 ∨ x.1 = 14) : x.2.1 ≤ 4 := by
  unfold iok three at h
  omega

section
variable {fl n : Nat} (hfl : 200 ≤ fl) {l : List Ins} {t : Tx} {i : Nat} (h : i < l.length) (hl : l.length ≤ 100) (hx : insB l[i]) (hk : iok l[i] i l.length) (ht : pxs t) {r : R8} (hr : regs32 r) {s : Int} (hs : 0 ≤ s ∧ s ≤ 1000)
include hfl hl hx hk ht hr hs

theorem vm_step : vmL fl (n + 1) l s i t r = vmL fl n l (s + 1) (stp t l[i] i r).1 t (stp t l[i] i r).2 := by
  unfold vmL
  rw [vm_Run_l2]
  simp only [bnd_eq]
  rw [lenK, lt_t (by omega), bite_t, lgetK h, ob_some]
  have hp := plain_of hx hk
  have h4 := four_of hk
  have hN : l[i].1 = 12 → 0 ≤ l[i].2.2.2.2 ∧ l[i].2.2.2.2 ≤ l.length - i - 1 := fun e => by
    have := hk.2; unfold three at this; omega
  have hn : l[i].2.1 ≤ 7 ∧ l[i].2.2.1 ≤ 7 ∧ l[i].2.2.2.1 ≤ 7 := hk.1
  obtain ⟨ho, hD, hA, hB, -⟩ := hx
  clear hk
  generalize l[i] = x at *
  unfold byte at ho hD hA hB
  have ra := reg_32 hr hA.1 hn.2.1
  have rb := reg_32 hr hB.1 hn.2.2
  rw [within8 hA.1 hn.2.1, bgd_t, get_reg hA.1 hn.2.1, ob_some, within8 hB.1 hn.2.2, bgd_t, get_reg hB.1 hn.2.2, ob_some, addI (a := (i : Int)) (by omega)]
  unfold stp
  by_cases e12 : x.1 = 12
  · rw [eq_t e12, bite_t, if_pos e12]
    have := hN e12
    by_cases e0 : reg r x.2.2.1 = 0
    · rw [ne_f e0, bite_f, if_pos e0, addI (a := s) (by omega)]
    · rw [ne_t e0, bite_t, if_neg e0, subI (a := (i : Int) + 1) (by omega)]
      unfold code_Target
      simp only [bnd_eq]
      rw [ne_f e12, bite_f, addI (a := (i : Int) + 1 - 1) (by omega), addI (a := (i : Int) + 1 - 1 + 1) (by omega), ob_some, addI (a := s) (by omega), Int.add_sub_cancel]
  rw [eq_f e12, bite_f, if_neg e12]
  by_cases e13 : x.1 = 13
  · have c4 := near_pix ht (reg r x.2.2.1) (reg r x.2.2.2.1)
    rw [eq_t e13, bite_t, if_pos e13, near_spec (by omega) (mid32 ra) (mid32 rb), ob_some, convB c4.1, convB c4.2.1, convB c4.2.2.1, convB c4.2.2.2,
      show ∀ a b c d : Int, F.len [a, b, c, d] = 4 from fun _ _ _ _ => rfl, put4_spec1 (by omega) hD.1 (h4 (.inl e13)), pout1, ob_some]
    simp only
    rw [addI (a := s) (by omega), W_pix c4]
  rw [eq_f e13, bite_f, if_neg e13]
  by_cases e14 : x.1 = 14
  · have c4 := sm_pix ht (reg r x.2.2.1) (reg r x.2.2.2.1)
    rw [eq_t e14, bite_t, if_pos e14, smooth_spec (by omega) ht (mid32 ra) (mid32 rb), ob_some, convB c4.1, convB c4.2.1, convB c4.2.2.1, convB c4.2.2.2,
      show ∀ a b c d : Int, F.len [a, b, c, d] = 4 from fun _ _ _ _ => rfl, put4_spec2 (by omega) hD.1 (h4 (.inr e14)), pout2, ob_some]
    simp only
    rw [addI (a := s) (by omega), W_pix c4]
  rw [eq_f e14, bite_f, if_neg e14]
  obtain ⟨v, ev, ew⟩ := vm_val (hp e12 e13 e14) ra rb
  rw [ev, ob_some, show F.len [v] = 1 from rfl, put1_spec (by omega) hD.1 hn.1, ob_some]
  simp only
  rw [addI (a := s) (by omega), ew]

theorem ref_step : refL fl (n + 1) l s i t r = refL fl n l (s + 1) (stp t l[i] i r).1 t (stp t l[i] i r).2 := by
  unfold refL
  rw [glazierref13_Run_l1]
  simp only [bnd_eq]
  rw [lenK, lt_t (by omega), bite_t, lgetK h, ob_some]
  have hp := plain_of hx hk
  have h4 := four_of hk
  have hN : l[i].1 = 12 → 0 ≤ l[i].2.2.2.2 ∧ l[i].2.2.2.2 ≤ l.length - i - 1 := fun e => by
    have := hk.2; unfold three at this; omega
  have hn : l[i].2.1 ≤ 7 ∧ l[i].2.2.1 ≤ 7 ∧ l[i].2.2.2.1 ≤ 7 := hk.1
  obtain ⟨ho, hD, hA, hB, -⟩ := hx
  clear hk
  generalize l[i] = x at *
  unfold byte at ho hD hA hB
  have ra := reg_32 hr hA.1 hn.2.1
  have rb := reg_32 hr hB.1 hn.2.2
  rw [within8 hA.1 hn.2.1, bgd_t, get_reg hA.1 hn.2.1, ob_some, within8 hB.1 hn.2.2, bgd_t, get_reg hB.1 hn.2.2, ob_some, addI (a := (i : Int)) (by omega), addI (a := s) (by omega)]
  unfold stp
  have u8 : ∀ k : Int, 0 ≤ k → k ≤ 3 → x.2.1 ≤ 4 → F.add .u8 x.2.1 k = x.2.1 + k := fun k k0 k3 hd => by
    unfold F.add
    simp only [IntKind.wrap, IntKind.bits, IntKind.signed]
    simp
    omega
  by_cases e12 : x.1 = 12
  · rw [eq_t e12, bite_t, if_pos e12]
    have := hN e12
    by_cases e0 : reg r x.2.2.1 = 0
    · rw [ne_f e0, bite_f, if_pos e0]
    · rw [ne_t e0, bite_t, if_neg e0]
      unfold glazierref12_Target
      simp only [bnd_eq]
      rw [eq_t e12, bite_t, addI (a := (i : Int)) (by omega), addI (a := (i : Int) + 1) (by omega), ob_some]
  rw [eq_f e12, bite_f, if_neg e12]
  by_cases e13 : x.1 = 13
  · have c4 := near_pix ht (reg r x.2.2.1) (reg r x.2.2.2.1)
    have d4 := h4 (.inl e13)
    rw [eq_t e13, bite_t, if_pos e13, bite_t, ref_near (by omega) (mid32 ra) (mid32 rb), ob_some, eq_f (show x.1 ≠ 14 by omega), bite_f, convB c4.1, convB c4.2.1, convB c4.2.2.1, convB c4.2.2.2,
      within8 hD.1 hn.1, bgd_t, u8 1 (by decide) (by decide) d4, within8 (d := x.2.1 + 1) (by omega) (by omega), bgd_t, u8 2 (by decide) (by decide) d4, within8 (d := x.2.1 + 2) (by omega) (by omega), bgd_t,
      u8 3 (by decide) (by decide) d4, within8 (d := x.2.1 + 3) (by omega) (by omega), bgd_t]
    rfl
  rw [eq_f e13, bite_f, if_neg e13]
  by_cases e14 : x.1 = 14
  · have c4 := sm_pix ht (reg r x.2.2.1) (reg r x.2.2.2.1)
    have d4 := h4 (.inr e14)
    rw [eq_t e14, bite_t, if_pos e14, ref_near (by omega) (mid32 ra) (mid32 rb), ob_some, bite_t, ref_smooth (by omega) ht (mid32 ra) (mid32 rb), ob_some, convB c4.1, convB c4.2.1, convB c4.2.2.1, convB c4.2.2.2,
      within8 hD.1 hn.1, bgd_t, u8 1 (by decide) (by decide) d4, within8 (d := x.2.1 + 1) (by omega) (by omega), bgd_t, u8 2 (by decide) (by decide) d4, within8 (d := x.2.1 + 2) (by omega) (by omega), bgd_t,
      u8 3 (by decide) (by decide) d4, within8 (d := x.2.1 + 3) (by omega) (by omega), bgd_t]
    rfl
  rw [eq_f e14, bite_f, if_neg e14, ref_val (by omega) (hp e12 e13 e14) ra rb, ob_some, within8 hD.1 hn.1, bgd_t]
  rfl
end

/-- What is left of a step. -/
theorem stp_in {t : Tx} (ht : pxs t) {x : Ins} {i n : Int} (hb : insB x) (hk : iok x i n) (hin : i < n) {r : R8} (hr : regs32 r) :
    (i + 1 ≤ (stp t x i r).1 ∧ (stp t x i r).1 ≤ n) ∧ regs32 (stp t x i r).2 := by
  have hp := plain_of hb hk
  have hN : x.1 = 12 → 0 ≤ x.2.2.2.2 ∧ x.2.2.2.2 ≤ n - i - 1 := fun e => by
    have := hk.2; unfold three at this; omega
  have hn : x.2.1 ≤ 7 ∧ x.2.2.1 ≤ 7 ∧ x.2.2.2.1 ≤ 7 := hk.1
  obtain ⟨ho, hD, hA, hB, -⟩ := hb
  unfold byte at ho hD hA hB
  unfold stp
  by_cases e12 : x.1 = 12
  · rw [if_pos e12]
    have := hN e12
    refine ⟨?_, hr⟩
    simp only
    split <;> omega
  rw [if_neg e12]
  by_cases e13 : x.1 = 13
  · rw [if_pos e13]; exact ⟨⟨by simp only; omega, by simp only; omega⟩, put4_32 hr (near_pix ht _ _)⟩
  rw [if_neg e13]
  by_cases e14 : x.1 = 14
  · rw [if_pos e14]; exact ⟨⟨by simp only; omega, by simp only; omega⟩, put4_32 hr (sm_pix ht _ _)⟩
  rw [if_neg e14]
  exact ⟨⟨by simp only; omega, by simp only; omega⟩, put_32 hr (vval_32 (hp e12 e13 e14) (reg_32 hr hA.1 hn.2.1) (reg_32 hr hB.1 hn.2.2))⟩

def lout (s : Int) (r : R8) : Option (Int × Int × Int × Int × Int × Int × Int × Int × Int × Unit) := some (s, (r.1, (r.2.1, (r.2.2.1, (r.2.2.2.1, (r.2.2.2.2.1, (r.2.2.2.2.2.1, (r.2.2.2.2.2.2.1, (r.2.2.2.2.2.2.2, ())))))))))

theorem vm_end {fl n : Nat} {l : List Ins} {t : Tx} {s i : Int} {r : R8} (h : l.length ≤ i) : vmL fl (n + 1) l s i t r = lout s r := by
  unfold vmL
  rw [vm_Run_l2]
  simp only [bnd_eq]
  rw [lenK, lt_f h, bite_f]
  rfl

theorem ref_end {fl n : Nat} {l : List Ins} {t : Tx} {s i : Int} {r : R8} (h : l.length ≤ i) : refL fl (n + 1) l s i t r = lout s r := by
  unfold refL
  rw [glazierref13_Run_l1]
  simp only [bnd_eq]
  rw [lenK, lt_f h, bite_f]
  rfl

theorem run_both {fl : Nat} (hfl : 200 ≤ fl) {l : List Ins} (hp : progs l) (hl : prog l) {t : Tx} (ht : pxs t) : ∀ (k n i : Nat) (s : Int) (r : R8), l.length ≤ i + k → i ≤ l.length → k + 1 ≤ n → 0 ≤ s ∧ s ≤ i → regs32 r →
    ∃ s' r', vmL fl n l s i t r = lout s' r' ∧ refL fl n l s i t r = lout s' r' ∧ regs32 r' ∧ s' - s ≤ l.length - i ∧ s ≤ s' ∧ (i < l.length → s + 1 ≤ s')
  | 0, n, i, s, r, hk, hi, hn, hs, hr => by
    obtain ⟨n, rfl⟩ : ∃ m, n = m + 1 := ⟨n - 1, by omega⟩
    exact ⟨s, r, vm_end (by omega), ref_end (by omega), hr, by omega, by omega, fun h => by omega⟩
  | k + 1, n, i, s, r, hk, hi, hn, hs, hr => by
    obtain ⟨n, rfl⟩ : ∃ m, n = m + 1 := ⟨n - 1, by omega⟩
    by_cases h : i < l.length
    · have h32 := hl.2.1
      have hx := hp _ (List.getElem_mem h)
      have hk' := hl.2.2 i h
      rw [vm_step hfl h (by omega) hx hk' ht hr (by omega), ref_step hfl h (by omega) hx hk' ht hr (by omega)]
      obtain ⟨h1, h2⟩ := stp_in ht hx hk' (by omega) hr
      generalize stp t l[i] i r = z at *
      obtain ⟨p, q⟩ := z
      simp only at h1 h2 ⊢
      obtain ⟨j, rfl⟩ : ∃ j : Nat, p = j := ⟨p.toNat, by omega⟩
      obtain ⟨s', r', e1, e2, h3, h4, h5, h6⟩ := run_both hfl hp hl ht k n j (s + 1) q (by omega) (by omega) (by omega) (by omega) h2
      exact ⟨s', r', e1, e2, h3, by omega, by omega, fun _ => by omega⟩
    · exact ⟨s, r, vm_end (by omega), ref_end (by omega), hr, by omega, by omega, fun h' => by omega⟩

def z8 : R8 := (0, (0, (0, (0, (0, (0, (0, 0)))))))

/-- A program that runs: what vm.Run is by the loop. -/
theorem vm_run {fl : Nat} (hfl : 200 ≤ fl) {l : List Ins} (hp : progs l) (hl : prog l) (t : Tx) (ha : asks l → tok t) (r : R8) {s : Int} {r' : R8} (e : vmL fl fl l 0 0 t (W8 r) = lout s r') : vm_Run fl l t r = some (r', (s, 0)) := by
  unfold vm_Run vm_Run_j1
  rw [(check_spec (by omega) hp).1, ob_some, if_pos hl, bnd_eq, ne_f rfl, bite_f, (asks_spec (by omega) (by have := hl.2.1; omega)).1, ob_some]
  have fin : (obind (vmL fl fl l 0 0 t (W8 r)) fun q14 => some ((q14.2.1, (q14.2.2.1, (q14.2.2.2.1, (q14.2.2.2.2.1, (q14.2.2.2.2.2.1, (q14.2.2.2.2.2.2.1, (q14.2.2.2.2.2.2.2.1, q14.2.2.2.2.2.2.2.2.1))))))), (q14.1, (0 : Int)))) = some (r', (s, 0)) := by rw [e]; rfl
  by_cases h : asks l
  · rw [decide_eq_true h, bite_t, show ((t.1, (t.2.1, t.2.2)) : Tx) = t from rfl, right_spec (by omega), ob_some, decide_eq_true (ha h), bnd_eq, not_t, bite_f, ob_some]
    simp only [osum, vwrap, ob_some]
    exact fin
  · rw [decide_eq_false h, bite_f, ob_some]
    simp only [osum, vwrap, ob_some]
    exact fin

theorem ref_run {fl : Nat} (hfl : 200 ≤ fl) {l : List Ins} (hp : progs l) (hl : prog l) (t : Tx) (ha : asks l → tok t) {r : R8} (hr : i64 r.1 ∧ i64 r.2.1 ∧ i64 r.2.2.1 ∧ i64 r.2.2.2.1 ∧ i64 r.2.2.2.2.1 ∧ i64 r.2.2.2.2.2.1 ∧ i64 r.2.2.2.2.2.2.1 ∧ i64 r.2.2.2.2.2.2.2) {s : Int} {r' : R8} (e : refL fl fl l 0 0 t (W8 r) = lout s r') : glazierref13_Run fl l t r = some (r', (s, 0)) := by
  obtain ⟨k0, k1, k2, k3, k4, k5, k6, k7⟩ := hr
  unfold glazierref13_Run
  rw [(check_spec (by omega) hp).2, ob_some, if_pos hl, bnd_eq, ne_f rfl, bite_f, (asks_spec (by omega) (by have := hl.2.1; omega)).2, ob_some, ref_right, ob_some]
  have fin : (obind (refL fl fl l 0 0 t (W8 r)) fun q14 => some ((q14.2.1, (q14.2.2.1, (q14.2.2.2.1, (q14.2.2.2.2.1, (q14.2.2.2.2.2.1, (q14.2.2.2.2.2.2.1, (q14.2.2.2.2.2.2.2.1, q14.2.2.2.2.2.2.2.2.1))))))), (q14.1, (0 : Int)))) = some (r', (s, 0)) := by rw [e]; rfl
  by_cases h : asks l
  · rw [decide_eq_true h, bite_t, decide_eq_true (ha h), bnd_eq, not_t, bite_f, rwrap k0, rwrap k1, rwrap k2, rwrap k3, rwrap k4, rwrap k5, rwrap k6, rwrap k7]
    simp only [ob_some]
    exact fin
  · rw [decide_eq_false h, bite_f, rwrap k0, rwrap k1, rwrap k2, rwrap k3, rwrap k4, rwrap k5, rwrap k6, rwrap k7]
    simp only [ob_some]
    exact fin

/-- A program that does not run. -/
theorem run_code {fl : Nat} (hfl : 200 ≤ fl) {l : List Ins} (hp : progs l) (hl : ¬ prog l) (t : Tx) (r : R8) : vm_Run fl l t r = some (z8, (0, 23)) ∧ glazierref13_Run fl l t r = some (z8, (0, 23)) := by
  constructor
  · unfold vm_Run vm_Run_j1
    rw [(check_spec (by omega) hp).1, ob_some, if_neg hl, bnd_eq, ne_t (by decide), bite_t]
    rfl
  · unfold glazierref13_Run
    rw [(check_spec (by omega) hp).2, ob_some, if_neg hl, bnd_eq, ne_t (by decide), bite_t]
    rfl

theorem run_tex {fl : Nat} (hfl : 200 ≤ fl) {l : List Ins} (hp : progs l) (hl : prog l) (t : Tx) (ha : asks l) (hn : ¬ tok t) (r : R8) : vm_Run fl l t r = some (z8, (0, 22)) ∧ glazierref13_Run fl l t r = some (z8, (0, 22)) := by
  constructor
  · unfold vm_Run vm_Run_j1
    rw [(check_spec (by omega) hp).1, ob_some, if_pos hl, bnd_eq, ne_f rfl, bite_f, (asks_spec (by omega) (by have := hl.2.1; omega)).1, ob_some, decide_eq_true ha, bite_t,
      show ((t.1, (t.2.1, t.2.2)) : Tx) = t from rfl, right_spec (by omega), ob_some, decide_eq_false hn, bnd_eq, not_f, bite_t]
    rfl
  · unfold glazierref13_Run
    rw [(check_spec (by omega) hp).2, ob_some, if_pos hl, bnd_eq, ne_f rfl, bite_f, (asks_spec (by omega) (by have := hl.2.1; omega)).2, ob_some, ref_right, ob_some, decide_eq_true ha, bite_t,
      decide_eq_false hn, bnd_eq, not_f, bite_t]
    rfl

def in8 (r : R8) : Prop := i64 r.1 ∧ i64 r.2.1 ∧ i64 r.2.2.1 ∧ i64 r.2.2.2.1 ∧ i64 r.2.2.2.2.1 ∧ i64 r.2.2.2.2.2.1 ∧ i64 r.2.2.2.2.2.2.1 ∧ i64 r.2.2.2.2.2.2.2

theorem run_spec {fl : Nat} (hfl : 200 ≤ fl) {l : List Ins} (hp : progs l) {t : Tx} (ht : pxs t) {r : R8} (hr : in8 r) :
    ∃ o, vm_Run fl l t r = some o ∧ glazierref13_Run fl l t r = some o ∧ regs32 o.1 ∧ (prog l → (asks l → tok t) → o.2.2 = 0 ∧ 1 ≤ o.2.1 ∧ o.2.1 ≤ l.length) := by
  have z32 : regs32 z8 := by unfold regs32 z8 r32; decide
  by_cases hl : prog l
  · by_cases ha : asks l → tok t
    · obtain ⟨s, r', e1, e2, h1, h2, h3, h4⟩ := run_both hfl hp hl ht l.length fl 0 0 (W8 r) (by omega) (by omega) (by have := hl.2.1; omega) (by omega) (W8_32 r)
      have := h4 (by have := hl.1; omega)
      exact ⟨_, vm_run hfl hp hl t ha r e1, ref_run hfl hp hl t ha hr e2, h1, fun _ _ => ⟨rfl, by simp only; omega, by simp only; omega⟩⟩
    · have h1 : asks l := Classical.byContradiction fun k => ha fun k' => absurd k' k
      have h2 : ¬ tok t := fun k => ha fun _ => k
      exact ⟨_, (run_tex hfl hp hl t h1 h2 r).1, (run_tex hfl hp hl t h1 h2 r).2, z32, fun _ k => absurd k ha⟩
  · exact ⟨_, (run_code hfl hp hl t r).1, (run_code hfl hp hl t r).2, z32, fun k => absurd k hl⟩
end Go.Proofs.Ytaegoofefcidnaa.G
