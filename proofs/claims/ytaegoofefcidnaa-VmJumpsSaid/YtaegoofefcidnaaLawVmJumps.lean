/- VmJumps holds. -/
import Derived.Test.YtaegoofefcidnaaLawVmOne
import Derived.KernelRfl
set_option linter.unusedVariables false
namespace Go.Proofs.Ytaegoofefcidnaa.vmJumps
open Go Go.RowKit Go.Proofs.Ytaegoofefcidnaa.M Go.Proofs.Ytaegoofefcidnaa.G Go.Proofs

def inc : Ins := (2, (0, (0, (1, 0))))
def prg (k : Int) : List Ins := [(12, (0, (5, (0, k)))), inc, inc, inc, inc, inc, inc, inc, inc, inc, inc, inc, inc, inc, inc, inc, inc, inc, inc, inc, inc]

def jumps (fl : Nat) (x0 v4 v25 : Int) (q2 : Bool) : Option Bool :=
  obind (vm_Run fl (prg v4) (0, (0, [])) (100, (1, (0, (0, (0, (v25, (0, 0)))))))) fun q26 =>
  bnd (F.ne x0 0) fun v27 =>
  bite v27 (
    bnd (F.sub .i64 20 v4) fun v28 =>
    bite q2 (
      bnd (F.eq q26.2.2 0) fun v29 =>
      bite v29 (
        bnd (F.add .i64 1 v28) fun v30 =>
        bnd (F.eq q26.2.1 v30) fun v31 =>
        bite v31 (
          bnd (F.add .i64 100 v28) fun v32 =>
          bnd (F.eq q26.1.1 v32) fun v33 =>
          bite v33 (
            bnd (F.conv .i64 x0) fun v34 =>
            bnd (F.eq q26.1.2.2.2.2.2.1 v34) fun v35 =>
            some v35) (
            some false)) (
          some false)) (
        some false)) (
      some false)) (
    bite q2 (
      bnd (F.eq q26.2.2 0) fun v36 =>
      bite v36 (
        bnd (F.eq q26.2.1 21) fun v37 =>
        bite v37 (
          bnd (F.eq q26.1.1 120) fun v38 =>
          bite v38 (
            bnd (F.conv .i64 x0) fun v39 =>
            bnd (F.eq q26.1.2.2.2.2.2.1 v39) fun v40 =>
            some v40) (
            some false)) (
          some false)) (
        some false)) (
      some false))

theorem jumps_eq (fl : Nat) (x0 x1 : Int) : glazierlaw13_VmJumps fl x0 x1 = obind (glazierlaw13_shown fl) fun q2 => jumps fl x0 (F.rem (F.conv .i64 x1) 21) (F.conv .i64 x0) q2 := by
  kernel_rfl

theorem prg_get {k : Int} {i : Nat} (h0 : 1 ≤ i) (h : i < (prg k).length) : (prg k)[i] = inc := by
  have h' : i < 21 := h
  obtain ⟨j, rfl⟩ : ∃ j, i = j + 1 := ⟨i - 1, by omega⟩
  show ((12, (0, (5, (0, k)))) :: List.replicate 20 inc)[j + 1]'(by simp; omega) = inc
  rw [List.getElem_cons_succ, List.getElem_replicate]

theorem prg_ok {k : Int} (hk : 0 ≤ k ∧ k ≤ 20) : progs (prg k) ∧ prog (prg k) := by
  have hi : insB inc := by unfold insB byte inc; decide
  have hj : insB (12, (0, (5, (0, k)))) := by unfold insB byte; simp only; omega
  refine ⟨fun x hx => ?_, by show 1 ≤ 21; decide, by show 21 ≤ 32; decide, fun j h => ?_⟩
  · rcases List.mem_cons.1 hx with rfl | hx
    · exact hj
    · have : x = inc := by
        have := List.eq_of_mem_replicate (show x ∈ List.replicate 20 inc from hx)
        exact this
      rw [this]; exact hi
  · by_cases h0 : j = 0
    · subst h0
      show iok (12, (0, (5, (0, k)))) 0 21
      unfold iok three
      simp only [true_and, and_true]
      omega
    · rw [prg_get (by omega) h]
      have : (j : Int) < 21 := by have h' : j < 21 := h; omega
      unfold iok three inc
      simp only [true_and, and_true]
      omega

theorem n1 : r32 1 := by unfold r32; decide
theorem n0 : r32 0 := by unfold r32; decide
theorem nopx : pxs (0, (0, [])) := fun c hc => by simp at hc

theorem incs {fl : Nat} (hfl : 200 ≤ fl) {k : Int} (hk : 0 ≤ k ∧ k ≤ 20) {n : Int} (hn : r32 n) : ∀ (m f i : Nat) (s v : Int), 1 ≤ i → i + m = 21 → m + 1 ≤ f → (0 ≤ s ∧ s ≤ i) → (0 ≤ v ∧ v ≤ 100 + i) →
    vmL fl f (prg k) s i (0, (0, [])) (v, (1, (0, (0, (0, (n, (0, 0))))))) = lout (s + m) (v + m, (1, (0, (0, (0, (n, (0, 0)))))))
  | 0, f, i, s, v, h1, hi, hf, hs, hv => by
    obtain ⟨f, rfl⟩ : ∃ m, f = m + 1 := ⟨f - 1, by omega⟩
    rw [vm_end (by show ((21 : Nat) : Int) ≤ (i : Int); omega)]
    simp
  | m + 1, f, i, s, v, h1, hi, hf, hs, hv => by
    obtain ⟨f, rfl⟩ : ∃ m, f = m + 1 := ⟨f - 1, by omega⟩
    obtain ⟨hp, hl⟩ := prg_ok hk
    have hlen : i < (prg k).length := by show i < 21; omega
    have hx := hp _ (List.getElem_mem hlen)
    have hr : regs32 (v, (1, (0, (0, (0, (n, (0, 0))))))) := ⟨by unfold r32; simp only; omega, n1, n0, n0, n0, hn, n0, n0⟩
    rw [vm_step hfl hlen (by show 21 ≤ 100; decide) hx (hl.2.2 i hlen) nopx hr (by omega), prg_get h1 hlen]
    have e : stp (0, (0, [])) inc i (v, (1, (0, (0, (0, (n, (0, 0))))))) = ((i : Int) + 1, (W (v + 1), (1, (0, (0, (0, (n, (0, 0)))))))) := rfl
    rw [e, W_id (by unfold r32; omega)]
    have ih := incs hfl hk hn m f (i + 1) (s + 1) (v + 1) (by omega) (by omega) (by omega) (by omega) (by omega)
    rw [show (((i + 1 : Nat)) : Int) = (i : Int) + 1 from rfl] at ih
    rw [ih]
    congr 1
    · omega
    · rw [show v + 1 + (m : Int) = v + ((m + 1 : Nat) : Int) by omega]

theorem jrun {k n : Int} (hk : 0 ≤ k ∧ k ≤ 20) (hn : r32 n) : ∃ d : Int, d = (if n = 0 then 20 else 20 - k) ∧ vm_Run 400 (prg k) (0, (0, [])) (100, (1, (0, (0, (0, (n, (0, 0))))))) = some ((100 + d, (1, (0, (0, (0, (n, (0, 0))))))), (1 + d, 0)) := by
  obtain ⟨hp, hl⟩ := prg_ok hk
  have hlen : 0 < (prg k).length := by show 0 < 21; decide
  have no : ¬ asks (prg k) := fun ⟨x, hx, h⟩ => by
    rcases List.mem_cons.1 hx with rfl | hx
    · simp only at h; omega
    · have : x = inc := List.eq_of_mem_replicate (show x ∈ List.replicate 20 inc from hx)
      rw [this] at h; unfold inc at h; simp only at h; omega
  have w : W8 (100, (1, (0, (0, (0, (n, (0, 0))))))) = (100, (1, (0, (0, (0, (n, (0, 0))))))) := by
    show (W 100, (W 1, (W 0, (W 0, (W 0, (W n, (W 0, W 0))))))) = _
    rw [W_id hn]; rfl
  have hr : regs32 (100, (1, (0, (0, (0, (n, (0, 0))))))) := w ▸ W8_32 _
  refine ⟨_, rfl, vm_run (by omega) hp hl _ (fun k => absurd k no) _ ?_⟩
  rw [w]
  have step := vm_step (fl := 400) (n := 399) (l := prg k) (s := 0) (t := (0, (0, []))) (by omega) hlen (by show 21 ≤ 100; decide) (hp _ (List.getElem_mem hlen)) (hl.2.2 0 hlen) nopx hr (by decide)
  rw [show (((0 : Nat)) : Int) = 0 from rfl] at step
  rw [step]
  have e : stp (0, (0, [])) (prg k)[0] 0 (100, (1, (0, (0, (0, (n, (0, 0))))))) = (if n = 0 then 0 + 1 else 0 + 1 + k, (100, (1, (0, (0, (0, (n, (0, 0)))))))) := rfl
  rw [e]
  by_cases h : n = 0
  · simp only [if_pos h]
    have := incs (fl := 400) (by omega) hk hn 20 399 1 (0 + 1) 100 (by omega) (by omega) (by omega) (by omega) (by omega)
    exact this
  · simp only [if_neg h]
    have := incs (fl := 400) (by omega) hk hn (20 - k).toNat 399 (1 + k).toNat (0 + 1) 100 (by omega) (by omega) (by omega) (by omega) (by omega)
    rw [show (((1 + k).toNat : Nat) : Int) = 0 + 1 + k by omega, show (((20 - k).toNat : Nat) : Int) = 20 - k by omega] at this
    exact this

theorem law0 (x0 x1 : Int) (h0 : r32 x0) (h1 : byte x1) : ∃ fl, glazierlaw13_VmJumps fl x0 x1 = some true := by
  refine ⟨400, ?_⟩
  have hn := h0
  have hn' := hn
  unfold r32 at hn'
  have hb := h1
  unfold byte at hb
  rw [jumps_eq, shown13, ob_some, convI (a := x0) (by omega), convI (a := x1) (by omega), remB hb.1]
  have hk : 0 ≤ x1 % 21 ∧ x1 % 21 ≤ 20 := by omega
  generalize x1 % 21 = k at hk
  obtain ⟨d, hd, e⟩ := jrun hk hn
  unfold jumps
  rw [e, ob_some]
  simp only [bnd_eq]
  by_cases h : x0 = 0
  · rw [if_pos h] at hd
    subst hd
    rw [ne_f h, bite_f, bite_t, eq_t rfl, bite_t, eq_t (by decide), bite_t, eq_t (by decide), bite_t, convI (by omega), eq_t rfl]
  · rw [if_neg h] at hd
    rw [ne_t h, bite_t, subI (by omega), bite_t, eq_t rfl, bite_t, addI (by omega), eq_t (by omega), bite_t, addI (by omega), eq_t (by omega), bite_t, convI (by omega), eq_t rfl]
theorem law (x0 : (Ty.int .i32).T) (x1 : (Ty.int .u8).T) (h0 : okT (.int .i32) x0) (h1 : okT (.int .u8) x1) : ∃ fl, glazierlaw13_VmJumps fl x0 x1 = some true :=
  law0 x0 x1 (inR_i32.1 h0) (inR_u8.1 h1)
end Go.Proofs.Ytaegoofefcidnaa.vmJumps
