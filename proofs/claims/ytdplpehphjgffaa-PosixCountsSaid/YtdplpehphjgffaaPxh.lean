/- The times of a series that went by, however time is cut, in plain numbers; and the walk of the statement PosixCounts. No condition. -/
import Derived.Test.YtdplpehphjgffaaPxi
set_option linter.unusedVariables false
set_option linter.unusedSimpArgs false
namespace Go.Proofs.Ytdplpehphjgffaa.Px
open Go.RowKit Go.Proofs.Ytdplpehphjgffaa.Aid Go.Proofs.Ytdplpehphjgffaa.Kt Go.Proofs.Ytdplpehphjgffaa.Sp Go.Proofs.Ytdplpehphjgffaa.Fw
/-- where a series stands: next is its first time that is later than now -/
structure QInv (v i now sum nx : Int) : Prop where
  hv : 1 ≤ v ∧ v ≤ 65536
  hi : 1 ≤ i ∧ i ≤ 500
  hn : 0 ≤ now ∧ now ≤ 6553500
  hlt : now < nx
  hle : (sum = 0 ∧ nx = v) ∨ nx ≤ now + i
  he : nx = v + sum * i
  hs : 0 ≤ sum
theorem QInv.nx {v i now sum nx : Int} (h : QInv v i now sum nx) : 1 ≤ nx ∧ nx ≤ 6600000 := by
  have := h.hv; have := h.hi; have := h.hn; have := h.hlt; have := h.hle; omega
theorem QInv.sum_le {v i now sum nx : Int} (h : QInv v i now sum nx) : sum ≤ 6600000 := by
  have h1 := h.nx
  have h2 := h.he
  have h3 := h.hi
  have h4 := h.hs
  have h5 := h.hv
  have : sum * 1 ≤ sum * i := Int.mul_le_mul_of_nonneg_left h3.1 h4
  omega
/-- how many come, when time goes on -/
def qk (i now nx : Int) : Int := if nx ≤ now then (now - nx) / i + 1 else 0
theorem QInv.step {v i now sum nx : Int} (h : QInv v i now sum nx) (s : Int) (hs : 0 ≤ s ∧ s ≤ 65535) (hb : now + s ≤ 6553500) : QInv v i (now + s) (sum + qk i (now + s) nx) (nx + qk i (now + s) nx * i) := by
  obtain ⟨h1, h2, h3, h4, h5, h6, h7⟩ := h
  unfold qk
  by_cases hc : nx ≤ now + s
  · rw [if_pos hc]
    have hd := div_sandwich (G := now + s - nx) (P := i) (by omega)
    have hq : 0 ≤ (now + s - nx) / i := Int.ediv_nonneg (by omega) (by omega)
    generalize (now + s - nx) / i = q at *
    have e1 : (q + 1) * i = q * i + i := by rw [Int.add_mul, Int.one_mul]
    have e2 : (sum + (q + 1)) * i = sum * i + (q * i + i) := by rw [Int.add_mul, e1]
    refine ⟨h1, h2, by omega, ?_, .inr ?_, ?_, by omega⟩
    · rw [e1]; generalize q * i = z at *; omega
    · rw [e1]; generalize q * i = z at *; omega
    · rw [e1, e2]; generalize q * i = z at *; omega
  · rw [if_neg hc]
    refine ⟨h1, h2, by omega, by omega, ?_, by rw [Int.zero_mul]; simpa using h6, by omega⟩
    rw [Int.zero_mul]; omega
theorem QInv.want {v i now sum nx : Int} (h : QInv v i now sum nx) : (if v ≤ now then (now - v) / i + 1 else 0) = sum := by
  obtain ⟨h1, h2, h3, h4, h5, h6, h7⟩ := h
  by_cases hc : v ≤ now
  · rw [if_pos hc]
    have h0 : sum ≠ 0 := by rintro rfl; rw [Int.zero_mul] at h6; omega
    have e : (sum - 1) * i = sum * i - i := by rw [Int.sub_mul, Int.one_mul]
    have hle : sum - 1 ≤ (now - v) / i := (Int.le_ediv_iff_mul_le (by omega)).2 (by rw [e]; generalize sum * i = z at *; omega)
    have hlt : (now - v) / i < sum := (Int.ediv_lt_iff_lt_mul (by omega)).2 (by generalize sum * i = z at *; omega)
    omega
  · rw [if_neg hc]
    rcases h5 with h5 | h5
    · exact h5.1.symm
    · by_cases hs : sum = 0
      · exact hs.symm
      · have : 1 * i ≤ sum * i := Int.mul_le_mul_of_nonneg_right (by omega) (by omega)
        rw [Int.one_mul] at this
        generalize sum * i = z at *
        omega
/-- the timer of PosixCounts -/
def ct (b : Nat) (nx i ov : Int) : Tm := ⟨b, 2, 9, true, nx, i, ov⟩
theorem ct_gone (b : Nat) (nx i ov now : Int) (h : 1 ≤ nx ∧ nx ≤ 6600000) (hi : 1 ≤ i ∧ i ≤ 500) (hn : 0 ≤ now ∧ now ≤ 6553500) : (ct b nx i ov).gone now = qk i now nx := by
  show cnt nx i now = qk i now nx
  have e : lim now = now := by unfold lim cl; omega
  unfold cnt qk
  rw [e]
  by_cases hc : nx ≤ now
  · rw [if_neg (by omega), if_neg (by omega), if_pos hc]
  · rw [if_pos (by omega), if_neg hc]
theorem qk_bd (i now nx : Int) (h : 1 ≤ nx) (hi : 1 ≤ i) (hn : 0 ≤ now ∧ now ≤ 6553500) : 0 ≤ qk i now nx ∧ qk i now nx ≤ 6553501 ∧ qk i now nx * i ≤ 6553500 + i := by
  unfold qk
  by_cases hc : nx ≤ now
  · rw [if_pos hc]
    have h1 := ediv_bd (a := now - nx) (b := i) (by omega) (by omega)
    have h2 := div_sandwich (G := now - nx) (P := i) (by omega)
    rw [Int.add_mul, Int.one_mul]
    generalize (now - nx) / i = q at *
    generalize q * i = z at *
    omega
  · rw [if_neg hc, Int.zero_mul]; omega
theorem ct_aft (b : Nat) (nx i ov now : Int) (h : 1 ≤ nx ∧ nx ≤ 6600000) (hi : 1 ≤ i ∧ i ≤ 500) (hn : 0 ≤ now ∧ now ≤ 6553500) : ∃ ov', (ct b nx i ov).aft 0 0 now = ct b (nx + qk i now nx * i) i ov' ∧
    ((qk i now nx = 0 ∧ (ct b nx i ov).comes (at3 0 0 now 2) = false) ∨ (qk i now nx ≠ 0 ∧ (ct b nx i ov).comes (at3 0 0 now 2) = true ∧ ((ct b nx i ov).went (at3 0 0 now 2)).over = qk i now nx - 1)) := by
  have eg := ct_gone b nx i ov now h hi hn
  have hq := qk_bd i now nx h.1 hi.1 hn
  have ea : at3 0 0 now 2 = now := rfl
  rw [ea]
  by_cases h0 : qk i now nx = 0
  · have hc : (ct b nx i ov).comes now = false := by unfold Tm.comes; rw [eg, h0]; rfl
    refine ⟨ov, ?_, .inl ⟨h0, hc⟩⟩
    unfold Tm.aft
    rw [show at3 0 0 now (ct b nx i ov).clock = now from rfl, hc, h0, Int.zero_mul, Int.add_zero]
    rfl
  · have hc : (ct b nx i ov).comes now = true := by
      unfold Tm.comes; rw [eg]
      have : (qk i now nx == 0) = false := by simp [h0]
      rw [this]; rfl
    have ho : ovr (qk i now nx - 1) = qk i now nx - 1 := by unfold ovr; split; omega; split <;> omega
    refine ⟨qk i now nx - 1, ?_, .inr ⟨h0, hc, ?_⟩⟩
    · unfold Tm.aft
      rw [show at3 0 0 now (ct b nx i ov).clock = now from rfl, hc, if_pos rfl]
      unfold Tm.went
      rw [eg, ho]
      have h1 : decide (0 < (ct b nx i ov).interval) = true := by show decide (0 < i) = true; simp; omega
      rw [h1]
      have h2 : nthv (ct b nx i ov).next (ct b nx i ov).interval (qk i now nx) = nx + qk i now nx * i := by
        show nthv nx i (qk i now nx) = _
        unfold nthv
        rw [if_neg (by omega), if_neg]
        rintro ⟨_, h4⟩
        have h5 : qk i now nx ≤ (4611686018427387903 - nx) / i := (Int.le_ediv_iff_mul_le (by omega)).2 (by omega)
        omega
      rw [h2]
      rfl
    · show ovr ((ct b nx i ov).gone now - 1) = _
      rw [eg, ho]
end Go.Proofs.Ytdplpehphjgffaa.Px
