/- What is left of a sleep, in plain numbers. No program in sight. -/
import Derived.Test.YtdplpehphjgffaaSlf
set_option linter.unusedVariables false
namespace Go.Proofs.Ytdplpehphjgffaa.Sl
open Go.RowKit Go.Proofs.Ytdplpehphjgffaa.Kt Go.Proofs.Ytdplpehphjgffaa.Sp
theorem mul_sec (s : Int) (h : 0 ≤ s) : mul 1000000000 s = if 1000000000 * s ≤ 4611686018427387903 then 1000000000 * s else 4611686018427387903 := by
  unfold mul
  rw [show cl 1000000000 = 1000000000 by decide]
  unfold cl
  split <;> split <;> omega
theorem tm_bd (s n : Int) (h : Rt s n) : 0 ≤ tm s n ∧ tm s n ≤ 4611686018427387903 := by
  obtain ⟨h1, h2, h3⟩ := h
  unfold tm
  rw [mul_sec s h1]
  unfold ad cl
  split <;> omega
theorem tm_split (x : Int) (h0 : 0 ≤ x) (h1 : x ≤ 4611686018427387903) : tm (x / 1000000000) (x % 1000000000) = x := by
  unfold tm
  rw [mul_sec _ (by omega), if_pos (by omega)]
  unfold ad cl
  omega
theorem left_far (T m l : Int) (hT : 0 ≤ T ∧ T ≤ 4611686018427387903) (hm : 0 ≤ m ∧ m ≤ 4294967295) (hl : 0 ≤ l ∧ l ≤ 4294967295) (h : 4611686018427387903 ≤ ad T m) : tf (unt (m + l) (ad T m)) = 4611686018427387903 := by
  have := ad_bd T m
  have e : ad T m = 4611686018427387903 := by omega
  rw [e]; rfl
theorem left_near (T m l : Int) (hT : 0 ≤ T ∧ T ≤ 4611686018427387903) (hm : 0 ≤ m ∧ m ≤ 4294967295) (hl : 0 ≤ l ∧ l ≤ 4294967295) (h : ad T m < 4611686018427387903) : tf (unt (m + l) (ad T m)) = if T - l < 0 then 0 else T - l := by
  have e : ad T m = T + m := by unfold ad cl at h ⊢; omega
  rw [e] at h ⊢
  unfold tf unt sb cl
  omega
end Go.Proofs.Ytdplpehphjgffaa.Sl
