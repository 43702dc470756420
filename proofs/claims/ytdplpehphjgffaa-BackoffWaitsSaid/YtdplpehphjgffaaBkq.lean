/- The waits together, and how many are within a time, in plain numbers. No program in sight; the plan's own bounds are the only condition. -/
import Derived.Test.YtdplpehphjgffaaBku
set_option linter.unusedVariables false
namespace Go.Proofs.Ytdplpehphjgffaa.Bk
open Go.RowKit Go.Proofs.Ytdplpehphjgffaa.Kt
/-- a plan whose first wait may be any up to the greatest one -/
structure Pl.fit (p : Pl) : Prop where
  a : 1 ≤ p.first
  b : 16 ≤ p.factor ∧ p.factor ≤ 256
  c : p.first ≤ p.great ∧ p.great ≤ 1125899906842624
theorem Pl.ok.fit {p : Pl} (h : p.ok) : p.fit := ⟨h.a.1, h.b, h.c⟩
theorem mul_bdf (p : Pl) (ok : p.fit) (w : Int) (h : 1 ≤ w ∧ w ≤ p.great) : 16 * w ≤ w * p.factor ∧ w * p.factor ≤ 288230376151711744 := by
  have h1 : w * 16 ≤ w * p.factor := Int.mul_le_mul_of_nonneg_left ok.b.1 (by omega)
  have h2 : w * p.factor ≤ w * 256 := Int.mul_le_mul_of_nonneg_left ok.b.2 (by omega)
  have := ok.c
  omega
theorem nx_bdf (p : Pl) (ok : p.fit) (w : Int) (h : 1 ≤ w ∧ w ≤ p.great) : w ≤ nx p w ∧ nx p w ≤ p.great ∧ 1 ≤ nx p w := by
  have := mul_bdf p ok w h
  unfold nx
  generalize w * p.factor = y at *
  omega
theorem wt_bdf (p : Pl) (ok : p.fit) (n : Nat) : 1 ≤ wt p n ∧ wt p n ≤ p.great := by
  induction n with
  | zero => have := ok.a; have := ok.c; unfold wt; omega
  | succ n ih => have := nx_bdf p ok _ ih; unfold wt; omega
theorem ex_nn (p : Pl) (ok : p.ok) (n : Nat) : 0 ≤ ex p n := by
  induction n with
  | zero => unfold ex; omega
  | succ n ih => have := wt_bd p ok n; unfold ex; omega
theorem sm_ex (p : Pl) (ok : p.ok) (n : Nat) : sm p n = if 4611686018427387903 ≤ ex p n then 4611686018427387903 else ex p n := by
  induction n with
  | zero => unfold sm ex; simp
  | succ n ih =>
    have h1 := wt_bd p ok n
    have h2 := ok.c
    have h3 := ex_nn p ok n
    unfold sm ex
    rw [ih]
    unfold ad cl
    generalize wt p n = x at *
    generalize ex p n = y at *
    split <;> omega
theorem ex_bd (p : Pl) (ok : p.ok) (n : Nat) : ex p n ≤ n * 1125899906842624 := by
  induction n with
  | zero => unfold ex; omega
  | succ n ih => have := wt_bd p ok n; have := ok.c; unfold ex; omega
theorem ex_succ (p : Pl) (n : Nat) : ex p (n + 1) = ex p n + wt p n := rfl
theorem ex_mono1 (p : Pl) (ok : p.ok) (n : Nat) : ex p n ≤ ex p (n + 1) := by have := wt_bd p ok n; rw [ex_succ]; omega
theorem stop_small (n : Nat) (h : n ≤ 10000) : stop n = n := by unfold stop; split <;> omega
theorem stop_any (n : Int) (h : n ≤ 2000) : stop n = n.toNat := by unfold stop; rw [if_pos (by omega)]
/-- how many waits are within a time: those many are, and one more is not -/
theorem trg_tells (p : Pl) (L : Int) (f : Nat) : ∀ i : Nat, i ≤ trg p f i (L - ex p i) ∧ trg p f i (L - ex p i) ≤ i + f ∧ (i < trg p f i (L - ex p i) → ex p (trg p f i (L - ex p i)) ≤ L) ∧ (trg p f i (L - ex p i) = i + f ∨ L < ex p (trg p f i (L - ex p i) + 1)) := by
  induction f with
  | zero => intro i; unfold trg; exact ⟨by omega, by omega, by omega, by omega⟩
  | succ f ih =>
    intro i
    unfold trg
    by_cases h : L - ex p i < wt p i
    · rw [if_pos h]
      refine ⟨by omega, by omega, by omega, .inr ?_⟩
      unfold ex; omega
    · rw [if_neg h]
      have e : L - ex p i - wt p i = L - ex p (i + 1) := by rw [ex_succ]; omega
      rw [e]
      have hL : ex p (i + 1) ≤ L := by unfold ex; omega
      obtain ⟨h1, h2, h3, h4⟩ := ih (i + 1)
      generalize trg p f (i + 1) (L - ex p (i + 1)) = k at *
      refine ⟨by omega, by omega, fun _ => ?_, by omega⟩
      by_cases hk : i + 1 < k
      · exact h3 hk
      · rw [show k = i + 1 by omega]; exact hL
/-- how many waits are within a time, as the statement asks it -/
theorem tries_tells (p : Pl) (ok : p.ok) (within : Int) (hw : -9223372036854775808 ≤ within ∧ within ≤ 9223372036854775807) : ∃ k : Nat, trg p 10000 0 (cl within) = k ∧ k ≤ 10000 ∧ (0 < k → sm p (stop k) ≤ within) ∧ (k = 10000 ∨ sm p (stop (k + 1 : Nat)) = 4611686018427387903 ∨ cl within < sm p (stop (k + 1 : Nat))) := by
  refine ⟨_, rfl, ?_⟩
  have ht := trg_tells p (cl within) 10000 0
  rw [show cl within - ex p 0 = cl within by unfold ex; omega] at ht
  obtain ⟨h1, h2, h3, h4⟩ := ht
  generalize trg p 10000 0 (cl within) = k at *
  refine ⟨by omega, fun hk => ?_, ?_⟩
  · have := h3 hk
    rw [stop_small k (by omega), sm_ex p ok]
    have hn : 1 ≤ ex p k := by
      obtain ⟨j, rfl⟩ : ∃ j, k = j + 1 := ⟨k - 1, by omega⟩
      have := ex_nn p ok j; have := wt_bd p ok j; unfold ex; omega
    unfold cl at this
    split <;> omega
  · rcases h4 with h4 | h4
    · exact .inl (by omega)
    · by_cases hk : k = 10000
      · exact .inl hk
      · rw [stop_small (k + 1) (by omega), sm_ex p ok]
        right
        split
        · exact .inl rfl
        · exact .inr h4
theorem wt_one (p : Pl) (w : Int) : wt ⟨w, p.factor, p.great⟩ 1 = nx p w := rfl
end Go.Proofs.Ytdplpehphjgffaa.Bk
