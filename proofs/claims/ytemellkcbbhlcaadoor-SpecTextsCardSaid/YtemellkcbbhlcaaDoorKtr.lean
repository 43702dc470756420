/- The contracts of the rest of ktime, and of its reference's sums, differences and products: what each returns for any numbers that an int holds; ktime.First's for any row of at most 200 ints. No other condition. -/
import Derived.Test.YtemellkcbbhlcaaDoorKtm
set_option linter.unusedVariables false
set_option linter.unusedSimpArgs false
namespace Go.Proofs.YtemellkcbbhlcaaDoor.Kt
open Go.RowKit Go.Proofs.YtemellkcbbhlcaaDoor.Aid
attribute [local go_sem] max2_int min2_int max_two min_two
def mnc (t x : Int) : Int := if cl x < t then cl x else t
theorem mnc_bd {t x : Int} (h : -4611686018427387903 ≤ t ∧ t ≤ 4611686018427387903) : -4611686018427387903 ≤ mnc t x ∧ mnc t x ≤ 4611686018427387903 := by
  have := cl_bd x
  unfold mnc; omega
def firstOf (l : List Int) : Int := l.foldl mnc 4611686018427387903
theorem fold_bd (l : List Int) : ∀ t, -4611686018427387903 ≤ t ∧ t ≤ 4611686018427387903 → -4611686018427387903 ≤ l.foldl mnc t ∧ l.foldl mnc t ≤ 4611686018427387903 := by
  induction l with
  | nil => intro t h; exact h
  | cons x l ih => intro t h; exact ih _ (mnc_bd h)
theorem firstOf_bd (l : List Int) : -4611686018427387903 ≤ firstOf l ∧ firstOf l ≤ 4611686018427387903 := fold_bd l _ (by omega)
theorem firstOf_snoc (l : List Int) (k : Nat) (h : k < l.length) : firstOf (l.take (k + 1)) = mnc (firstOf (l.take k)) (l.getD k 0) := by
  unfold firstOf
  rw [List.take_succ_eq_append_getElem h, List.foldl_append]
  simp [List.getD, h]
set_option maxHeartbeats 400000 in
theorem radd_any (a b : Int) (w : World) : Calls Tryd.prog 49 #[.int .i64 a, .int .i64 b] w fun e w' => e = .returned (.int .i64 (ad a b)) ∧ w = w' := by
  have h1 := cl_bd a
  have h2 := cl_bd b
  go_enter Tryd.func49, Tryd.ntmps49
  go_wp2_with (go_at_call 75; refine (rclamp_any _ _).mono ?_; rintro e w' ⟨rfl, rfl⟩)
  all_goals
    go_ret
    exact ⟨ret_int (by unfold ad; omega), rfl⟩
def MulRel (R x m s : Int) : Prop := -4611686018427387903 ≤ x ∧ x ≤ 0 ∧ 0 ≤ m ∧ m ≤ 9223372036854775808 ∧ -4611686018427387903 ≤ s ∧ s ≤ 0 ∧ cl (s + x * m) = R
theorem MulRel.step {R x m s : Int} (h : MulRel R x m s) (hm : m ≠ 0) : MulRel R (cl (x + x)) (m / 2) (if m % 2 = 0 then s else cl (s + x)) := by
  obtain ⟨x0, x1, m0, m1, s0, s1, h⟩ := h
  have c1 := cl_bd (x + x)
  have c2 := cl_bd (s + x)
  have c3 : cl (x + x) ≤ 0 := by unfold cl; omega
  have c4 : cl (s + x) ≤ 0 := by unfold cl; omega
  have hbig : (m / 2 = 0 ∧ x * (m / 2) = 0) ∨ (x * (m / 2) ≤ x ∧ (-4611686018427387903) * (m / 2) ≤ -4611686018427387903) := by
    by_cases g : m / 2 = 0
    · exact .inl ⟨g, by rw [g, Int.mul_zero]⟩
    · refine .inr ⟨?_, by omega⟩
      have := Int.mul_le_mul_of_nonpos_left (a := x) (b := m / 2) (c := 1) x1 (by omega)
      omega
  have hneg : x * (m / 2) ≤ 0 := Int.mul_nonpos_of_nonpos_of_nonneg x1 (by omega)
  have hprod : x * m = 2 * (x * (m / 2)) + x * (m % 2) := by
    have e : m = 2 * (m / 2) + m % 2 := by omega
    refine (congrArg (x * ·) e).trans ?_
    show x * (2 * (m / 2) + m % 2) = _
    rw [Int.mul_add, ← Int.mul_assoc, Int.mul_comm x 2, Int.mul_assoc]
  have hcl : cl (x + x) * (m / 2) = if x + x < -4611686018427387903 then -4611686018427387903 * (m / 2) else 2 * (x * (m / 2)) := by
    unfold cl
    rw [if_neg (by omega)]
    split
    · rfl
    · rw [Int.add_mul]; omega
  refine ⟨c1.1, c3, by omega, by omega, by split <;> omega, by split <;> omega, ?_⟩
  rw [← h, hcl, hprod]
  have h01 : m % 2 = 0 ∨ m % 2 = 1 := by omega
  rcases h01 with hr | hr
  · rw [if_pos hr, hr]
    generalize x * (m / 2) = y at *
    by_cases g : x + x < -4611686018427387903
    · rw [if_pos g]; unfold cl; omega
    · rw [if_neg g]; unfold cl; omega
  · rw [if_neg (by omega), hr]
    have e4 : cl (s + x) = if s + x < -4611686018427387903 then -4611686018427387903 else s + x := by unfold cl; omega
    rw [e4]
    generalize x * (m / 2) = y at *
    by_cases g : x + x < -4611686018427387903 <;> by_cases g2 : s + x < -4611686018427387903
    · rw [if_pos g, if_pos g2]; unfold cl; omega
    · rw [if_pos g, if_neg g2]; unfold cl; omega
    · rw [if_neg g, if_pos g2]; unfold cl; omega
    · rw [if_neg g, if_neg g2]; unfold cl; omega
theorem MulRel.zero {R x s : Int} (h : MulRel R x 0 s) : s = R := by
  obtain ⟨x0, x1, m0, m1, s0, s1, h⟩ := h
  rw [← h]; unfold cl; omega
theorem MulRel.bd {R x m s : Int} (h : MulRel R x m s) : -4611686018427387903 ≤ x ∧ x ≤ 0 ∧ 0 ≤ m ∧ m ≤ 9223372036854775808 ∧ -4611686018427387903 ≤ s ∧ s ≤ 0 := ⟨h.1, h.2.1, h.2.2.1, h.2.2.2.1, h.2.2.2.2.1, h.2.2.2.2.2.1⟩
theorem neg_tdiv2 (m : Int) (h : 0 ≤ m) : Int.tdiv (-m) 2 = -(m / 2) := by
  rw [Int.neg_tdiv, Int.tdiv_eq_ediv_of_nonneg h]
theorem neg_tmod2 (m : Int) (h : 0 ≤ m) : Int.tmod (-m) 2 = -(m % 2) := by
  rw [Int.neg_tmod, Int.tmod_eq_emod_of_nonneg h]
end Go.Proofs.YtemellkcbbhlcaaDoor.Kt
