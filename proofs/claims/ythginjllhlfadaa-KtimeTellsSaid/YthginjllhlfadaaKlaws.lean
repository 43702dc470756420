/- The walks of the statements KtimeTells, KtimeOrder, KtimeBack: for any numbers each returns true. No condition. -/
import Derived.Test.YthginjllhlfadaaKlaw
set_option linter.unusedVariables false
set_option linter.unusedSimpArgs false
namespace Go.Proofs.Ythginjllhlfadaa.Kt
open Go.RowKit Go.Proofs.Ythginjllhlfadaa.Aid
attribute [local go_sem] max2_int min2_int max_two min_two
set_option maxHeartbeats 4000000 in
set_option maxRecDepth 100000 in
theorem tells_any (a : Int) (ha : -9223372036854775808 ≤ a ∧ a ≤ 9223372036854775807) (b : Int) (hb : -9223372036854775808 ≤ b ∧ b ≤ 9223372036854775807) (c : Int) (hc : -9223372036854775808 ≤ c ∧ c ≤ 9223372036854775807) (w : World) :
    Calls Try.prog 7 #[.int .i64 a, .int .i64 b, .int .i64 c] w fun e w' => e = .returned (.bool true) ∧ Below w.heap.size w w' := by
  have hn : nev a = decide (4611686018427387903 ≤ a) := rfl
  by_cases h2 : 4611686018427387903 ≤ b <;> by_cases h3 : sb b a < 0 <;> by_cases h4 : cl b < cl a
  all_goals
    by_cases h5 : (if cl b < cl a then cl a else cl b) > cl c
    all_goals
      have u : unt a b = if 4611686018427387903 ≤ b then 4611686018427387903 else if sb b a < 0 then 0 else sb b a := rfl
      have v : btw a b c = if (if cl b < cl a then cl a else cl b) > cl c then cl c else if cl b < cl a then cl a else cl b := rfl
      simp only [h2, h3, h4, h5, if_true, if_false] at u v h5
      go_enter Try.func7, Try.ntmps7
      go_wp2_with (first
        | (go_at_call 28; refine (fixed_any _).mono ?_; rintro e w1 ⟨rfl, hb1⟩)
        | (go_at_call 19; refine (rclamp_any _ _).mono ?_; rintro e w' ⟨rfl, rfl⟩)
        | (go_at_call 32; refine (radd_any _ _ _).mono ?_; rintro e w' ⟨rfl, rfl⟩)
        | (go_at_call 29; refine (rsub_any _ _ _).mono ?_; rintro e w' ⟨rfl, rfl⟩)
        | (go_at_call 35; refine (rmul_any _ _ _ hb.1 hb.2).mono ?_; rintro e w' ⟨rfl, rfl⟩)
        | (go_at_call 30; refine (clamp_any _ _).mono ?_; rintro e w' ⟨rfl, rfl⟩)
        | (go_at_call 31; refine (add_any _ _ _).mono ?_; rintro e w' ⟨rfl, rfl⟩)
        | (go_at_call 33; refine (sub_any _ _ _).mono ?_; rintro e w' ⟨rfl, rfl⟩)
        | (go_at_call 34; refine (mul_any _ _ _ hb.1 hb.2).mono ?_; rintro e w' ⟨rfl, rfl⟩)
        | (go_at_call 36; refine (never_any _ _).mono ?_; rintro e w' ⟨rfl, rfl⟩)
        | (go_at_call 37; refine (until_any _ _ _).mono ?_; rintro e w' ⟨rfl, rfl⟩)
        | (go_at_call 38; refine (between_any _ _ _ _).mono ?_; rintro e w' ⟨rfl, rfl⟩))
      go_ret
      exact ⟨rfl, hb1⟩
set_option maxHeartbeats 4000000 in
set_option maxRecDepth 100000 in
theorem order_any (a : Int) (ha : -9223372036854775808 ≤ a ∧ a ≤ 9223372036854775807) (b : Int) (hb : -9223372036854775808 ≤ b ∧ b ≤ 9223372036854775807) (c : Int) (hc : -9223372036854775808 ≤ c ∧ c ≤ 9223372036854775807) (w : World) :
    Calls Try.prog 8 #[.int .i64 a, .int .i64 b, .int .i64 c] w fun e w' => e = .returned (.bool true) ∧ Below w.heap.size w w' := by
  have e1 : ad a 0 = cl a := by unfold ad cl; omega
  have e2 : sb a 0 = cl a := by unfold sb cl; omega
  have e3 : mul a 1 = cl a := by unfold mul; rw [Int.mul_one]; unfold cl; omega
  have e4 : mul a 0 = 0 := by unfold mul; rw [Int.mul_zero]; rfl
  have m1 : ad a c ≤ ad b c ∨ b < a := by unfold ad cl; omega
  have m2 : sb a c ≤ sb b c ∨ b < a := by unfold sb cl; omega
  have m3 : ad b c ≤ ad a c ∨ a ≤ b := by unfold ad cl; omega
  have m4 : sb b c ≤ sb a c ∨ a ≤ b := by unfold sb cl; omega
  have e5 : 4611686018427387903 ≤ a ∨ 4611686018427387903 ≤ b ∨ ad a b = ad b a := by have := Int.add_comm (cl a) (cl b); unfold ad; rw [this]; omega
  by_cases hab : a ≤ b
  · have m1 : ad a c ≤ ad b c := by omega
    have m2 : sb a c ≤ sb b c := by omega
    clear m3 m4
    by_cases h1 : 4611686018427387903 ≤ a <;> by_cases h2 : 4611686018427387903 ≤ b
    all_goals
      first | have n1 : nev a = true := decide_eq_true h1 | have n1 : nev a = false := decide_eq_false h1
      first | have n2 : nev b = true := decide_eq_true h2 | have n2 : nev b = false := decide_eq_false h2
      first | (have e5 : ad a b = ad b a := by omega) | clear e5
      go_enter Try.func8, Try.ntmps8
      go_wp2_with (first
        | (go_at_call 28; refine (fixed_any _).mono ?_; rintro e w1 ⟨rfl, hb1⟩)
        | (go_at_call 30; refine (clamp_any _ _).mono ?_; rintro e w' ⟨rfl, rfl⟩)
        | (go_at_call 31; refine (add_any _ _ _).mono ?_; rintro e w' ⟨rfl, rfl⟩)
        | (go_at_call 33; refine (sub_any _ _ _).mono ?_; rintro e w' ⟨rfl, rfl⟩)
        | (go_at_call 34; refine (mul_any _ _ _ (by omega) (by omega)).mono ?_; rintro e w' ⟨rfl, rfl⟩)
        | (go_at_call 36; refine (never_any _ _).mono ?_; rintro e w' ⟨rfl, rfl⟩))
      all_goals
        go_ret
        exact ⟨rfl, hb1⟩
  · have m3 : ad b c ≤ ad a c := by omega
    have m4 : sb b c ≤ sb a c := by omega
    clear m1 m2
    by_cases h1 : 4611686018427387903 ≤ a <;> by_cases h2 : 4611686018427387903 ≤ b
    all_goals
      first | have n1 : nev a = true := decide_eq_true h1 | have n1 : nev a = false := decide_eq_false h1
      first | have n2 : nev b = true := decide_eq_true h2 | have n2 : nev b = false := decide_eq_false h2
      first | (have e5 : ad a b = ad b a := by omega) | clear e5
      go_enter Try.func8, Try.ntmps8
      go_wp2_with (first
        | (go_at_call 28; refine (fixed_any _).mono ?_; rintro e w1 ⟨rfl, hb1⟩)
        | (go_at_call 30; refine (clamp_any _ _).mono ?_; rintro e w' ⟨rfl, rfl⟩)
        | (go_at_call 31; refine (add_any _ _ _).mono ?_; rintro e w' ⟨rfl, rfl⟩)
        | (go_at_call 33; refine (sub_any _ _ _).mono ?_; rintro e w' ⟨rfl, rfl⟩)
        | (go_at_call 34; refine (mul_any _ _ _ (by omega) (by omega)).mono ?_; rintro e w' ⟨rfl, rfl⟩)
        | (go_at_call 36; refine (never_any _ _).mono ?_; rintro e w' ⟨rfl, rfl⟩))
      all_goals
        go_ret
        exact ⟨rfl, hb1⟩
set_option maxHeartbeats 4000000 in
set_option maxRecDepth 100000 in
theorem back_any (a : Int) (ha : -2147483648 ≤ a ∧ a ≤ 2147483647) (b : Int) (hb : -2147483648 ≤ b ∧ b ≤ 2147483647) (c : Int) (hc : -2147483648 ≤ c ∧ c ≤ 2147483647) (w : World) :
    Calls Try.prog 10 #[.int .i32 a, .int .i32 b, .int .i32 c] w fun e w' => e = .returned (.bool true) ∧ Below w.heap.size w w' := by
  have e1 : sb (ad a b) b = a := by unfold sb ad cl; omega
  have e2 : ad c (unt c a) = if c < a then a else c := by unfold ad unt sb cl; omega
  have e3 : mul a b = mul b a := by unfold mul; rw [cl_in (x := a) (by omega) (by omega), cl_in (x := b) (by omega) (by omega), Int.mul_comm]
  have e5 : sb a b = ad a (-b) := by unfold sb ad cl; omega
  by_cases h1 : c < a <;> by_cases h2 : a < b
  all_goals
    have e4 : a ≤ btw a c (if a < b then b else a) := by unfold btw cl; omega
    simp only [h1, h2, if_true, if_false] at e2 e4
    have HE := Lib.hid e3
    clear e3
    have e3 : (mul a b == mul b a) = true := beq_iff_eq.2 HE.out
    have e6 : (sb a b == ad a (-b)) = true := beq_iff_eq.2 e5
    clear e5
    go_enter Try.func10, Try.ntmps10
    go_wp2_with (first
      | (go_at_call 28; refine (fixed_any _).mono ?_; rintro e w1 ⟨rfl, hb1⟩)
      | (go_at_call 31; refine (add_any _ _ _).mono ?_; rintro e w' ⟨rfl, rfl⟩)
      | (go_at_call 33; refine (sub_any _ _ _).mono ?_; rintro e w' ⟨rfl, rfl⟩)
      | (go_at_call 37; refine (until_any _ _ _).mono ?_; rintro e w' ⟨rfl, rfl⟩)
      | (go_at_call 38; refine (between_any _ _ _ _).mono ?_; rintro e w' ⟨rfl, rfl⟩)
      | (go_at_call 34; refine (mul_any _ _ _ (by omega) (by omega)).mono ?_; rintro e w' ⟨rfl, rfl⟩))
    go_ret
    exact ⟨rfl, hb1⟩
end Go.Proofs.Ythginjllhlfadaa.Kt
