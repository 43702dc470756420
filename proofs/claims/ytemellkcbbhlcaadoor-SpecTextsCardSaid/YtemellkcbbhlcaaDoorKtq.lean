/- The contract of the reference's Mul: the clamped product, for any numbers that an int holds. No other condition. -/
import Derived.Test.YtemellkcbbhlcaaDoorKtr
set_option linter.unusedVariables false
set_option linter.unusedSimpArgs false
namespace Go.Proofs.YtemellkcbbhlcaaDoor.Kt
open Go.RowKit Go.Proofs.YtemellkcbbhlcaaDoor.Aid
theorem rmul_fin (a n R : Int) (x m : Int) (plus : Bool) (hx : x = if 0 < cl a then -cl a else cl a) (hm : m = if 0 < n then n else -n) (hp : plus = (decide (0 < cl a) == decide (0 < n))) (hR : R = cl (x * m)) :
    mul a n = if plus = true then -R else R := by
  have neg_cl : ∀ y, -cl y = cl (-y) := fun y => by unfold cl; omega
  unfold mul
  subst hx hm hp hR
  generalize cl a = c at *
  by_cases g1 : 0 < c <;> by_cases g2 : 0 < n <;> simp [g1, g2, neg_cl, Int.neg_mul, Int.mul_neg]
set_option maxHeartbeats 1000000 in
set_option maxRecDepth 100000 in
theorem rmul_any (a n : Int) (w : World) (h0 : -9223372036854775808 ≤ n) (h1 : n ≤ 9223372036854775807) :
    Calls Tryd.prog 50 #[.int .i64 a, .int .i64 n] w fun e w' => e = .returned (.int .i64 (mul a n)) ∧ w = w' := by
  have ha := cl_bd a
  by_cases z1 : cl a = 0
  · have k1 : ((cl a : Int) == 0) = true := by simpa using z1
    have e : mul a n = 0 := by unfold mul; rw [z1, Int.zero_mul]; rfl
    rw [e]
    clear e z1
    go_enter Tryd.func50, Tryd.ntmps50
    go_wp2_with (go_at_call 75; refine (rclamp_any _ _).mono ?_; rintro e w' ⟨rfl, rfl⟩)
    go_ret
    exact ⟨rfl, rfl⟩
  have k1 : ((cl a : Int) == 0) = false := by simpa using z1
  by_cases z2 : n = 0
  · have k2 : ((n : Int) == 0) = true := by simpa using z2
    have e : mul a n = 0 := by unfold mul; rw [z2, Int.mul_zero]; rfl
    rw [e]
    clear e z1 z2
    go_enter Tryd.func50, Tryd.ntmps50
    go_wp2_with (go_at_call 75; refine (rclamp_any _ _).mono ?_; rintro e w' ⟨rfl, rfl⟩)
    go_ret
    exact ⟨rfl, rfl⟩
  have k2 : ((n : Int) == 0) = false := by simpa using z2
  obtain ⟨R, hR⟩ : ∃ R, R = cl ((if 0 < cl a then -cl a else cl a) * (if 0 < n then n else -n)) := ⟨_, rfl⟩
  have HF := Lib.hid (rmul_fin a n R _ _ _ rfl rfl rfl hR)
  have HS : Hid (MulRel R (if 0 < cl a then -cl a else cl a) (if 0 < n then n else -n) 0) := Lib.hid ⟨by split <;> omega, by split <;> omega, by split <;> omega, by split <;> omega, by omega, by omega, by rw [hR, Int.zero_add]⟩
  clear hR
  rcases Bool.eq_false_or_eq_true (decide (0 < cl a)) with gs | gs <;> rcases Bool.eq_false_or_eq_true (decide (0 < n)) with gn | gn
  all_goals
    have GS := Lib.hid gs
    have GN := Lib.hid gn
    have gs' := gs
    have gn' := gn
    simp only [decide_eq_true_eq, decide_eq_false_iff_not] at gs' gn'
    go_enter Tryd.func50, Tryd.ntmps50
    go_wp2_with (go_at_call 75; refine (rclamp_any _ _).mono ?_; rintro e w' ⟨rfl, rfl⟩)
    go_loop [0, 1, 6] (fun t0 t1 t6 => ∃ x m s : Int, t0 = .int .i64 x ∧ t1 = .int .i64 (-m) ∧ t6 = .int .i64 s ∧ MulRel R x m s) (fun _ t1 _ => (-(intOf t1)).toNat)
    case atStart =>
      have h := HS.out
      first | rw [if_pos (show 0 < cl a by omega)] at h | rw [if_neg (show ¬ 0 < cl a by omega)] at h
      first | rw [if_pos (show 0 < n by omega)] at h | rw [if_neg (show ¬ 0 < n by omega)] at h
      refine ⟨_, _, _, rfl, ?_, rfl, h⟩
      first | rfl | (simp; done)
    case round =>
      clear gs' gn'
      obtain ⟨x, m, s, rfl, rfl, rfl, hr⟩ := hrel
      obtain ⟨b1, b2, b3, b4, b5, b6⟩ := hr.bd
      have q1 := cl_bd (x + x)
      have q2 := cl_bd (s + x)
      by_cases hm : m = 0
      · subst hm
        have hs := Lib.hid hr.zero
        clear hr
        go_wp2
        go_ret
        refine ⟨ret_int ?_, rfl⟩
        rw [HF.out, GS.out, GN.out, ← hs.out]
        simp
      · have HR := Lib.hid (hr.step hm)
        clear hr
        have k3 : ((-m : Int) == 0) = false := by simp; omega
        have k4 : ((-m : Int) != 0) = true := by simp; omega
        have e1 := neg_tdiv2 m b3
        have h01 : m % 2 = 0 ∨ m % 2 = 1 := by omega
        rcases h01 with g | g
        · have k5 : (-(m % 2) != 0) = false := by rw [g]; rfl
          rw [g, if_pos rfl] at HR
          clear g
          go_wp2_with (go_at_call 75; refine (rclamp_any _ _).mono ?_; rintro e w' ⟨rfl, rfl⟩)
          go_round
          case rel => exact ⟨_, _, _, rfl, rfl, rfl, HR.out⟩
          case measure => simp [intOf]; omega
        · have k5 : (-(m % 2) != 0) = true := by rw [g]; rfl
          rw [g, if_neg (by decide)] at HR
          clear g
          go_wp2_with (go_at_call 75; refine (rclamp_any _ _).mono ?_; rintro e w' ⟨rfl, rfl⟩)
          go_round
          case rel => exact ⟨_, _, _, rfl, rfl, rfl, HR.out⟩
          case measure => simp [intOf]; omega
end Go.Proofs.YtemellkcbbhlcaaDoor.Kt
