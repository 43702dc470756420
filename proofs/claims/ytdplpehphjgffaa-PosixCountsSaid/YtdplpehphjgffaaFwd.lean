/- The contracts of forward's functions: what each returns for any numbers that an int holds, with memory as it was below what is new. No other condition. -/
import Derived.Test.YtdplpehphjgffaaProg
import Derived.Test.YtdplpehphjgffaaFwdp
set_option linter.unusedVariables false
set_option linter.unusedSimpArgs false
namespace Go.Proofs.Ytdplpehphjgffaa.Fw
open Go.RowKit Go.Proofs.Ytdplpehphjgffaa.Aid Go.Proofs.Ytdplpehphjgffaa.Kt
attribute [local go_sem] max2_int min2_int max_two min_two
set_option maxHeartbeats 400000 in
theorem of_any (a p : Int) (w : World) : Calls Try.prog 85 #[.int .i64 a, .int .i64 p] w fun e w' => e = .returned (.agg #[.int .i64 (cl a), .int .i64 (per p)]) ∧ Below w.heap.size w w' := by
  by_cases h : cl p < 0
  all_goals
    have e : per p = if cl p < 0 then 0 else cl p := rfl
    simp only [h, if_true, if_false] at e
    rw [e]
    clear e
    go_enter Try.func85, Try.ntmps85
    go_wp2_with (go_at_call 58; refine (clamp_any _ _).mono ?_; rintro e w' ⟨rfl, rfl⟩)
    exact bodyPost_ret (by simp [results, Try.results85, go_sem]) rfl ⟨rfl, (Below.refl _ _).alloc (Nat.le_refl _) _⟩
set_option maxHeartbeats 400000 in
theorem gap_any (a b : Int) (w : World) (h : 0 ≤ b - a) (k : b - a < 18446744073709551616) : Calls Try.prog 88 #[.int .i64 a, .int .i64 b] w fun e w' => e = .returned (.int .u64 (b - a)) ∧ w = w' := by
  go_enter Try.func88, Try.ntmps88
  go_wp2
  go_ret
  exact ⟨ret_int (by first | rfl | (simp only [IntKind.wrap_u64]; omega)), rfl⟩
set_option maxHeartbeats 1000000 in
theorem count_any (F P now : Int) (w : World) (hF : -4611686018427387903 ≤ F ∧ F ≤ 4611686018427387903) (hP : 0 ≤ P ∧ P ≤ 4611686018427387903) :
    Calls Try.prog 86 #[.agg #[.int .i64 F, .int .i64 P], .int .i64 now] w fun e w' => e = .returned (.int .i64 (cnt F P now)) ∧ Below w.heap.size w w' := by
  have hl := lim_bd now
  have hcl := cl_bd now
  have hlim : lim now = if cl now < 4611686018427387902 then cl now else 4611686018427387902 := rfl
  have HC : Hid (cnt F P now = if F > lim now then 0 else if P = 0 then 1 else (lim now - F) / P + 1) := Lib.hid rfl
  by_cases h : cl now < 4611686018427387902
  all_goals
    simp only [h, if_true, if_false] at hlim
    rw [hlim] at HC hl
    by_cases h1 : F > lim now
    · rw [hlim] at h1
      rw [if_pos h1] at HC
      rw [HC.out]
      clear hlim
      go_enter Try.func86, Try.ntmps86
      go_wp2_with (go_at_call 58; refine (clamp_any _ _).mono ?_; rintro e w' ⟨rfl, rfl⟩)
      all_goals
        go_ret
        exact ⟨rfl, (Below.refl _ _).alloc (Nat.le_refl _) _⟩
    · rw [hlim] at h1
      rw [if_neg h1] at HC
      by_cases h2 : P = 0
      · subst h2
        rw [if_pos rfl] at HC
        rw [HC.out]
        clear hlim
        go_enter Try.func86, Try.ntmps86
        go_wp2_with (go_at_call 58; refine (clamp_any _ _).mono ?_; rintro e w' ⟨rfl, rfl⟩)
        all_goals
          go_ret
          exact ⟨rfl, (Below.refl _ _).alloc (Nat.le_refl _) _⟩
      · rw [if_neg h2] at HC
        have hz : ((P : Int) == 0) = false := by simpa using h2
        have hd := ediv_bd (a := (if cl now < 4611686018427387902 then cl now else 4611686018427387902) - F) (b := P) (by omega) (by omega)
        simp only [h, if_true, if_false] at hd
        rw [HC.out]
        clear hlim
        go_enter Try.func86, Try.ntmps86
        go_wp2_with (go_at_call 58; refine (clamp_any _ _).mono ?_; rintro e w' ⟨rfl, rfl⟩)
        all_goals
          go_quiet ((go_at_call 88; exact quiet_left (gap_any _ _ _ (by omega) (by omega))))
          go_wp2
          go_ret
          refine ⟨ret_int ?_, below_drewN ((Below.refl _ _).alloc (Nat.le_refl _) _) _⟩
          first
            | rfl
            | (unfold wrap64; omega)
            | (rw [show cl now = 4611686018427387902 by omega]; unfold wrap64; omega)
set_option maxHeartbeats 2000000 in
theorem nth_any (F P n : Int) (w : World) (hF : -4611686018427387903 ≤ F ∧ F ≤ 4611686018427387903) (hP : 0 ≤ P ∧ P ≤ 4611686018427387903) (hn : -9223372036854775808 ≤ n ∧ n ≤ 9223372036854775807) :
    Calls Try.prog 87 #[.agg #[.int .i64 F, .int .i64 P], .int .i64 n] w fun e w' => e = .returned (.int .i64 (nthv F P n)) ∧ Below w.heap.size w w' := by
  by_cases h0 : n < 0
  · have e : nthv F P n = 4611686018427387903 := by unfold nthv; rw [if_pos (.inl h0)]
    rw [e]
    clear e
    go_enter Try.func87, Try.ntmps87
    go_wp2
    go_ret
    exact ⟨rfl, (Below.refl _ _).alloc (Nat.le_refl _) _⟩
  by_cases hz : P = 0
  · subst hz
    by_cases h1 : 0 < n
    · have e : nthv F 0 n = 4611686018427387903 := by unfold nthv; rw [if_pos (.inr ⟨h1, rfl⟩)]
      rw [e]
      clear e
      go_enter Try.func87, Try.ntmps87
      go_wp2
      go_ret
      exact ⟨rfl, (Below.refl _ _).alloc (Nat.le_refl _) _⟩
    · obtain rfl : n = 0 := by omega
      have e : nthv F 0 0 = F := by unfold nthv; simp
      rw [e]
      clear e
      go_enter Try.func87, Try.ntmps87
      go_wp2
      go_quiet (fail)
      go_wp2
      go_ret
      exact ⟨ret_int (by simp only [IntKind.wrap_u64]; unfold wrap64; omega), below_drewN ((Below.refl _ _).alloc (Nat.le_refl _) _) _⟩
  have hz' : ((P : Int) == 0) = false := by simpa using hz
  have hd := ediv_bd (a := 4611686018427387903 - F) (b := P) (by omega) (by omega)
  by_cases hbig : (4611686018427387903 - F) / P < n
  · have e : nthv F P n = 4611686018427387903 := by
      have hA : ¬ (n < 0 ∨ (n > 0 ∧ P = 0)) := by omega
      unfold nthv
      rw [if_neg hA, if_pos (show P > 0 ∧ n > (4611686018427387903 - F) / P by omega)]
    rw [e]
    clear e
    have hb2 : decide ((4611686018427387903 - F) / P < n) = true := decide_eq_true hbig
    have h1 : 0 < n := by omega
    have h2 : 0 < P := by omega
    go_enter Try.func87, Try.ntmps87
    go_wp2
    go_quiet ((go_at_call 88; exact quiet_left (gap_any _ _ _ (by omega) (by omega))))
    go_wp2
    go_ret
    exact ⟨rfl, below_drewN ((Below.refl _ _).alloc (Nat.le_refl _) _) _⟩
  · have hm := mul_le_of_div (n := n) (P := P) (G := 4611686018427387903 - F) (by omega) (by omega) (by omega)
    have e : nthv F P n = F + n * P := by
      have hA : ¬ (n < 0 ∨ (n > 0 ∧ P = 0)) := by omega
      unfold nthv
      rw [if_neg hA, if_neg (show ¬ (P > 0 ∧ n > (4611686018427387903 - F) / P) by omega)]
    rw [e]
    clear e
    have hb2 : decide ((4611686018427387903 - F) / P < n) = false := decide_eq_false hbig
    have h2 : 0 < P := by omega
    by_cases h1 : 0 < n
    all_goals
      go_enter Try.func87, Try.ntmps87
      go_wp2
      go_quiet ((go_at_call 88; exact quiet_left (gap_any _ _ _ (by omega) (by omega))))
      go_wp2
      go_ret
      exact ⟨ret_int (by simp only [IntKind.wrap_u64]; unfold wrap64; generalize n * P = y at *; omega), below_drewN ((Below.refl _ _).alloc (Nat.le_refl _) _) _⟩
end Go.Proofs.Ytdplpehphjgffaa.Fw
