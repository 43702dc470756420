/- The contracts of spec's numbers and of its reference's: which specs may be, a spec's time, a time's spec. No condition. -/
import Derived.Test.YtemellkcbbhlcaaDoorKtq
set_option linter.unusedVariables false
set_option linter.unusedSimpArgs false
namespace Go.Proofs.YtemellkcbbhlcaaDoor.Sp
open Go.RowKit Go.Proofs.YtemellkcbbhlcaaDoor.Aid Go.Proofs.YtemellkcbbhlcaaDoor.Kt
attribute [local go_sem] max2_int min2_int max_two min_two
/-- may a spec be? -/
def Rt (s n : Int) : Prop := 0 ≤ s ∧ 0 ≤ n ∧ n ≤ 999999999
theorem not_rt {s n : Int} (h : ¬ Rt s n) : s < 0 ∨ (0 ≤ s ∧ n < 0) ∨ (0 ≤ s ∧ 0 ≤ n ∧ 999999999 < n) := by
  unfold Rt at h; omega
/-- a spec's time -/
def tm (s n : Int) : Int := ad (mul 1000000000 s) n
/-- the time that is told, from now on -/
def tf (t : Int) : Int := if cl t < 0 then 0 else cl t
theorem tf_bd (t : Int) : 0 ≤ tf t ∧ tf t ≤ 4611686018427387903 := by have := cl_bd t; unfold tf; split <;> omega
set_option maxHeartbeats 1000000 in
theorem right_yes (s n : Int) (h : Rt s n) (w : World) : Calls Tryd.prog 14 #[.agg #[.int .i64 s, .int .i64 n]] w fun e w' => e = .returned (.bool true) ∧ Below w.heap.size w w' := by
  obtain ⟨h1, h2, h3⟩ := h
  go_enter Tryd.func14, Tryd.ntmps14
  go_wp2
  first
    | (go_ret; exact ⟨ret_bool (by first | rfl | simp; omega), (Below.refl _ _).alloc (Nat.le_refl _) _⟩)
    | (go_quiet (fail); go_wp2; go_ret; exact ⟨ret_bool (by first | rfl | simp; omega), below_drewN ((Below.refl _ _).alloc (Nat.le_refl _) _) _⟩)
set_option maxHeartbeats 1000000 in
theorem right_no (s n : Int) (h : ¬ Rt s n) (w : World) : Calls Tryd.prog 14 #[.agg #[.int .i64 s, .int .i64 n]] w fun e w' => e = .returned (.bool false) ∧ Below w.heap.size w w' := by
  rcases not_rt h with h1 | ⟨h1, h2⟩ | ⟨h1, h2, h3⟩
  all_goals
    clear h
    go_enter Tryd.func14, Tryd.ntmps14
    go_wp2
    first
      | (go_ret; exact ⟨ret_bool (by first | rfl | simp; omega), (Below.refl _ _).alloc (Nat.le_refl _) _⟩)
      | (go_quiet (fail); go_wp2; go_ret; exact ⟨ret_bool (by first | rfl | simp; omega), below_drewN ((Below.refl _ _).alloc (Nat.le_refl _) _) _⟩)
set_option maxHeartbeats 1000000 in
theorem time_yes (s n : Int) (hs : s ≤ 9223372036854775807) (h : Rt s n) (w : World) : Calls Tryd.prog 13 #[.agg #[.int .i64 s, .int .i64 n]] w fun e w' => e = .returned (.tuple #[.int .i64 (tm s n), .int .i64 0]) ∧ Below w.heap.size w w' := by
  have H := Lib.hid h
  have h1 := h.1
  clear h
  have hb0 := Blk.new w 23 #[.int .i64 s, .int .i64 n]
  go_enter Tryd.func13, Tryd.ntmps13
  go_wp2_with fail
  refine (right_yes s n H.out _).mono ?_
  rintro e W1 ⟨rfl, b1⟩
  have hb1 := hb0.below b1 hb0.lt
  have B1 : Below w.heap.size w W1 := ((Below.refl w.heap.size w).alloc (Nat.le_refl _) _).trans (b1.mono (by simp))
  clear hb0 b1
  generalize w.heap.size = P at hb1 ⊢
  have q0 : W1.cell? ⟨P, 0, none⟩ = some (.int .i64 s) := hb1.cell 0
  have q1 : W1.cell? ⟨P, 1, none⟩ = some (.int .i64 n) := hb1.cell 1
  go_wp2_with fail
  go_quiet ((first | (go_at_call 48; exact quiet_left (mul_any _ _ _ (by omega) (by omega))) | (go_at_call 47; exact quiet_left (add_any _ _ _))))
  go_wp2
  go_ret2
  exact ⟨rfl, below_drewN B1 _⟩
set_option maxHeartbeats 1000000 in
theorem time_no (s n : Int) (h : ¬ Rt s n) (w : World) : Calls Tryd.prog 13 #[.agg #[.int .i64 s, .int .i64 n]] w fun e w' => e = .returned (.tuple #[.int .i64 0, .int .i64 2]) ∧ Below w.heap.size w w' := by
  have H := Lib.hid h
  clear h
  go_enter Tryd.func13, Tryd.ntmps13
  go_wp2_with fail
  refine (right_no s n H.out _).mono ?_
  rintro e W1 ⟨rfl, b1⟩
  have B1 : Below w.heap.size w W1 := ((Below.refl w.heap.size w).alloc (Nat.le_refl _) _).trans (b1.mono (by simp))
  go_wp2_with fail
  go_ret2
  exact ⟨rfl, B1⟩
set_option maxHeartbeats 1000000 in
theorem of_any (t : Int) (w : World) : Calls Tryd.prog 17 #[.int .i64 t] w fun e w' => e = .returned (.agg #[.int .i64 (tf t / 1000000000), .int .i64 (tf t % 1000000000)]) ∧ Below w.heap.size w w' := by
  have hc := cl_bd t
  obtain ⟨x, hx⟩ : ∃ x, tf t = x := ⟨_, rfl⟩
  have hb := tf_bd t
  rw [hx] at hb ⊢
  have e1 : x = if cl t < 0 then 0 else cl t := hx.symm
  have H := Lib.hid e1
  clear e1 hx
  go_enter Tryd.func17, Tryd.ntmps17
  go_upto_region 1 with fail
  go_cut [0] (fun s0 wx => s0 = .int .i64 x ∧ wx = w.alloc (.cells #[.int .i64 0, .int .i64 0] 23))
  case first =>
    go_wp2_with fail
    refine (clamp_any _ _).mono ?_
    rintro e W1 ⟨rfl, rfl⟩
    go_wp2_with fail
    all_goals
      go_meet
      exact ⟨congrArg (Value.int .i64) (by rw [H.out]; split <;> omega), rfl⟩
  case rest =>
    obtain ⟨rfl, rfl⟩ := hcut
    go_wp2_with fail
    exact bodyPost_ret (v := .agg #[.int .i64 (x / 1000000000), .int .i64 (x % 1000000000)]) (by simp [results, Tryd.results17, go_sem]) rfl ⟨rfl, (Below.refl _ _).alloc (Nat.le_refl _) _⟩
set_option maxHeartbeats 1000000 in
theorem rtime_any (s n : Int) (hs : -9223372036854775808 ≤ s ∧ s ≤ 9223372036854775807) (w : World) : Calls Tryd.prog 16 #[.agg #[.int .i64 s, .int .i64 n]] w fun e w' => e = .returned (.int .i64 (tm s n)) ∧ Below w.heap.size w w' := by
  go_enter Tryd.func16, Tryd.ntmps16
  go_wp2
  go_quiet ((first | (go_at_call 50; exact quiet_left (rmul_any _ _ _ (by omega) (by omega))) | (go_at_call 49; exact quiet_left (radd_any _ _ _))))
  go_wp2
  go_ret
  exact ⟨rfl, below_drewN ((Below.refl _ _).alloc (Nat.le_refl _) _) _⟩
end Go.Proofs.YtemellkcbbhlcaaDoor.Sp
