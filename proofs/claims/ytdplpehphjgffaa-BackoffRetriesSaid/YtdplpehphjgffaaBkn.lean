/- The walk of the statement BackoffRetries, at plans and numbers that may not be, and at many acts. No condition. -/
import Derived.Test.YtdplpehphjgffaaBkm
set_option linter.unusedVariables false
set_option linter.unusedSimpArgs false
namespace Go.Proofs.Ytdplpehphjgffaa.Bk
open Go.RowKit Go.Proofs.Ytdplpehphjgffaa.Aid Go.Proofs.Ytdplpehphjgffaa.Kt
attribute [local go_sem] max2_int min2_int max_two min_two
set_option maxHeartbeats 4000000 in
set_option maxRecDepth 100000 in
theorem retries_nil (p : Pl) (most : Int) (bad : ¬ p.ok ∨ most < 1 ∨ 1000 < most) (A : Option Addr) (N cap : Nat) (hN : N ≤ 60) (w : World) :
    Calls Try.prog 5 #[.agg #[.int .i64 p.first, .int .i64 p.factor, .int .i64 p.great], .int .i64 most, .slice A N cap] w fun e w' => e = .returned (.bool true) ∧ Below w.heap.size w w' := by
  have HB := Lib.hid bad
  have hsplit : (¬ p.ok) ∨ (p.ok ∧ most < 1) ∨ (p.ok ∧ 1 ≤ most ∧ 1000 < most) := by
    by_cases h : p.ok
    · rcases bad with h1 | h1 | h1
      · exact absurd h h1
      · exact .inr (.inl ⟨h, h1⟩)
      · exact .inr (.inr ⟨h, by omega, h1⟩)
    · exact .inl h
  clear bad
  obtain ⟨P, hP⟩ : ∃ P, P = w.heap.size := ⟨_, rfl⟩
  have HE := Env.start p w
  rw [← hP] at HE
  have HP := Lib.hid hP
  rcases hsplit with ho | ⟨ho, h1⟩ | ⟨ho, h1, h2⟩
  all_goals
    have HO := Lib.hid ho
    clear ho
    go_enter Try.func5, Try.ntmps5
    go_wp2_with fail
    rw [← hP]
    clear hP
    refine (fixed_any _).mono ?_
    rintro e w1 ⟨rfl, b1⟩
    have H1 := HE.call b1
    clear HE b1
    obtain ⟨q0, q1, q2⟩ := H1.cells
    go_wp2_with fail
    refine (new_bad p most HB.out _).mono ?_
    rintro e w2 ⟨rfl, b2⟩
    have H2 := H1.call b2
    clear H1 b2 q0 q1 q2
    obtain ⟨q0, q1, q2⟩ := H2.cells
    go_wp2_with fail
    first
      | refine (lright_yes p HO.out _).mono ?_
      | refine (lright_no p HO.out _).mono ?_
    rintro e w3 ⟨rfl, b3⟩
    have H3 := H2.call b3
    go_wp2_with fail
    go_ret
    have b := H3.b
    rw [HP.out] at b
    exact ⟨rfl, b⟩
set_option maxHeartbeats 2000000 in
theorem retries_big (p : Pl) (most : Int) (A : Option Addr) (N cap : Nat) (hN : 60 < N) (hm : N ≤ maxLen) (w : World) :
    Calls Try.prog 5 #[.agg #[.int .i64 p.first, .int .i64 p.factor, .int .i64 p.great], .int .i64 most, .slice A N cap] w fun e w' => e = .returned (.bool true) ∧ Below w.heap.size w w' := by
  unfold maxLen at hm
  obtain ⟨P, hP⟩ : ∃ P, P = w.heap.size := ⟨_, rfl⟩
  have HE := Env.start p w
  rw [← hP] at HE
  have HP := Lib.hid hP
  go_enter Try.func5, Try.ntmps5
  go_wp2_with fail
  rw [← hP]
  clear hP
  refine (fixed_any _).mono ?_
  rintro e w1 ⟨rfl, b1⟩
  have H1 := HE.call b1
  go_wp2_with fail
  go_ret
  have b := H1.b
  rw [HP.out] at b
  exact ⟨rfl, b⟩
theorem retries_any (cs : Array Value) (h : Leaf.Fits [.int .i64, .int .i64, .int .i64] cs.toList) (most : Int) (hmo : -9223372036854775808 ≤ most ∧ most ≤ 9223372036854775807) (A : Option Addr) (N cap : Nat) (w : World) (hr : Leaf.Row w [.int .u8, .int .i64] A N) :
    Calls Try.prog 5 #[.agg cs, .int .i64 most, .slice A N cap] w fun e w' => e = .returned (.bool true) ∧ Below w.heap.size w w' := by
  obtain ⟨p, rfl, hwf⟩ := open_pl h
  by_cases hb : 60 < N
  · exact retries_big p most A N cap hb (len_of hr) w
  · by_cases ok : p.ok ∧ 1 ≤ most ∧ most ≤ 1000
    · exact retries_ok p ok.1 most ok.2 A N cap (by omega) w (deeds_of hr)
    · refine retries_nil p most ?_ A N cap (by omega) w
      by_cases h1 : p.ok
      · have : ¬ (1 ≤ most ∧ most ≤ 1000) := fun h => ok ⟨h1, h⟩
        omega
      · exact .inl h1
end Go.Proofs.Ytdplpehphjgffaa.Bk
