/- The contracts of backoff's plain functions: which plans may be, and the wait behind one. No condition but the plan's own bounds. -/
import Derived.Test.YtdplpehphjgffaaBkp
import Derived.Test.YtdplpehphjgffaaKtr
set_option linter.unusedVariables false
set_option linter.unusedSimpArgs false
namespace Go.Proofs.Ytdplpehphjgffaa.Bk
open Go.RowKit Go.Proofs.Ytdplpehphjgffaa.Aid Go.Proofs.Ytdplpehphjgffaa.Kt
attribute [local go_sem] max2_int min2_int max_two min_two
def Pl.wf (p : Pl) : Prop := (-9223372036854775808 ≤ p.first ∧ p.first ≤ 9223372036854775807) ∧ (-9223372036854775808 ≤ p.factor ∧ p.factor ≤ 9223372036854775807) ∧ (-9223372036854775808 ≤ p.great ∧ p.great ≤ 9223372036854775807)
theorem not_ok {p : Pl} (h : ¬ p.ok) : p.first < 1 ∨ (1 ≤ p.first ∧ 1099511627776 < p.first) ∨ (1 ≤ p.first ∧ p.first ≤ 1099511627776 ∧ p.factor < 16) ∨ (1 ≤ p.first ∧ p.first ≤ 1099511627776 ∧ 16 ≤ p.factor ∧ 256 < p.factor) ∨
    (1 ≤ p.first ∧ p.first ≤ 1099511627776 ∧ 16 ≤ p.factor ∧ p.factor ≤ 256 ∧ p.great < p.first) ∨ (1 ≤ p.first ∧ p.first ≤ 1099511627776 ∧ 16 ≤ p.factor ∧ p.factor ≤ 256 ∧ p.first ≤ p.great ∧ 1125899906842624 < p.great) := by
  apply Decidable.byContradiction
  intro hc
  exact h ⟨by omega, by omega, by omega⟩
set_option maxHeartbeats 1000000 in
theorem right_yes (p : Pl) (ok : p.ok) (w : World) : Calls Try.prog 14 #[.agg #[.int .i64 p.first, .int .i64 p.factor, .int .i64 p.great]] w fun e w' => e = .returned (.bool true) ∧ Below w.heap.size w w' := by
  obtain ⟨⟨a1, a2⟩, ⟨b1, b2⟩, ⟨c1, c2⟩⟩ := ok
  go_enter Try.func14, Try.ntmps14
  go_wp2
  first
    | (go_ret; exact ⟨rfl, (Below.refl _ _).alloc (Nat.le_refl _) _⟩)
    | (go_quiet (fail); go_wp2; go_ret; exact ⟨rfl, below_drewN ((Below.refl _ _).alloc (Nat.le_refl _) _) _⟩)
set_option maxHeartbeats 2000000 in
theorem right_no (p : Pl) (no : ¬ p.ok) (w : World) : Calls Try.prog 14 #[.agg #[.int .i64 p.first, .int .i64 p.factor, .int .i64 p.great]] w fun e w' => e = .returned (.bool false) ∧ Below w.heap.size w w' := by
  have hn := not_ok no
  clear no
  rcases hn with a1 | ⟨a1, a2⟩ | ⟨a1, a2, b1⟩ | ⟨a1, a2, b1, b2⟩ | ⟨a1, a2, b1, b2, c1⟩ | ⟨a1, a2, b1, b2, c1, c2⟩
  all_goals
    go_enter Try.func14, Try.ntmps14
    go_wp2
    first
      | (go_ret; exact ⟨ret_bool (by first | rfl | exact decide_eq_false (by omega)), (Below.refl _ _).alloc (Nat.le_refl _) _⟩)
      | (go_quiet (fail); go_wp2; go_ret; exact ⟨ret_bool (by first | rfl | exact decide_eq_false (by omega)), below_drewN ((Below.refl _ _).alloc (Nat.le_refl _) _) _⟩)
set_option maxHeartbeats 1000000 in
theorem next_any (p : Pl) (ok : p.ok) (x : Int) (hx : 1 ≤ x ∧ x ≤ p.great) (w : World) : Calls Try.prog 55 #[.agg #[.int .i64 p.first, .int .i64 p.factor, .int .i64 p.great], .int .i64 x] w fun e w' => e = .returned (.int .i64 (nx p x)) ∧ Below w.heap.size w w' := by
  have hm := mul_bd p ok x hx
  have hc := ok.c
  have ha := ok.a
  have hb := ok.b
  go_enter Try.func55, Try.ntmps55
  go_wp2
  all_goals
    go_ret
    exact ⟨ret_int (by unfold nx; generalize x * p.factor = y at *; omega), (Below.refl _ _).alloc (Nat.le_refl _) _⟩
end Go.Proofs.Ytdplpehphjgffaa.Bk
