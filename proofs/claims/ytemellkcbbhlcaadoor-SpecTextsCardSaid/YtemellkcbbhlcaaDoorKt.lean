/- The contracts of ktime's and of its reference's functions: what each returns for any numbers, with memory as it was. No condition. -/
import Derived.Test.YtemellkcbbhlcaaDoorProg
import Derived.Test.YtemellkcbbhlcaaDoorAid
set_option linter.unusedVariables false
set_option linter.unusedSimpArgs false
namespace Go.Proofs.YtemellkcbbhlcaaDoor.Kt
open Go.RowKit Go.Proofs.YtemellkcbbhlcaaDoor.Aid
attribute [local go_sem] max2_int min2_int max_two min_two
/-- the time that a number counts as -/
def cl (x : Int) : Int := if x > 4611686018427387903 then 4611686018427387903 else if x < -4611686018427387903 then -4611686018427387903 else x
theorem cl_bd (x : Int) : -4611686018427387903 ≤ cl x ∧ cl x ≤ 4611686018427387903 := by unfold cl; omega
theorem cl_mono {x y : Int} (h : x ≤ y) : cl x ≤ cl y := by unfold cl; omega
theorem cl_in {x : Int} (h : -4611686018427387903 ≤ x) (k : x ≤ 4611686018427387903) : cl x = x := by unfold cl; omega
def ad (a b : Int) : Int := if a ≥ 4611686018427387903 then 4611686018427387903 else cl (cl a + cl b)
def sb (a b : Int) : Int := if a ≥ 4611686018427387903 then 4611686018427387903 else cl (cl a - cl b)
theorem ad_bd (a b : Int) : -4611686018427387903 ≤ ad a b ∧ ad a b ≤ 4611686018427387903 := by unfold ad cl; omega
theorem sb_bd (a b : Int) : -4611686018427387903 ≤ sb a b ∧ sb a b ≤ 4611686018427387903 := by unfold sb cl; omega
def nev (a : Int) : Bool := decide (4611686018427387903 ≤ a)
def unt (now t : Int) : Int := if t ≥ 4611686018427387903 then 4611686018427387903 else if sb t now < 0 then 0 else sb t now
def btw (low t high : Int) : Int := if (if cl t < cl low then cl low else cl t) > cl high then cl high else if cl t < cl low then cl low else cl t

set_option maxHeartbeats 400000 in
theorem clamp_any (a : Int) (w : World) : Calls Tryd.prog 51 #[.int .i64 a] w fun e w' => e = .returned (.int .i64 (cl a)) ∧ w = w' := by
  go_enter Tryd.func51, Tryd.ntmps51
  go_wp2
  all_goals
    go_ret
    exact ⟨ret_int (by unfold cl; omega), rfl⟩
set_option maxHeartbeats 400000 in
theorem never_any (a : Int) (w : World) : Calls Tryd.prog 72 #[.int .i64 a] w fun e w' => e = .returned (.bool (nev a)) ∧ w = w' := by
  go_enter Tryd.func72, Tryd.ntmps72
  go_wp2
  go_ret
  exact ⟨ret_bool (by unfold nev; rfl), rfl⟩
set_option maxHeartbeats 400000 in
theorem rclamp_any (a : Int) (w : World) : Calls Tryd.prog 75 #[.int .i64 a] w fun e w' => e = .returned (.int .i64 (cl a)) ∧ w = w' := by
  go_enter Tryd.func75, Tryd.ntmps75
  go_wp2
  all_goals
    go_ret
    exact ⟨ret_int (by unfold cl; omega), rfl⟩
set_option maxHeartbeats 400000 in
theorem add_any (a b : Int) (w : World) : Calls Tryd.prog 47 #[.int .i64 a, .int .i64 b] w fun e w' => e = .returned (.int .i64 (ad a b)) ∧ w = w' := by
  have h1 := cl_bd a
  have h2 := cl_bd b
  by_cases h : 4611686018427387903 ≤ a
  · have hn : nev a = true := decide_eq_true h
    go_enter Tryd.func47, Tryd.ntmps47
    go_wp2_with (go_at_call 72; refine (never_any _ _).mono ?_; rintro e w' ⟨rfl, rfl⟩)
    go_ret
    exact ⟨ret_int (by unfold ad; omega), rfl⟩
  · have hn : nev a = false := decide_eq_false h
    go_enter Tryd.func47, Tryd.ntmps47
    go_wp2_with (first
      | (go_at_call 72; refine (never_any _ _).mono ?_; rintro e w' ⟨rfl, rfl⟩)
      | (go_at_call 51; refine (clamp_any _ _).mono ?_; rintro e w' ⟨rfl, rfl⟩))
    go_ret
    exact ⟨ret_int (by unfold ad; omega), rfl⟩
end Go.Proofs.YtemellkcbbhlcaaDoor.Kt
