/- The walk of the statement DevicePlays, joined: for any numbers and any acts it returns true. No condition. -/
import Derived.Test.YthginjllhlfadaaDevp
import Derived.Test.YthginjllhlfadaaLeaf
set_option linter.unusedVariables false
set_option linter.unusedSimpArgs false
namespace Go.Proofs.Ythginjllhlfadaa.Dv
open Go.RowKit Go.Proofs.Ythginjllhlfadaa.Aid Go.Proofs.Ythginjllhlfadaa.Kt
set_option maxHeartbeats 2000000 in
set_option maxRecDepth 100000 in
theorem plays_big (L H : Int) (A : Option Addr) (n cap : Nat) (w : World) (hn : 100 < n) (hm : n ≤ maxLen) :
    Calls Try.prog 11 #[.int .i64 L, .int .i64 H, .slice A n cap] w fun e w' => e = .returned (.bool true) ∧ Below w.heap.size w w' := by
  unfold maxLen at hm
  go_enter Try.func11, Try.ntmps11
  go_wp2_with fail
  refine (fixed_any _).mono ?_
  rintro e w0 ⟨rfl, b0⟩
  go_wp2_with fail
  go_ret
  exact ⟨rfl, b0⟩
set_option maxHeartbeats 2000000 in
set_option maxRecDepth 100000 in
theorem plays_zero (L H : Int) (hL : 0 ≤ L) (hLH : L ≤ H) (hH : 1 ≤ H) (hH2 : H ≤ 1099511627776) (A : Option Addr) (cap : Nat) (w : World) :
    Calls Try.prog 11 #[.int .i64 L, .int .i64 H, .slice A 0 cap] w fun e w' => e = .returned (.bool true) ∧ Below w.heap.size w w' := by
  go_enter Try.func11, Try.ntmps11
  go_wp2_with fail
  refine (fixed_any _).mono ?_
  rintro e w0 ⟨rfl, b0⟩
  go_wp2_with fail
  refine (new_ok L H _ hL hLH hH hH2).mono ?_
  rintro e w1 ⟨rfl, h1, b1, z1⟩
  have B1 : Below w.heap.size w w1 := b0.trans (b1.mono b0.size)
  clear b0 b1
  go_wp2_with fail
  go_loop [73] (fun i => i = .int .i64 0) (fun _ => 0)
  case atStart => rfl
  case round =>
    obtain rfl := hrel
    go_wp2_with fail
    go_ret
    exact ⟨rfl, B1⟩
set_option maxHeartbeats 4000000 in
set_option maxRecDepth 100000 in
theorem plays_bad (L H : Int) (hbad : L < 0 ∨ H < L ∨ H < 1 ∨ 1099511627776 < H) (A : Option Addr) (n cap : Nat) (w : World) (hn : n ≤ 100) :
    Calls Try.prog 11 #[.int .i64 L, .int .i64 H, .slice A n cap] w fun e w' => e = .returned (.bool true) ∧ Below w.heap.size w w' := by
  have HB := Lib.hid hbad
  have hb2 : (decide (L < 0) || decide (H < L) || decide (H < 1) || decide (1099511627776 < H)) = true := by simp; omega
  by_cases h1 : L < 0 <;> by_cases h2 : H < L <;> by_cases h3 : H < 1 <;> by_cases h4 : 1099511627776 < H
  all_goals first
    | (exfalso; omega; done)
    | (go_enter Try.func11, Try.ntmps11
       go_wp2_with fail
       refine (fixed_any _).mono ?_
       rintro e w0 ⟨rfl, b0⟩
       go_wp2_with fail
       refine (new_bad L H _ HB.out).mono ?_
       rintro e w1 ⟨rfl, rfl⟩
       go_wp2_with fail
       refine (armed_none _).mono ?_
       rintro e w1 ⟨rfl, rfl⟩
       go_wp2_with fail
       refine (pass_none _ _).mono ?_
       rintro e w1 ⟨rfl, n1, rfl⟩
       go_wp2_with fail
       refine (latched_none _).mono ?_
       rintro e w1 ⟨rfl, rfl⟩
       go_wp2_with fail
       go_ret
       exact ⟨rfl, below_drewN b0 _⟩)
theorem plays_any (L : Int) (hL : -9223372036854775808 ≤ L ∧ L ≤ 9223372036854775807) (H : Int) (hH : -9223372036854775808 ≤ H ∧ H ≤ 9223372036854775807) (A : Option Addr) (n cap : Nat) (w : World) (hr : Leaf.Row w [.int .u8, .int .i64, .int .i64] A n) :
    Calls Try.prog 11 #[.int .i64 L, .int .i64 H, .slice A n cap] w fun e w' => e = .returned (.bool true) ∧ Below w.heap.size w w' := by
  by_cases hn : 100 < n
  · rcases hr with rfl | ⟨x, E, _, _, hm, _⟩
    · omega
    · exact plays_big L H A n cap w hn hm
  by_cases hbad : L < 0 ∨ H < L ∨ H < 1 ∨ 1099511627776 < H
  · exact plays_bad L H hbad A n cap w (by omega)
  rcases hr with rfl | ⟨x, E, rfl, hx, hm, hE⟩
  · exact plays_zero L H (by omega) (by omega) (by omega) (by omega) A cap w
  have each : ∀ k, k < n → ∃ a : Deed, a.ok ∧ DeedAt w (x.add (k * 3)) a := by
    intro k hk
    obtain ⟨hf, hc⟩ := hE k hk
    obtain ⟨k0, r0, e0, w0, f0⟩ := hf.int
    obtain ⟨k1, r1, rfl, w1, f1⟩ := f0.int
    obtain ⟨k2, r2, rfl, w2, f2⟩ := f1.int
    obtain rfl := f2.done
    have c := fun j hj v hv => Leaf.cell_of (c := 3) (j := j) (v := v) hc hj hv
    refine ⟨⟨k0, k1, k2⟩, ⟨bounds_u8 w0, bounds_i64 w1, bounds_i64 w2⟩, ?_, ?_, ?_⟩
    · exact c 0 (by decide) _ (by rw [e0]; rfl)
    · exact c 1 (by decide) _ (by rw [e0]; rfl)
    · exact c 2 (by decide) _ (by rw [e0]; rfl)
  exact plays_some L H (by omega) (by omega) (by omega) (by omega) x n cap (fun k => if hk : k < n then (each k hk).choose else ⟨0, 0, 0⟩) w (by omega) hx (fun k hk => by
    simp only [hk, dif_pos]
    exact (each k hk).choose_spec)
end Go.Proofs.Ythginjllhlfadaa.Dv
