/- The fixed facts of layer 1 hold, with memory as it was below what is new. No condition. -/
import Derived.Test.YthginjllhlfadaaKtq
set_option linter.unusedVariables false
set_option linter.unusedSimpArgs false
namespace Go.Proofs.Ythginjllhlfadaa.Kt
open Go.RowKit Go.Proofs.Ythginjllhlfadaa.Aid
set_option maxHeartbeats 1000000 in
set_option maxRecDepth 100000 in
theorem fixed_any (w : World) : Calls Try.prog 28 #[] w fun e w' => e = .returned (.bool true) ∧ Below w.heap.size w w' := by
  have e1 : ad 4611686018427387903 (-5) = 4611686018427387903 := by decide
  have e2 : ad 2 3 = 5 := by decide
  have e3 : sb 2 5 = -3 := by decide
  have e4 : mul (-3) 4 = -12 := by decide
  have e5 : mul 1099511627776 1099511627776 = 4611686018427387903 := by decide
  have e6 : nev 4611686018427387903 = true := by decide
  have e7 : unt 7 5 = 0 := by decide
  have e8 : unt 5 7 = 2 := by decide
  have e9 : btw 3 1 9 = 3 := by decide
  have e10 : firstOf [4, 2, 9] = 2 := by decide
  have F3 : ∀ W : World, Calls Try.prog 39 #[.slice (some ⟨W.heap.size, 0, none⟩) 3 3] (W.alloc (.cells #[.int .i64 4, .int .i64 2, .int .i64 9] 3)) fun e w' => e = .returned (.int .i64 2) ∧ W.alloc (.cells #[.int .i64 4, .int .i64 2, .int .i64 9] 3) = w' := fun W => by
    have h := first_any ⟨W.heap.size, 0, none⟩ [4, 2, 9] 3 3 (W.alloc (.cells #[.int .i64 4, .int .i64 2, .int .i64 9] 3)) rfl (by omega) (fun k hk => by
      have hb := (Blk.new W 3 #[.int .i64 4, .int .i64 2, .int .i64 9]).cell k
      have ha : (Addr.add ⟨W.heap.size, 0, none⟩ k) = ⟨W.heap.size, k, none⟩ := by
        unfold Addr.add; split
        · next h => rw [h]
        · simp
      rw [ha, hb]
      have : k = 0 ∨ k = 1 ∨ k = 2 := by omega
      rcases this with rfl | rfl | rfl <;> rfl)
    rwa [e10] at h
  have HF := Lib.hid F3
  clear F3
  go_enter Try.func28, Try.ntmps28
  go_wp2_with (first
    | (go_at_call 31; refine (add_any _ _ _).mono ?_; rintro e w' ⟨rfl, rfl⟩)
    | (go_at_call 33; refine (sub_any _ _ _).mono ?_; rintro e w' ⟨rfl, rfl⟩)
    | (go_at_call 34; refine (mul_any _ _ _ (by omega) (by omega)).mono ?_; rintro e w' ⟨rfl, rfl⟩)
    | (go_at_call 36; refine (never_any _ _).mono ?_; rintro e w' ⟨rfl, rfl⟩)
    | (go_at_call 37; refine (until_any _ _ _).mono ?_; rintro e w' ⟨rfl, rfl⟩)
    | (go_at_call 38; refine (between_any _ _ _ _).mono ?_; rintro e w' ⟨rfl, rfl⟩)
    | (go_at_call 39; ((with_reducible refine (first_none none 0 _).mono ?_); rintro e w' ⟨rfl, rfl⟩))
    | (go_at_call 39; refine (HF.out _).mono ?_; rintro e w' ⟨rfl, rfl⟩))
  go_ret
  exact ⟨rfl, (Below.refl _ _).alloc (Nat.le_refl _) _⟩
end Go.Proofs.Ythginjllhlfadaa.Kt
