/- The fixed facts of layer 12 hold; the walk of the statement DeviceWakes: for any numbers it returns true. No condition. -/
import Derived.Test.YthginjllhlfadaaDev
set_option linter.unusedVariables false
set_option linter.unusedSimpArgs false
namespace Go.Proofs.Ythginjllhlfadaa.Dv
open Go.RowKit Go.Proofs.Ythginjllhlfadaa.Aid Go.Proofs.Ythginjllhlfadaa.Kt
set_option maxHeartbeats 2000000 in
set_option maxRecDepth 100000 in
theorem fixed_any (w : World) : Calls Try.prog 22 #[] w fun e w' => e = .returned (.bool true) ∧ Below w.heap.size w w' := by
  have e1 : Dev.when ⟨5, 100, 0, false, false, false⟩ 10 12 = 15 := by decide
  have e2 : Dev.when ⟨5, 100, 15, true, false, false⟩ 10 11 = 15 := by decide
  have E2 := Lib.hid e2
  clear e2
  go_enter Try.func22, Try.ntmps22
  go_wp2_with fail
  refine (new_ok 5 100 _ (by omega) (by omega) (by omega) (by omega)).mono ?_
  rintro e w1 ⟨rfl, h1, b1, z1⟩
  go_wp2_with fail
  refine (program_set _ _ _ h1 10 12 rfl (by decide)).mono ?_
  rintro e w2 ⟨rfl, h2, g2⟩
  replace h2 : IsDev w2 w.heap.size ⟨5, 100, 15, true, false, false⟩ := by rw [e1] at h2; exact h2
  go_wp2_with fail
  refine (sooner_not _ _ _ h2 10 11 rfl (by decide) rfl (by rw [E2.out]; simp)).mono ?_
  rintro e w3 ⟨rfl, n3, rfl⟩
  go_wp2_with fail
  refine (pass_later _ _ _ (h2.drewN n3) 14 rfl (by decide)).mono ?_
  rintro e w4 ⟨rfl, n4, rfl⟩
  go_wp2_with fail
  refine (pass_yes _ _ _ (h2.drewN _) 15 rfl (by decide)).mono ?_
  rintro e w5 ⟨rfl, h5, g5⟩
  go_wp2_with fail
  refine (take_yes _ _ _ h5 rfl).mono ?_
  rintro e w6 ⟨rfl, h6, g6⟩
  go_wp2_with fail
  refine (take_no _ _ _ h6 rfl).mono ?_
  rintro e w7 ⟨rfl, rfl⟩
  go_wp2_with fail
  refine (program_none 1 2 _).mono ?_
  rintro e w8 ⟨rfl, rfl⟩
  go_wp2_with fail
  refine (new_bad 5 4 _ (by omega)).mono ?_
  rintro e w9 ⟨rfl, rfl⟩
  go_wp2_with fail
  refine (live_none _).mono ?_
  rintro e w10 ⟨rfl, rfl⟩
  go_wp2_with fail
  refine (take_none _).mono ?_
  rintro e w11 ⟨rfl, rfl⟩
  go_wp2_with fail
  refine (live_some _ _ _ h6).mono ?_
  rintro e w12 ⟨rfl, rfl⟩
  go_wp2_with fail
  go_ret
  refine ⟨rfl, ?_⟩
  have B2 : Below w.heap.size w w2 := b1.grown g2 b1.size (fun k hk => by injection hk; omega)
  have B4 : Below w.heap.size w (w2.drewN (n3 + n4)) := below_drewN B2 _
  have B5 : Below w.heap.size w w5 := B4.grown g5 B4.size (fun k hk => by injection hk; omega)
  exact B5.grown g6 B5.size (fun k hk => by injection hk; omega)
set_option maxHeartbeats 4000000 in
set_option maxRecDepth 100000 in
theorem wakes_any (L : Int) (hL : 0 ≤ L ∧ L ≤ 255) (M : Int) (hM : 0 ≤ M ∧ M ≤ 255) (N : Int) (hN : 0 ≤ N ∧ N ≤ 255) (T : Int) (hT : 0 ≤ T ∧ T ≤ 255) (w : World) :
    Calls Try.prog 6 #[.int .u8 L, .int .u8 M, .int .u8 N, .int .u8 T] w fun e w' => e = .returned (.bool true) ∧ Below w.heap.size w w' := by
  have hA : N + L ≤ Dev.when ⟨L, L + 1 + M, 0, false, false, false⟩ N T ∧ Dev.when ⟨L, L + 1 + M, 0, false, false, false⟩ N T ≤ N + L + 1 + M := by
    unfold Dev.when btw ad cl; simp only; omega
  obtain ⟨A, eA⟩ : ∃ A, Dev.when ⟨L, L + 1 + M, 0, false, false, false⟩ N T = A := ⟨_, rfl⟩
  rw [eA] at hA
  have EA := Lib.hid eA
  clear eA
  have hnT : nev T = false := decide_eq_false (by omega)
  go_enter Try.func6, Try.ntmps6
  go_wp2_with fail
  refine (fixed_any _).mono ?_
  rintro e w0 ⟨rfl, b0⟩
  go_wp2_with fail
  refine (new_ok L (L + 1 + M) _ (by omega) (by omega) (by omega) (by omega)).mono ?_
  rintro e w1 ⟨rfl, h1, b1, z1⟩
  go_wp2_with fail
  refine (program_set _ _ _ h1 N T rfl hnT).mono ?_
  rintro e w2 ⟨rfl, h2, g2⟩
  rw [EA.out] at h2 ⊢
  have B1 : Below w.heap.size w w1 := b0.trans (b1.mono b0.size)
  have B2 : Below w.heap.size w w2 := B1.grown g2 B1.size (fun k hk => by injection hk; have := b0.size; omega)
  have HZ := Lib.hid b0.size
  obtain ⟨G, hG⟩ : ∃ G, w0.heap.size = G := ⟨_, rfl⟩
  rw [hG] at h2 HZ ⊢
  clear h1 b1 z1 g2 B1 b0 hG
  go_wp2_with fail
  go_loopw [12] (fun i wr => ∃ k : Int, N ≤ k ∧ k ≤ A ∧ i = .int .i64 k ∧ IsDev wr G ⟨L, L + 1 + M, A, true, false, false⟩ ∧ Below w.heap.size w wr) (fun i _ => (A - intOf i).toNat)
  case atStart => exact ⟨N, by omega, by omega, rfl, h2, B2⟩
  case round =>
    obtain ⟨k, k0, k1, rfl, hk, bk⟩ := hrel
    by_cases hlt : k < A
    · have hcl : cl k < A := by unfold cl; omega
      go_wp2_with fail
      refine (pass_later _ _ _ hk k rfl hcl).mono ?_
      rintro e w3 ⟨rfl, n3, rfl⟩
      go_wp2_with fail
      refine (latched_some _ _ _ (hk.drewN n3)).mono ?_
      rintro e w4 ⟨rfl, rfl⟩
      go_wp2_with fail
      go_roundw
      case rel => exact ⟨k + 1, by omega, by omega, rfl, hk.drewN n3, below_drewN bk n3⟩
      case measure => simp [intOf]; omega
    · obtain rfl : k = A := by omega
      have hcl : k ≤ cl k := by unfold cl; omega
      go_wp2_with fail
      refine (pass_yes _ _ _ hk k rfl hcl).mono ?_
      rintro e w3 ⟨rfl, h3, g3⟩
      go_wp2_with fail
      refine (pass_not _ _ _ h3 (k + 1) rfl).mono ?_
      rintro e w4 ⟨rfl, n4, rfl⟩
      go_wp2_with fail
      refine (take_yes _ _ _ (h3.drewN n4) rfl).mono ?_
      rintro e w5 ⟨rfl, h5, g5⟩
      go_wp2_with fail
      refine (latched_some _ _ _ h5).mono ?_
      rintro e w6 ⟨rfl, rfl⟩
      go_wp2_with fail
      go_ret
      refine ⟨rfl, ?_⟩
      have hz := HZ.out
      have B3 : Below w.heap.size w w3 := bk.grown g3 bk.size (fun k hk => by injection hk; omega)
      have B4 : Below w.heap.size w (w3.drewN n4) := below_drewN B3 _
      exact B4.grown g5 B4.size (fun k hk => by injection hk; omega)
end Go.Proofs.Ythginjllhlfadaa.Dv
