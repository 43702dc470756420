/- fixed: the calls whose answers the document fixes. -/
import Derived.Test.YtdplpehphjgffaaBkl
set_option linter.unusedVariables false
set_option linter.unusedSimpArgs false
namespace Go.Proofs.Ytdplpehphjgffaa.Bk
open Go.RowKit Go.Proofs.Ytdplpehphjgffaa.Aid Go.Proofs.Ytdplpehphjgffaa.Kt
attribute [local go_sem] max2_int min2_int max_two min_two
def p0 : Pl := ⟨10, 32, 50⟩
theorem p0_ok : p0.ok := ⟨by decide, by decide, by decide⟩
theorem p0_vals : wait p0 0 = 10 ∧ wait p0 2 = 40 ∧ wait p0 3 = 50 ∧ wait p0 99 = 50 ∧ sm p0 (stop 3) = 70 ∧ trg p0 10000 0 (cl 75) = 3 := by decide +kernel
theorem none_bad : ¬ (⟨0, 0, 0⟩ : Pl).ok := fun h => by have := h.a; simp at this
theorem pcs {W : World} {g : Nat} (h : Blk W g 23 p0.cells) : W.cell? ⟨g, 0, none⟩ = some (.int .i64 10) ∧ W.cell? ⟨g, 1, none⟩ = some (.int .i64 32) ∧ W.cell? ⟨g, 2, none⟩ = some (.int .i64 50) := ⟨h.cell 0, h.cell 1, h.cell 2⟩
set_option maxHeartbeats 1000000 in
set_option maxRecDepth 100000 in
theorem fixed_any (w : World) : Calls Try.prog 11 #[] w fun e w' => e = .returned (.bool true) ∧ Below w.heap.size w w' := by
  go_enter Try.func11, Try.ntmps11
  have HO : Hid p0.ok := Lib.hid p0_ok
  have HV := Lib.hid p0_vals
  have v1 : ad 100 (wait p0 0) = 110 := by decide
  go_wp2_with fail
  refine (new_good p0 2 HO.out (by omega) _).mono ?_
  rintro e w1 ⟨g, rfl, hg, h1, b1⟩
  have P1 : Blk w1 w.heap.size 23 p0.cells := (Blk.new w 23 p0.cells).below b1 (Blk.new w 23 p0.cells).lt
  have B1 : Below w.heap.size w w1 := ((Below.refl w.heap.size w).alloc (Nat.le_refl _) _).trans (b1.mono (by simp))
  have hg2 : w.heap.size < g := by simp at hg; omega
  have HG : Hid (w.heap.size ≤ g ∧ some w.heap.size ≠ some g) := Lib.hid ⟨by omega, by intro he; injection he; omega⟩
  clear b1 hg hg2
  go_wp2_with fail
  refine (fail_goes _ g 100 ⟨HO.out, by decide, by decide⟩ (by decide) _ h1).mono ?_
  rintro e w2 ⟨rfl, h2, g2⟩
  have P2 := P1.grown g2 HG.out.2
  have B2 := below_grown B1 g2 HG.out.1
  clear P1 B1 h1 g2
  simp only [v1] at h2 ⊢
  go_wp2_with fail
  refine (may_some _ g 109 _ h2).mono ?_
  rintro e w3 ⟨rfl, n3, rfl⟩
  have v3 : (!false && ((0 + 1 : Int) == 0 || decide ((110 : Int) ≤ cl 109))) = false := by decide
  simp only [v3]
  go_wp2_with fail
  refine (fail_goes _ g 110 ⟨HO.out, by decide, by decide⟩ (by decide) _ (h2.drewN n3)).mono ?_
  rintro e w4 ⟨rfl, h4, g4⟩
  have P4 := (P2.drewN n3).grown g4 HG.out.2
  have B4 := below_grown (below_drewN B2 n3) g4 HG.out.1
  clear P2 B2 h2 g4
  have v4 : ad 110 (wait p0 (0 + 1)) = 130 := by decide
  simp only [v4] at h4 ⊢
  go_wp2_with fail
  refine (fail_full _ g 130 (by decide) _ h4).mono ?_
  rintro e w5 ⟨rfl, h5, g5⟩
  have P5 := P4.grown g5 HG.out.2
  have B5 := below_grown B4 g5 HG.out.1
  clear P4 B4 h4 g5
  go_wp2_with fail
  refine (fail_nil 1 _).mono ?_
  rintro e w6 ⟨rfl, rfl⟩
  obtain ⟨P, hP⟩ : ∃ P, P = w.heap.size := ⟨_, rfl⟩
  rw [← hP] at P5 B5 HG ⊢
  have HP := Lib.hid hP
  clear hP
  obtain ⟨q0, q1, q2⟩ := pcs P5
  go_wp2_with fail
  refine (wait_ok 0 (by omega) p0 HO.out _).mono ?_
  rintro e w7 ⟨rfl, b7⟩
  have P7 := P5.below b7 P5.lt
  have h7 := h5.below b7 h5.lt
  have B7 := B5.trans (b7.mono (Nat.le_of_lt P5.lt))
  clear P5 B5 h5 b7
  clear q0 q1 q2
  simp only [HV.out.1]
  obtain ⟨q0, q1, q2⟩ := pcs P7
  go_wp2_with fail
  refine (wait_ok 2 (by omega) p0 HO.out _).mono ?_
  rintro e w8 ⟨rfl, b8⟩
  have P8 := P7.below b8 P7.lt
  have h8 := h7.below b8 h7.lt
  have B8 := B7.trans (b8.mono (Nat.le_of_lt P7.lt))
  clear P7 B7 h7 b8
  clear q0 q1 q2
  simp only [HV.out.2.1]
  obtain ⟨q0, q1, q2⟩ := pcs P8
  go_wp2_with fail
  refine (wait_ok 3 (by omega) p0 HO.out _).mono ?_
  rintro e w9 ⟨rfl, b9⟩
  have P9 := P8.below b9 P8.lt
  have h9 := h8.below b9 h8.lt
  have B9 := B8.trans (b9.mono (Nat.le_of_lt P8.lt))
  clear P8 B8 h8 b9
  clear q0 q1 q2
  simp only [HV.out.2.2.1]
  obtain ⟨q0, q1, q2⟩ := pcs P9
  go_wp2_with fail
  refine (wait_ok 99 (by omega) p0 HO.out _).mono ?_
  rintro e w10 ⟨rfl, b10⟩
  have P10 := P9.below b10 P9.lt
  have h10 := h9.below b10 h9.lt
  have B10 := B9.trans (b10.mono (Nat.le_of_lt P9.lt))
  clear P9 B9 h9 b10
  clear q0 q1 q2
  simp only [HV.out.2.2.2.1]
  obtain ⟨q0, q1, q2⟩ := pcs P10
  go_wp2_with fail
  refine (total_ok 3 p0 HO.out _).mono ?_
  rintro e w11 ⟨rfl, b11⟩
  have P11 := P10.below b11 P10.lt
  have h11 := h10.below b11 h10.lt
  have B11 := B10.trans (b11.mono (Nat.le_of_lt P10.lt))
  clear P10 B10 h10 b11
  clear q0 q1 q2
  simp only [HV.out.2.2.2.2.1]
  obtain ⟨q0, q1, q2⟩ := pcs P11
  go_wp2_with fail
  refine (tries_ok 75 p0 HO.out _).mono ?_
  rintro e w12 ⟨rfl, b12⟩
  have P12 := P11.below b12 P11.lt
  have h12 := h11.below b12 h11.lt
  have B12 := B11.trans (b12.mono (Nat.le_of_lt P11.lt))
  clear P11 B11 h11 b12
  clear q0 q1 q2
  simp only [HV.out.2.2.2.2.2]
  go_wp2_with fail
  refine (may_some _ g 999 _ h12).mono ?_
  rintro e w13 ⟨rfl, n13, rfl⟩
  have P13 := P12.drewN n13
  have h13 := h12.drewN n13
  have B13 := below_drewN B12 n13
  clear P12 B12 h12
  obtain ⟨q0, q1, q2⟩ := pcs P13
  go_wp2_with fail
  refine (new_bad p0 0 (.inr (.inl (by omega))) _).mono ?_
  rintro e w14 ⟨rfl, b14⟩
  have P14 := P13.below b14 P13.lt
  have h14 := h13.below b14 h13.lt
  have B14 := B13.trans (b14.mono (Nat.le_of_lt P13.lt))
  clear P13 B13 h13 b14
  clear q0 q1 q2
  go_wp2_with fail
  refine (may_nil 1 _).mono ?_
  rintro e w15 ⟨rfl, n15, rfl⟩
  have P15 := P14.drewN n15
  have h15 := h14.drewN n15
  have B15 := below_drewN B14 n15
  clear P14 B14 h14
  go_wp2_with fail
  refine (wait_no 1 ⟨0, 0, 0⟩ none_bad _).mono ?_
  rintro e w16 ⟨rfl, b16⟩
  have P16 := P15.below b16 P15.lt
  have h16 := h15.below b16 h15.lt
  have B16 := B15.trans (b16.mono (Nat.le_of_lt P15.lt))
  clear P15 B15 h15 b16
  go_wp2_with fail
  go_ret
  rw [HP.out] at B16
  exact ⟨rfl, B16⟩
end Go.Proofs.Ytdplpehphjgffaa.Bk
