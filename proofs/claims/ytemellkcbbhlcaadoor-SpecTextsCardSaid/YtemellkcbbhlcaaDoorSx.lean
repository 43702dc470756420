/- SpecAdds: the walk. No condition but what the library's variables hold. -/
import Derived.Test.YtemellkcbbhlcaaDoorSw
import Derived.BigQuiet
set_option linter.unusedVariables false
set_option linter.unusedSimpArgs false
namespace Go.Proofs.YtemellkcbbhlcaaDoor.Sp
open Go.BigFrame Go.RowKit Go.Sort Go.Proofs.YtemellkcbbhlcaaDoor.Aid Go.Proofs.YtemellkcbbhlcaaDoor.Kt Go.Proofs.YtemellkcbbhlcaaDoor.Tr Go.Proofs.YtemellkcbbhlcaaDoor.Str
/-- what Micro answers -/
def micS (s u : Int) : Int × Int × Int := if s < 0 ∨ u < 0 ∨ 999999 < u then (0, 0, 2) else (s, u * 1000, 0)
theorem micro_any (s u : Int) (w : World) : Calls Tryd.prog 23 #[.int .i64 s, .int .i64 u] w fun e w' => e = .returned (.tuple #[.agg #[.int .i64 (micS s u).1, .int .i64 (micS s u).2.1], .int .i64 (micS s u).2.2]) ∧ Below w.heap.size w w' := by
  unfold micS
  by_cases h : s < 0 ∨ u < 0 ∨ 999999 < u
  · rw [if_pos h]; exact micro_no s u h w
  · rw [if_neg h]; exact micro_yes s u (by omega) (by omega) (by omega) w
set_option maxHeartbeats 8000000 in
set_option maxRecDepth 100000 in
theorem specAdds_walk (a b c d u : Int) (ha : -9223372036854775808 ≤ a ∧ a ≤ 9223372036854775807) (hc : -9223372036854775808 ≤ c ∧ c ≤ 9223372036854775807) (w : World) (ht : Tab w) (hm : Mx w) : Calls Tryd.prog 5 #[.agg #[.int .i64 a, .int .i64 b], .agg #[.int .i64 c, .int .i64 d], .int .i64 u] w fun e w' => e = .returned (.bool true) ∧ Below w.heap.size w w' := by
  have L0 := ((show SB w w [] from ⟨Below.refl _ _, fun e he => by cases he⟩).box a b).box c d
  have es : (w.alloc (.cells #[.int .i64 a, .int .i64 b] 23)).heap.size = w.heap.size + 1 := by simp
  rw [es] at L0
  have HTM := Lib.hid (And.intro ht hm)
  have HAC := Lib.hid (And.intro ha hc)
  clear ht hm es
  go_enter Tryd.func5, Tryd.ntmps5
  go_upto_region 1 with fail
  generalize hW1 : (w.alloc (.cells #[.int .i64 a, .int .i64 b] 23)).alloc (.cells #[.int .i64 c, .int .i64 d] 23) = W1 at L0 ⊢
  generalize hg2 : w.heap.size + 1 = g2 at L0 ⊢
  obtain ⟨g1, hg1⟩ : ∃ g, w.heap.size = g := ⟨_, rfl⟩
  rw [hg1] at L0 ⊢
  clear hg1 hW1 hg2
  have HF := Lib.hid (sfixed_any W1 (HTM.out.1.below L0.B (Nat.le_refl _)) (HTM.out.2.below L0.B (Nat.le_refl _)))
  have HL := Lib.hid L0
  clear L0
  go_wp2_with fail
  refine HF.out.mono ?_
  rintro e W2 ⟨rfl, b2⟩
  have L2 := HL.out.call b2
  clear HL b2 HF
  obtain ⟨p0, p1⟩ := L2.cells (e := (g1, a, b)) (by simp)
  obtain ⟨p2, p3⟩ := L2.cells (e := (g2, c, d)) (by simp)
  dsimp only at p0 p1 p2 p3
  have k0 := cell_regrown p0
  have k1 := cell_regrown p1
  have k2 := cell_regrown p2
  have k3 := cell_regrown p3
  have cL : ∀ d' os, Calls Tryd.prog 22 #[.agg #[.int .i64 a, .int .i64 b], .agg #[.int .i64 c, .int .i64 d]] (grow (redrawn W2 d') os) fun e w'' => e = .returned (.bool (lsS a b c d)) ∧ ∃ p : Regrown, w'' = grow (redrawn W2 p.d) p.os := fun d' os => Calls.regrown_of (less_any a b c d _)
  have hsp : (a < c ∧ lsS a b c d = true) ∨ (decide (a < c) = false ∧ (a == c) = true ∧ b < d ∧ lsS a b c d = true) ∨ (decide (a < c) = false ∧ (a == c) = true ∧ decide (b < d) = false ∧ lsS a b c d = false) ∨ (decide (a < c) = false ∧ (a == c) = false ∧ lsS a b c d = false) := by
    unfold lsS
    by_cases h1 : a < c
    · exact .inl ⟨h1, decide_eq_true (by omega)⟩
    · by_cases h2 : a = c
      · by_cases h3 : b < d
        · exact .inr (.inl ⟨decide_eq_false h1, by rw [h2]; simp, h3, decide_eq_true (by omega)⟩)
        · exact .inr (.inr (.inl ⟨decide_eq_false h1, by rw [h2]; simp, decide_eq_false h3, decide_eq_false (by omega)⟩))
      · exact .inr (.inr (.inr ⟨decide_eq_false h1, by simpa using h2, decide_eq_false (by omega)⟩))
  have HL2 := Lib.hid L2
  clear L2 p0 p1 p2 p3
  obtain ⟨lv, hlv⟩ : ∃ v, lsS a b c d = v := ⟨_, rfl⟩
  rw [hlv] at hsp cL
  clear hlv
  go_upto_region 3 with fail
  go_cut [37] (fun s37 wx => s37 = .bool false ∧ SB w wx [(g2, c, d), (g1, a, b)])
  case first =>
    rcases hsp with ⟨h1, rfl⟩ | ⟨h1, h2, h3, rfl⟩ | ⟨h1, h2, h3, rfl⟩ | ⟨h1, h2, rfl⟩
    all_goals
      refine wp_region_quiet_below (by kernel_rfl) (by kernel_rfl) ?_
      repeat (go_big_quiet_step ((go_at_call 22; exact cL _ _)))
      refine wpQuiet_nil ?_
      intro _ hw'
      obtain ⟨⟨dq, osq⟩, hw''⟩ := hw'
      subst hw''
      have HB := Lib.hid (HL2.out.call (below_regrown W2 dq osq))
      clear HL2 cL k0 k1 k2 k3
      generalize grow (redrawn W2 dq) osq = W6 at HB ⊢
      go_wp2_with fail
      go_meet
      exact ⟨rfl, HB.out⟩
  case rest =>
    obtain ⟨rfl, L6⟩ := hcut
    clear HL2 cL k0 k1 k2 k3 hsp
    obtain ⟨p0, p1⟩ := L6.cells (e := (g1, a, b)) (by simp)
    dsimp only at p0 p1
    have HM := Lib.hid (fun W => micro_any a u W)
    obtain ⟨m1, hm1⟩ : ∃ v, (micS a u).1 = v := ⟨_, rfl⟩
    obtain ⟨m2, hm2⟩ : ∃ v, (micS a u).2.1 = v := ⟨_, rfl⟩
    obtain ⟨m3, hm3⟩ : ∃ v, (micS a u).2.2 = v := ⟨_, rfl⟩
    simp only [hm1, hm2, hm3] at HM
    have HMM := Lib.hid (And.intro hm1 (And.intro hm2 hm3))
    have HL6 := Lib.hid L6
    clear L6 hm1 hm2 hm3
    go_wp2_with fail
    refine (HM.out _).mono ?_
    rintro e W7 ⟨rfl, b7⟩
    have L7 := (HL6.out.call b7).box m1 m2
    clear HL6 b7 p0 p1 HM
    go_upto_region 6 with fail
    generalize W7.alloc (.cells #[.int .i64 m1, .int .i64 m2] 23) = V7 at L7 ⊢
    generalize W7.heap.size = g7 at L7 ⊢
    obtain ⟨p0, p1⟩ := L7.cells (e := (g1, a, b)) (by simp)
    obtain ⟨q0, q1⟩ := L7.cells (e := (g7, m1, m2)) (by simp)
    dsimp only at p0 p1 q0 q1
    have HL7 := Lib.hid L7
    clear L7
    have hsp : ∃ β : Bool, ((a < 0 ∧ β = true) ∨ (decide (a < 0) = false ∧ u < 0 ∧ β = true) ∨ (decide (a < 0) = false ∧ decide (u < 0) = false ∧ u > 999999 ∧ β = true) ∨ (decide (a < 0) = false ∧ decide (u < 0) = false ∧ decide (u > 999999) = false ∧ β = false)) ∧ ((β = true ∧ m1 = 0 ∧ m2 = 0 ∧ m3 = 2) ∨ (β = false ∧ a = m1 ∧ m2 = u * 1000 ∧ m3 = 0 ∧ wrap64 (u * 1000) = u * 1000)) := by
      have hM := HMM.out
      unfold micS at hM
      by_cases h : a < 0 ∨ u < 0 ∨ 999999 < u
      · rw [if_pos h] at hM
        refine ⟨true, ?_, .inl ⟨rfl, hM.1.symm, hM.2.1.symm, hM.2.2.symm⟩⟩
        by_cases h1 : a < 0
        · exact .inl ⟨h1, rfl⟩
        · by_cases h2 : u < 0
          · exact .inr (.inl ⟨decide_eq_false h1, h2, rfl⟩)
          · exact .inr (.inr (.inl ⟨decide_eq_false h1, decide_eq_false h2, by omega, rfl⟩))
      · rw [if_neg h] at hM
        refine ⟨false, .inr (.inr (.inr ⟨decide_eq_false (by omega), decide_eq_false (by omega), decide_eq_false (by omega), rfl⟩)), .inr ⟨rfl, hM.1, hM.2.1.symm, hM.2.2.symm, by unfold wrap64; omega⟩⟩
    obtain ⟨β, hs1, hs2⟩ := hsp
    have HS2 := Lib.hid hs2
    clear hs2
    go_cut [55] (fun s55 wx => s55 = .bool β ∧ wx = V7)
    case first =>
      clear q0 q1
      rcases hs1 with ⟨h1, rfl⟩ | ⟨h1, h2, rfl⟩ | ⟨h1, h2, h3, rfl⟩ | ⟨h1, h2, h3, rfl⟩
      all_goals
        go_wp2_with fail
        go_meet
        exact ⟨rfl, rfl⟩
    case rest =>
      obtain ⟨rfl, rfl⟩ := hcut
      clear hs1
      have L7 := HL7.out
      obtain ⟨p2, p3⟩ := L7.cells (e := (g2, c, d)) (by simp)
      dsimp only at p2 p3
      have HB := Lib.hid L7
      have HA := Lib.hid (fun W => sadd_any a b c d ⟨HAC.out.1.1, HAC.out.1.2, HAC.out.2.1, HAC.out.2.2⟩ W)
      obtain ⟨x, hx⟩ : ∃ v, (addS a b c d).1 = v := ⟨_, rfl⟩
      obtain ⟨y, hy⟩ : ∃ v, (addS a b c d).2.1 = v := ⟨_, rfl⟩
      obtain ⟨z, hz⟩ : ∃ v, (addS a b c d).2.2 = v := ⟨_, rfl⟩
      simp only [hx, hy, hz] at HA
      have HX := Lib.hid (And.intro hx (And.intro hy hz))
      clear L7 hx hy hz HL7
      have h2 := HS2.out
      rcases h2 with ⟨rfl, rfl, rfl, rfl⟩ | ⟨rfl, rfl, rfl, rfl, hw⟩
      all_goals
        go_wp2_with fail
        refine (HA.out _).mono ?_
        rintro e W8 ⟨rfl, b8⟩
        have L8 := (HB.out.call b8).box x y
        clear HB b8 HA p0 p1 p2 p3 q0 q1
        go_upto_region 12 with fail
        generalize W8.alloc (.cells #[.int .i64 x, .int .i64 y] 23) = V8 at L8 ⊢
        generalize W8.heap.size = g8 at L8 ⊢
        obtain ⟨p0, p1⟩ := L8.cells (e := (g1, a, b)) (by simp)
        obtain ⟨q0, q1⟩ := L8.cells (e := (g8, x, y)) (by simp)
        dsimp only at p0 p1 q0 q1
        have HL8 := Lib.hid L8
        have HRa := Lib.hid (fun W => rright_any a b W)
        have HRc := Lib.hid (fun W => rright_any c d W)
        clear L8 HS2
        by_cases hR1 : Rt a b
        case' neg =>
          simp only [show decide (Rt a b) = false from decide_eq_false hR1] at HRa
          have hA : addS a b c d = (0, 0, 2) := by unfold addS; rw [if_pos (.inl hR1)]
          have hXX := HX.out
          rw [hA] at hXX
          obtain ⟨rfl, rfl, rfl⟩ := hXX
          clear q0 q1 HX hA hR1
          go_wp2_with fail
          refine (HRa.out _).mono ?_
          rintro e W9 ⟨rfl, b9⟩
          have L9 := HL8.out.call b9
          clear HL8 b9 p0 p1 HRa HRc
          obtain ⟨q0, q1⟩ := L9.cells (e := (g8, 0, 0)) (by simp)
          dsimp only at q0 q1
          have HBB := Lib.hid L9.B
          clear L9
          go_wp2_with fail
          go_ret
          exact ⟨ret_bool (by first | rfl | simp), HBB.out⟩
        case' pos =>
          simp only [show decide (Rt a b) = true from decide_eq_true hR1] at HRa
          have HR1 := Lib.hid hR1
          clear q0 q1 hR1
          go_wp2_with fail
          refine (HRa.out _).mono ?_
          rintro e W9 ⟨rfl, b9⟩
          have L9 := HL8.out.call b9
          clear HL8 b9 p0 p1 HRa
          obtain ⟨p2, p3⟩ := L9.cells (e := (g2, c, d)) (by simp)
          dsimp only at p2 p3
          have HL9 := Lib.hid L9
          clear L9
          by_cases hR2 : Rt c d
          case' neg =>
            simp only [show decide (Rt c d) = false from decide_eq_false hR2] at HRc
            have hA : addS a b c d = (0, 0, 2) := by unfold addS; rw [if_pos (.inr hR2)]
            have hXX := HX.out
            rw [hA] at hXX
            obtain ⟨rfl, rfl, rfl⟩ := hXX
            clear HX hA hR2
            go_wp2_with fail
            refine (HRc.out _).mono ?_
            rintro e W10 ⟨rfl, b10⟩
            have L10 := HL9.out.call b10
            clear HL9 b10 p2 p3 HRc
            obtain ⟨q0, q1⟩ := L10.cells (e := (g8, 0, 0)) (by simp)
            dsimp only at q0 q1
            have HBB := Lib.hid L10.B
            clear L10
            go_wp2_with fail
            go_ret
            exact ⟨ret_bool (by first | rfl | simp), HBB.out⟩
          case' pos =>
            simp only [show decide (Rt c d) = true from decide_eq_true hR2] at HRc
            have k1 := HR1.out
            have k2 := hR2
            unfold Rt at k1 k2
            have hq : ∃ q : Int, (b + d) / 1000000000 = q ∧ ((b + d > 999999999 ∧ q = 1 ∧ (b + d) % 1000000000 = b + d - 1000000000) ∨ (decide (b + d > 999999999) = false ∧ q = 0 ∧ (b + d) % 1000000000 = b + d)) := by
              refine ⟨_, rfl, ?_⟩
              by_cases h : b + d > 999999999
              · exact .inl ⟨h, by omega, by omega⟩
              · exact .inr ⟨decide_eq_false h, by omega, by omega⟩
            obtain ⟨q, hq1, hq2⟩ := hq
            have hA : (a + c + q > 4611686018427387904 ∧ addS a b c d = (0, 0, 6)) ∨ (decide (a + c + q > 4611686018427387904) = false ∧ addS a b c d = (a + c + q, (b + d) % 1000000000, 0)) := by
              unfold addS
              rw [if_neg (by rw [not_or]; exact ⟨fun h => h HR1.out, fun h => h hR2⟩), hq1]
              by_cases h : a + c + q > 4611686018427387904
              · exact .inl ⟨h, by rw [if_pos (by omega)]⟩
              · exact .inr ⟨decide_eq_false h, by rw [if_neg (by omega)]⟩
            have hua : IntKind.u64.wrap a = a := by rw [IntKind.wrap_u64]; have := HAC.out; omega
            have huc : IntKind.u64.wrap c = c := by rw [IntKind.wrap_u64]; have := HAC.out; omega
            have hus : IntKind.u64.wrap (a + c) = a + c := by rw [IntKind.wrap_u64]; have := HAC.out; omega
            have hus1 : IntKind.u64.wrap (a + c + 1) = a + c + 1 := by rw [IntKind.wrap_u64]; have := HAC.out; omega
            have hbd : wrap64 (b + d) = b + d := by unfold wrap64; omega
            have hbd' : IntKind.i64.wrap (b + d) = b + d := by rw [IntKind.wrap_i64]; omega
            have hbd1 : wrap64 (b + d - 1000000000) = b + d - 1000000000 := by unfold wrap64; omega
            have hQ2 := Lib.hid hq2
            have hAA := Lib.hid hA
            clear hq1 hq2 hA hR2
            go_wp2_with fail
            refine (HRc.out _).mono ?_
            rintro e W10 ⟨rfl, b10⟩
            have L10 := HL9.out.call b10
            clear HL9 b10 p2 p3 HRc
            obtain ⟨p0, p1⟩ := L10.cells (e := (g1, a, b)) (by simp)
            obtain ⟨p2, p3⟩ := L10.cells (e := (g2, c, d)) (by simp)
            dsimp only at p0 p1 p2 p3
            have HL10 := Lib.hid L10
            clear L10
            go_upto_region 14 with fail
            go_quiet (fail)
            have L11 : SB w (W10.drewN nq) _ := HL10.out.call (below_drewN (Below.refl _ _) nq)
            clear HL10 p0 p1 p2 p3
            generalize W10.drewN nq = W11 at L11 ⊢
            obtain ⟨q0, q1⟩ := L11.cells (e := (g8, x, y)) (by simp)
            dsimp only at q0 q1
            have HBB := Lib.hid L11.B
            clear L11
            have h5 := hQ2.out
            have h6 := hAA.out
            have h7 := HX.out
            rcases h5 with ⟨h5, rfl, h8⟩ | ⟨h5, rfl, h8⟩
            case' inr => rw [Int.add_zero] at h6
            all_goals
              rw [h8] at h6
              rcases h6 with ⟨h6, h9⟩ | ⟨h6, h9⟩
              all_goals
                rw [h9] at h7
                obtain ⟨rfl, rfl, rfl⟩ := h7
                have hw1 : 0 ≤ a + c := by omega
                clear h9 h8 HX hAA hQ2
                first
                  | (have hv : wrap64 (a + c) = a + c := by (have := of_decide_eq_false h6; unfold wrap64; omega))
                  | skip
                first
                  | (have hv1 : wrap64 (a + c + 1) = a + c + 1 := by (have := of_decide_eq_false h6; unfold wrap64; omega))
                  | skip
                go_wp2_with fail
                go_ret
                exact ⟨ret_bool (by first | rfl | simp), HBB.out⟩
theorem specAdds_row (cs : Array Value) (f : Leaf.Fits [.int .i64, .int .i64] cs.toList) (cs' : Array Value) (f' : Leaf.Fits [.int .i64, .int .i64] cs'.toList) (u : Int) (bu : -9223372036854775808 ≤ u ∧ u ≤ 9223372036854775807) (w : World) (ht : Tab w) (hm : Mx w) : Calls Tryd.prog 5 #[.agg cs, .agg cs', .int .i64 u] w fun e w' => e = .returned (.bool true) ∧ Below w.heap.size w w' := by
  obtain ⟨k0, r0, e0, w0, f0⟩ := f.int
  obtain ⟨k1, r1, rfl, w1, f1⟩ := f0.int
  obtain rfl := f1.done
  obtain rfl : cs = #[.int .i64 k0, .int .i64 k1] := by cases cs; simp_all
  obtain ⟨k2, r2, e2, w2, f2⟩ := f'.int
  obtain ⟨k3, r3, rfl, w3, f3⟩ := f2.int
  obtain rfl := f3.done
  obtain rfl : cs' = #[.int .i64 k2, .int .i64 k3] := by cases cs'; simp_all
  exact specAdds_walk k0 k1 k2 k3 u (bounds_i64 w0) (bounds_i64 w2) w ht hm
end Go.Proofs.YtemellkcbbhlcaaDoor.Sp
