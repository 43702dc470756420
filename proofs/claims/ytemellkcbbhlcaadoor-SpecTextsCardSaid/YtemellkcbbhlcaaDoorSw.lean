/- SpecTimes: the walk. No condition but what the library's variables hold. -/
import Derived.Test.YtemellkcbbhlcaaDoorSv
import Derived.Test.YtemellkcbbhlcaaDoorLeaf
set_option linter.unusedVariables false
set_option linter.unusedSimpArgs false
namespace Go.Proofs.YtemellkcbbhlcaaDoor.Sp
open Go.RowKit Go.Sort Go.Proofs.YtemellkcbbhlcaaDoor.Aid Go.Proofs.YtemellkcbbhlcaaDoor.Kt Go.Proofs.YtemellkcbbhlcaaDoor.Tr Go.Proofs.YtemellkcbbhlcaaDoor.Str
attribute [local go_sem] max2_int min2_int max_two min_two
theorem right_any (s n : Int) (w : World) : Calls Tryd.prog 14 #[.agg #[.int .i64 s, .int .i64 n]] w fun e w' => e = .returned (.bool (decide (Rt s n))) ∧ Below w.heap.size w w' := by
  by_cases h : Rt s n
  · rw [decide_eq_true h]; exact right_yes s n h w
  · rw [decide_eq_false h]; exact right_no s n h w
/-- a time's spec is that time's -/
theorem of_tm {s n : Int} (h : Rt s n) (hx : tm s n < 4611686018427387903) : tf (tm s n) / 1000000000 = s ∧ tf (tm s n) % 1000000000 = n := by
  unfold Rt at h
  have e : tm s n = 1000000000 * s + n := by
    have h1 : tm s n = ad (cl (1000000000 * s)) n := by unfold tm mul; rw [show cl 1000000000 = 1000000000 by kernel_rfl]
    rw [h1] at hx ⊢
    unfold ad cl at *
    omega
  have e2 : tf (tm s n) = 1000000000 * s + n := by
    rw [e] at hx ⊢
    unfold tf cl
    omega
  rw [e2]
  omega
theorem tm_tf (t : Int) : Rt (tf t / 1000000000) (tf t % 1000000000) ∧ tm (tf t / 1000000000) (tf t % 1000000000) = tf t ∧ tf t = if (if t < 0 then 0 else t) > 4611686018427387903 then 4611686018427387903 else if t < 0 then 0 else t := by
  have hb := tf_bd t
  refine ⟨by unfold Rt; omega, ?_, ?_⟩
  · generalize tf t = x at *
    have e0 : cl 1000000000 = 1000000000 := by kernel_rfl
    unfold tm ad mul
    rw [e0]
    unfold cl
    omega
  · unfold tf cl; omega
set_option maxHeartbeats 4000000 in
set_option maxRecDepth 100000 in
theorem specTimes_walk (s n t : Int) (hs : -9223372036854775808 ≤ s ∧ s ≤ 9223372036854775807) (w : World) (ht : Tab w) (hm : Mx w) : Calls Tryd.prog 3 #[.agg #[.int .i64 s, .int .i64 n], .int .i64 t] w fun e w' => e = .returned (.bool true) ∧ Below w.heap.size w w' := by
  have L0 := (show SB w w [] from ⟨Below.refl _ _, fun e he => by cases he⟩).box s n
  have HTM := Lib.hid (And.intro ht hm)
  clear ht hm
  obtain ⟨tq, htq⟩ : ∃ x, tf t / 1000000000 = x := ⟨_, rfl⟩
  obtain ⟨tr, htr⟩ : ∃ x, tf t % 1000000000 = x := ⟨_, rfl⟩
  have h3 := tm_tf t
  have h4 : -9223372036854775808 ≤ tq ∧ tq ≤ 9223372036854775807 := by have := tf_bd t; omega
  rw [htq, htr] at h3
  have H3 := Lib.hid h3
  have H4 := Lib.hid h4
  have HOt := Lib.hid (fun W => of_any t W)
  simp only [htq, htr] at HOt
  clear htq htr h3 h4
  go_enter Tryd.func3, Tryd.ntmps3
  go_upto_region 1 with fail
  generalize hW1 : w.alloc (.cells #[.int .i64 s, .int .i64 n] 23) = W1 at L0 ⊢
  obtain ⟨g1, hg1⟩ : ∃ g, w.heap.size = g := ⟨_, rfl⟩
  rw [hg1] at L0 ⊢
  clear hg1 hW1
  have HF := Lib.hid (sfixed_any W1 (HTM.out.1.below L0.B (Nat.le_refl _)) (HTM.out.2.below L0.B (Nat.le_refl _)))
  have HL := Lib.hid L0
  clear L0
  go_wp2_with fail
  refine HF.out.mono ?_
  rintro e W2 ⟨rfl, b2⟩
  have HL2 := Lib.hid (HL.out.call b2)
  clear HL b2 HF
  by_cases hR : Rt s n
  · have HC := Lib.hid (fun W => time_yes s n hs.2 hR W)
    have HRt := Lib.hid (show decide (Rt s n) = true from decide_eq_true hR)
    have HR := Lib.hid hR
    obtain ⟨x, hx⟩ : ∃ x, tm s n = x := ⟨_, rfl⟩
    simp only [hx] at HC
    have HX := Lib.hid hx
    clear hR hx
    obtain ⟨p0, p1⟩ := HL2.out.cells (e := (g1, s, n)) (by simp)
    dsimp only at p0 p1
    go_wp2_with fail
    refine (HC.out _).mono ?_
    rintro e W3 ⟨rfl, b3⟩
    have L3 := HL2.out.call b3
    clear HL2 b3 p0 p1 HC
    obtain ⟨p0, p1⟩ := L3.cells (e := (g1, s, n)) (by simp)
    dsimp only at p0 p1
    have k0 := cell_regrown p0
    have k1 := cell_regrown p1
    have cR : ∀ d os, Calls Tryd.prog 14 #[.agg #[.int .i64 s, .int .i64 n]] (grow (redrawn W3 d) os) fun e w'' => e = .returned (.bool true) ∧ ∃ p : Regrown, w'' = grow (redrawn W3 p.d) p.os := fun d os => Calls.regrown_of (by
      have C := right_any s n (grow (redrawn W3 d) os)
      rw [HRt.out] at C
      exact C)
    have cS : ∀ d os, Calls Tryd.prog 15 #[.agg #[.int .i64 s, .int .i64 n]] (grow (redrawn W3 d) os) fun e w'' => e = .returned (.bool true) ∧ ∃ p : Regrown, w'' = grow (redrawn W3 p.d) p.os := fun d os => Calls.regrown_of (by
      have C := rright_any s n (grow (redrawn W3 d) os)
      rw [HRt.out] at C
      exact C)
    have HL3 := Lib.hid L3
    clear L3 p0 p1
    go_upto_region 4 with fail
    refine wp_region_quiet_below (by kernel_rfl) (by kernel_rfl) ?_
    repeat (quiet_step (first | (go_at_call 14; exact cR _ _) | (go_at_call 15; exact cS _ _)))
    refine wpQuiet_nil ?_
    intro _ hw'
    obtain ⟨⟨dq, osq⟩, hw''⟩ := hw'
    subst hw''
    have L4 := HL3.out.call (below_regrown W3 dq osq)
    clear HL3 cR cS k0 k1
    generalize grow (redrawn W3 dq) osq = W4 at L4 ⊢
    obtain ⟨p0, p1⟩ := L4.cells (e := (g1, s, n)) (by simp)
    dsimp only at p0 p1
    have HC := Lib.hid (fun W => rright_any s n W)
    simp only [HRt.out] at HC
    have HL4 := Lib.hid L4
    clear L4
    go_wp2_with fail
    refine (HC.out _).mono ?_
    rintro e W5 ⟨rfl, b5⟩
    have L5 := HL4.out.call b5
    clear HL4 b5 p0 p1 HC
    obtain ⟨p0, p1⟩ := L5.cells (e := (g1, s, n)) (by simp)
    dsimp only at p0 p1
    have k0 := cell_regrown p0
    have k1 := cell_regrown p1
    have cT : ∀ d os, Calls Tryd.prog 16 #[.agg #[.int .i64 s, .int .i64 n]] (grow (redrawn W5 d) os) fun e w'' => e = .returned (.int .i64 x) ∧ ∃ p : Regrown, w'' = grow (redrawn W5 p.d) p.os := fun d os => Calls.regrown_of (by
      have C := rtime_any s n hs (grow (redrawn W5 d) os)
      rw [HX.out] at C
      exact C)
    have HL5 := Lib.hid L5
    clear L5 p0 p1
    have hsp := Classical.em (x < 4611686018427387903)
    rcases hsp with hlt | hlt
    case' inl =>
      have ho := of_tm HR.out (by rw [HX.out]; exact hlt)
      rw [HX.out] at ho
      have cO : ∀ d os, Calls Tryd.prog 17 #[.int .i64 x] (grow (redrawn W5 d) os) fun e w'' => e = .returned (.agg #[.int .i64 s, .int .i64 n]) ∧ ∃ p : Regrown, w'' = grow (redrawn W5 p.d) p.os := fun d os => Calls.regrown_of (by
        have C := of_any x (grow (redrawn W5 d) os)
        rw [ho.1, ho.2] at C
        exact C)
      clear ho
      go_upto_region 9 with fail
      refine wp_region_quiet_below (by kernel_rfl) (by kernel_rfl) ?_
      repeat (quiet_step (first | (go_at_call 16; exact cT _ _) | (go_at_call 17; exact cO _ _)))
      clear cO
    case' inr =>
      have hlt' : decide (x < 4611686018427387903) = false := decide_eq_false hlt
      go_upto_region 9 with fail
      refine wp_region_quiet_below (by kernel_rfl) (by kernel_rfl) ?_
      repeat (quiet_step (first | (go_at_call 16; exact cT _ _)))
    all_goals
      refine wpQuiet_nil ?_
      intro _ hw'
      obtain ⟨⟨dq, osq⟩, hw''⟩ := hw'
      subst hw''
      have HB := Lib.hid (HL5.out.call (below_regrown W5 dq osq))
      clear HL5 cT k0 k1
      generalize grow (redrawn W5 dq) osq = W6 at HB ⊢
      go_wp2_with fail
      refine (HOt.out _).mono ?_
      rintro e W7 ⟨rfl, b7⟩
      have L7 := (HB.out.call b7).box tq tr
      clear HB b7 HOt
      go_upto_region 12 with fail
      generalize W7.alloc (.cells #[.int .i64 tq, .int .i64 tr] 23) = V7 at L7 ⊢
      generalize W7.heap.size = g7 at L7 ⊢
      obtain ⟨p0, p1⟩ := L7.cells (e := (g7, tq, tr)) (by simp)
      dsimp only at p0 p1
      have HC := Lib.hid (fun W => rright_any tq tr W)
      have hq : decide (Rt tq tr) = true := decide_eq_true H3.out.1
      simp only [hq] at HC
      have HL7 := Lib.hid L7
      clear L7 hq
      go_wp2_with fail
      refine (HC.out _).mono ?_
      rintro e W8 ⟨rfl, b8⟩
      have L8 := HL7.out.call b8
      clear HL7 b8 HC p0 p1
      obtain ⟨p0, p1⟩ := L8.cells (e := (g7, tq, tr)) (by simp)
      dsimp only at p0 p1
      have HT := Lib.hid (fun W => rtime_any tq tr H4.out W)
      have h5 := H3.out.2.1
      simp only [h5] at HT
      have HL8 := Lib.hid L8
      clear L8 h5
      go_wp2_with fail
      refine (HT.out _).mono ?_
      rintro e W9 ⟨rfl, b9⟩
      have L9 := HL8.out.call b9
      have HBB := Lib.hid L9.B
      have h6 := H3.out.2.2
      obtain ⟨y, hy⟩ : ∃ y, tf t = y := ⟨_, rfl⟩
      rw [hy] at h6 ⊢
      clear HL8 b9 HT L9 p0 p1 hy
      have h6' := Lib.hid h6
      clear h6
      go_wp2_with fail
      all_goals
        go_ret
        exact ⟨ret_bool (by first | rfl | (have := h6'.out; simp; omega)), HBB.out⟩
  · have HC := Lib.hid (fun W => time_no s n hR W)
    have HRt := Lib.hid (show decide (Rt s n) = false from decide_eq_false hR)
    clear hR
    obtain ⟨p0, p1⟩ := HL2.out.cells (e := (g1, s, n)) (by simp)
    dsimp only at p0 p1
    go_wp2_with fail
    refine (HC.out _).mono ?_
    rintro e W3 ⟨rfl, b3⟩
    have L3 := HL2.out.call b3
    clear HL2 b3 p0 p1 HC
    obtain ⟨p0, p1⟩ := L3.cells (e := (g1, s, n)) (by simp)
    dsimp only at p0 p1
    have k0 := cell_regrown p0
    have k1 := cell_regrown p1
    have cR : ∀ d os, Calls Tryd.prog 14 #[.agg #[.int .i64 s, .int .i64 n]] (grow (redrawn W3 d) os) fun e w'' => e = .returned (.bool false) ∧ ∃ p : Regrown, w'' = grow (redrawn W3 p.d) p.os := fun d os => Calls.regrown_of (by
      have C := right_any s n (grow (redrawn W3 d) os)
      rw [HRt.out] at C
      exact C)
    have cS : ∀ d os, Calls Tryd.prog 15 #[.agg #[.int .i64 s, .int .i64 n]] (grow (redrawn W3 d) os) fun e w'' => e = .returned (.bool false) ∧ ∃ p : Regrown, w'' = grow (redrawn W3 p.d) p.os := fun d os => Calls.regrown_of (by
      have C := rright_any s n (grow (redrawn W3 d) os)
      rw [HRt.out] at C
      exact C)
    have HL3 := Lib.hid L3
    clear L3 p0 p1
    go_upto_region 4 with fail
    refine wp_region_quiet_below (by kernel_rfl) (by kernel_rfl) ?_
    repeat (quiet_step (first | (go_at_call 14; exact cR _ _) | (go_at_call 15; exact cS _ _)))
    refine wpQuiet_nil ?_
    intro _ hw'
    obtain ⟨⟨dq, osq⟩, hw''⟩ := hw'
    subst hw''
    have L4 := HL3.out.call (below_regrown W3 dq osq)
    clear HL3 cR cS k0 k1
    generalize grow (redrawn W3 dq) osq = W4 at L4 ⊢
    obtain ⟨p0, p1⟩ := L4.cells (e := (g1, s, n)) (by simp)
    dsimp only at p0 p1
    have HC := Lib.hid (fun W => rright_any s n W)
    simp only [HRt.out] at HC
    have HL4 := Lib.hid L4
    clear L4
    go_wp2_with fail
    refine (HC.out _).mono ?_
    rintro e W6 ⟨rfl, b5⟩
    have HB := Lib.hid (HL4.out.call b5)
    clear HL4 b5 p0 p1 HC
    go_wp2_with fail
    refine (HOt.out _).mono ?_
    rintro e W7 ⟨rfl, b7⟩
    have L7 := (HB.out.call b7).box tq tr
    clear HB b7 HOt
    go_upto_region 12 with fail
    generalize W7.alloc (.cells #[.int .i64 tq, .int .i64 tr] 23) = V7 at L7 ⊢
    generalize W7.heap.size = g7 at L7 ⊢
    obtain ⟨p0, p1⟩ := L7.cells (e := (g7, tq, tr)) (by simp)
    dsimp only at p0 p1
    have HC := Lib.hid (fun W => rright_any tq tr W)
    have hq : decide (Rt tq tr) = true := decide_eq_true H3.out.1
    simp only [hq] at HC
    have HL7 := Lib.hid L7
    clear L7 hq
    go_wp2_with fail
    refine (HC.out _).mono ?_
    rintro e W8 ⟨rfl, b8⟩
    have L8 := HL7.out.call b8
    clear HL7 b8 HC p0 p1
    obtain ⟨p0, p1⟩ := L8.cells (e := (g7, tq, tr)) (by simp)
    dsimp only at p0 p1
    have HT := Lib.hid (fun W => rtime_any tq tr H4.out W)
    have h5 := H3.out.2.1
    simp only [h5] at HT
    have HL8 := Lib.hid L8
    clear L8 h5
    go_wp2_with fail
    refine (HT.out _).mono ?_
    rintro e W9 ⟨rfl, b9⟩
    have L9 := HL8.out.call b9
    have HBB := Lib.hid L9.B
    have h6 := H3.out.2.2
    obtain ⟨y, hy⟩ : ∃ y, tf t = y := ⟨_, rfl⟩
    rw [hy] at h6 ⊢
    clear HL8 b9 HT L9 p0 p1 hy
    have h6' := Lib.hid h6
    clear h6
    go_wp2_with fail
    all_goals
      go_ret
      exact ⟨ret_bool (by first | rfl | (have := h6'.out; simp; omega)), HBB.out⟩
theorem specTimes_row (cs : Array Value) (f : Leaf.Fits [.int .i64, .int .i64] cs.toList) (t : Int) (bt : -9223372036854775808 ≤ t ∧ t ≤ 9223372036854775807) (w : World) (ht : Tab w) (hm : Mx w) : Calls Tryd.prog 3 #[.agg cs, .int .i64 t] w fun e w' => e = .returned (.bool true) ∧ Below w.heap.size w w' := by
  obtain ⟨k0, r0, e0, w0, f0⟩ := f.int
  obtain ⟨k1, r1, rfl, w1, f1⟩ := f0.int
  obtain rfl := f1.done
  obtain rfl : cs = #[.int .i64 k0, .int .i64 k1] := by cases cs; simp_all
  exact specTimes_walk k0 k1 t (bounds_i64 w0) w ht hm
end Go.Proofs.YtemellkcbbhlcaaDoor.Sp
