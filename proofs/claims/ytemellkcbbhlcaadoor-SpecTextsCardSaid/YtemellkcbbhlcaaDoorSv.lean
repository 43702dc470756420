/- spec's calls whose answers the document fixes. No condition but what the library's variables hold. -/
import Derived.Test.YtemellkcbbhlcaaDoorSi
import Derived.Lib.QuietBelow
set_option linter.unusedVariables false
set_option linter.unusedSimpArgs false
namespace Go.Proofs.YtemellkcbbhlcaaDoor.Sp
open Go.RowKit Go.Sort Go.Proofs.YtemellkcbbhlcaaDoor.Aid Go.Proofs.YtemellkcbbhlcaaDoor.Kt Go.Proofs.YtemellkcbbhlcaaDoor.Tr Go.Proofs.YtemellkcbbhlcaaDoor.Str
/-- boxes of specs, made since w -/
structure SB (w W : World) (bx : List (Nat × Int × Int)) : Prop where
  B : Below w.heap.size w W
  x : ∀ e, e ∈ bx → Blk W e.1 23 #[.int .i64 e.2.1, .int .i64 e.2.2]
theorem SB.call {w W W' : World} {bx : List (Nat × Int × Int)} (h : SB w W bx) (b : Below W.heap.size W W') : SB w W' bx := ⟨h.B.trans (b.mono h.B.size), fun e he => (h.x e he).below b (h.x e he).lt⟩
theorem SB.box {w W : World} {bx : List (Nat × Int × Int)} (h : SB w W bx) (a b : Int) : SB w (W.alloc (.cells #[.int .i64 a, .int .i64 b] 23)) ((W.heap.size, a, b) :: bx) :=
  ⟨h.B.alloc h.B.size _, fun e he => by
    rcases List.mem_cons.1 he with rfl | he
    · exact Blk.new _ _ _
    · exact (h.x e he).alloc _⟩
theorem SB.cells {w W : World} {bx : List (Nat × Int × Int)} (h : SB w W bx) {e : Nat × Int × Int} (he : e ∈ bx) : W.cell? ⟨e.1, 0, none⟩ = some (.int .i64 e.2.1) ∧ W.cell? ⟨e.1, 1, none⟩ = some (.int .i64 e.2.2) := ⟨(h.x e he).cell 0, (h.x e he).cell 1⟩
theorem v_time : tm 1 5 = 1000000005 := by kernel_rfl
theorem v_of : tf 1000000005 / 1000000000 = 1 ∧ tf 1000000005 % 1000000000 = 5 := ⟨by kernel_rfl, by kernel_rfl⟩
theorem v_add : addS 1 5 0 999999999 = (2, 4, 0) := by kernel_rfl
theorem v_less : lsS 1 5 2 4 = true := by kernel_rfl
theorem v_text : textS 1 5 = [49, 46, 48, 48, 48, 48, 48, 48, 48, 48, 53] := by
  have h1 : Lib.itoa 1 = [49] := by unfold Lib.itoa; rw [if_neg (by decide), Lib.decDigits_one (by decide)]; rfl
  have h5 : Lib.itoa 5 = [53] := by unfold Lib.itoa; rw [if_neg (by decide), Lib.decDigits_one (by decide)]; rfl
  unfold textS
  rw [h1, h5]
  rfl
theorem v_parse : parseS [49, 46, 48, 48, 48, 48, 48, 48, 48, 48, 53] = some (1, 5) := by decide +kernel
theorem rt15 : Rt 1 5 := by unfold Rt; omega
set_option maxHeartbeats 4000000 in
set_option maxRecDepth 100000 in
theorem sfixed_any (w : World) (ht : Tab w) (hm : Mx w) : Calls Tryd.prog 12 #[] w fun e w' => e = .returned (.bool true) ∧ Below w.heap.size w w' := by
  have HTM := Lib.hid (And.intro ht hm)
  have L0 := (show SB w w [] from ⟨Below.refl _ _, fun e he => by cases he⟩).box 1 5
  clear ht hm
  go_enter Tryd.func12, Tryd.ntmps12
  go_upto_region 2 with fail
  generalize hW1 : w.alloc (.cells #[.int .i64 1, .int .i64 5] 23) = W1 at L0 ⊢
  obtain ⟨g1, hg1⟩ : ∃ g, w.heap.size = g := ⟨_, rfl⟩
  rw [hg1] at L0 ⊢
  clear hg1 hW1
  obtain ⟨p0, p1⟩ := L0.cells (e := (g1, 1, 5)) (by simp)
  dsimp only at p0 p1
  have HL := Lib.hid L0
  have HC := Lib.hid (fun W => time_yes 1 5 (by decide) rt15 W)
  simp only [v_time] at HC
  clear L0
  go_wp2_with fail
  refine (HC.out _).mono ?_
  rintro e W2 ⟨rfl, b2⟩
  have HL2 := Lib.hid (HL.out.call b2)
  clear HL b2 p0 p1 HC
  obtain ⟨p0, p1⟩ := HL2.out.cells (e := (g1, 1, 5)) (by simp)
  dsimp only at p0 p1
  have HC := Lib.hid (text_yes 1 5 (by decide) rt15 W2 (HTM.out.1.below HL2.out.B (Nat.le_refl _)))
  rw [v_text] at HC
  go_wp2_with fail
  refine HC.out.mono ?_
  rintro e W3 ⟨rfl, b3⟩
  have HL3 := Lib.hid (HL2.out.call b3)
  clear HL2 b3 p0 p1 HC
  have HC := Lib.hid (show Calls Tryd.prog 20 #[.string ⟨#[49, 46, 48, 48, 48, 48, 48, 48, 48, 48, 53]⟩] W3 fun e w' => e = .returned (.tuple #[.agg #[.int .i64 1, .int .i64 5], .bool true]) ∧ Below W3.heap.size W3 w' from by
    have C := parse_any [49, 46, 48, 48, 48, 48, 48, 48, 48, 48, 53] (by decide) W3 (HTM.out.2.below HL3.out.B (Nat.le_refl _))
    rw [v_parse] at C
    exact C)
  go_wp2_with fail
  refine HC.out.mono ?_
  rintro e W4 ⟨rfl, b4⟩
  have L4 := (HL3.out.call b4).box 1 5
  clear HL3 b4 HC
  go_upto_region 5 with fail
  generalize W4.alloc (.cells #[.int .i64 1, .int .i64 5] 23) = V4 at L4 ⊢
  generalize W4.heap.size = g4 at L4 ⊢
  have HL4 := Lib.hid L4
  clear L4
  have HC := Lib.hid (fun W => micro_yes 2 7 (by decide) (by decide) (by decide) W)
  go_wp2_with fail
  refine (HC.out _).mono ?_
  rintro e W5 ⟨rfl, b5⟩
  have L5 := (HL4.out.call b5).box 2 7000
  clear HL4 b5 HC
  go_upto_region 6 with fail
  generalize W5.alloc (.cells #[.int .i64 2, .int .i64 7000] 23) = V5 at L5 ⊢
  generalize W5.heap.size = g5 at L5 ⊢
  obtain ⟨p0, p1⟩ := L5.cells (e := (g1, 1, 5)) (by simp)
  dsimp only at p0 p1
  have HL5 := Lib.hid L5
  clear L5
  have HC := Lib.hid (show ∀ W, Calls Tryd.prog 24 #[.agg #[.int .i64 1, .int .i64 5], .agg #[.int .i64 0, .int .i64 999999999]] W fun e w' => e = .returned (.tuple #[.agg #[.int .i64 2, .int .i64 4], .int .i64 0]) ∧ Below W.heap.size W w' from fun W => by
    have C := sadd_any 1 5 0 999999999 (by decide) W
    rw [v_add] at C
    exact C)
  go_wp2_with fail
  refine (HC.out _).mono ?_
  rintro e W6 ⟨rfl, b6⟩
  have L6 := (HL5.out.call b6).box 2 4
  clear HL5 b6 HC p0 p1
  go_upto_region 7 with fail
  generalize W6.alloc (.cells #[.int .i64 2, .int .i64 4] 23) = V6 at L6 ⊢
  generalize W6.heap.size = g6 at L6 ⊢
  have HL6 := Lib.hid L6
  clear L6
  have HC := Lib.hid (fun W => time_no 0 (-1) (by unfold Rt; omega) W)
  go_wp2_with fail
  refine (HC.out _).mono ?_
  rintro e W7 ⟨rfl, b7⟩
  have L7 := HL6.out.call b7
  clear HL6 b7 HC
  obtain ⟨p0, p1⟩ := L7.cells (e := (g1, 1, 5)) (by simp)
  obtain ⟨p2, p3⟩ := L7.cells (e := (g4, 1, 5)) (by simp)
  obtain ⟨p4, p5⟩ := L7.cells (e := (g5, 2, 7000)) (by simp)
  obtain ⟨p6, p7⟩ := L7.cells (e := (g6, 2, 4)) (by simp)
  dsimp only at p0 p1 p2 p3 p4 p5 p6 p7
  have k0 := cell_regrown p0
  have k1 := cell_regrown p1
  have k2 := cell_regrown p2
  have k3 := cell_regrown p3
  have k4 := cell_regrown p4
  have k5 := cell_regrown p5
  have k6 := cell_regrown p6
  have k7 := cell_regrown p7
  have cO : ∀ d os, Calls Tryd.prog 17 #[.int .i64 1000000005] (grow (redrawn W7 d) os) fun e w'' => e = .returned (.agg #[.int .i64 1, .int .i64 5]) ∧ ∃ p : Regrown, w'' = grow (redrawn W7 p.d) p.os := fun d os => Calls.regrown_of (by
    have C := of_any 1000000005 (grow (redrawn W7 d) os)
    rw [v_of.1, v_of.2] at C
    exact C)
  have cL : ∀ d os, Calls Tryd.prog 22 #[.agg #[.int .i64 1, .int .i64 5], .agg #[.int .i64 2, .int .i64 4]] (grow (redrawn W7 d) os) fun e w'' => e = .returned (.bool true) ∧ ∃ p : Regrown, w'' = grow (redrawn W7 p.d) p.os := fun d os => Calls.regrown_of (by
    have C := less_any 1 5 2 4 (grow (redrawn W7 d) os)
    rw [v_less] at C
    exact C)
  have HL7 := Lib.hid L7
  clear L7 p0 p1 p2 p3 p4 p5 p6 p7
  go_upto_region 8 with fail
  refine wp_region_quiet_below (by kernel_rfl) (by kernel_rfl) ?_
  repeat (quiet_step (first | with_reducible exact cO _ _ | with_reducible exact cL _ _))
  refine wpQuiet_nil ?_
  intro _ hw'
  obtain ⟨⟨dq, osq⟩, hw''⟩ := hw'
  subst hw''
  go_wp2_with fail
  go_ret
  exact ⟨rfl, (HL7.out.call (below_regrown W7 dq osq)).B⟩
end Go.Proofs.YtemellkcbbhlcaaDoor.Sp
