-- PRINTED BY print.sh 35421559b90ae4d0a3588c463048766b98c2df88dd9212a6774a882060cdf62d: not written by this session
import Derived.Test.YthginjllhlfadaaPForwardNthx0
import Derived.Test.YthginjllhlfadaaPForwardNthx1
namespace Go.Proofs.Ythginjllhlfadaa.PForwardNth
open Go.RowKit Go.Proofs.YthginjllhlfadaaW.PrintWords Go.Proofs.YthginjllhlfadaaW.PrintLast Go.Proofs.YthginjllhlfadaaW.PrintMore
attribute [local go_sem] max2_int min2_int max_two min_two max_three min_three max_four min_four   -- for this text's walks alone
set_option linter.unusedVariables false
set_option linter.unusedSimpArgs false

/-! ### fuseelaw03_ForwardNth: function 4 -/
mutual
def fuseelaw03_ForwardNth.j1 : Nat → Int → Int → Int → Int → Option (Bool)
  | 0, _, _, _, _ => none
  | k + 1, x0, x1, x2, x7 => (forward_Nth.f k x0 x1 x2).bind fun t143 => (if t143 = x7 then (if t143 = 4611686018427387903 then (some true) else (if t143 = (-4611686018427387903) then (some true) else (if x2 < 0 then (some true) else ((forward_Count.f x0 x1 t143).bind fun t144 => (if t144 = (wrap64 (x2 + 1)) then ((forward_Count.f x0 x1 (wrap64 (t143 - 1))).bind fun t145 => (some (t145 == x2))) else (some false)))))) else (some false))
def fuseelaw03_ForwardNth.j0 : Nat → Int → Int → Int → Int → Int → Int → Bool → Option (Bool)
  | 0, _, _, _, _, _, _, _ => none
  | k + 1, x0, x1, x2, x7, x8, x9, x30 => if x30 = true then (if (IntKind.u64.wrap (x9)) = 0 then (none) else (if (IntKind.u64.wrap (x2)) ≤ (IntKind.u64.wrap (Int.tdiv (IntKind.u64.wrap (4611686018427387903 - (IntKind.u64.wrap (x8)))) (IntKind.u64.wrap (x9)))) then (fuseelaw03_ForwardNth.j1 k x0 x1 x2 (wrap64 (IntKind.u64.wrap ((IntKind.u64.wrap (x8)) + (IntKind.u64.wrap ((IntKind.u64.wrap (x2)) * (IntKind.u64.wrap (x9)))))))) else (fuseelaw03_ForwardNth.j1 k x0 x1 x2 x7))) else (fuseelaw03_ForwardNth.j1 k x0 x1 x2 x7)
end
def fuseelaw03_ForwardNth.f (k : Nat) (a0 : Int) (a1 : Int) (a2 : Int) : Option (Bool) := (fuseelaw03_fixed.f k).bind fun t140 => (if t140 = true then ((fuseeref01_Clamp.f a0).bind fun t141 => ((fuseeref01_Clamp.f a1).bind fun t142 => (if a2 = 0 then (fuseelaw03_ForwardNth.j1 k a0 a1 a2 t141) else (if a2 > 0 then (if t142 > 0 then (fuseelaw03_ForwardNth.j0 k a0 a1 a2 4611686018427387903 t141 t142 (decide (t141 < 4611686018427387903))) else (fuseelaw03_ForwardNth.j0 k a0 a1 a2 4611686018427387903 t141 t142 false)) else (fuseelaw03_ForwardNth.j0 k a0 a1 a2 4611686018427387903 t141 t142 false))))) else (some false))
theorem fuseelaw03_ForwardNth.mono_l : ∀ k, (∀ y0 y1 y2 y3, LeO (fuseelaw03_ForwardNth.j1 k y0 y1 y2 y3) (fuseelaw03_ForwardNth.j1 (k + 1) y0 y1 y2 y3)) ∧ (∀ y0 y1 y2 y3 y4 y5 y6, LeO (fuseelaw03_ForwardNth.j0 k y0 y1 y2 y3 y4 y5 y6) (fuseelaw03_ForwardNth.j0 (k + 1) y0 y1 y2 y3 y4 y5 y6))
  | 0 => ⟨fun _ _ _ _ r h => by simp [fuseelaw03_ForwardNth.j1] at h, fun _ _ _ _ _ _ _ r h => by simp [fuseelaw03_ForwardNth.j0] at h⟩
  | k + 1 => by
    obtain ⟨ih0, ih1⟩ := fuseelaw03_ForwardNth.mono_l k
    refine ⟨?_, ?_⟩
    · intro y0 y1 y2 y3
      unfold fuseelaw03_ForwardNth.j1
      repeat' first
      | (with_reducible exact ih0 _ _ _ _)
      | (with_reducible exact ih1 _ _ _ _ _ _ _)
      | (with_reducible exact forward_Nth.mono _ _ _ _)
      | (with_reducible exact fuseelaw03_fixed.mono _)
      | (with_reducible exact LeO.refl _)
      | (with_reducible exact LeO.none _)
      | (with_reducible refine LeO.ite ?_ ?_)
      | (with_reducible refine LeO.bind ?_ (fun _ => ?_))
      | exact ih0 _ _ _ _
      | exact ih1 _ _ _ _ _ _ _
      | exact forward_Nth.mono _ _ _ _
      | exact fuseelaw03_fixed.mono _
      | exact LeO.none _
      | refine LeO.ite ?_ ?_
      | refine LeO.bind ?_ (fun _ => ?_)
    · intro y0 y1 y2 y3 y4 y5 y6
      unfold fuseelaw03_ForwardNth.j0
      repeat' first
      | (with_reducible exact ih0 _ _ _ _)
      | (with_reducible exact ih1 _ _ _ _ _ _ _)
      | (with_reducible exact forward_Nth.mono _ _ _ _)
      | (with_reducible exact fuseelaw03_fixed.mono _)
      | (with_reducible exact LeO.refl _)
      | (with_reducible exact LeO.none _)
      | (with_reducible refine LeO.ite ?_ ?_)
      | (with_reducible refine LeO.bind ?_ (fun _ => ?_))
      | exact ih0 _ _ _ _
      | exact ih1 _ _ _ _ _ _ _
      | exact forward_Nth.mono _ _ _ _
      | exact fuseelaw03_fixed.mono _
      | exact LeO.none _
      | refine LeO.ite ?_ ?_
      | refine LeO.bind ?_ (fun _ => ?_)
theorem fuseelaw03_ForwardNth.mono : ∀ a0 a1 a2 k, LeO (fuseelaw03_ForwardNth.f k a0 a1 a2) (fuseelaw03_ForwardNth.f (k + 1) a0 a1 a2) := by
  intro a0 a1 a2 k
  obtain ⟨ih0, ih1⟩ := fuseelaw03_ForwardNth.mono_l k
  unfold fuseelaw03_ForwardNth.f
  repeat' first
      | (with_reducible exact ih0 _ _ _ _)
      | (with_reducible exact ih1 _ _ _ _ _ _ _)
      | (with_reducible exact forward_Nth.mono _ _ _ _)
      | (with_reducible exact fuseelaw03_fixed.mono _)
      | (with_reducible exact LeO.refl _)
      | (with_reducible exact LeO.none _)
      | (with_reducible refine LeO.ite ?_ ?_)
      | (with_reducible refine LeO.bind ?_ (fun _ => ?_))
      | exact ih0 _ _ _ _
      | exact ih1 _ _ _ _ _ _ _
      | exact forward_Nth.mono _ _ _ _
      | exact fuseelaw03_fixed.mono _
      | exact LeO.none _
      | refine LeO.ite ?_ ?_
      | refine LeO.bind ?_ (fun _ => ?_)
set_option maxHeartbeats 8000000 in
set_option maxRecDepth 100000 in
theorem fuseelaw03_ForwardNth.calls (k : Nat) (a0 : Int) (a1 : Int) (a2 : Int) (r : Bool) (w : World) (h : fuseelaw03_ForwardNth.f k a0 a1 a2 = some r) :
    Calls Try.prog 4 #[.int .i64 a0, .int .i64 a1, .int .i64 a2] w fun e w' => e = .returned (.bool r) ∧ Below w.heap.size w w' := by
  have HB := Aside0.mk (Below.refl w.heap.size w)
  have H : ((fuseelaw03_fixed.f k).bind fun t140 => (if t140 = true then ((fuseeref01_Clamp.f a0).bind fun t141 => ((fuseeref01_Clamp.f a1).bind fun t142 => (if a2 = 0 then (fuseelaw03_ForwardNth.j1 k a0 a1 a2 t141) else (if a2 > 0 then (if t142 > 0 then (fuseelaw03_ForwardNth.j0 k a0 a1 a2 4611686018427387903 t141 t142 (decide (t141 < 4611686018427387903))) else (fuseelaw03_ForwardNth.j0 k a0 a1 a2 4611686018427387903 t141 t142 false)) else (fuseelaw03_ForwardNth.j0 k a0 a1 a2 4611686018427387903 t141 t142 false))))) else (some false))) = some r := h
  clear h
  replace H := Option.bind_eq_some_iff.mp H
  obtain ⟨t140, A40, H⟩ := H
  replace H : (if t140 = true then ((fuseeref01_Clamp.f a0).bind fun t141 => ((fuseeref01_Clamp.f a1).bind fun t142 => (if a2 = 0 then (fuseelaw03_ForwardNth.j1 k a0 a1 a2 t141) else (if a2 > 0 then (if t142 > 0 then (fuseelaw03_ForwardNth.j0 k a0 a1 a2 4611686018427387903 t141 t142 (decide (t141 < 4611686018427387903))) else (fuseelaw03_ForwardNth.j0 k a0 a1 a2 4611686018427387903 t141 t142 false)) else (fuseelaw03_ForwardNth.j0 k a0 a1 a2 4611686018427387903 t141 t142 false))))) else (some false)) = some r := H
  have A4 := Aside0.mk A40
  clear A40
  by_cases c5 : t140 = true
  · subst c5
    have H1 : ((fuseeref01_Clamp.f a0).bind fun t141 => ((fuseeref01_Clamp.f a1).bind fun t142 => (if a2 = 0 then (fuseelaw03_ForwardNth.j1 k a0 a1 a2 t141) else (if a2 > 0 then (if t142 > 0 then (fuseelaw03_ForwardNth.j0 k a0 a1 a2 4611686018427387903 t141 t142 (decide (t141 < 4611686018427387903))) else (fuseelaw03_ForwardNth.j0 k a0 a1 a2 4611686018427387903 t141 t142 false)) else (fuseelaw03_ForwardNth.j0 k a0 a1 a2 4611686018427387903 t141 t142 false))))) = some r := by rw [if_pos rfl] at H; exact H
    clear H
    have H := H1
    clear H1
    replace H := Option.bind_eq_some_iff.mp H
    obtain ⟨t141, A60, H⟩ := H
    replace H : ((fuseeref01_Clamp.f a1).bind fun t142 => (if a2 = 0 then (fuseelaw03_ForwardNth.j1 k a0 a1 a2 t141) else (if a2 > 0 then (if t142 > 0 then (fuseelaw03_ForwardNth.j0 k a0 a1 a2 4611686018427387903 t141 t142 (decide (t141 < 4611686018427387903))) else (fuseelaw03_ForwardNth.j0 k a0 a1 a2 4611686018427387903 t141 t142 false)) else (fuseelaw03_ForwardNth.j0 k a0 a1 a2 4611686018427387903 t141 t142 false)))) = some r := H
    have A6 := Aside0.mk A60
    clear A60
    replace H := Option.bind_eq_some_iff.mp H
    obtain ⟨t142, A70, H⟩ := H
    replace H : (if a2 = 0 then (fuseelaw03_ForwardNth.j1 k a0 a1 a2 t141) else (if a2 > 0 then (if t142 > 0 then (fuseelaw03_ForwardNth.j0 k a0 a1 a2 4611686018427387903 t141 t142 (decide (t141 < 4611686018427387903))) else (fuseelaw03_ForwardNth.j0 k a0 a1 a2 4611686018427387903 t141 t142 false)) else (fuseelaw03_ForwardNth.j0 k a0 a1 a2 4611686018427387903 t141 t142 false))) = some r := H
    have A7 := Aside0.mk A70
    clear A70
    have HC8 := Aside0.mk H
    clear H
    go_enter Try.func4, Try.ntmps4
    go_upto_if 19 with (first | ((with_reducible refine gate_callee (f := 13) rfl ?_); refine goesL_ (some 12) rfl rfl Try.func13 (by kernel_rfl) rfl #[] rfl (by (try simp only [List.map_toArray, List.map_cons, List.map_nil]); first | done | rfl | (simp only [List.length_drop, List.length_take]; rfl)) ?_; (with_reducible refine (fuseelaw03_fixed.calls k  true _ A4.out).mono ?_); rintro e w9 ⟨rfl, hb⟩; refine ⟨_, rfl, ?_⟩; have n0_ := Aside0.mk (below_step (by repeat (first | (with_reducible first | exact HB.out | apply below_alloc | apply pw_below_drewN | apply below_drew1) | exact HB.out)) hb); clear HB; have HB := n0_; clear n0_; (try clear hb); (try clear hb2); (try clear hk); (try clear hi)) | ((with_reducible refine gate_callee (f := 19) rfl ?_); refine goesL_ (some 15) rfl rfl Try.func19 (by kernel_rfl) rfl #[.int .i64 a0] rfl (by (try simp only [List.map_toArray, List.map_cons, List.map_nil]); first | done | rfl | (simp only [List.length_drop, List.length_take]; rfl)) ?_; (with_reducible refine (fuseeref01_Clamp.calls a0 t141 _ A6.out).mono ?_); rintro e w' ⟨rfl, ⟨nd, rfl⟩⟩; refine ⟨_, rfl, ?_⟩) | ((with_reducible refine gate_callee (f := 19) rfl ?_); refine goesL_ (some 17) rfl rfl Try.func19 (by kernel_rfl) rfl #[.int .i64 a1] rfl (by (try simp only [List.map_toArray, List.map_cons, List.map_nil]); first | done | rfl | (simp only [List.length_drop, List.length_take]; rfl)) ?_; (with_reducible refine (fuseeref01_Clamp.calls a1 t142 _ A7.out).mono ?_); rintro e w' ⟨rfl, ⟨nd, rfl⟩⟩; refine ⟨_, rfl, ?_⟩))
    (try simp only [Act.put, List.setIfInBounds_toArray, List.set_cons_zero, List.set_cons_succ])
    go_cut [7] (fun v7 wc => ∃ (kq : Nat) (x7_7 : Int), v7 = .int .i64 x7_7 ∧ Aside0 (fuseelaw03_ForwardNth.j1 kq a0 a1 a2 x7_7 = some r) ∧ Aside0 (kq ≤ k) ∧ Aside0 (Below w.heap.size w wc))
    case first =>
      have H := HC8.out
      clear HC8
      by_cases c10 : a2 = 0
      · rw [if_pos c10] at H
        have c10b0 : (a2 == 0) = true := beq_iff_eq.mpr c10
        have c10b1 : (a2 != 0) = false := bne_eq_false_iff_eq.mpr c10
        clear c10
        (first | rw [c10b0] | (simp only [i64_w, i32_w]; rw [c10b0]) | skip)
        have H' := Aside0.mk H
        clear H
        go_wp2
        go_meet
        case rel => exact ⟨_, (t141), (by first | rfl | (simp; done) | (simp [*]; done)), H', ⟨by first | omega | exact Nat.le_refl _⟩, ⟨by repeat (first | (with_reducible first | exact HB.out | apply below_alloc | apply pw_below_drewN | apply below_drew1) | exact HB.out)⟩⟩
      · rw [if_neg c10] at H
        have c10b0 : (a2 == 0) = false := beq_eq_false_iff_ne.mpr c10
        have c10b1 : (a2 != 0) = true := bne_iff_ne.mpr c10
        (first | rw [c10b0] | (simp only [i64_w, i32_w]; rw [c10b0]) | skip)
        have HC11 := Aside0.mk H
        clear H
        go_upto_region 7 with (fail)
        go_cut [30] (fun v30 wc => ∃ (kq : Nat) (x30_10 : Bool), v30 = .bool x30_10 ∧ Aside0 (fuseelaw03_ForwardNth.j0 kq a0 a1 a2 4611686018427387903 t141 t142 x30_10 = some r) ∧ Aside0 (kq ≤ k) ∧ Aside0 (Below w.heap.size w wc))
        case first =>
          have H := HC11.out
          clear HC11
          by_cases c12 : a2 > 0
          · rw [if_pos c12] at H
            have c12b0 : decide (0 < a2) = true := decide_eq_true c12
            clear c12
            (first | rw [c12b0] | (simp only [i64_w, i32_w]; rw [c12b0]) | skip)
            by_cases c13 : t142 > 0
            · rw [if_pos c13] at H
              have c13b0 : decide (0 < t142) = true := decide_eq_true c13
              clear c13
              have H' := Aside0.mk H
              clear H
              go_wp2
              go_meet
              case rel => exact ⟨_, (decide (t141 < 4611686018427387903)), (by first | rfl | (simp; done) | (simp [*]; done)), H', ⟨by first | omega | exact Nat.le_refl _⟩, ⟨by repeat (first | (with_reducible first | exact HB.out | apply below_alloc | apply pw_below_drewN | apply below_drew1) | exact HB.out)⟩⟩
            · rw [if_neg c13] at H
              have c13b0 : decide (0 < t142) = false := decide_eq_false c13
              clear c13
              have H' := Aside0.mk H
              clear H
              go_wp2
              go_meet
              case rel => exact ⟨_, (false), (by first | rfl | (simp; done) | (simp [*]; done)), H', ⟨by first | omega | exact Nat.le_refl _⟩, ⟨by repeat (first | (with_reducible first | exact HB.out | apply below_alloc | apply pw_below_drewN | apply below_drew1) | exact HB.out)⟩⟩
          · rw [if_neg c12] at H
            have c12b0 : decide (0 < a2) = false := decide_eq_false c12
            clear c12
            (first | rw [c12b0] | (simp only [i64_w, i32_w]; rw [c12b0]) | skip)
            have H' := Aside0.mk H
            clear H
            go_wp2
            go_meet
            case rel => exact ⟨_, (false), (by first | rfl | (simp; done) | (simp [*]; done)), H', ⟨by first | omega | exact Nat.le_refl _⟩, ⟨by repeat (first | (with_reducible first | exact HB.out | apply below_alloc | apply pw_below_drewN | apply below_drew1) | exact HB.out)⟩⟩
        case rest =>
          clear HC11
          try clear c1
          try clear p2
          try clear c4
          try clear c5
          try clear c10
          try clear c10b0
          try clear c10b1
          try clear c12
          try clear c12b0
          try clear c13
          try clear c13b0
          obtain ⟨kq, x30_10, rfl, HA, HJ10, HB⟩ := hcut
          cases kq with
          | zero => exact absurd HA.out (by simp [fuseelaw03_ForwardNth.j0])
          | succ kj10 =>
            have H := HA.out
            clear HA
            simp only [fuseelaw03_ForwardNth.j0] at H
            by_cases c14 : x30_10 = true
            · subst c14
              have H1 : (if (IntKind.u64.wrap (t142)) = 0 then (none) else (if (IntKind.u64.wrap (a2)) ≤ (IntKind.u64.wrap (Int.tdiv (IntKind.u64.wrap (4611686018427387903 - (IntKind.u64.wrap (t141)))) (IntKind.u64.wrap (t142)))) then (fuseelaw03_ForwardNth.j1 kj10 a0 a1 a2 (wrap64 (IntKind.u64.wrap ((IntKind.u64.wrap (t141)) + (IntKind.u64.wrap ((IntKind.u64.wrap (a2)) * (IntKind.u64.wrap (t142)))))))) else (fuseelaw03_ForwardNth.j1 kj10 a0 a1 a2 4611686018427387903))) = some r := by rw [if_pos rfl] at H; exact H
              clear H
              have H := H1
              clear H1
              by_cases c15 : (IntKind.u64.wrap (t142)) = 0
              · rw [if_pos c15] at H
                exact absurd H (by simp)
              · rw [if_neg c15] at H
                have c15b0 : ((IntKind.u64.wrap (t142)) == 0) = false := beq_eq_false_iff_ne.mpr c15
                have c15b1 : ((IntKind.u64.wrap (t142)) != 0) = true := bne_iff_ne.mpr c15
                by_cases c16 : (IntKind.u64.wrap (a2)) ≤ (IntKind.u64.wrap (Int.tdiv (IntKind.u64.wrap (4611686018427387903 - (IntKind.u64.wrap (t141)))) (IntKind.u64.wrap (t142))))
                · rw [if_pos c16] at H
                  have c16b0 : decide ((IntKind.u64.wrap (a2)) ≤ (IntKind.u64.wrap (Int.tdiv (IntKind.u64.wrap (4611686018427387903 - (IntKind.u64.wrap (t141)))) (IntKind.u64.wrap (t142))))) = true := decide_eq_true c16
                  clear c16
                  have H' := Aside0.mk H
                  clear H
                  go_wp2
                  go_meet
                  case rel => exact ⟨_, (wrap64 (IntKind.u64.wrap ((IntKind.u64.wrap (t141)) + (IntKind.u64.wrap ((IntKind.u64.wrap (a2)) * (IntKind.u64.wrap (t142))))))), (by first | rfl | (simp; done) | (simp [*]; done)), H', ⟨by have := HJ10.out; first | omega | exact Nat.le_refl _⟩, ⟨by repeat (first | (with_reducible first | exact HB.out | apply below_alloc | apply pw_below_drewN | apply below_drew1) | exact HB.out)⟩⟩
                · rw [if_neg c16] at H
                  have c16b0 : decide ((IntKind.u64.wrap (a2)) ≤ (IntKind.u64.wrap (Int.tdiv (IntKind.u64.wrap (4611686018427387903 - (IntKind.u64.wrap (t141)))) (IntKind.u64.wrap (t142))))) = false := decide_eq_false c16
                  clear c16
                  have H' := Aside0.mk H
                  clear H
                  go_wp2
                  go_meet
                  case rel => exact ⟨_, (4611686018427387903), (by first | rfl | (simp; done) | (simp [*]; done)), H', ⟨by have := HJ10.out; first | omega | exact Nat.le_refl _⟩, ⟨by repeat (first | (with_reducible first | exact HB.out | apply below_alloc | apply pw_below_drewN | apply below_drew1) | exact HB.out)⟩⟩
            · replace c14 := Bool.eq_false_iff.mpr c14
              subst c14
              have H1 : (fuseelaw03_ForwardNth.j1 kj10 a0 a1 a2 4611686018427387903) = some r := by rw [if_neg (show ¬ (false = true) by decide)] at H; exact H
              clear H
              have H := H1
              clear H1
              have H' := Aside0.mk H
              clear H
              go_wp2
              go_meet
              case rel => exact ⟨_, (4611686018427387903), (by first | rfl | (simp; done) | (simp [*]; done)), H', ⟨by have := HJ10.out; first | omega | exact Nat.le_refl _⟩, ⟨by repeat (first | (with_reducible first | exact HB.out | apply below_alloc | apply pw_below_drewN | apply below_drew1) | exact HB.out)⟩⟩
    case rest =>
      clear HC8
      try clear c1
      try clear p2
      try clear c4
      try clear c5
      try clear p6
      try clear c10
      try clear c10b0
      try clear c10b1
      try clear c12
      try clear c12b0
      try clear c13
      try clear c13b0
      try clear c14
      try clear c15
      try clear c15b0
      try clear c15b1
      try clear c16
      try clear c16b0
      try clear p2
      obtain ⟨kq, x7_7, rfl, HA, HJ7, HB⟩ := hcut
      cases kq with
      | zero => exact absurd HA.out (by simp [fuseelaw03_ForwardNth.j1])
      | succ kj7 =>
        have H := HA.out
        clear HA
        simp only [fuseelaw03_ForwardNth.j1] at H
        replace H := Option.bind_eq_some_iff.mp H
        obtain ⟨t143, A170, H⟩ := H
        replace H : (if t143 = x7_7 then (if t143 = 4611686018427387903 then (some true) else (if t143 = (-4611686018427387903) then (some true) else (if a2 < 0 then (some true) else ((forward_Count.f a0 a1 t143).bind fun t144 => (if t144 = (wrap64 (a2 + 1)) then ((forward_Count.f a0 a1 (wrap64 (t143 - 1))).bind fun t145 => (some (t145 == a2))) else (some false)))))) else (some false)) = some r := H
        have A17 := Aside0.mk A170
        clear A170
        by_cases c18 : t143 = x7_7
        · rw [if_pos c18] at H
          have c18b0 : (t143 == x7_7) = true := beq_iff_eq.mpr c18
          have c18b1 : (t143 != x7_7) = false := bne_eq_false_iff_eq.mpr c18
          clear c18
          by_cases c19 : t143 = 4611686018427387903
          · rw [if_pos c19] at H
            have c19b0 : (t143 == 4611686018427387903) = true := beq_iff_eq.mpr c19
            have c19b1 : (t143 != 4611686018427387903) = false := bne_eq_false_iff_eq.mpr c19
            clear c19
            obtain rfl := Option.some.inj H
            go_wp2_with (first | ((with_reducible refine gate_callee (f := 20) rfl ?_); refine goesL_ (some 53) rfl rfl Try.func20 (by kernel_rfl) rfl #[.int .i64 a0, .int .i64 a1, .int .i64 a2] rfl (by (try simp only [List.map_toArray, List.map_cons, List.map_nil]); first | done | rfl | (simp only [List.length_drop, List.length_take]; rfl)) ?_; (with_reducible refine (forward_Nth.calls kj7 a0 a1 a2 t143 _ A17.out).mono ?_); rintro e w20 ⟨rfl, hb⟩; refine ⟨_, rfl, ?_⟩; have n0_ := Aside0.mk (below_step (by repeat (first | (with_reducible first | exact HB.out | apply below_alloc | apply pw_below_drewN | apply below_drew1) | exact HB.out)) hb); clear HB; have HB := n0_; clear n0_; (try clear hb); (try clear hb2); (try clear hk); (try clear hi)))
            go_ret
            exact ⟨by first | rfl | (simp [errW_none, errW_some] <;> rfl) | (simp [*, errW_none, errW_some] <;> rfl), by repeat (first | (with_reducible first | exact HB.out | apply below_alloc | apply pw_below_drewN | apply below_drew1) | exact HB.out)⟩
          · rw [if_neg c19] at H
            have c19b0 : (t143 == 4611686018427387903) = false := beq_eq_false_iff_ne.mpr c19
            have c19b1 : (t143 != 4611686018427387903) = true := bne_iff_ne.mpr c19
            by_cases c21 : t143 = (-4611686018427387903)
            · rw [if_pos c21] at H
              have c21b0 : (t143 == (-4611686018427387903)) = true := beq_iff_eq.mpr c21
              have c21b1 : (t143 != (-4611686018427387903)) = false := bne_eq_false_iff_eq.mpr c21
              clear c21
              obtain rfl := Option.some.inj H
              go_wp2_with (first | ((with_reducible refine gate_callee (f := 20) rfl ?_); refine goesL_ (some 53) rfl rfl Try.func20 (by kernel_rfl) rfl #[.int .i64 a0, .int .i64 a1, .int .i64 a2] rfl (by (try simp only [List.map_toArray, List.map_cons, List.map_nil]); first | done | rfl | (simp only [List.length_drop, List.length_take]; rfl)) ?_; (with_reducible refine (forward_Nth.calls kj7 a0 a1 a2 t143 _ A17.out).mono ?_); rintro e w22 ⟨rfl, hb⟩; refine ⟨_, rfl, ?_⟩; have n0_ := Aside0.mk (below_step (by repeat (first | (with_reducible first | exact HB.out | apply below_alloc | apply pw_below_drewN | apply below_drew1) | exact HB.out)) hb); clear HB; have HB := n0_; clear n0_; (try clear hb); (try clear hb2); (try clear hk); (try clear hi)))
              go_ret
              exact ⟨by first | rfl | (simp [errW_none, errW_some] <;> rfl) | (simp [*, errW_none, errW_some] <;> rfl), by repeat (first | (with_reducible first | exact HB.out | apply below_alloc | apply pw_below_drewN | apply below_drew1) | exact HB.out)⟩
            · rw [if_neg c21] at H
              have c21b0 : (t143 == (-4611686018427387903)) = false := beq_eq_false_iff_ne.mpr c21
              have c21b1 : (t143 != (-4611686018427387903)) = true := bne_iff_ne.mpr c21
              by_cases c23 : a2 < 0
              · rw [if_pos c23] at H
                have c23b0 : decide (a2 < 0) = true := decide_eq_true c23
                clear c23
                obtain rfl := Option.some.inj H
                go_wp2_with (first | ((with_reducible refine gate_callee (f := 20) rfl ?_); refine goesL_ (some 53) rfl rfl Try.func20 (by kernel_rfl) rfl #[.int .i64 a0, .int .i64 a1, .int .i64 a2] rfl (by (try simp only [List.map_toArray, List.map_cons, List.map_nil]); first | done | rfl | (simp only [List.length_drop, List.length_take]; rfl)) ?_; (with_reducible refine (forward_Nth.calls kj7 a0 a1 a2 t143 _ A17.out).mono ?_); rintro e w24 ⟨rfl, hb⟩; refine ⟨_, rfl, ?_⟩; have n0_ := Aside0.mk (below_step (by repeat (first | (with_reducible first | exact HB.out | apply below_alloc | apply pw_below_drewN | apply below_drew1) | exact HB.out)) hb); clear HB; have HB := n0_; clear n0_; (try clear hb); (try clear hb2); (try clear hk); (try clear hi)))
                go_ret
                exact ⟨by first | rfl | (simp [errW_none, errW_some] <;> rfl) | (simp [*, errW_none, errW_some] <;> rfl), by repeat (first | (with_reducible first | exact HB.out | apply below_alloc | apply pw_below_drewN | apply below_drew1) | exact HB.out)⟩
              · rw [if_neg c23] at H
                have c23b0 : decide (a2 < 0) = false := decide_eq_false c23
                clear c23
                replace H := Option.bind_eq_some_iff.mp H
                obtain ⟨t144, A250, H⟩ := H
                replace H : (if t144 = (wrap64 (a2 + 1)) then ((forward_Count.f a0 a1 (wrap64 (t143 - 1))).bind fun t145 => (some (t145 == a2))) else (some false)) = some r := H
                have A25 := Aside0.mk A250
                clear A250
                by_cases c26 : t144 = (wrap64 (a2 + 1))
                · rw [if_pos c26] at H
                  have c26b0 : (t144 == (wrap64 (a2 + 1))) = true := beq_iff_eq.mpr c26
                  have c26b1 : (t144 != (wrap64 (a2 + 1))) = false := bne_eq_false_iff_eq.mpr c26
                  clear c26
                  replace H := Option.bind_eq_some_iff.mp H
                  obtain ⟨t145, A270, H⟩ := H
                  replace H : (some (t145 == a2)) = some r := H
                  have A27 := Aside0.mk A270
                  clear A270
                  obtain rfl := Option.some.inj H
                  go_wp2_with (first | ((with_reducible refine gate_callee (f := 20) rfl ?_); refine goesL_ (some 53) rfl rfl Try.func20 (by kernel_rfl) rfl #[.int .i64 a0, .int .i64 a1, .int .i64 a2] rfl (by (try simp only [List.map_toArray, List.map_cons, List.map_nil]); first | done | rfl | (simp only [List.length_drop, List.length_take]; rfl)) ?_; (with_reducible refine (forward_Nth.calls kj7 a0 a1 a2 t143 _ A17.out).mono ?_); rintro e w28 ⟨rfl, hb⟩; refine ⟨_, rfl, ?_⟩; have n0_ := Aside0.mk (below_step (by repeat (first | (with_reducible first | exact HB.out | apply below_alloc | apply pw_below_drewN | apply below_drew1) | exact HB.out)) hb); clear HB; have HB := n0_; clear n0_; (try clear hb); (try clear hb2); (try clear hk); (try clear hi)) | (go_at_call 17; (with_reducible refine (forward_Count.calls a0 a1 t143 t144 _ A25.out).mono ?_); rintro e w29 ⟨rfl, hb⟩; have n0_ := Aside0.mk (below_step (by repeat (first | (with_reducible first | exact HB.out | apply below_alloc | apply pw_below_drewN | apply below_drew1) | exact HB.out)) hb); clear HB; have HB := n0_; clear n0_; (try clear hb); (try clear hb2); (try clear hk); (try clear hi)) | (go_at_call 17; (with_reducible refine (forward_Count.calls a0 a1 (wrap64 (t143 - 1)) t145 _ A27.out).mono ?_); rintro e w30 ⟨rfl, hb⟩; have n0_ := Aside0.mk (below_step (by repeat (first | (with_reducible first | exact HB.out | apply below_alloc | apply pw_below_drewN | apply below_drew1) | exact HB.out)) hb); clear HB; have HB := n0_; clear n0_; (try clear hb); (try clear hb2); (try clear hk); (try clear hi)))
                  go_ret
                  exact ⟨by first | rfl | (simp [errW_none, errW_some] <;> rfl) | (simp [*, errW_none, errW_some] <;> rfl), by repeat (first | (with_reducible first | exact HB.out | apply below_alloc | apply pw_below_drewN | apply below_drew1) | exact HB.out)⟩
                · rw [if_neg c26] at H
                  have c26b0 : (t144 == (wrap64 (a2 + 1))) = false := beq_eq_false_iff_ne.mpr c26
                  have c26b1 : (t144 != (wrap64 (a2 + 1))) = true := bne_iff_ne.mpr c26
                  obtain rfl := Option.some.inj H
                  go_wp2_with (first | ((with_reducible refine gate_callee (f := 20) rfl ?_); refine goesL_ (some 53) rfl rfl Try.func20 (by kernel_rfl) rfl #[.int .i64 a0, .int .i64 a1, .int .i64 a2] rfl (by (try simp only [List.map_toArray, List.map_cons, List.map_nil]); first | done | rfl | (simp only [List.length_drop, List.length_take]; rfl)) ?_; (with_reducible refine (forward_Nth.calls kj7 a0 a1 a2 t143 _ A17.out).mono ?_); rintro e w31 ⟨rfl, hb⟩; refine ⟨_, rfl, ?_⟩; have n0_ := Aside0.mk (below_step (by repeat (first | (with_reducible first | exact HB.out | apply below_alloc | apply pw_below_drewN | apply below_drew1) | exact HB.out)) hb); clear HB; have HB := n0_; clear n0_; (try clear hb); (try clear hb2); (try clear hk); (try clear hi)) | (go_at_call 17; (with_reducible refine (forward_Count.calls a0 a1 t143 t144 _ A25.out).mono ?_); rintro e w32 ⟨rfl, hb⟩; have n0_ := Aside0.mk (below_step (by repeat (first | (with_reducible first | exact HB.out | apply below_alloc | apply pw_below_drewN | apply below_drew1) | exact HB.out)) hb); clear HB; have HB := n0_; clear n0_; (try clear hb); (try clear hb2); (try clear hk); (try clear hi)))
                  go_ret
                  exact ⟨by first | rfl | (simp [errW_none, errW_some] <;> rfl) | (simp [*, errW_none, errW_some] <;> rfl), by repeat (first | (with_reducible first | exact HB.out | apply below_alloc | apply pw_below_drewN | apply below_drew1) | exact HB.out)⟩
        · rw [if_neg c18] at H
          have c18b0 : (t143 == x7_7) = false := beq_eq_false_iff_ne.mpr c18
          have c18b1 : (t143 != x7_7) = true := bne_iff_ne.mpr c18
          obtain rfl := Option.some.inj H
          go_wp2_with (first | ((with_reducible refine gate_callee (f := 20) rfl ?_); refine goesL_ (some 53) rfl rfl Try.func20 (by kernel_rfl) rfl #[.int .i64 a0, .int .i64 a1, .int .i64 a2] rfl (by (try simp only [List.map_toArray, List.map_cons, List.map_nil]); first | done | rfl | (simp only [List.length_drop, List.length_take]; rfl)) ?_; (with_reducible refine (forward_Nth.calls kj7 a0 a1 a2 t143 _ A17.out).mono ?_); rintro e w33 ⟨rfl, hb⟩; refine ⟨_, rfl, ?_⟩; have n0_ := Aside0.mk (below_step (by repeat (first | (with_reducible first | exact HB.out | apply below_alloc | apply pw_below_drewN | apply below_drew1) | exact HB.out)) hb); clear HB; have HB := n0_; clear n0_; (try clear hb); (try clear hb2); (try clear hk); (try clear hi)))
          go_ret
          exact ⟨by first | rfl | (simp [errW_none, errW_some] <;> rfl) | (simp [*, errW_none, errW_some] <;> rfl), by repeat (first | (with_reducible first | exact HB.out | apply below_alloc | apply pw_below_drewN | apply below_drew1) | exact HB.out)⟩
  · replace c5 := Bool.eq_false_iff.mpr c5
    subst c5
    have H1 : (some false) = some r := by rw [if_neg (show ¬ (false = true) by decide)] at H; exact H
    clear H
    have H := H1
    clear H1
    obtain rfl := Option.some.inj H
    go_enter Try.func4, Try.ntmps4
    go_wp2_with (first | ((with_reducible refine gate_callee (f := 13) rfl ?_); refine goesL_ (some 12) rfl rfl Try.func13 (by kernel_rfl) rfl #[] rfl (by (try simp only [List.map_toArray, List.map_cons, List.map_nil]); first | done | rfl | (simp only [List.length_drop, List.length_take]; rfl)) ?_; (with_reducible refine (fuseelaw03_fixed.calls k  false _ A4.out).mono ?_); rintro e w34 ⟨rfl, hb⟩; refine ⟨_, rfl, ?_⟩; have n0_ := Aside0.mk (below_step (by repeat (first | (with_reducible first | exact HB.out | apply below_alloc | apply pw_below_drewN | apply below_drew1) | exact HB.out)) hb); clear HB; have HB := n0_; clear n0_; (try clear hb); (try clear hb2); (try clear hk); (try clear hi)))
    go_ret
    exact ⟨by first | rfl | (simp [errW_none, errW_some] <;> rfl) | (simp [*, errW_none, errW_some] <;> rfl), by repeat (first | (with_reducible first | exact HB.out | apply below_alloc | apply pw_below_drewN | apply below_drew1) | exact HB.out)⟩

/-- THE ONE PURE STATEMENT of fuseelaw03_ForwardNth: yours. -/
def fuseelaw03_ForwardNth.Pure : Prop := ∀ (a0 : Int) (a1 : Int) (a2 : Int), (Lit.int .i64 a0).wf = true → (Lit.int .i64 a1).wf = true → (Lit.int .i64 a2).wf = true → ∃ k, fuseelaw03_ForwardNth.f k a0 a1 a2 = some true
theorem fuseelaw03_ForwardNth.walk (P : fuseelaw03_ForwardNth.Pure) (a0 : Int) (a1 : Int) (a2 : Int) (w : World) (w0 : (Lit.int .i64 a0).wf = true) (w1 : (Lit.int .i64 a1).wf = true) (w2 : (Lit.int .i64 a2).wf = true) :
    Calls Try.prog 4 #[.int .i64 a0, .int .i64 a1, .int .i64 a2] w fun e w' => e = .returned (.bool true) ∧ Below w.heap.size w w' := by
  obtain ⟨k, h⟩ := P a0 a1 a2 w0 w1 w2
  refine (fuseelaw03_ForwardNth.calls k a0 a1 a2 true w h).mono ?_
  rintro e w' ⟨rfl, hd⟩
  exact ⟨rfl, hd⟩

end Go.Proofs.Ythginjllhlfadaa.PForwardNth
