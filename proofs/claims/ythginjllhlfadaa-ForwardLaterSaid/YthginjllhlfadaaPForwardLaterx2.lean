-- PRINTED BY print.sh 35421559b90ae4d0a3588c463048766b98c2df88dd9212a6774a882060cdf62d: not written by this session
import Derived.Test.YthginjllhlfadaaPForwardLaterx0
import Derived.Test.YthginjllhlfadaaPForwardLaterx1
namespace Go.Proofs.Ythginjllhlfadaa.PForwardLater
open Go.RowKit Go.Proofs.YthginjllhlfadaaW.PrintWords Go.Proofs.YthginjllhlfadaaW.PrintLast Go.Proofs.YthginjllhlfadaaW.PrintMore
attribute [local go_sem] max2_int min2_int max_two min_two max_three min_three max_four min_four   -- for this text's walks alone
set_option linter.unusedVariables false
set_option linter.unusedSimpArgs false

/-! ### fuseelaw03_ForwardLater: function 5 -/
def fuseelaw03_ForwardLater.j0 : Nat → Int → Int → Int → Int → Int → Bool → Option (Bool)
  | 0, _, _, _, _, _, _ => none
  | k + 1, x0, x1, x2, x7, x8, x45 => if x45 = true then (some false) else (if x8 = 0 then ((fuseeref01_Clamp.f x0).bind fun t145 => (some (x7 == t145))) else ((forward_Nth.f k x0 x1 x8).bind fun t146 => (if t146 = x7 then ((forward_Nth.f k x0 x1 (wrap64 (x8 - 1))).bind fun t147 => ((fuseeref01_Clamp.f x2).bind fun t148 => (some (decide (t147 ≤ t148))))) else (some false))))
def fuseelaw03_ForwardLater.f (k : Nat) (a0 : Int) (a1 : Int) (a2 : Int) : Option (Bool) := (fuseelaw03_fixed.f k).bind fun t140 => (if t140 = true then ((forward_Next.f k a0 a1 a2).bind fun bt141 => ((forward_Over.f bt141.2).bind fun t143 => (if bt141.2 < 0 then (fuseelaw03_ForwardLater.j0 k a0 a1 a2 bt141.1 bt141.2 true) else ((fuseeref01_Clamp.f a2).bind fun t144 => (if bt141.1 ≤ t144 then (if bt141.1 < 4611686018427387903 then (fuseelaw03_ForwardLater.j0 k a0 a1 a2 bt141.1 bt141.2 true) else (if t143 < 0 then (fuseelaw03_ForwardLater.j0 k a0 a1 a2 bt141.1 bt141.2 true) else (if t143 > 2147483647 then (fuseelaw03_ForwardLater.j0 k a0 a1 a2 bt141.1 bt141.2 true) else (fuseelaw03_ForwardLater.j0 k a0 a1 a2 bt141.1 bt141.2 (decide (t143 > bt141.2)))))) else (if t143 < 0 then (fuseelaw03_ForwardLater.j0 k a0 a1 a2 bt141.1 bt141.2 true) else (if t143 > 2147483647 then (fuseelaw03_ForwardLater.j0 k a0 a1 a2 bt141.1 bt141.2 true) else (fuseelaw03_ForwardLater.j0 k a0 a1 a2 bt141.1 bt141.2 (decide (t143 > bt141.2)))))))))) else (some false))
theorem fuseelaw03_ForwardLater.mono_l : ∀ k, (∀ y0 y1 y2 y3 y4 y5, LeO (fuseelaw03_ForwardLater.j0 k y0 y1 y2 y3 y4 y5) (fuseelaw03_ForwardLater.j0 (k + 1) y0 y1 y2 y3 y4 y5))
  | 0 => fun _ _ _ _ _ _ r h => by simp [fuseelaw03_ForwardLater.j0] at h
  | k + 1 => by
    have ih0 := fuseelaw03_ForwardLater.mono_l k
    · intro y0 y1 y2 y3 y4 y5
      unfold fuseelaw03_ForwardLater.j0
      repeat' first
      | (with_reducible exact ih0 _ _ _ _ _ _)
      | (with_reducible exact forward_Next.mono _ _ _ _)
      | (with_reducible exact forward_Nth.mono _ _ _ _)
      | (with_reducible exact fuseelaw03_fixed.mono _)
      | (with_reducible exact LeO.refl _)
      | (with_reducible exact LeO.none _)
      | (with_reducible refine LeO.ite ?_ ?_)
      | (with_reducible refine LeO.bind ?_ (fun _ => ?_))
      | exact ih0 _ _ _ _ _ _
      | exact forward_Next.mono _ _ _ _
      | exact forward_Nth.mono _ _ _ _
      | exact fuseelaw03_fixed.mono _
      | exact LeO.none _
      | refine LeO.ite ?_ ?_
      | refine LeO.bind ?_ (fun _ => ?_)
theorem fuseelaw03_ForwardLater.mono : ∀ a0 a1 a2 k, LeO (fuseelaw03_ForwardLater.f k a0 a1 a2) (fuseelaw03_ForwardLater.f (k + 1) a0 a1 a2) := by
  intro a0 a1 a2 k
  have ih0 := fuseelaw03_ForwardLater.mono_l k
  unfold fuseelaw03_ForwardLater.f
  repeat' first
      | (with_reducible exact ih0 _ _ _ _ _ _)
      | (with_reducible exact forward_Next.mono _ _ _ _)
      | (with_reducible exact forward_Nth.mono _ _ _ _)
      | (with_reducible exact fuseelaw03_fixed.mono _)
      | (with_reducible exact LeO.refl _)
      | (with_reducible exact LeO.none _)
      | (with_reducible refine LeO.ite ?_ ?_)
      | (with_reducible refine LeO.bind ?_ (fun _ => ?_))
      | exact ih0 _ _ _ _ _ _
      | exact forward_Next.mono _ _ _ _
      | exact forward_Nth.mono _ _ _ _
      | exact fuseelaw03_fixed.mono _
      | exact LeO.none _
      | refine LeO.ite ?_ ?_
      | refine LeO.bind ?_ (fun _ => ?_)
set_option maxHeartbeats 8000000 in
set_option maxRecDepth 100000 in
theorem fuseelaw03_ForwardLater.calls (k : Nat) (a0 : Int) (a1 : Int) (a2 : Int) (r : Bool) (w : World) (h : fuseelaw03_ForwardLater.f k a0 a1 a2 = some r) :
    Calls Try.prog 5 #[.int .i64 a0, .int .i64 a1, .int .i64 a2] w fun e w' => e = .returned (.bool r) ∧ Below w.heap.size w w' := by
  have HB := Aside0.mk (Below.refl w.heap.size w)
  have H : ((fuseelaw03_fixed.f k).bind fun t140 => (if t140 = true then ((forward_Next.f k a0 a1 a2).bind fun bt141 => ((forward_Over.f bt141.2).bind fun t143 => (if bt141.2 < 0 then (fuseelaw03_ForwardLater.j0 k a0 a1 a2 bt141.1 bt141.2 true) else ((fuseeref01_Clamp.f a2).bind fun t144 => (if bt141.1 ≤ t144 then (if bt141.1 < 4611686018427387903 then (fuseelaw03_ForwardLater.j0 k a0 a1 a2 bt141.1 bt141.2 true) else (if t143 < 0 then (fuseelaw03_ForwardLater.j0 k a0 a1 a2 bt141.1 bt141.2 true) else (if t143 > 2147483647 then (fuseelaw03_ForwardLater.j0 k a0 a1 a2 bt141.1 bt141.2 true) else (fuseelaw03_ForwardLater.j0 k a0 a1 a2 bt141.1 bt141.2 (decide (t143 > bt141.2)))))) else (if t143 < 0 then (fuseelaw03_ForwardLater.j0 k a0 a1 a2 bt141.1 bt141.2 true) else (if t143 > 2147483647 then (fuseelaw03_ForwardLater.j0 k a0 a1 a2 bt141.1 bt141.2 true) else (fuseelaw03_ForwardLater.j0 k a0 a1 a2 bt141.1 bt141.2 (decide (t143 > bt141.2)))))))))) else (some false))) = some r := h
  clear h
  replace H := Option.bind_eq_some_iff.mp H
  obtain ⟨t140, A40, H⟩ := H
  replace H : (if t140 = true then ((forward_Next.f k a0 a1 a2).bind fun bt141 => ((forward_Over.f bt141.2).bind fun t143 => (if bt141.2 < 0 then (fuseelaw03_ForwardLater.j0 k a0 a1 a2 bt141.1 bt141.2 true) else ((fuseeref01_Clamp.f a2).bind fun t144 => (if bt141.1 ≤ t144 then (if bt141.1 < 4611686018427387903 then (fuseelaw03_ForwardLater.j0 k a0 a1 a2 bt141.1 bt141.2 true) else (if t143 < 0 then (fuseelaw03_ForwardLater.j0 k a0 a1 a2 bt141.1 bt141.2 true) else (if t143 > 2147483647 then (fuseelaw03_ForwardLater.j0 k a0 a1 a2 bt141.1 bt141.2 true) else (fuseelaw03_ForwardLater.j0 k a0 a1 a2 bt141.1 bt141.2 (decide (t143 > bt141.2)))))) else (if t143 < 0 then (fuseelaw03_ForwardLater.j0 k a0 a1 a2 bt141.1 bt141.2 true) else (if t143 > 2147483647 then (fuseelaw03_ForwardLater.j0 k a0 a1 a2 bt141.1 bt141.2 true) else (fuseelaw03_ForwardLater.j0 k a0 a1 a2 bt141.1 bt141.2 (decide (t143 > bt141.2)))))))))) else (some false)) = some r := H
  have A4 := Aside0.mk A40
  clear A40
  by_cases c5 : t140 = true
  · subst c5
    have H1 : ((forward_Next.f k a0 a1 a2).bind fun bt141 => ((forward_Over.f bt141.2).bind fun t143 => (if bt141.2 < 0 then (fuseelaw03_ForwardLater.j0 k a0 a1 a2 bt141.1 bt141.2 true) else ((fuseeref01_Clamp.f a2).bind fun t144 => (if bt141.1 ≤ t144 then (if bt141.1 < 4611686018427387903 then (fuseelaw03_ForwardLater.j0 k a0 a1 a2 bt141.1 bt141.2 true) else (if t143 < 0 then (fuseelaw03_ForwardLater.j0 k a0 a1 a2 bt141.1 bt141.2 true) else (if t143 > 2147483647 then (fuseelaw03_ForwardLater.j0 k a0 a1 a2 bt141.1 bt141.2 true) else (fuseelaw03_ForwardLater.j0 k a0 a1 a2 bt141.1 bt141.2 (decide (t143 > bt141.2)))))) else (if t143 < 0 then (fuseelaw03_ForwardLater.j0 k a0 a1 a2 bt141.1 bt141.2 true) else (if t143 > 2147483647 then (fuseelaw03_ForwardLater.j0 k a0 a1 a2 bt141.1 bt141.2 true) else (fuseelaw03_ForwardLater.j0 k a0 a1 a2 bt141.1 bt141.2 (decide (t143 > bt141.2)))))))))) = some r := by rw [if_pos rfl] at H; exact H
    clear H
    have H := H1
    clear H1
    replace H := Option.bind_eq_some_iff.mp H
    obtain ⟨⟨t141, t142⟩, A60, H⟩ := H
    replace H : ((forward_Over.f t142).bind fun t143 => (if t142 < 0 then (fuseelaw03_ForwardLater.j0 k a0 a1 a2 t141 t142 true) else ((fuseeref01_Clamp.f a2).bind fun t144 => (if t141 ≤ t144 then (if t141 < 4611686018427387903 then (fuseelaw03_ForwardLater.j0 k a0 a1 a2 t141 t142 true) else (if t143 < 0 then (fuseelaw03_ForwardLater.j0 k a0 a1 a2 t141 t142 true) else (if t143 > 2147483647 then (fuseelaw03_ForwardLater.j0 k a0 a1 a2 t141 t142 true) else (fuseelaw03_ForwardLater.j0 k a0 a1 a2 t141 t142 (decide (t143 > t142)))))) else (if t143 < 0 then (fuseelaw03_ForwardLater.j0 k a0 a1 a2 t141 t142 true) else (if t143 > 2147483647 then (fuseelaw03_ForwardLater.j0 k a0 a1 a2 t141 t142 true) else (fuseelaw03_ForwardLater.j0 k a0 a1 a2 t141 t142 (decide (t143 > t142))))))))) = some r := H
    have A6 := Aside0.mk A60
    clear A60
    replace H := Option.bind_eq_some_iff.mp H
    obtain ⟨t143, A70, H⟩ := H
    replace H : (if t142 < 0 then (fuseelaw03_ForwardLater.j0 k a0 a1 a2 t141 t142 true) else ((fuseeref01_Clamp.f a2).bind fun t144 => (if t141 ≤ t144 then (if t141 < 4611686018427387903 then (fuseelaw03_ForwardLater.j0 k a0 a1 a2 t141 t142 true) else (if t143 < 0 then (fuseelaw03_ForwardLater.j0 k a0 a1 a2 t141 t142 true) else (if t143 > 2147483647 then (fuseelaw03_ForwardLater.j0 k a0 a1 a2 t141 t142 true) else (fuseelaw03_ForwardLater.j0 k a0 a1 a2 t141 t142 (decide (t143 > t142)))))) else (if t143 < 0 then (fuseelaw03_ForwardLater.j0 k a0 a1 a2 t141 t142 true) else (if t143 > 2147483647 then (fuseelaw03_ForwardLater.j0 k a0 a1 a2 t141 t142 true) else (fuseelaw03_ForwardLater.j0 k a0 a1 a2 t141 t142 (decide (t143 > t142)))))))) = some r := H
    have A7 := Aside0.mk A70
    clear A70
    have HC8 := Aside0.mk H
    clear H
    go_enter Try.func5, Try.ntmps5
    go_upto_region 5 with (first | ((with_reducible refine gate_callee (f := 13) rfl ?_); refine goesL_ (some 10) rfl rfl Try.func13 (by kernel_rfl) rfl #[] rfl (by (try simp only [List.map_toArray, List.map_cons, List.map_nil]); first | done | rfl | (simp only [List.length_drop, List.length_take]; rfl)) ?_; (with_reducible refine (fuseelaw03_fixed.calls k  true _ A4.out).mono ?_); rintro e w9 ⟨rfl, hb⟩; refine ⟨_, rfl, ?_⟩; have n0_ := Aside0.mk (below_step (by repeat (first | (with_reducible first | exact HB.out | apply below_alloc | apply pw_below_drewN | apply below_drew1) | exact HB.out)) hb); clear HB; have HB := n0_; clear n0_; (try clear hb); (try clear hb2); (try clear hk); (try clear hi)) | ((with_reducible refine gate_callee (f := 16) rfl ?_); refine goesL_ (some 16) rfl rfl Try.func16 (by kernel_rfl) rfl #[.int .i64 a0, .int .i64 a1, .int .i64 a2] rfl (by (try simp only [List.map_toArray, List.map_cons, List.map_nil]); first | done | rfl | (simp only [List.length_drop, List.length_take]; rfl)) ?_; (with_reducible refine (forward_Next.calls k a0 a1 a2 t141 t142 _ A6.out).mono ?_); rintro e w10 ⟨rfl, hb⟩; refine ⟨_, rfl, ?_⟩; have n0_ := Aside0.mk (below_step (by repeat (first | (with_reducible first | exact HB.out | apply below_alloc | apply pw_below_drewN | apply below_drew1) | exact HB.out)) hb); clear HB; have HB := n0_; clear n0_; (try clear hb); (try clear hb2); (try clear hk); (try clear hi)) | ((with_reducible refine gate_callee (f := 21) rfl ?_); refine goesL_ (some 20) rfl rfl Try.func21 (by kernel_rfl) rfl #[.int .i64 t142] rfl (by (try simp only [List.map_toArray, List.map_cons, List.map_nil]); first | done | rfl | (simp only [List.length_drop, List.length_take]; rfl)) ?_; (with_reducible refine (forward_Over.calls t142 t143 _ A7.out).mono ?_); rintro e w11 ⟨rfl, hb⟩; refine ⟨_, rfl, ?_⟩; have n0_ := Aside0.mk (below_step (by repeat (first | (with_reducible first | exact HB.out | apply below_alloc | apply pw_below_drewN | apply below_drew1) | exact HB.out)) hb); clear HB; have HB := n0_; clear n0_; (try clear hb); (try clear hb2); (try clear hk); (try clear hi)))
    (try simp only [Act.put, List.setIfInBounds_toArray, List.set_cons_zero, List.set_cons_succ])
    go_cut [45] (fun v45 wc => ∃ (kq : Nat) (x45_7 : Bool), v45 = .bool x45_7 ∧ Aside0 (fuseelaw03_ForwardLater.j0 kq a0 a1 a2 t141 t142 x45_7 = some r) ∧ Aside0 (kq ≤ k) ∧ Aside0 (Below w.heap.size w wc))
    case first =>
      have H := HC8.out
      clear HC8
      by_cases c12 : t142 < 0
      · rw [if_pos c12] at H
        have c12b0 : decide (t142 < 0) = true := decide_eq_true c12
        clear c12
        (first | rw [c12b0] | (simp only [i64_w, i32_w]; rw [c12b0]) | skip)
        have H' := Aside0.mk H
        clear H
        go_wp2
        go_meet
        case rel => exact ⟨_, (true), (by first | rfl | (simp; done) | (simp [*]; done)), H', ⟨by first | omega | exact Nat.le_refl _⟩, ⟨by repeat (first | (with_reducible first | exact HB.out | apply below_alloc | apply pw_below_drewN | apply below_drew1) | exact HB.out)⟩⟩
      · rw [if_neg c12] at H
        have c12b0 : decide (t142 < 0) = false := decide_eq_false c12
        clear c12
        (first | rw [c12b0] | (simp only [i64_w, i32_w]; rw [c12b0]) | skip)
        replace H := Option.bind_eq_some_iff.mp H
        obtain ⟨t144, A130, H⟩ := H
        replace H : (if t141 ≤ t144 then (if t141 < 4611686018427387903 then (fuseelaw03_ForwardLater.j0 k a0 a1 a2 t141 t142 true) else (if t143 < 0 then (fuseelaw03_ForwardLater.j0 k a0 a1 a2 t141 t142 true) else (if t143 > 2147483647 then (fuseelaw03_ForwardLater.j0 k a0 a1 a2 t141 t142 true) else (fuseelaw03_ForwardLater.j0 k a0 a1 a2 t141 t142 (decide (t143 > t142)))))) else (if t143 < 0 then (fuseelaw03_ForwardLater.j0 k a0 a1 a2 t141 t142 true) else (if t143 > 2147483647 then (fuseelaw03_ForwardLater.j0 k a0 a1 a2 t141 t142 true) else (fuseelaw03_ForwardLater.j0 k a0 a1 a2 t141 t142 (decide (t143 > t142)))))) = some r := H
        have A13 := Aside0.mk A130
        clear A130
        by_cases c14 : t141 ≤ t144
        · rw [if_pos c14] at H
          have c14b0 : decide (t141 ≤ t144) = true := decide_eq_true c14
          clear c14
          by_cases c15 : t141 < 4611686018427387903
          · rw [if_pos c15] at H
            have c15b0 : decide (t141 < 4611686018427387903) = true := decide_eq_true c15
            clear c15
            have H' := Aside0.mk H
            clear H
            go_wp2_with (first | (go_at_call 19; (with_reducible refine (fuseeref01_Clamp.calls a2 t144 _ A13.out).mono ?_); rintro e w' ⟨rfl, ⟨nd, rfl⟩⟩))
            go_meet
            case rel => exact ⟨_, (true), (by first | rfl | (simp; done) | (simp [*]; done)), H', ⟨by first | omega | exact Nat.le_refl _⟩, ⟨by repeat (first | (with_reducible first | exact HB.out | apply below_alloc | apply pw_below_drewN | apply below_drew1) | exact HB.out)⟩⟩
          · rw [if_neg c15] at H
            have c15b0 : decide (t141 < 4611686018427387903) = false := decide_eq_false c15
            clear c15
            by_cases c16 : t143 < 0
            · rw [if_pos c16] at H
              have c16b0 : decide (t143 < 0) = true := decide_eq_true c16
              clear c16
              have H' := Aside0.mk H
              clear H
              go_wp2_with (first | (go_at_call 19; (with_reducible refine (fuseeref01_Clamp.calls a2 t144 _ A13.out).mono ?_); rintro e w' ⟨rfl, ⟨nd, rfl⟩⟩))
              go_meet
              case rel => exact ⟨_, (true), (by first | rfl | (simp; done) | (simp [*]; done)), H', ⟨by first | omega | exact Nat.le_refl _⟩, ⟨by repeat (first | (with_reducible first | exact HB.out | apply below_alloc | apply pw_below_drewN | apply below_drew1) | exact HB.out)⟩⟩
            · rw [if_neg c16] at H
              have c16b0 : decide (t143 < 0) = false := decide_eq_false c16
              clear c16
              by_cases c17 : t143 > 2147483647
              · rw [if_pos c17] at H
                have c17b0 : decide (2147483647 < t143) = true := decide_eq_true c17
                clear c17
                have H' := Aside0.mk H
                clear H
                go_wp2_with (first | (go_at_call 19; (with_reducible refine (fuseeref01_Clamp.calls a2 t144 _ A13.out).mono ?_); rintro e w' ⟨rfl, ⟨nd, rfl⟩⟩))
                go_meet
                case rel => exact ⟨_, (true), (by first | rfl | (simp; done) | (simp [*]; done)), H', ⟨by first | omega | exact Nat.le_refl _⟩, ⟨by repeat (first | (with_reducible first | exact HB.out | apply below_alloc | apply pw_below_drewN | apply below_drew1) | exact HB.out)⟩⟩
              · rw [if_neg c17] at H
                have c17b0 : decide (2147483647 < t143) = false := decide_eq_false c17
                clear c17
                have H' := Aside0.mk H
                clear H
                go_wp2_with (first | (go_at_call 19; (with_reducible refine (fuseeref01_Clamp.calls a2 t144 _ A13.out).mono ?_); rintro e w' ⟨rfl, ⟨nd, rfl⟩⟩))
                go_meet
                case rel => exact ⟨_, (decide (t143 > t142)), (by first | rfl | (simp; done) | (simp [*]; done)), H', ⟨by first | omega | exact Nat.le_refl _⟩, ⟨by repeat (first | (with_reducible first | exact HB.out | apply below_alloc | apply pw_below_drewN | apply below_drew1) | exact HB.out)⟩⟩
        · rw [if_neg c14] at H
          have c14b0 : decide (t141 ≤ t144) = false := decide_eq_false c14
          clear c14
          by_cases c18 : t143 < 0
          · rw [if_pos c18] at H
            have c18b0 : decide (t143 < 0) = true := decide_eq_true c18
            clear c18
            have H' := Aside0.mk H
            clear H
            go_wp2_with (first | (go_at_call 19; (with_reducible refine (fuseeref01_Clamp.calls a2 t144 _ A13.out).mono ?_); rintro e w' ⟨rfl, ⟨nd, rfl⟩⟩))
            go_meet
            case rel => exact ⟨_, (true), (by first | rfl | (simp; done) | (simp [*]; done)), H', ⟨by first | omega | exact Nat.le_refl _⟩, ⟨by repeat (first | (with_reducible first | exact HB.out | apply below_alloc | apply pw_below_drewN | apply below_drew1) | exact HB.out)⟩⟩
          · rw [if_neg c18] at H
            have c18b0 : decide (t143 < 0) = false := decide_eq_false c18
            clear c18
            by_cases c19 : t143 > 2147483647
            · rw [if_pos c19] at H
              have c19b0 : decide (2147483647 < t143) = true := decide_eq_true c19
              clear c19
              have H' := Aside0.mk H
              clear H
              go_wp2_with (first | (go_at_call 19; (with_reducible refine (fuseeref01_Clamp.calls a2 t144 _ A13.out).mono ?_); rintro e w' ⟨rfl, ⟨nd, rfl⟩⟩))
              go_meet
              case rel => exact ⟨_, (true), (by first | rfl | (simp; done) | (simp [*]; done)), H', ⟨by first | omega | exact Nat.le_refl _⟩, ⟨by repeat (first | (with_reducible first | exact HB.out | apply below_alloc | apply pw_below_drewN | apply below_drew1) | exact HB.out)⟩⟩
            · rw [if_neg c19] at H
              have c19b0 : decide (2147483647 < t143) = false := decide_eq_false c19
              clear c19
              have H' := Aside0.mk H
              clear H
              go_wp2_with (first | (go_at_call 19; (with_reducible refine (fuseeref01_Clamp.calls a2 t144 _ A13.out).mono ?_); rintro e w' ⟨rfl, ⟨nd, rfl⟩⟩))
              go_meet
              case rel => exact ⟨_, (decide (t143 > t142)), (by first | rfl | (simp; done) | (simp [*]; done)), H', ⟨by first | omega | exact Nat.le_refl _⟩, ⟨by repeat (first | (with_reducible first | exact HB.out | apply below_alloc | apply pw_below_drewN | apply below_drew1) | exact HB.out)⟩⟩
    case rest =>
      clear HC8
      try clear c1
      try clear c2
      try clear p2
      try clear c5
      try clear c12
      try clear c12b0
      try clear c13
      try clear c14
      try clear c14b0
      try clear c15
      try clear c15b0
      try clear c16
      try clear c16b0
      try clear c17
      try clear c17b0
      try clear c18
      try clear c18b0
      try clear c19
      try clear c19b0
      obtain ⟨kq, x45_7, rfl, HA, HJ7, HB⟩ := hcut
      cases kq with
      | zero => exact absurd HA.out (by simp [fuseelaw03_ForwardLater.j0])
      | succ kj7 =>
        have H := HA.out
        clear HA
        simp only [fuseelaw03_ForwardLater.j0] at H
        by_cases c20 : x45_7 = true
        · subst c20
          have H1 : (some false) = some r := by rw [if_pos rfl] at H; exact H
          clear H
          have H := H1
          clear H1
          obtain rfl := Option.some.inj H
          go_wp2
          go_ret
          exact ⟨by first | rfl | (simp [errW_none, errW_some] <;> rfl) | (simp [*, errW_none, errW_some] <;> rfl), by repeat (first | (with_reducible first | exact HB.out | apply below_alloc | apply pw_below_drewN | apply below_drew1) | exact HB.out)⟩
        · replace c20 := Bool.eq_false_iff.mpr c20
          subst c20
          have H1 : (if t142 = 0 then ((fuseeref01_Clamp.f a0).bind fun t145 => (some (t141 == t145))) else ((forward_Nth.f kj7 a0 a1 t142).bind fun t146 => (if t146 = t141 then ((forward_Nth.f kj7 a0 a1 (wrap64 (t142 - 1))).bind fun t147 => ((fuseeref01_Clamp.f a2).bind fun t148 => (some (decide (t147 ≤ t148))))) else (some false)))) = some r := by rw [if_neg (show ¬ (false = true) by decide)] at H; exact H
          clear H
          have H := H1
          clear H1
          by_cases c21 : t142 = 0
          · rw [if_pos c21] at H
            have c21b0 : (t142 == 0) = true := beq_iff_eq.mpr c21
            have c21b1 : (t142 != 0) = false := bne_eq_false_iff_eq.mpr c21
            clear c21
            replace H := Option.bind_eq_some_iff.mp H
            obtain ⟨t145, A220, H⟩ := H
            replace H : (some (t141 == t145)) = some r := H
            have A22 := Aside0.mk A220
            clear A220
            obtain rfl := Option.some.inj H
            go_wp2_with (first | ((with_reducible refine gate_callee (f := 19) rfl ?_); refine goesL_ (some 50) rfl rfl Try.func19 (by kernel_rfl) rfl #[.int .i64 a0] rfl (by (try simp only [List.map_toArray, List.map_cons, List.map_nil]); first | done | rfl | (simp only [List.length_drop, List.length_take]; rfl)) ?_; (with_reducible refine (fuseeref01_Clamp.calls a0 t145 _ A22.out).mono ?_); rintro e w' ⟨rfl, ⟨nd, rfl⟩⟩; refine ⟨_, rfl, ?_⟩))
            go_ret
            exact ⟨by first | rfl | (simp [errW_none, errW_some] <;> rfl) | (simp [*, errW_none, errW_some] <;> rfl), by repeat (first | (with_reducible first | exact HB.out | apply below_alloc | apply pw_below_drewN | apply below_drew1) | exact HB.out)⟩
          · rw [if_neg c21] at H
            have c21b0 : (t142 == 0) = false := beq_eq_false_iff_ne.mpr c21
            have c21b1 : (t142 != 0) = true := bne_iff_ne.mpr c21
            replace H := Option.bind_eq_some_iff.mp H
            obtain ⟨t146, A230, H⟩ := H
            replace H : (if t146 = t141 then ((forward_Nth.f kj7 a0 a1 (wrap64 (t142 - 1))).bind fun t147 => ((fuseeref01_Clamp.f a2).bind fun t148 => (some (decide (t147 ≤ t148))))) else (some false)) = some r := H
            have A23 := Aside0.mk A230
            clear A230
            by_cases c24 : t146 = t141
            · rw [if_pos c24] at H
              have c24b0 : (t146 == t141) = true := beq_iff_eq.mpr c24
              have c24b1 : (t146 != t141) = false := bne_eq_false_iff_eq.mpr c24
              clear c24
              replace H := Option.bind_eq_some_iff.mp H
              obtain ⟨t147, A250, H⟩ := H
              replace H : ((fuseeref01_Clamp.f a2).bind fun t148 => (some (decide (t147 ≤ t148)))) = some r := H
              have A25 := Aside0.mk A250
              clear A250
              replace H := Option.bind_eq_some_iff.mp H
              obtain ⟨t148, A260, H⟩ := H
              replace H : (some (decide (t147 ≤ t148))) = some r := H
              have A26 := Aside0.mk A260
              clear A260
              obtain rfl := Option.some.inj H
              go_wp2_with (first | ((with_reducible refine gate_callee (f := 20) rfl ?_); refine goesL_ (some 55) rfl rfl Try.func20 (by kernel_rfl) rfl #[.int .i64 a0, .int .i64 a1, .int .i64 t142] rfl (by (try simp only [List.map_toArray, List.map_cons, List.map_nil]); first | done | rfl | (simp only [List.length_drop, List.length_take]; rfl)) ?_; (with_reducible refine (forward_Nth.calls kj7 a0 a1 t142 t146 _ A23.out).mono ?_); rintro e w27 ⟨rfl, hb⟩; refine ⟨_, rfl, ?_⟩; have n0_ := Aside0.mk (below_step (by repeat (first | (with_reducible first | exact HB.out | apply below_alloc | apply pw_below_drewN | apply below_drew1) | exact HB.out)) hb); clear HB; have HB := n0_; clear n0_; (try clear hb); (try clear hb2); (try clear hk); (try clear hi)) | (go_at_call 20; (with_reducible refine (forward_Nth.calls kj7 a0 a1 (wrap64 (t142 - 1)) t147 _ A25.out).mono ?_); rintro e w28 ⟨rfl, hb⟩; have n0_ := Aside0.mk (below_step (by repeat (first | (with_reducible first | exact HB.out | apply below_alloc | apply pw_below_drewN | apply below_drew1) | exact HB.out)) hb); clear HB; have HB := n0_; clear n0_; (try clear hb); (try clear hb2); (try clear hk); (try clear hi)) | (go_at_call 19; (with_reducible refine (fuseeref01_Clamp.calls a2 t148 _ A26.out).mono ?_); rintro e w' ⟨rfl, ⟨nd, rfl⟩⟩))
              go_ret
              exact ⟨by first | rfl | (simp [errW_none, errW_some] <;> rfl) | (simp [*, errW_none, errW_some] <;> rfl), by repeat (first | (with_reducible first | exact HB.out | apply below_alloc | apply pw_below_drewN | apply below_drew1) | exact HB.out)⟩
            · rw [if_neg c24] at H
              have c24b0 : (t146 == t141) = false := beq_eq_false_iff_ne.mpr c24
              have c24b1 : (t146 != t141) = true := bne_iff_ne.mpr c24
              obtain rfl := Option.some.inj H
              go_wp2_with (first | ((with_reducible refine gate_callee (f := 20) rfl ?_); refine goesL_ (some 55) rfl rfl Try.func20 (by kernel_rfl) rfl #[.int .i64 a0, .int .i64 a1, .int .i64 t142] rfl (by (try simp only [List.map_toArray, List.map_cons, List.map_nil]); first | done | rfl | (simp only [List.length_drop, List.length_take]; rfl)) ?_; (with_reducible refine (forward_Nth.calls kj7 a0 a1 t142 t146 _ A23.out).mono ?_); rintro e w29 ⟨rfl, hb⟩; refine ⟨_, rfl, ?_⟩; have n0_ := Aside0.mk (below_step (by repeat (first | (with_reducible first | exact HB.out | apply below_alloc | apply pw_below_drewN | apply below_drew1) | exact HB.out)) hb); clear HB; have HB := n0_; clear n0_; (try clear hb); (try clear hb2); (try clear hk); (try clear hi)))
              go_ret
              exact ⟨by first | rfl | (simp [errW_none, errW_some] <;> rfl) | (simp [*, errW_none, errW_some] <;> rfl), by repeat (first | (with_reducible first | exact HB.out | apply below_alloc | apply pw_below_drewN | apply below_drew1) | exact HB.out)⟩
  · replace c5 := Bool.eq_false_iff.mpr c5
    subst c5
    have H1 : (some false) = some r := by rw [if_neg (show ¬ (false = true) by decide)] at H; exact H
    clear H
    have H := H1
    clear H1
    obtain rfl := Option.some.inj H
    go_enter Try.func5, Try.ntmps5
    go_wp2_with (first | ((with_reducible refine gate_callee (f := 13) rfl ?_); refine goesL_ (some 10) rfl rfl Try.func13 (by kernel_rfl) rfl #[] rfl (by (try simp only [List.map_toArray, List.map_cons, List.map_nil]); first | done | rfl | (simp only [List.length_drop, List.length_take]; rfl)) ?_; (with_reducible refine (fuseelaw03_fixed.calls k  false _ A4.out).mono ?_); rintro e w30 ⟨rfl, hb⟩; refine ⟨_, rfl, ?_⟩; have n0_ := Aside0.mk (below_step (by repeat (first | (with_reducible first | exact HB.out | apply below_alloc | apply pw_below_drewN | apply below_drew1) | exact HB.out)) hb); clear HB; have HB := n0_; clear n0_; (try clear hb); (try clear hb2); (try clear hk); (try clear hi)))
    go_ret
    exact ⟨by first | rfl | (simp [errW_none, errW_some] <;> rfl) | (simp [*, errW_none, errW_some] <;> rfl), by repeat (first | (with_reducible first | exact HB.out | apply below_alloc | apply pw_below_drewN | apply below_drew1) | exact HB.out)⟩

/-- THE ONE PURE STATEMENT of fuseelaw03_ForwardLater: yours. -/
def fuseelaw03_ForwardLater.Pure : Prop := ∀ (a0 : Int) (a1 : Int) (a2 : Int), (Lit.int .i64 a0).wf = true → (Lit.int .i64 a1).wf = true → (Lit.int .i64 a2).wf = true → ∃ k, fuseelaw03_ForwardLater.f k a0 a1 a2 = some true
theorem fuseelaw03_ForwardLater.walk (P : fuseelaw03_ForwardLater.Pure) (a0 : Int) (a1 : Int) (a2 : Int) (w : World) (w0 : (Lit.int .i64 a0).wf = true) (w1 : (Lit.int .i64 a1).wf = true) (w2 : (Lit.int .i64 a2).wf = true) :
    Calls Try.prog 5 #[.int .i64 a0, .int .i64 a1, .int .i64 a2] w fun e w' => e = .returned (.bool true) ∧ Below w.heap.size w w' := by
  obtain ⟨k, h⟩ := P a0 a1 a2 w0 w1 w2
  refine (fuseelaw03_ForwardLater.calls k a0 a1 a2 true w h).mono ?_
  rintro e w' ⟨rfl, hd⟩
  exact ⟨rfl, hd⟩

end Go.Proofs.Ythginjllhlfadaa.PForwardLater
