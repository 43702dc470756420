-- PRINTED BY print.sh 35421559b90ae4d0a3588c463048766b98c2df88dd9212a6774a882060cdf62d: not written by this session
import Derived.Test.YthginjllhlfadaaPForwardTellsx0
import Derived.Test.YthginjllhlfadaaPForwardTellsx1
namespace Go.Proofs.Ythginjllhlfadaa.PForwardTells
open Go.RowKit Go.Proofs.YthginjllhlfadaaW.PrintWords Go.Proofs.YthginjllhlfadaaW.PrintLast Go.Proofs.YthginjllhlfadaaW.PrintMore
attribute [local go_sem] max2_int min2_int max_two min_two max_three min_three max_four min_four   -- for this text's walks alone
set_option linter.unusedVariables false
set_option linter.unusedSimpArgs false

/-! ### fuseeref03_Count: function 15 -/
mutual
def fuseeref03_Count.l0 : Nat → Int → Int → Int → Int → Option (Int × Int)
  | 0, _, _, _, _ => none
  | k + 1, x0, x1, x2, x8 => if x0 ≤ x2 then (fuseeref03_Count.j1 k x0 x1 x2 x8 (decide (x0 < 4611686018427387903))) else (fuseeref03_Count.j1 k x0 x1 x2 x8 false)
def fuseeref03_Count.j1 : Nat → Int → Int → Int → Int → Bool → Option (Int × Int)
  | 0, _, _, _, _, _ => none
  | k + 1, x0, x1, x2, x8, x21 => if x21 = true then (if x1 ≤ 0 then (some (wrap64 (x8 + 1), 4611686018427387903)) else ((fuseeref01_Add.f x0 x1).bind fun t149 => (fuseeref03_Count.l0 k t149 x1 x2 (wrap64 (x8 + 1))))) else (some (x8, x0))
end
def fuseeref03_Count.f (k : Nat) (a0 : Int) (a1 : Int) (a2 : Int) : Option (Int × Int) := (fuseeref01_Clamp.f a0).bind fun t146 => ((fuseeref01_Clamp.f a1).bind fun t147 => ((fuseeref01_Clamp.f a2).bind fun t148 => (fuseeref03_Count.l0 k t146 t147 t148 0)))
theorem fuseeref03_Count.mono_l : ∀ k, (∀ y0 y1 y2 y3, LeO (fuseeref03_Count.l0 k y0 y1 y2 y3) (fuseeref03_Count.l0 (k + 1) y0 y1 y2 y3)) ∧ (∀ y0 y1 y2 y3 y4, LeO (fuseeref03_Count.j1 k y0 y1 y2 y3 y4) (fuseeref03_Count.j1 (k + 1) y0 y1 y2 y3 y4))
  | 0 => ⟨fun _ _ _ _ r h => by simp [fuseeref03_Count.l0] at h, fun _ _ _ _ _ r h => by simp [fuseeref03_Count.j1] at h⟩
  | k + 1 => by
    obtain ⟨ih0, ih1⟩ := fuseeref03_Count.mono_l k
    refine ⟨?_, ?_⟩
    · intro y0 y1 y2 y3
      unfold fuseeref03_Count.l0
      repeat' first
      | (with_reducible exact ih0 _ _ _ _)
      | (with_reducible exact ih1 _ _ _ _ _)
      | (with_reducible exact LeO.refl _)
      | (with_reducible exact LeO.none _)
      | (with_reducible refine LeO.ite ?_ ?_)
      | (with_reducible refine LeO.bind ?_ (fun _ => ?_))
      | exact ih0 _ _ _ _
      | exact ih1 _ _ _ _ _
      | exact LeO.none _
      | refine LeO.ite ?_ ?_
      | refine LeO.bind ?_ (fun _ => ?_)
    · intro y0 y1 y2 y3 y4
      unfold fuseeref03_Count.j1
      repeat' first
      | (with_reducible exact ih0 _ _ _ _)
      | (with_reducible exact ih1 _ _ _ _ _)
      | (with_reducible exact LeO.refl _)
      | (with_reducible exact LeO.none _)
      | (with_reducible refine LeO.ite ?_ ?_)
      | (with_reducible refine LeO.bind ?_ (fun _ => ?_))
      | exact ih0 _ _ _ _
      | exact ih1 _ _ _ _ _
      | exact LeO.none _
      | refine LeO.ite ?_ ?_
      | refine LeO.bind ?_ (fun _ => ?_)
theorem fuseeref03_Count.mono : ∀ a0 a1 a2 k, LeO (fuseeref03_Count.f k a0 a1 a2) (fuseeref03_Count.f (k + 1) a0 a1 a2) := by
  intro a0 a1 a2 k
  obtain ⟨ih0, ih1⟩ := fuseeref03_Count.mono_l k
  unfold fuseeref03_Count.f
  repeat' first
      | (with_reducible exact ih0 _ _ _ _)
      | (with_reducible exact ih1 _ _ _ _ _)
      | (with_reducible exact LeO.refl _)
      | (with_reducible exact LeO.none _)
      | (with_reducible refine LeO.ite ?_ ?_)
      | (with_reducible refine LeO.bind ?_ (fun _ => ?_))
      | exact ih0 _ _ _ _
      | exact ih1 _ _ _ _ _
      | exact LeO.none _
      | refine LeO.ite ?_ ?_
      | refine LeO.bind ?_ (fun _ => ?_)
set_option maxHeartbeats 8000000 in
set_option maxRecDepth 100000 in
theorem fuseeref03_Count.calls (k : Nat) (a0 : Int) (a1 : Int) (a2 : Int) (r1 : Int) (r2 : Int) (w : World) (h : fuseeref03_Count.f k a0 a1 a2 = some (r1, r2)) :
    Calls Try.prog 15 #[.int .i64 a0, .int .i64 a1, .int .i64 a2] w fun e w' => e = .returned (.tuple #[.int .i64 r1, .int .i64 r2]) ∧ Drawn0 w w' := by
  have H : ((fuseeref01_Clamp.f a0).bind fun t146 => ((fuseeref01_Clamp.f a1).bind fun t147 => ((fuseeref01_Clamp.f a2).bind fun t148 => (fuseeref03_Count.l0 k t146 t147 t148 0)))) = some (r1, r2) := h
  clear h
  replace H := Option.bind_eq_some_iff.mp H
  obtain ⟨t146, A40, H⟩ := H
  replace H : ((fuseeref01_Clamp.f a1).bind fun t147 => ((fuseeref01_Clamp.f a2).bind fun t148 => (fuseeref03_Count.l0 k t146 t147 t148 0))) = some (r1, r2) := H
  have A4 := Aside0.mk A40
  clear A40
  replace H := Option.bind_eq_some_iff.mp H
  obtain ⟨t147, A50, H⟩ := H
  replace H : ((fuseeref01_Clamp.f a2).bind fun t148 => (fuseeref03_Count.l0 k t146 t147 t148 0)) = some (r1, r2) := H
  have A5 := Aside0.mk A50
  clear A50
  replace H := Option.bind_eq_some_iff.mp H
  obtain ⟨t148, A60, H⟩ := H
  replace H : (fuseeref03_Count.l0 k t146 t147 t148 0) = some (r1, r2) := H
  have A6 := Aside0.mk A60
  clear A60
  have H' := Aside0.mk H
  clear H
  go_enter Try.func15, Try.ntmps15
  go_wp2_with (first | ((with_reducible refine gate_callee (f := 19) rfl ?_); refine goesL_ (some 10) rfl rfl Try.func19 (by kernel_rfl) rfl #[.int .i64 a0] rfl (by (try simp only [List.map_toArray, List.map_cons, List.map_nil]); first | done | rfl | (simp only [List.length_drop, List.length_take]; rfl)) ?_; (with_reducible refine (fuseeref01_Clamp.calls a0 t146 _ A4.out).mono ?_); rintro e w' ⟨rfl, ⟨nd, rfl⟩⟩; refine ⟨_, rfl, ?_⟩) | ((with_reducible refine gate_callee (f := 19) rfl ?_); refine goesL_ (some 12) rfl rfl Try.func19 (by kernel_rfl) rfl #[.int .i64 a1] rfl (by (try simp only [List.map_toArray, List.map_cons, List.map_nil]); first | done | rfl | (simp only [List.length_drop, List.length_take]; rfl)) ?_; (with_reducible refine (fuseeref01_Clamp.calls a1 t147 _ A5.out).mono ?_); rintro e w' ⟨rfl, ⟨nd, rfl⟩⟩; refine ⟨_, rfl, ?_⟩) | ((with_reducible refine gate_callee (f := 19) rfl ?_); refine goesL_ (some 14) rfl rfl Try.func19 (by kernel_rfl) rfl #[.int .i64 a2] rfl (by (try simp only [List.map_toArray, List.map_cons, List.map_nil]); first | done | rfl | (simp only [List.length_drop, List.length_take]; rfl)) ?_; (with_reducible refine (fuseeref01_Clamp.calls a2 t148 _ A6.out).mono ?_); rintro e w' ⟨rfl, ⟨nd, rfl⟩⟩; refine ⟨_, rfl, ?_⟩))
  go_loopg [0, 8] k (fun kq v0 v8 w' => ∃ (x0_1 : Int) (x8_1 : Int), v0 = .int .i64 x0_1 ∧ v8 = .int .i64 x8_1 ∧ Aside0 (fuseeref03_Count.l0 kq x0_1 t147 t148 x8_1 = some (r1, r2)) ∧ Aside0 (kq ≤ k) ∧ Drawn0 w w')
  case atStart => exact ⟨(t146), (0), (by first | rfl | (simp; done) | (simp [*]; done)), (by first | rfl | (simp; done) | (simp [*]; done)), H', ⟨Nat.le_refl _⟩, by repeat (first | exact Drawn0.refl _ | apply Drawn0.step)⟩
  case round =>
    clear H'
    try clear c1
    try clear p2
    obtain ⟨x0_1, x8_1, rfl, rfl, HA, HK1, ⟨m1, rfl⟩⟩ := hrel
    cases gk with
    | zero => exact absurd HA.out (by simp [fuseeref03_Count.l0])
    | succ k1 =>
      have H := HA.out
      clear HA
      simp only [fuseeref03_Count.l0] at H
      have HC7 := Aside0.mk H
      clear H
      go_upto_region 3 with (fail)
      go_cut [21] (fun v21 wc => ∃ (kq : Nat) (x21_6 : Bool), v21 = .bool x21_6 ∧ Aside0 (fuseeref03_Count.j1 kq x0_1 t147 t148 x8_1 x21_6 = some (r1, r2)) ∧ Aside0 (kq ≤ k1) ∧ Drawn0 w wc)
      case first =>
        have H := HC7.out
        clear HC7
        by_cases c8 : x0_1 ≤ t148
        · rw [if_pos c8] at H
          have c8b0 : decide (x0_1 ≤ t148) = true := decide_eq_true c8
          clear c8
          (first | rw [c8b0] | (simp only [i64_w, i32_w]; rw [c8b0]) | skip)
          have H' := Aside0.mk H
          clear H
          go_wp2
          go_meet
          case rel => exact ⟨_, (decide (x0_1 < 4611686018427387903)), (by first | rfl | (simp; done) | (simp [*]; done)), H', ⟨by have := HK1.out; first | omega | exact Nat.le_refl _⟩, by repeat (first | exact Drawn0.refl _ | apply Drawn0.step)⟩
        · rw [if_neg c8] at H
          have c8b0 : decide (x0_1 ≤ t148) = false := decide_eq_false c8
          clear c8
          (first | rw [c8b0] | (simp only [i64_w, i32_w]; rw [c8b0]) | skip)
          have H' := Aside0.mk H
          clear H
          go_wp2
          go_meet
          case rel => exact ⟨_, (false), (by first | rfl | (simp; done) | (simp [*]; done)), H', ⟨by have := HK1.out; first | omega | exact Nat.le_refl _⟩, by repeat (first | exact Drawn0.refl _ | apply Drawn0.step)⟩
      case rest =>
        clear HC7
        try clear c1
        try clear p2
        try clear c8
        try clear c8b0
        try clear p2
        obtain ⟨kq, x21_6, rfl, HA, HJ6, ⟨mc6, rfl⟩⟩ := hcut
        cases kq with
        | zero => exact absurd HA.out (by simp [fuseeref03_Count.j1])
        | succ kj6 =>
          have H := HA.out
          clear HA
          simp only [fuseeref03_Count.j1] at H
          by_cases c9 : x21_6 = true
          · subst c9
            have H1 : (if t147 ≤ 0 then (some (wrap64 (x8_1 + 1), 4611686018427387903)) else ((fuseeref01_Add.f x0_1 t147).bind fun t149 => (fuseeref03_Count.l0 kj6 t149 t147 t148 (wrap64 (x8_1 + 1))))) = some (r1, r2) := by rw [if_pos rfl] at H; exact H
            clear H
            have H := H1
            clear H1
            by_cases c10 : t147 ≤ 0
            · rw [if_pos c10] at H
              have c10b0 : decide (t147 ≤ 0) = true := decide_eq_true c10
              clear c10
              simp only [Option.some.injEq, Prod.mk.injEq] at H
              obtain ⟨rfl, rfl⟩ := H
              go_wp2
              go_ret2
              exact ⟨by first | rfl | (simp; done) | (simp [*]; done), by repeat (first | exact Drawn0.refl _ | apply Drawn0.step)⟩
            · rw [if_neg c10] at H
              have c10b0 : decide (t147 ≤ 0) = false := decide_eq_false c10
              clear c10
              replace H := Option.bind_eq_some_iff.mp H
              obtain ⟨t149, A110, H⟩ := H
              replace H : (fuseeref03_Count.l0 kj6 t149 t147 t148 (wrap64 (x8_1 + 1))) = some (r1, r2) := H
              have A11 := Aside0.mk A110
              clear A110
              have H' := Aside0.mk H
              clear H
              go_wp2_with (first | ((with_reducible refine gate_callee (f := 32) rfl ?_); refine goesL_ (some 29) rfl rfl Try.func32 (by kernel_rfl) rfl #[.int .i64 x0_1, .int .i64 t147] rfl (by (try simp only [List.map_toArray, List.map_cons, List.map_nil]); first | done | rfl | (simp only [List.length_drop, List.length_take]; rfl)) ?_; (with_reducible refine (fuseeref01_Add.calls x0_1 t147 t149 _ A11.out).mono ?_); rintro e w' ⟨rfl, ⟨nd, rfl⟩⟩; refine ⟨_, rfl, ?_⟩))
              go_roundg kj6
              case measure => have := HK1.out; have := HJ6.out; omega
              case rel => exact ⟨(t149), (wrap64 (x8_1 + 1)), (by first | rfl | (simp; done) | (simp [*]; done)), (by first | rfl | (simp; done) | (simp [*]; done)), H', ⟨by have := HK1.out; have := HJ6.out; omega⟩, by repeat (first | exact Drawn0.refl _ | apply Drawn0.step)⟩
          · replace c9 := Bool.eq_false_iff.mpr c9
            subst c9
            have H1 : (some (x8_1, x0_1)) = some (r1, r2) := by rw [if_neg (show ¬ (false = true) by decide)] at H; exact H
            clear H
            have H := H1
            clear H1
            simp only [Option.some.injEq, Prod.mk.injEq] at H
            obtain ⟨rfl, rfl⟩ := H
            go_wp2
            go_ret2
            exact ⟨by first | rfl | (simp; done) | (simp [*]; done), by repeat (first | exact Drawn0.refl _ | apply Drawn0.step)⟩

/-! ### fuseelaw03_ForwardTells: function 3 -/
mutual
def fuseelaw03_ForwardTells.j0 : Nat → Int → Int → Int → Int → Bool → Option (Bool)
  | 0, _, _, _, _, _ => none
  | k + 1, x0, x1, x2, x7, x50 => if x50 = true then (some false) else ((forward_Phase.f k x0 x1 x2).bind fun bt157 => (if x7 = 0 then (if bt157.2 = true then (some false) else (some (bt157.1 == 0))) else ((fuseeref01_Clamp.f x0).bind fun t159 => (fuseelaw03_ForwardTells.l0 k x1 x2 bt157.1 bt157.2 t159 (wrap64 (x7 - 1)) 0))))
def fuseelaw03_ForwardTells.l0 : Nat → Int → Int → Int → Bool → Int → Int → Int → Option (Bool)
  | 0, _, _, _, _, _, _, _ => none
  | k + 1, x1, x2, x11, x12, x13, x69, x70 => if x70 < x69 then ((fuseeref01_Clamp.f x1).bind fun t160 => (fuseelaw03_ForwardTells.l0 k x1 x2 x11 x12 (wrap64 (x13 + t160)) x69 (wrap64 (x70 + 1)))) else (if x12 = true then ((fuseeref01_Clamp.f x2).bind fun t161 => (some (x11 == (wrap64 (t161 - x13))))) else (some false))
end
def fuseelaw03_ForwardTells.f (k : Nat) (a0 : Int) (a1 : Int) (a2 : Int) : Option (Bool) := (fuseelaw03_fixed.f k).bind fun t150 => (if t150 = true then ((fuseeref03_Few.f a0 a1 a2).bind fun t151 => (if t151 = true then ((fuseeref03_Count.f k a0 a1 a2).bind fun bt152 => ((forward_Next.f k a0 a1 a2).bind fun bt154 => (if bt154.1 = bt152.2 then (if bt154.2 = bt152.1 then ((forward_Count.f a0 a1 a2).bind fun t156 => (fuseelaw03_ForwardTells.j0 k a0 a1 a2 bt152.1 (t156 != bt152.1))) else (fuseelaw03_ForwardTells.j0 k a0 a1 a2 bt152.1 true)) else (fuseelaw03_ForwardTells.j0 k a0 a1 a2 bt152.1 true)))) else (some true))) else (some false))
theorem fuseelaw03_ForwardTells.mono_l : ∀ k, (∀ y0 y1 y2 y3 y4, LeO (fuseelaw03_ForwardTells.j0 k y0 y1 y2 y3 y4) (fuseelaw03_ForwardTells.j0 (k + 1) y0 y1 y2 y3 y4)) ∧ (∀ y0 y1 y2 y3 y4 y5 y6, LeO (fuseelaw03_ForwardTells.l0 k y0 y1 y2 y3 y4 y5 y6) (fuseelaw03_ForwardTells.l0 (k + 1) y0 y1 y2 y3 y4 y5 y6))
  | 0 => ⟨fun _ _ _ _ _ r h => by simp [fuseelaw03_ForwardTells.j0] at h, fun _ _ _ _ _ _ _ r h => by simp [fuseelaw03_ForwardTells.l0] at h⟩
  | k + 1 => by
    obtain ⟨ih0, ih1⟩ := fuseelaw03_ForwardTells.mono_l k
    refine ⟨?_, ?_⟩
    · intro y0 y1 y2 y3 y4
      unfold fuseelaw03_ForwardTells.j0
      repeat' first
      | (with_reducible exact ih0 _ _ _ _ _)
      | (with_reducible exact ih1 _ _ _ _ _ _ _)
      | (with_reducible exact forward_Next.mono _ _ _ _)
      | (with_reducible exact forward_Phase.mono _ _ _ _)
      | (with_reducible exact fuseelaw03_fixed.mono _)
      | (with_reducible exact fuseeref03_Count.mono _ _ _ _)
      | (with_reducible exact LeO.refl _)
      | (with_reducible exact LeO.none _)
      | (with_reducible refine LeO.ite ?_ ?_)
      | (with_reducible refine LeO.bind ?_ (fun _ => ?_))
      | exact ih0 _ _ _ _ _
      | exact ih1 _ _ _ _ _ _ _
      | exact forward_Next.mono _ _ _ _
      | exact forward_Phase.mono _ _ _ _
      | exact fuseelaw03_fixed.mono _
      | exact fuseeref03_Count.mono _ _ _ _
      | exact LeO.none _
      | refine LeO.ite ?_ ?_
      | refine LeO.bind ?_ (fun _ => ?_)
    · intro y0 y1 y2 y3 y4 y5 y6
      unfold fuseelaw03_ForwardTells.l0
      repeat' first
      | (with_reducible exact ih0 _ _ _ _ _)
      | (with_reducible exact ih1 _ _ _ _ _ _ _)
      | (with_reducible exact forward_Next.mono _ _ _ _)
      | (with_reducible exact forward_Phase.mono _ _ _ _)
      | (with_reducible exact fuseelaw03_fixed.mono _)
      | (with_reducible exact fuseeref03_Count.mono _ _ _ _)
      | (with_reducible exact LeO.refl _)
      | (with_reducible exact LeO.none _)
      | (with_reducible refine LeO.ite ?_ ?_)
      | (with_reducible refine LeO.bind ?_ (fun _ => ?_))
      | exact ih0 _ _ _ _ _
      | exact ih1 _ _ _ _ _ _ _
      | exact forward_Next.mono _ _ _ _
      | exact forward_Phase.mono _ _ _ _
      | exact fuseelaw03_fixed.mono _
      | exact fuseeref03_Count.mono _ _ _ _
      | exact LeO.none _
      | refine LeO.ite ?_ ?_
      | refine LeO.bind ?_ (fun _ => ?_)
theorem fuseelaw03_ForwardTells.mono : ∀ a0 a1 a2 k, LeO (fuseelaw03_ForwardTells.f k a0 a1 a2) (fuseelaw03_ForwardTells.f (k + 1) a0 a1 a2) := by
  intro a0 a1 a2 k
  obtain ⟨ih0, ih1⟩ := fuseelaw03_ForwardTells.mono_l k
  unfold fuseelaw03_ForwardTells.f
  repeat' first
      | (with_reducible exact ih0 _ _ _ _ _)
      | (with_reducible exact ih1 _ _ _ _ _ _ _)
      | (with_reducible exact forward_Next.mono _ _ _ _)
      | (with_reducible exact forward_Phase.mono _ _ _ _)
      | (with_reducible exact fuseelaw03_fixed.mono _)
      | (with_reducible exact fuseeref03_Count.mono _ _ _ _)
      | (with_reducible exact LeO.refl _)
      | (with_reducible exact LeO.none _)
      | (with_reducible refine LeO.ite ?_ ?_)
      | (with_reducible refine LeO.bind ?_ (fun _ => ?_))
      | exact ih0 _ _ _ _ _
      | exact ih1 _ _ _ _ _ _ _
      | exact forward_Next.mono _ _ _ _
      | exact forward_Phase.mono _ _ _ _
      | exact fuseelaw03_fixed.mono _
      | exact fuseeref03_Count.mono _ _ _ _
      | exact LeO.none _
      | refine LeO.ite ?_ ?_
      | refine LeO.bind ?_ (fun _ => ?_)
set_option maxHeartbeats 8000000 in
set_option maxRecDepth 100000 in
theorem fuseelaw03_ForwardTells.calls (k : Nat) (a0 : Int) (a1 : Int) (a2 : Int) (r : Bool) (w : World) (h : fuseelaw03_ForwardTells.f k a0 a1 a2 = some r) :
    Calls Try.prog 3 #[.int .i64 a0, .int .i64 a1, .int .i64 a2] w fun e w' => e = .returned (.bool r) ∧ Below w.heap.size w w' := by
  have HB := Aside0.mk (Below.refl w.heap.size w)
  have H : ((fuseelaw03_fixed.f k).bind fun t150 => (if t150 = true then ((fuseeref03_Few.f a0 a1 a2).bind fun t151 => (if t151 = true then ((fuseeref03_Count.f k a0 a1 a2).bind fun bt152 => ((forward_Next.f k a0 a1 a2).bind fun bt154 => (if bt154.1 = bt152.2 then (if bt154.2 = bt152.1 then ((forward_Count.f a0 a1 a2).bind fun t156 => (fuseelaw03_ForwardTells.j0 k a0 a1 a2 bt152.1 (t156 != bt152.1))) else (fuseelaw03_ForwardTells.j0 k a0 a1 a2 bt152.1 true)) else (fuseelaw03_ForwardTells.j0 k a0 a1 a2 bt152.1 true)))) else (some true))) else (some false))) = some r := h
  clear h
  replace H := Option.bind_eq_some_iff.mp H
  obtain ⟨t150, A40, H⟩ := H
  replace H : (if t150 = true then ((fuseeref03_Few.f a0 a1 a2).bind fun t151 => (if t151 = true then ((fuseeref03_Count.f k a0 a1 a2).bind fun bt152 => ((forward_Next.f k a0 a1 a2).bind fun bt154 => (if bt154.1 = bt152.2 then (if bt154.2 = bt152.1 then ((forward_Count.f a0 a1 a2).bind fun t156 => (fuseelaw03_ForwardTells.j0 k a0 a1 a2 bt152.1 (t156 != bt152.1))) else (fuseelaw03_ForwardTells.j0 k a0 a1 a2 bt152.1 true)) else (fuseelaw03_ForwardTells.j0 k a0 a1 a2 bt152.1 true)))) else (some true))) else (some false)) = some r := H
  have A4 := Aside0.mk A40
  clear A40
  by_cases c5 : t150 = true
  · subst c5
    have H1 : ((fuseeref03_Few.f a0 a1 a2).bind fun t151 => (if t151 = true then ((fuseeref03_Count.f k a0 a1 a2).bind fun bt152 => ((forward_Next.f k a0 a1 a2).bind fun bt154 => (if bt154.1 = bt152.2 then (if bt154.2 = bt152.1 then ((forward_Count.f a0 a1 a2).bind fun t156 => (fuseelaw03_ForwardTells.j0 k a0 a1 a2 bt152.1 (t156 != bt152.1))) else (fuseelaw03_ForwardTells.j0 k a0 a1 a2 bt152.1 true)) else (fuseelaw03_ForwardTells.j0 k a0 a1 a2 bt152.1 true)))) else (some true))) = some r := by rw [if_pos rfl] at H; exact H
    clear H
    have H := H1
    clear H1
    replace H := Option.bind_eq_some_iff.mp H
    obtain ⟨t151, A60, H⟩ := H
    replace H : (if t151 = true then ((fuseeref03_Count.f k a0 a1 a2).bind fun bt152 => ((forward_Next.f k a0 a1 a2).bind fun bt154 => (if bt154.1 = bt152.2 then (if bt154.2 = bt152.1 then ((forward_Count.f a0 a1 a2).bind fun t156 => (fuseelaw03_ForwardTells.j0 k a0 a1 a2 bt152.1 (t156 != bt152.1))) else (fuseelaw03_ForwardTells.j0 k a0 a1 a2 bt152.1 true)) else (fuseelaw03_ForwardTells.j0 k a0 a1 a2 bt152.1 true)))) else (some true)) = some r := H
    have A6 := Aside0.mk A60
    clear A60
    by_cases c7 : t151 = true
    · subst c7
      have H1 : ((fuseeref03_Count.f k a0 a1 a2).bind fun bt152 => ((forward_Next.f k a0 a1 a2).bind fun bt154 => (if bt154.1 = bt152.2 then (if bt154.2 = bt152.1 then ((forward_Count.f a0 a1 a2).bind fun t156 => (fuseelaw03_ForwardTells.j0 k a0 a1 a2 bt152.1 (t156 != bt152.1))) else (fuseelaw03_ForwardTells.j0 k a0 a1 a2 bt152.1 true)) else (fuseelaw03_ForwardTells.j0 k a0 a1 a2 bt152.1 true)))) = some r := by rw [if_pos rfl] at H; exact H
      clear H
      have H := H1
      clear H1
      replace H := Option.bind_eq_some_iff.mp H
      obtain ⟨⟨t152, t153⟩, A80, H⟩ := H
      replace H : ((forward_Next.f k a0 a1 a2).bind fun bt154 => (if bt154.1 = t153 then (if bt154.2 = t152 then ((forward_Count.f a0 a1 a2).bind fun t156 => (fuseelaw03_ForwardTells.j0 k a0 a1 a2 t152 (t156 != t152))) else (fuseelaw03_ForwardTells.j0 k a0 a1 a2 t152 true)) else (fuseelaw03_ForwardTells.j0 k a0 a1 a2 t152 true))) = some r := H
      have A8 := Aside0.mk A80
      clear A80
      replace H := Option.bind_eq_some_iff.mp H
      obtain ⟨⟨t154, t155⟩, A90, H⟩ := H
      replace H : (if t154 = t153 then (if t155 = t152 then ((forward_Count.f a0 a1 a2).bind fun t156 => (fuseelaw03_ForwardTells.j0 k a0 a1 a2 t152 (t156 != t152))) else (fuseelaw03_ForwardTells.j0 k a0 a1 a2 t152 true)) else (fuseelaw03_ForwardTells.j0 k a0 a1 a2 t152 true)) = some r := H
      have A9 := Aside0.mk A90
      clear A90
      have HC10 := Aside0.mk H
      clear H
      go_enter Try.func3, Try.ntmps3
      go_upto_region 7 with (first | ((with_reducible refine gate_callee (f := 13) rfl ?_); refine goesL_ (some 14) rfl rfl Try.func13 (by kernel_rfl) rfl #[] rfl (by (try simp only [List.map_toArray, List.map_cons, List.map_nil]); first | done | rfl | (simp only [List.length_drop, List.length_take]; rfl)) ?_; (with_reducible refine (fuseelaw03_fixed.calls k  true _ A4.out).mono ?_); rintro e w11 ⟨rfl, hb⟩; refine ⟨_, rfl, ?_⟩; have n0_ := Aside0.mk (below_step (by repeat (first | (with_reducible first | exact HB.out | apply below_alloc | apply pw_below_drewN | apply below_drew1) | exact HB.out)) hb); clear HB; have HB := n0_; clear n0_; (try clear hb); (try clear hb2); (try clear hk); (try clear hi)) | ((with_reducible refine gate_callee (f := 14) rfl ?_); refine goesL_ (some 19) rfl rfl Try.func14 (by kernel_rfl) rfl #[.int .i64 a0, .int .i64 a1, .int .i64 a2] rfl (by (try simp only [List.map_toArray, List.map_cons, List.map_nil]); first | done | rfl | (simp only [List.length_drop, List.length_take]; rfl)) ?_; (with_reducible refine (fuseeref03_Few.calls a0 a1 a2 true _ A6.out).mono ?_); rintro e w' ⟨rfl, ⟨nd, rfl⟩⟩; refine ⟨_, rfl, ?_⟩) | ((with_reducible refine gate_callee (f := 15) rfl ?_); refine goesL_ (some 25) rfl rfl Try.func15 (by kernel_rfl) rfl #[.int .i64 a0, .int .i64 a1, .int .i64 a2] rfl (by (try simp only [List.map_toArray, List.map_cons, List.map_nil]); first | done | rfl | (simp only [List.length_drop, List.length_take]; rfl)) ?_; (with_reducible refine (fuseeref03_Count.calls k a0 a1 a2 t152 t153 _ A8.out).mono ?_); rintro e w' ⟨rfl, ⟨nd, rfl⟩⟩; refine ⟨_, rfl, ?_⟩) | ((with_reducible refine gate_callee (f := 16) rfl ?_); refine goesL_ (some 32) rfl rfl Try.func16 (by kernel_rfl) rfl #[.int .i64 a0, .int .i64 a1, .int .i64 a2] rfl (by (try simp only [List.map_toArray, List.map_cons, List.map_nil]); first | done | rfl | (simp only [List.length_drop, List.length_take]; rfl)) ?_; (with_reducible refine (forward_Next.calls k a0 a1 a2 t154 t155 _ A9.out).mono ?_); rintro e w12 ⟨rfl, hb⟩; refine ⟨_, rfl, ?_⟩; have n0_ := Aside0.mk (below_step (by repeat (first | (with_reducible first | exact HB.out | apply below_alloc | apply pw_below_drewN | apply below_drew1) | exact HB.out)) hb); clear HB; have HB := n0_; clear n0_; (try clear hb); (try clear hb2); (try clear hk); (try clear hi)))
      (try simp only [Act.put, List.setIfInBounds_toArray, List.set_cons_zero, List.set_cons_succ])
      go_cut [50] (fun v50 wc => ∃ (kq : Nat) (x50_9 : Bool), v50 = .bool x50_9 ∧ Aside0 (fuseelaw03_ForwardTells.j0 kq a0 a1 a2 t152 x50_9 = some r) ∧ Aside0 (kq ≤ k) ∧ Aside0 (Below w.heap.size w wc))
      case first =>
        have H := HC10.out
        clear HC10
        by_cases c13 : t154 = t153
        · rw [if_pos c13] at H
          have c13b0 : (t154 == t153) = true := beq_iff_eq.mpr c13
          have c13b1 : (t154 != t153) = false := bne_eq_false_iff_eq.mpr c13
          clear c13
          (first | rw [c13b0] | (simp only [i64_w, i32_w]; rw [c13b0]) | skip)
          by_cases c14 : t155 = t152
          · rw [if_pos c14] at H
            have c14b0 : (t155 == t152) = true := beq_iff_eq.mpr c14
            have c14b1 : (t155 != t152) = false := bne_eq_false_iff_eq.mpr c14
            clear c14
            replace H := Option.bind_eq_some_iff.mp H
            obtain ⟨t156, A150, H⟩ := H
            replace H : (fuseelaw03_ForwardTells.j0 k a0 a1 a2 t152 (t156 != t152)) = some r := H
            have A15 := Aside0.mk A150
            clear A150
            have H' := Aside0.mk H
            clear H
            go_wp2_with (first | (go_at_call 17; (with_reducible refine (forward_Count.calls a0 a1 a2 t156 _ A15.out).mono ?_); rintro e w16 ⟨rfl, hb⟩; have n0_ := Aside0.mk (below_step (by repeat (first | (with_reducible first | exact HB.out | apply below_alloc | apply pw_below_drewN | apply below_drew1) | exact HB.out)) hb); clear HB; have HB := n0_; clear n0_; (try clear hb); (try clear hb2); (try clear hk); (try clear hi)))
            go_meet
            case rel => exact ⟨_, ((t156 != t152)), (by first | rfl | (simp; done) | (simp [*]; done)), H', ⟨by first | omega | exact Nat.le_refl _⟩, ⟨by repeat (first | (with_reducible first | exact HB.out | apply below_alloc | apply pw_below_drewN | apply below_drew1) | exact HB.out)⟩⟩
          · rw [if_neg c14] at H
            have c14b0 : (t155 == t152) = false := beq_eq_false_iff_ne.mpr c14
            have c14b1 : (t155 != t152) = true := bne_iff_ne.mpr c14
            have H' := Aside0.mk H
            clear H
            go_wp2
            go_meet
            case rel => exact ⟨_, (true), (by first | rfl | (simp; done) | (simp [*]; done)), H', ⟨by first | omega | exact Nat.le_refl _⟩, ⟨by repeat (first | (with_reducible first | exact HB.out | apply below_alloc | apply pw_below_drewN | apply below_drew1) | exact HB.out)⟩⟩
        · rw [if_neg c13] at H
          have c13b0 : (t154 == t153) = false := beq_eq_false_iff_ne.mpr c13
          have c13b1 : (t154 != t153) = true := bne_iff_ne.mpr c13
          (first | rw [c13b0] | (simp only [i64_w, i32_w]; rw [c13b0]) | skip)
          have H' := Aside0.mk H
          clear H
          go_wp2
          go_meet
          case rel => exact ⟨_, (true), (by first | rfl | (simp; done) | (simp [*]; done)), H', ⟨by first | omega | exact Nat.le_refl _⟩, ⟨by repeat (first | (with_reducible first | exact HB.out | apply below_alloc | apply pw_below_drewN | apply below_drew1) | exact HB.out)⟩⟩
      case rest =>
        clear HC10
        try clear c1
        try clear p2
        try clear c3
        try clear c5
        try clear c7
        try clear c13
        try clear c13b0
        try clear c13b1
        try clear c14
        try clear c14b0
        try clear c14b1
        try clear c15
        try clear c16
        obtain ⟨kq, x50_9, rfl, HA, HJ9, HB⟩ := hcut
        cases kq with
        | zero => exact absurd HA.out (by simp [fuseelaw03_ForwardTells.j0])
        | succ kj9 =>
          have H := HA.out
          clear HA
          simp only [fuseelaw03_ForwardTells.j0] at H
          by_cases c17 : x50_9 = true
          · subst c17
            have H1 : (some false) = some r := by rw [if_pos rfl] at H; exact H
            clear H
            have H := H1
            clear H1
            obtain rfl := Option.some.inj H
            go_wp2
            go_ret
            exact ⟨by first | rfl | (simp [errW_none, errW_some] <;> rfl) | (simp [*, errW_none, errW_some] <;> rfl), by repeat (first | (with_reducible first | exact HB.out | apply below_alloc | apply pw_below_drewN | apply below_drew1) | exact HB.out)⟩
          · replace c17 := Bool.eq_false_iff.mpr c17
            subst c17
            have H1 : ((forward_Phase.f kj9 a0 a1 a2).bind fun bt157 => (if t152 = 0 then (if bt157.2 = true then (some false) else (some (bt157.1 == 0))) else ((fuseeref01_Clamp.f a0).bind fun t159 => (fuseelaw03_ForwardTells.l0 kj9 a1 a2 bt157.1 bt157.2 t159 (wrap64 (t152 - 1)) 0)))) = some r := by rw [if_neg (show ¬ (false = true) by decide)] at H; exact H
            clear H
            have H := H1
            clear H1
            replace H := Option.bind_eq_some_iff.mp H
            obtain ⟨⟨t157, t158⟩, A180, H⟩ := H
            replace H : (if t152 = 0 then (if t158 = true then (some false) else (some (t157 == 0))) else ((fuseeref01_Clamp.f a0).bind fun t159 => (fuseelaw03_ForwardTells.l0 kj9 a1 a2 t157 t158 t159 (wrap64 (t152 - 1)) 0))) = some r := H
            have A18 := Aside0.mk A180
            clear A180
            by_cases c19 : t152 = 0
            · rw [if_pos c19] at H
              have c19b0 : (t152 == 0) = true := beq_iff_eq.mpr c19
              have c19b1 : (t152 != 0) = false := bne_eq_false_iff_eq.mpr c19
              clear c19
              by_cases c20 : t158 = true
              · subst c20
                have H1 : (some false) = some r := by rw [if_pos rfl] at H; exact H
                clear H
                have H := H1
                clear H1
                obtain rfl := Option.some.inj H
                go_wp2_with (first | ((with_reducible refine gate_callee (f := 18) rfl ?_); refine goesL_ (some 55) rfl rfl Try.func18 (by kernel_rfl) rfl #[.int .i64 a0, .int .i64 a1, .int .i64 a2] rfl (by (try simp only [List.map_toArray, List.map_cons, List.map_nil]); first | done | rfl | (simp only [List.length_drop, List.length_take]; rfl)) ?_; (with_reducible refine (forward_Phase.calls kj9 a0 a1 a2 t157 true _ A18.out).mono ?_); rintro e w21 ⟨rfl, hb⟩; refine ⟨_, rfl, ?_⟩; have n0_ := Aside0.mk (below_step (by repeat (first | (with_reducible first | exact HB.out | apply below_alloc | apply pw_below_drewN | apply below_drew1) | exact HB.out)) hb); clear HB; have HB := n0_; clear n0_; (try clear hb); (try clear hb2); (try clear hk); (try clear hi)))
                go_ret
                exact ⟨by first | rfl | (simp [errW_none, errW_some] <;> rfl) | (simp [*, errW_none, errW_some] <;> rfl), by repeat (first | (with_reducible first | exact HB.out | apply below_alloc | apply pw_below_drewN | apply below_drew1) | exact HB.out)⟩
              · replace c20 := Bool.eq_false_iff.mpr c20
                subst c20
                have H1 : (some (t157 == 0)) = some r := by rw [if_neg (show ¬ (false = true) by decide)] at H; exact H
                clear H
                have H := H1
                clear H1
                obtain rfl := Option.some.inj H
                go_wp2_with (first | ((with_reducible refine gate_callee (f := 18) rfl ?_); refine goesL_ (some 55) rfl rfl Try.func18 (by kernel_rfl) rfl #[.int .i64 a0, .int .i64 a1, .int .i64 a2] rfl (by (try simp only [List.map_toArray, List.map_cons, List.map_nil]); first | done | rfl | (simp only [List.length_drop, List.length_take]; rfl)) ?_; (with_reducible refine (forward_Phase.calls kj9 a0 a1 a2 t157 false _ A18.out).mono ?_); rintro e w22 ⟨rfl, hb⟩; refine ⟨_, rfl, ?_⟩; have n0_ := Aside0.mk (below_step (by repeat (first | (with_reducible first | exact HB.out | apply below_alloc | apply pw_below_drewN | apply below_drew1) | exact HB.out)) hb); clear HB; have HB := n0_; clear n0_; (try clear hb); (try clear hb2); (try clear hk); (try clear hi)))
                go_ret
                exact ⟨by first | rfl | (simp [errW_none, errW_some] <;> rfl) | (simp [*, errW_none, errW_some] <;> rfl), by repeat (first | (with_reducible first | exact HB.out | apply below_alloc | apply pw_below_drewN | apply below_drew1) | exact HB.out)⟩
            · rw [if_neg c19] at H
              have c19b0 : (t152 == 0) = false := beq_eq_false_iff_ne.mpr c19
              have c19b1 : (t152 != 0) = true := bne_iff_ne.mpr c19
              replace H := Option.bind_eq_some_iff.mp H
              obtain ⟨t159, A230, H⟩ := H
              replace H : (fuseelaw03_ForwardTells.l0 kj9 a1 a2 t157 t158 t159 (wrap64 (t152 - 1)) 0) = some r := H
              have A23 := Aside0.mk A230
              clear A230
              have H' := Aside0.mk H
              clear H
              go_wp2_with (first | ((with_reducible refine gate_callee (f := 18) rfl ?_); refine goesL_ (some 55) rfl rfl Try.func18 (by kernel_rfl) rfl #[.int .i64 a0, .int .i64 a1, .int .i64 a2] rfl (by (try simp only [List.map_toArray, List.map_cons, List.map_nil]); first | done | rfl | (simp only [List.length_drop, List.length_take]; rfl)) ?_; (with_reducible refine (forward_Phase.calls kj9 a0 a1 a2 t157 t158 _ A18.out).mono ?_); rintro e w24 ⟨rfl, hb⟩; refine ⟨_, rfl, ?_⟩; have n0_ := Aside0.mk (below_step (by repeat (first | (with_reducible first | exact HB.out | apply below_alloc | apply pw_below_drewN | apply below_drew1) | exact HB.out)) hb); clear HB; have HB := n0_; clear n0_; (try clear hb); (try clear hb2); (try clear hk); (try clear hi)) | ((with_reducible refine gate_callee (f := 19) rfl ?_); refine goesL_ (some 67) rfl rfl Try.func19 (by kernel_rfl) rfl #[.int .i64 a0] rfl (by (try simp only [List.map_toArray, List.map_cons, List.map_nil]); first | done | rfl | (simp only [List.length_drop, List.length_take]; rfl)) ?_; (with_reducible refine (fuseeref01_Clamp.calls a0 t159 _ A23.out).mono ?_); rintro e w' ⟨rfl, ⟨nd, rfl⟩⟩; refine ⟨_, rfl, ?_⟩))
              go_loopg [13, 70] kj9 (fun kq v13 v70 w' => ∃ (x13_2 : Int) (x70_2 : Int), v13 = .int .i64 x13_2 ∧ v70 = .int .i64 x70_2 ∧ Aside0 (fuseelaw03_ForwardTells.l0 kq a1 a2 t157 t158 x13_2 (wrap64 (t152 - 1)) x70_2 = some r) ∧ Aside0 (kq ≤ kj9) ∧ Aside0 (Below w.heap.size w w'))
              case atStart => exact ⟨(t159), (0), (by first | rfl | (simp; done) | (simp [*]; done)), (by first | rfl | (simp; done) | (simp [*]; done)), H', ⟨Nat.le_refl _⟩, ⟨by repeat (first | (with_reducible first | exact HB.out | apply below_alloc | apply pw_below_drewN | apply below_drew1) | exact HB.out)⟩⟩
              case round =>
                clear H'
                try clear c1
                try clear c2
                try clear p2
                try clear c3
                try clear c5
                try clear p6
                try clear c7
                try clear c13
                try clear c13b0
                try clear c13b1
                try clear c14
                try clear c14b0
                try clear c14b1
                try clear c15
                try clear c16
                try clear c17
                try clear c18
                try clear c19
                try clear c19b0
                try clear c19b1
                try clear c20
                try clear p2
                obtain ⟨x13_2, x70_2, rfl, rfl, HA, HK2, HB⟩ := hrel
                cases gk with
                | zero => exact absurd HA.out (by simp [fuseelaw03_ForwardTells.l0])
                | succ k2 =>
                  have H := HA.out
                  clear HA
                  simp only [fuseelaw03_ForwardTells.l0] at H
                  by_cases c25 : x70_2 < (wrap64 (t152 - 1))
                  · rw [if_pos c25] at H
                    have c25b0 : decide (x70_2 < (wrap64 (t152 - 1))) = true := decide_eq_true c25
                    clear c25
                    replace H := Option.bind_eq_some_iff.mp H
                    obtain ⟨t160, A260, H⟩ := H
                    replace H : (fuseelaw03_ForwardTells.l0 k2 a1 a2 t157 t158 (wrap64 (x13_2 + t160)) (wrap64 (t152 - 1)) (wrap64 (x70_2 + 1))) = some r := H
                    have A26 := Aside0.mk A260
                    clear A260
                    have H' := Aside0.mk H
                    clear H
                    go_wp2_with (first | ((with_reducible refine gate_callee (f := 19) rfl ?_); refine goesL_ (some 74) rfl rfl Try.func19 (by kernel_rfl) rfl #[.int .i64 a1] rfl (by (try simp only [List.map_toArray, List.map_cons, List.map_nil]); first | done | rfl | (simp only [List.length_drop, List.length_take]; rfl)) ?_; (with_reducible refine (fuseeref01_Clamp.calls a1 t160 _ A26.out).mono ?_); rintro e w' ⟨rfl, ⟨nd, rfl⟩⟩; refine ⟨_, rfl, ?_⟩))
                    go_roundg k2
                    case measure => have := HJ9.out; have := HK2.out; omega
                    case rel => exact ⟨(wrap64 (x13_2 + t160)), (wrap64 (x70_2 + 1)), (by first | rfl | (simp; done) | (simp [*]; done)), (by first | rfl | (simp; done) | (simp [*]; done)), H', ⟨by have := HJ9.out; have := HK2.out; omega⟩, ⟨by repeat (first | (with_reducible first | exact HB.out | apply below_alloc | apply pw_below_drewN | apply below_drew1) | exact HB.out)⟩⟩
                  · rw [if_neg c25] at H
                    have c25b0 : decide (x70_2 < (wrap64 (t152 - 1))) = false := decide_eq_false c25
                    clear c25
                    by_cases c27 : t158 = true
                    · subst c27
                      have H1 : ((fuseeref01_Clamp.f a2).bind fun t161 => (some (t157 == (wrap64 (t161 - x13_2))))) = some r := by rw [if_pos rfl] at H; exact H
                      clear H
                      have H := H1
                      clear H1
                      replace H := Option.bind_eq_some_iff.mp H
                      obtain ⟨t161, A280, H⟩ := H
                      replace H : (some (t157 == (wrap64 (t161 - x13_2)))) = some r := H
                      have A28 := Aside0.mk A280
                      clear A280
                      obtain rfl := Option.some.inj H
                      go_wp2_with (first | (go_at_call 19; (with_reducible refine (fuseeref01_Clamp.calls a2 t161 _ A28.out).mono ?_); rintro e w' ⟨rfl, ⟨nd, rfl⟩⟩))
                      go_ret
                      exact ⟨by first | rfl | (simp [errW_none, errW_some] <;> rfl) | (simp [*, errW_none, errW_some] <;> rfl), by repeat (first | (with_reducible first | exact HB.out | apply below_alloc | apply pw_below_drewN | apply below_drew1) | exact HB.out)⟩
                    · replace c27 := Bool.eq_false_iff.mpr c27
                      subst c27
                      have H1 : (some false) = some r := by rw [if_neg (show ¬ (false = true) by decide)] at H; exact H
                      clear H
                      have H := H1
                      clear H1
                      obtain rfl := Option.some.inj H
                      go_wp2
                      go_ret
                      exact ⟨by first | rfl | (simp [errW_none, errW_some] <;> rfl) | (simp [*, errW_none, errW_some] <;> rfl), by repeat (first | (with_reducible first | exact HB.out | apply below_alloc | apply pw_below_drewN | apply below_drew1) | exact HB.out)⟩
    · replace c7 := Bool.eq_false_iff.mpr c7
      subst c7
      have H1 : (some true) = some r := by rw [if_neg (show ¬ (false = true) by decide)] at H; exact H
      clear H
      have H := H1
      clear H1
      obtain rfl := Option.some.inj H
      go_enter Try.func3, Try.ntmps3
      go_wp2_with (first | ((with_reducible refine gate_callee (f := 13) rfl ?_); refine goesL_ (some 14) rfl rfl Try.func13 (by kernel_rfl) rfl #[] rfl (by (try simp only [List.map_toArray, List.map_cons, List.map_nil]); first | done | rfl | (simp only [List.length_drop, List.length_take]; rfl)) ?_; (with_reducible refine (fuseelaw03_fixed.calls k  true _ A4.out).mono ?_); rintro e w29 ⟨rfl, hb⟩; refine ⟨_, rfl, ?_⟩; have n0_ := Aside0.mk (below_step (by repeat (first | (with_reducible first | exact HB.out | apply below_alloc | apply pw_below_drewN | apply below_drew1) | exact HB.out)) hb); clear HB; have HB := n0_; clear n0_; (try clear hb); (try clear hb2); (try clear hk); (try clear hi)) | ((with_reducible refine gate_callee (f := 14) rfl ?_); refine goesL_ (some 19) rfl rfl Try.func14 (by kernel_rfl) rfl #[.int .i64 a0, .int .i64 a1, .int .i64 a2] rfl (by (try simp only [List.map_toArray, List.map_cons, List.map_nil]); first | done | rfl | (simp only [List.length_drop, List.length_take]; rfl)) ?_; (with_reducible refine (fuseeref03_Few.calls a0 a1 a2 false _ A6.out).mono ?_); rintro e w' ⟨rfl, ⟨nd, rfl⟩⟩; refine ⟨_, rfl, ?_⟩))
      go_ret
      exact ⟨by first | rfl | (simp [errW_none, errW_some] <;> rfl) | (simp [*, errW_none, errW_some] <;> rfl), by repeat (first | (with_reducible first | exact HB.out | apply below_alloc | apply pw_below_drewN | apply below_drew1) | exact HB.out)⟩
  · replace c5 := Bool.eq_false_iff.mpr c5
    subst c5
    have H1 : (some false) = some r := by rw [if_neg (show ¬ (false = true) by decide)] at H; exact H
    clear H
    have H := H1
    clear H1
    obtain rfl := Option.some.inj H
    go_enter Try.func3, Try.ntmps3
    go_wp2_with (first | ((with_reducible refine gate_callee (f := 13) rfl ?_); refine goesL_ (some 14) rfl rfl Try.func13 (by kernel_rfl) rfl #[] rfl (by (try simp only [List.map_toArray, List.map_cons, List.map_nil]); first | done | rfl | (simp only [List.length_drop, List.length_take]; rfl)) ?_; (with_reducible refine (fuseelaw03_fixed.calls k  false _ A4.out).mono ?_); rintro e w30 ⟨rfl, hb⟩; refine ⟨_, rfl, ?_⟩; have n0_ := Aside0.mk (below_step (by repeat (first | (with_reducible first | exact HB.out | apply below_alloc | apply pw_below_drewN | apply below_drew1) | exact HB.out)) hb); clear HB; have HB := n0_; clear n0_; (try clear hb); (try clear hb2); (try clear hk); (try clear hi)))
    go_ret
    exact ⟨by first | rfl | (simp [errW_none, errW_some] <;> rfl) | (simp [*, errW_none, errW_some] <;> rfl), by repeat (first | (with_reducible first | exact HB.out | apply below_alloc | apply pw_below_drewN | apply below_drew1) | exact HB.out)⟩

/-- THE ONE PURE STATEMENT of fuseelaw03_ForwardTells: yours. -/
def fuseelaw03_ForwardTells.Pure : Prop := ∀ (a0 : Int) (a1 : Int) (a2 : Int), (Lit.int .i64 a0).wf = true → (Lit.int .i64 a1).wf = true → (Lit.int .i64 a2).wf = true → ∃ k, fuseelaw03_ForwardTells.f k a0 a1 a2 = some true
theorem fuseelaw03_ForwardTells.walk (P : fuseelaw03_ForwardTells.Pure) (a0 : Int) (a1 : Int) (a2 : Int) (w : World) (w0 : (Lit.int .i64 a0).wf = true) (w1 : (Lit.int .i64 a1).wf = true) (w2 : (Lit.int .i64 a2).wf = true) :
    Calls Try.prog 3 #[.int .i64 a0, .int .i64 a1, .int .i64 a2] w fun e w' => e = .returned (.bool true) ∧ Below w.heap.size w w' := by
  obtain ⟨k, h⟩ := P a0 a1 a2 w0 w1 w2
  refine (fuseelaw03_ForwardTells.calls k a0 a1 a2 true w h).mono ?_
  rintro e w' ⟨rfl, hd⟩
  exact ⟨rfl, hd⟩

end Go.Proofs.Ythginjllhlfadaa.PForwardTells
