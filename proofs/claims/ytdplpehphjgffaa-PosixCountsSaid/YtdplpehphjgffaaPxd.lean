/- The contract of posix's Set, at a timer that is there, of a setting that may be. No condition but that a timer's number is one. -/
import Derived.Test.YtdplpehphjgffaaPxc
set_option linter.unusedVariables false
set_option linter.unusedSimpArgs false
namespace Go.Proofs.Ytdplpehphjgffaa.Px
open Go.RowKit Go.Proofs.Ytdplpehphjgffaa.Aid Go.Proofs.Ytdplpehphjgffaa.Kt Go.Proofs.Ytdplpehphjgffaa.Sp
attribute [local go_sem] max2_int min2_int max_two min_two
/-- a timer that is set -/
def Tm.set (x : Tm) (v i : Int) (ab : Bool) (x0 x1 x2 : Int) : Tm := { x with armed := decide (0 < v), next := if ab then v else ad v (at3 x0 x1 x2 x.clock), interval := i, over := 0 }
theorem set_frame3 (s n si ni x0 x1 x2 : Int) (w W : World) (hW : W = ((w.alloc (.cells (set4 s n si ni) 79)).alloc (.cells #[.int .i64 x0, .int .i64 x1, .int .i64 x2] 68)).alloc (.cells (set4 0 0 0 0) 79)) :
    Blk W w.heap.size 79 (set4 s n si ni) ∧ Blk W (w.heap.size + 1) 68 #[.int .i64 x0, .int .i64 x1, .int .i64 x2] ∧ Blk W (w.heap.size + 1 + 1) 79 (set4 0 0 0 0) ∧ Below w.heap.size w W := by
  subst hW
  have e1 : (w.alloc (.cells (set4 s n si ni) 79)).heap.size = w.heap.size + 1 := by simp
  have e2 : ((w.alloc (.cells (set4 s n si ni) 79)).alloc (.cells #[.int .i64 x0, .int .i64 x1, .int .i64 x2] 68)).heap.size = w.heap.size + 1 + 1 := by simp
  have h1 := Blk.new (w.alloc (.cells (set4 s n si ni) 79)) 68 #[.int .i64 x0, .int .i64 x1, .int .i64 x2]
  have h2 := Blk.new ((w.alloc (.cells (set4 s n si ni) 79)).alloc (.cells #[.int .i64 x0, .int .i64 x1, .int .i64 x2] 68)) 79 (set4 0 0 0 0)
  rw [e1] at h1
  rw [e2] at h2
  exact ⟨((Blk.new w _ _).alloc _).alloc _, h1.alloc _, h2, (((Below.refl w.heap.size w).alloc (Nat.le_refl _) _).alloc (by simp) _).alloc (by simp; omega) _⟩
/-- Set's blocks: the setting, the times, the result, the table -/
structure TMid (g : Nat) (t : Nat → Option Tm) (D T R : Nat) (s n si ni x0 x1 x2 : Int) (w W : World) : Prop where
  d : Blk W D 79 (set4 s n si ni)
  m : Blk W T 68 #[.int .i64 x0, .int .i64 x1, .int .i64 x2]
  r : Blk W R 79 (set4 0 0 0 0)
  t : IsTb W g t
  b : Below w.heap.size w W
theorem TMid.call {g : Nat} {t : Nat → Option Tm} {D T R : Nat} {s n si ni x0 x1 x2 : Int} {w W W' : World} (h : TMid g t D T R s n si ni x0 x1 x2 w W) (b : Below W.heap.size W W') : TMid g t D T R s n si ni x0 x1 x2 w W' :=
  ⟨h.d.below b h.d.lt, h.m.below b h.m.lt, h.r.below b h.r.lt, h.t.below b, h.b.trans (b.mono h.b.size)⟩
theorem TMid.alloc {g : Nat} {t : Nat → Option Tm} {D T R : Nat} {s n si ni x0 x1 x2 : Int} {w W : World} (h : TMid g t D T R s n si ni x0 x1 x2 w W) (o : Obj) : TMid g t D T R s n si ni x0 x1 x2 w (W.alloc o) := h.call ((Below.refl _ _).alloc (Nat.le_refl _) o)
theorem TMid.dc {g : Nat} {t : Nat → Option Tm} {D T R : Nat} {s n si ni x0 x1 x2 : Int} {w W : World} (h : TMid g t D T R s n si ni x0 x1 x2 w W) : W.cell? ⟨D, 0, none⟩ = some (.int .i64 s) ∧ W.cell? ⟨D, 1, none⟩ = some (.int .i64 n) ∧ W.cell? ⟨D, 2, none⟩ = some (.int .i64 si) ∧ W.cell? ⟨D, 3, none⟩ = some (.int .i64 ni) := ⟨h.d.cell 0, h.d.cell 1, h.d.cell 2, h.d.cell 3⟩
theorem TMid.mc {g : Nat} {t : Nat → Option Tm} {D T R : Nat} {s n si ni x0 x1 x2 : Int} {w W : World} (h : TMid g t D T R s n si ni x0 x1 x2 w W) : W.cell? ⟨T, 0, none⟩ = some (.int .i64 x0) ∧ W.cell? ⟨T, 1, none⟩ = some (.int .i64 x1) ∧ W.cell? ⟨T, 2, none⟩ = some (.int .i64 x2) := ⟨h.m.cell 0, h.m.cell 1, h.m.cell 2⟩
/-- the four stores of a timer that is set -/
theorem Blk.set_tm {W : World} {b : Nat} {x : Tm} (h : Blk W b 113 x.cells) (a : Bool) (n i o : Int) :
    Blk ((((W.setCell ⟨b, 2, none⟩ (.bool a)).setCell ⟨b, 3, none⟩ (.int .i64 n)).setCell ⟨b, 4, none⟩ (.int .i64 i)).setCell ⟨b, 5, none⟩ (.int .i64 o)) b 113 ({ x with armed := a, next := n, interval := i, over := o } : Tm).cells := by
  simpa [Tm.cells] using (((h.set_ 2 (.bool a)).set_ 3 (.int .i64 n)).set_ 4 (.int .i64 i)).set_ 5 (.int .i64 o)
theorem grown_tm (W : World) (b : Nat) (a : Bool) (n i o : Int) : W.grownBy ((((W.setCell ⟨b, 2, none⟩ (.bool a)).setCell ⟨b, 3, none⟩ (.int .i64 n)).setCell ⟨b, 4, none⟩ (.int .i64 i)).setCell ⟨b, 5, none⟩ (.int .i64 o)) (some b) :=
  only_setCell (only_setCell (only_setCell (only_setCell (World.grownBy.refl W (some b)) (.inl rfl) _) (.inl rfl) _) (.inl rfl) _) (.inl rfl) _
set_option maxHeartbeats 1000000 in
set_option maxRecDepth 100000 in
theorem set_ok (g : Nat) (t : Nat → Option Tm) (w : World) (h : IsTb w g t) (i : Nat) (hi : i < 64) (x : Tm) (hx : t i = some x) (s n si ni : Int) (ab : Bool) (x0 x1 x2 a b c d : Int) (ht : Tells x x0 x1 x2 a b c d)
    (hs : s ≤ 9223372036854775807) (hsi : si ≤ 9223372036854775807) (rt : Rt s n) (rti : Rt si ni) (v iv : Int) (hv : tm s n = v) (hiv : tm si ni = iv) (hvb : -4611686018427387903 ≤ v ∧ v ≤ 4611686018427387903) (hivb : 0 ≤ iv ∧ iv ≤ 4611686018427387903) :
    Calls Try.prog 48 #[.pointer (some ⟨g, 0, none⟩), .int .i64 i, .agg (set4 s n si ni), .bool ab, .agg #[.int .i64 x0, .int .i64 x1, .int .i64 x2]] w fun e w' => e = .returned (.tuple #[.agg (set4 a b c d), .int .i64 0]) ∧ IsTb w' g (upd t i (some (x.set v iv ab x0 x1 x2))) ∧ Only (Foot g t) w w' := by
  have HT := Lib.hid ht
  have HX := Lib.hid hx
  have HV := Lib.hid hv
  have HIV := Lib.hid hiv
  have HR1 := Lib.hid rt
  have HR2 := Lib.hid rti
  have hfl : Hid (∀ b, Foot g t b → b < w.heap.size) := Lib.hid fun b hb => h.foot_lt hb
  clear ht hx hv hiv rt rti
  obtain ⟨W, hW⟩ : ∃ W, W = ((w.alloc (.cells (set4 s n si ni) 79)).alloc (.cells #[.int .i64 x0, .int .i64 x1, .int .i64 x2] 68)).alloc (.cells (set4 0 0 0 0) 79) := ⟨_, rfl⟩
  obtain ⟨h1, h2, h3, h4⟩ := set_frame3 s n si ni x0 x1 x2 w W hW
  have M : TMid g t w.heap.size (w.heap.size + 1) (w.heap.size + 1 + 1) s n si ni x0 x1 x2 w W := ⟨h1, h2, h3, by rw [hW]; exact ((h.alloc _).alloc _).alloc _, h4⟩
  have HW := Lib.hid hW
  clear h1 h2 h3 h4 hW h
  unfold set4 at HW ⊢
  go_enter Try.func48, Try.ntmps48
  go_upto_region 1 with fail
  rw [← HW.out]
  clear HW
  go_wp2_with fail
  refine (at_any g t _ M.t i hi).mono ?_
  rintro e w1 ⟨rfl, rfl⟩
  rw [HX.out]
  have e1 : Tm.ptr (some x) = .pointer (some ⟨x.b, 0, none⟩) := rfl
  rw [e1]
  clear e1
  obtain ⟨d0, d1, d2, d3⟩ := M.dc
  go_wp2_with fail
  refine (time_yes s n hs HR1.out _).mono ?_
  rintro e w2 ⟨rfl, b2⟩
  rw [HV.out]
  have M2 := M.call b2
  clear M b2 d0 d1 d2 d3
  obtain ⟨d0, d1, d2, d3⟩ := M2.dc
  go_wp2_with fail
  refine (time_yes si ni hsi HR2.out _).mono ?_
  rintro e w3 ⟨rfl, b3⟩
  rw [HIV.out]
  have M3 := M2.call b3
  clear M2 b3 d0 d1 d2 d3
  obtain ⟨m0, m1, m2⟩ := M3.mc
  go_wp2_with fail
  refine (HT.out _ (M3.t.tm i x hi HX.out).1).mono ?_
  rintro e w4 ⟨rfl, b4⟩
  have M4 := (M3.call b4).alloc (.cells (set4 a b c d) 79)
  have hK := Blk.new w4 79 (set4 a b c d)
  have HKl : Hid (w.heap.size ≤ w4.heap.size) := Lib.hid (M3.call b4).b.size
  clear M3 b4 m0 m1 m2
  unfold set4 at M4 hK ⊢
  go_upto_region 9 with fail
  generalize w4.alloc (.cells #[.int .i64 a, .int .i64 b, .int .i64 c, .int .i64 d] 79) = W4 at M4 hK ⊢
  generalize w4.heap.size = K at hK HKl ⊢
  obtain ⟨hxb, hxg, hxo⟩ := M4.t.tm i x hi HX.out
  have hxl : x.b < w.heap.size := hfl.out _ (.inr ⟨i, x, hi, HX.out, rfl⟩)
  have HXL := Lib.hid hxl
  clear hxl
  go_cut [] (fun wx => Blk wx x.b 113 ({ x with armed := decide (0 < v), next := v, interval := iv, over := 0 } : Tm).cells ∧ W4.grownBy wx (some x.b))
  case first =>
    obtain ⟨c0, c1, c2, c3, c4, c5⟩ := Tm.cc hxb
    have f0 := hxb.frozen
    go_wp2_with fail
    go_meet
    exact ⟨Blk.set_tm hxb (decide (0 < v)) v iv 0, grown_tm W4 x.b (decide (0 < v)) v iv 0⟩
  case rest =>
    obtain ⟨hx5, g5⟩ := hcut
    have hxc := hxo.c
    have t5 := M4.t.turn hi HX.out (y := { x with armed := decide (0 < v), next := v, interval := iv, over := 0 }) rfl ⟨hxo.c, hvb, hivb⟩ hx5 g5
    have ne : ∀ k, w.heap.size ≤ k → some k ≠ some x.b := fun k hk he => by injection he with he; have := HXL.out; omega
    have HNE := Lib.hid ne
    have hr5 := M4.r.grown g5 (HNE.out _ (by omega))
    have hm5 := M4.m.grown g5 (HNE.out _ (by omega))
    have hK5 := hK.grown g5 (HNE.out _ HKl.out)
    have O5 : Only (Foot g t) w wc := (Only.of_below M4.b _).grown g5 (.inl (.inr ⟨i, x, hi, HX.out, rfl⟩))
    clear ne hK M4 g5 hxb hxg hxo
    have fin : ∀ (y : Tm) (wx : World), y.b = x.b → IsTb wx g (upd t i (some y)) → Blk wx (w.heap.size + 1 + 1) 79 #[.int .i64 0, .int .i64 0, .int .i64 0, .int .i64 0] → Only (Foot g t) w wx → ∀ p q r u : Int, IsTb ((((wx.setCell ⟨w.heap.size + 1 + 1, 0, none⟩ (.int .i64 p)).setCell ⟨w.heap.size + 1 + 1, 1, none⟩ (.int .i64 q)).setCell ⟨w.heap.size + 1 + 1, 2, none⟩ (.int .i64 r)).setCell ⟨w.heap.size + 1 + 1, 3, none⟩ (.int .i64 u)) g (upd t i (some y)) ∧ Only (Foot g t) w ((((wx.setCell ⟨w.heap.size + 1 + 1, 0, none⟩ (.int .i64 p)).setCell ⟨w.heap.size + 1 + 1, 1, none⟩ (.int .i64 q)).setCell ⟨w.heap.size + 1 + 1, 2, none⟩ (.int .i64 r)).setCell ⟨w.heap.size + 1 + 1, 3, none⟩ (.int .i64 u)) := fun y wx hy hT hR hO p q r u => by
      have hnf : ¬ Foot g (upd t i (some y)) (w.heap.size + 1 + 1) := by
        rintro (hf | ⟨k, z, hk, hz, hzb⟩)
        · have := hfl.out g (.inl rfl); omega
        · unfold upd at hz
          by_cases e : k = i
          · rw [if_pos e] at hz; injection hz with hz; subst hz
            have := HXL.out; omega
          · rw [if_neg e] at hz
            have := hfl.out z.b (.inr ⟨k, z, hk, hz, rfl⟩); omega
      exact ⟨(((hT.far hnf _).far hnf _).far hnf _).far hnf _, (((hO.setCell (.inr (by simp; omega)) _).setCell (.inr (by simp; omega)) _).setCell (.inr (by simp; omega)) _).setCell (.inr (by simp; omega)) _⟩
    have FIN := Lib.hid fin
    clear fin
    go_upto_region 10 with fail
    cases ab
    · have e0 : x.set v iv false x0 x1 x2 = { x with armed := decide (0 < v), next := ad v (at3 x0 x1 x2 x.clock), interval := iv, over := 0 } := by simp [Tm.set]
      have E0 := Lib.hid e0
      clear e0
      have hxbb : x.b ≠ w.heap.size + 1 := by have := HXL.out; omega
      go_upto_region 11 with fail
      go_cut [] (fun wx => Blk wx x.b 113 (x.set v iv false x0 x1 x2).cells ∧ wc.grownBy wx (some x.b))
      case first =>
        obtain ⟨c0, c1, c2, c3, c4, c5⟩ := Tm.cc hx5
        simp only at c0 c1 c2 c3 c4 c5
        have f0 := hx5.frozen
        have t0 := at3_cell hm5 x.clock hxc
        go_wp2_with fail
        refine (add_any _ _ _).mono ?_
        rintro e w6 ⟨rfl, rfl⟩
        go_wp2_with fail
        go_meet
        have hst := hx5.set_ 3 (.int .i64 (ad v (at3 x0 x1 x2 x.clock)))
        rw [E0.out]
        exact ⟨by simpa [Tm.cells] using hst, only_setCell (World.grownBy.refl wc (some x.b)) (.inl rfl) _⟩
      case rest =>
        rename_i wc'
        obtain ⟨hx7, g7⟩ := hcut
        have ok7 : (x.set v iv false x0 x1 x2).ok := by rw [E0.out]; exact ⟨hxc, ad_bd _ _, hivb⟩
        have t7 := t5.turn hi (upd_at t i _) (y := x.set v iv false x0 x1 x2) rfl ok7 hx7 g7
        have eu : upd (upd t i (some { x with armed := decide (0 < v), next := v, interval := iv, over := 0 })) i (some (x.set v iv false x0 x1 x2)) = upd t i (some (x.set v iv false x0 x1 x2)) := by
          funext j; unfold upd; by_cases e : j = i
          · rw [if_pos e, if_pos e]
          · rw [if_neg e, if_neg e, if_neg e]
        rw [eu] at t7
        have hr7 := hr5.grown g7 (HNE.out _ (by omega))
        have hK7 := hK5.grown g7 (HNE.out _ HKl.out)
        have O7 := O5.grown g7 (.inl (.inr ⟨i, x, hi, HX.out, rfl⟩))
        clear eu t5 hr5 hK5 hm5 O5 g7
        obtain ⟨r0, r1, r2, r3⟩ := res4 hr7
        obtain ⟨k0, k1, k2, k3⟩ := res4 hK7
        have f0 := hr7.frozen
        go_wp2_with fail
        clear r0 r1 r2 r3 k0 k1 k2 k3
        have hr6 := res_set4 hr7 a b c d
        obtain ⟨r0, r1, r2, r3⟩ := res4 hr6
        exact bodyPost_ret (v := .tuple #[.agg #[.int .i64 a, .int .i64 b, .int .i64 c, .int .i64 d], .int .i64 0]) (by simp [results, Try.results48, go_sem, r0, r1, r2, r3, set4]) rfl ⟨rfl, FIN.out (x.set v iv false x0 x1 x2) _ rfl t7 hr7 O7 a b c d⟩
    · obtain ⟨r0, r1, r2, r3⟩ := res4 hr5
      obtain ⟨k0, k1, k2, k3⟩ := res4 hK5
      have f0 := hr5.frozen
      go_wp2_with fail
      clear r0 r1 r2 r3 k0 k1 k2 k3
      have hr6 := res_set4 hr5 a b c d
      obtain ⟨r0, r1, r2, r3⟩ := res4 hr6
      exact bodyPost_ret (v := .tuple #[.agg #[.int .i64 a, .int .i64 b, .int .i64 c, .int .i64 d], .int .i64 0]) (by simp [results, Try.results48, go_sem, r0, r1, r2, r3, set4]) rfl ⟨rfl, FIN.out (x.set v iv true x0 x1 x2) _ rfl (by rw [show x.set v iv true x0 x1 x2 = { x with armed := decide (0 < v), next := v, interval := iv, over := 0 } by simp [Tm.set]]; exact t5) hr5 O5 a b c d⟩
end Go.Proofs.Ytdplpehphjgffaa.Px
