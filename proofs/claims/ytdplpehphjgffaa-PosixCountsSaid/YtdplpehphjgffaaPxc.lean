/- The contracts of posix's Get, Set, Over and Delete, at a timer that is there. No condition but that a timer's number is one. -/
import Derived.Test.YtdplpehphjgffaaPxb
set_option linter.unusedVariables false
set_option linter.unusedSimpArgs false
namespace Go.Proofs.Ytdplpehphjgffaa.Px
open Go.RowKit Go.Proofs.Ytdplpehphjgffaa.Aid Go.Proofs.Ytdplpehphjgffaa.Kt Go.Proofs.Ytdplpehphjgffaa.Sp
attribute [local go_sem] max2_int min2_int max_two min_two
/-- what setting answers of a timer -/
def Tells (x : Tm) (x0 x1 x2 a b c d : Int) : Prop := ∀ w, Blk w x.b 113 x.cells → Calls Try.prog 75 #[.pointer (some ⟨x.b, 0, none⟩), .agg #[.int .i64 x0, .int .i64 x1, .int .i64 x2]] w fun e w' => e = .returned (.agg (set4 a b c d)) ∧ Below w.heap.size w w'
theorem Tells.off (x : Tm) (x0 x1 x2 : Int) (h : x.armed = false) : Tells x x0 x1 x2 0 0 0 0 := fun w hb => setting_off x x0 x1 x2 w hb h
theorem Tells.on (x : Tm) (x0 x1 x2 : Int) (ok : x.ok) (h : x.armed = true) (L I : Int) (hL : mx1 (unt (at3 x0 x1 x2 x.clock) x.next) = L) (hI : tf x.interval = I) : Tells x x0 x1 x2 (tf L / 1000000000) (tf L % 1000000000) (I / 1000000000) (I % 1000000000) := fun w hb => setting_on x x0 x1 x2 w hb ok h L I hL hI
set_option maxHeartbeats 4000000 in
set_option maxRecDepth 100000 in
theorem get_ok (g : Nat) (t : Nat → Option Tm) (w : World) (h : IsTb w g t) (i : Nat) (hi : i < 64) (x : Tm) (hx : t i = some x) (x0 x1 x2 a b c d : Int) (ht : Tells x x0 x1 x2 a b c d) :
    Calls Try.prog 50 #[.pointer (some ⟨g, 0, none⟩), .int .i64 i, .agg #[.int .i64 x0, .int .i64 x1, .int .i64 x2]] w fun e w' => e = .returned (.tuple #[.agg (set4 a b c d), .int .i64 0]) ∧ Below w.heap.size w w' := by
  have HT := Lib.hid ht
  have HX := Lib.hid hx
  clear ht hx
  obtain ⟨hs, hr, B1⟩ := set_frame x0 x1 x2 w
  have h2 := (h.alloc (.cells #[.int .i64 x0, .int .i64 x1, .int .i64 x2] 68)).alloc (.cells #[.int .i64 0, .int .i64 0, .int .i64 0, .int .i64 0] 79)
  have HR : Hid (w.heap.size ≤ w.heap.size + 1) := Lib.hid (by omega)
  go_enter Try.func50, Try.ntmps50
  go_upto_region 1 with fail
  generalize (w.alloc (.cells #[.int .i64 x0, .int .i64 x1, .int .i64 x2] 68)).alloc (.cells #[.int .i64 0, .int .i64 0, .int .i64 0, .int .i64 0] 79) = W at hs hr B1 h2 ⊢
  have s0 : W.cell? ⟨w.heap.size, 0, none⟩ = some (.int .i64 x0) := hs.cell 0
  have s1 : W.cell? ⟨w.heap.size, 1, none⟩ = some (.int .i64 x1) := hs.cell 1
  have s2 : W.cell? ⟨w.heap.size, 2, none⟩ = some (.int .i64 x2) := hs.cell 2
  go_wp2_with fail
  refine (at_any g t _ h2 i hi).mono ?_
  rintro e w1 ⟨rfl, rfl⟩
  rw [HX.out]
  have e1 : Tm.ptr (some x) = .pointer (some ⟨x.b, 0, none⟩) := rfl
  rw [e1]
  clear e1
  go_wp2_with fail
  refine (HT.out _ (h2.tm i x hi HX.out).1).mono ?_
  rintro e w2 ⟨rfl, b2⟩
  have hr2 := hr.below b2 hr.lt
  have B2 := B1.trans (b2.mono B1.size)
  clear s0 s1 s2 hs hr B1 h2 b2
  obtain ⟨r0, r1, r2, r3⟩ := res4 hr2
  have f0 := hr2.frozen
  unfold set4
  go_wp2_with fail
  clear r0 r1 r2 r3
  have hr5 := res_set4 hr2 a b c d
  obtain ⟨r0, r1, r2, r3⟩ := res4 hr5
  exact bodyPost_ret (v := .tuple #[.agg (set4 a b c d), .int .i64 0]) (by simp [results, Try.results50, go_sem, r0, r1, r2, r3, set4]) rfl ⟨rfl, res_below4 B2 HR.out _ _ _ _⟩
theorem over_ok (g : Nat) (t : Nat → Option Tm) (w : World) (h : IsTb w g t) (i : Nat) (hi : i < 64) (x : Tm) (hx : t i = some x) :
    Calls Try.prog 70 #[.pointer (some ⟨g, 0, none⟩), .int .i64 i] w fun e w' => e = .returned (.tuple #[.int .i64 x.over, .int .i64 0]) ∧ w = w' := by
  have HX := Lib.hid hx
  clear hx
  go_enter Try.func70, Try.ntmps70
  go_wp2_with fail
  refine (at_any g t _ h i hi).mono ?_
  rintro e w1 ⟨rfl, rfl⟩
  rw [HX.out]
  have e1 : Tm.ptr (some x) = .pointer (some ⟨x.b, 0, none⟩) := rfl
  rw [e1]
  clear e1
  obtain ⟨c0, c1, c2, c3, c4, c5⟩ := Tm.cc (h.tm i x hi HX.out).1
  go_wp2_with fail
  go_ret2
  exact ⟨rfl, rfl⟩
theorem upd_at (t : Nat → Option Tm) (i : Nat) (x : Option Tm) : upd t i x i = x := by unfold upd; rw [if_pos rfl]
theorem delete_none (g : Nat) (t : Nat → Option Tm) (w : World) (h : IsTb w g t) (i : Nat) (hi : i < 64) (hx : t i = none) :
    Calls Try.prog 71 #[.pointer (some ⟨g, 0, none⟩), .int .i64 i] w fun e w' => e = .returned (.int .i64 2) ∧ w = w' := by
  have HX := Lib.hid hx
  clear hx
  go_enter Try.func71, Try.ntmps71
  go_wp2_with fail
  refine (at_any g t _ h i hi).mono ?_
  rintro e w1 ⟨rfl, rfl⟩
  rw [HX.out]
  have e1 : Tm.ptr none = .pointer none := rfl
  rw [e1]
  clear e1
  go_wp2_with fail
  refine (missing_some g _).mono ?_
  rintro e w1 ⟨rfl, rfl⟩
  go_wp2_with fail
  go_ret
  exact ⟨rfl, rfl⟩
theorem IsTb.drop {w : World} {g : Nat} {t : Nat → Option Tm} (h : IsTb w g t) (i : Nat) (hi : i < 64) : IsTb (w.setCell ⟨g, i, none⟩ (.pointer none)) g (upd t i none) := by
  obtain ⟨⟨cs, hb, hs, hc⟩, h1, h2⟩ := h
  refine ⟨⟨_, hb.set_ i _, by simp [hs], fun k hk => ?_⟩, fun k y hk hy => ?_, fun k l y z hk hl hy hz e => ?_⟩
  · rw [Array.getElem?_setIfInBounds]
    unfold upd
    by_cases e : k = i
    · subst e
      rw [if_pos rfl, if_pos rfl, if_pos (by omega)]
      rfl
    · rw [if_neg (fun h => e h.symm), if_neg e]; exact hc k hk
  · unfold upd at hy
    by_cases e : k = i
    · rw [if_pos e] at hy; cases hy
    · rw [if_neg e] at hy
      obtain ⟨a, b, c⟩ := h1 k y hk hy
      exact ⟨a.far b _, b, c⟩
  · unfold upd at hy hz
    by_cases e1 : k = i
    · rw [if_pos e1] at hy; cases hy
    · by_cases e2 : l = i
      · rw [if_pos e2] at hz; cases hz
      · rw [if_neg e1] at hy; rw [if_neg e2] at hz; exact h2 k l y z hk hl hy hz e
theorem delete_ok (g : Nat) (t : Nat → Option Tm) (w : World) (h : IsTb w g t) (i : Nat) (hi : i < 64) (x : Tm) (hx : t i = some x) :
    Calls Try.prog 71 #[.pointer (some ⟨g, 0, none⟩), .int .i64 i] w fun e w' => e = .returned (.int .i64 0) ∧ IsTb w' g (upd t i none) ∧ Only (Foot g t) w w' := by
  have HX := Lib.hid hx
  clear hx
  have q0 := h.cell i hi
  have f0 := h.frozen
  go_enter Try.func71, Try.ntmps71
  go_wp2_with fail
  refine (at_any g t _ h i hi).mono ?_
  rintro e w1 ⟨rfl, rfl⟩
  rw [HX.out]
  have e1 : Tm.ptr (some x) = .pointer (some ⟨x.b, 0, none⟩) := rfl
  rw [e1]
  clear e1
  go_wp2_with fail
  go_ret
  exact ⟨rfl, h.drop i hi, (Only.refl _ _).setCell (.inl (.inl rfl)) _⟩
end Go.Proofs.Ytdplpehphjgffaa.Px
