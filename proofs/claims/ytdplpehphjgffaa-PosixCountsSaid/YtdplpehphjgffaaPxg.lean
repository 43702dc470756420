/- fixed: posix's calls whose answers the document fixes; a table with one timer. No condition. -/
import Derived.Test.YtdplpehphjgffaaPxf
set_option linter.unusedVariables false
set_option linter.unusedSimpArgs false
namespace Go.Proofs.Ytdplpehphjgffaa.Px
open Go.RowKit Go.Proofs.Ytdplpehphjgffaa.Aid Go.Proofs.Ytdplpehphjgffaa.Kt Go.Proofs.Ytdplpehphjgffaa.Sp Go.Proofs.Ytdplpehphjgffaa.Fw
/-- a table with one timer, at place 0 -/
def one (x : Tm) (i : Nat) : Option Tm := if i = 0 then some x else none
theorem one_upd (x y : Tm) : upd (one x) 0 (some y) = one y := by
  funext i; show (if i = 0 then some y else one x i) = one y i
  unfold one; split <;> rfl
theorem none_upd (y : Tm) : upd (fun _ => none) 0 (some y) = one y := by funext i; rfl
theorem one_del (x : Tm) : upd (one x) 0 none = fun _ => none := by
  funext i; show (if i = 0 then none else one x i) = none
  unfold one; split <;> rfl
theorem one_at (x : Tm) : one x 0 = some x := rfl
theorem one_off (x : Tm) (i : Nat) : one x (i + 1) = none := rfl
theorem nextOf_one (x : Tm) (c : Int) (k : Nat) : nextOf (one x) c (k + 1) = if x.armed && ((x.clock : Int) == c) then mnc 4611686018427387903 x.next else 4611686018427387903 := by
  induction k with
  | zero => rfl
  | succ k ih => rw [← ih]; rfl
theorem cntOf_one (x : Tm) (k : Nat) : cntOf (one x) (k + 1) = 1 := by
  induction k with
  | zero => rfl
  | succ k ih => exact ih
theorem col_one_no (x : Tm) (x0 x1 x2 : Int) (h : x.comes (at3 x0 x1 x2 x.clock) = false) (k : Nat) : colN (one x) x0 x1 x2 (k + 1) = 0 ∧ colE (one x) x0 x1 x2 (k + 1) = [] := by
  induction k with
  | zero => rw [(col_no (one_at x) h).1, (col_no (one_at x) h).2]; exact ⟨rfl, rfl⟩
  | succ k ih => rw [(col_none (one_off x k)).1, (col_none (one_off x k)).2]; exact ih
theorem col_one_yes (x : Tm) (x0 x1 x2 : Int) (h : x.comes (at3 x0 x1 x2 x.clock) = true) (k : Nat) : colN (one x) x0 x1 x2 (k + 1) = 1 ∧ colE (one x) x0 x1 x2 (k + 1) = [.int .i64 0, .int .i64 x.signal, .int .i64 (x.went (at3 x0 x1 x2 x.clock)).over] := by
  induction k with
  | zero => rw [(col_yes (one_at x) h).1, (col_yes (one_at x) h).2]; exact ⟨rfl, rfl⟩
  | succ k ih => rw [(col_none (one_off x k)).1, (col_none (one_off x k)).2]; exact ih
theorem colT_one (x : Tm) (x0 x1 x2 : Int) : colT (one x) x0 x1 x2 64 = one (x.aft x0 x1 x2) := by
  funext i; unfold colT one
  by_cases h : i = 0
  · subst h; rfl
  · rw [if_neg h, if_neg h]; split <;> rfl
/-- the table with one timer, as a law holds it -/
structure PSt (g : Nat) (x : Tm) (w0 W : World) : Prop where
  t : IsTb W g (one x)
  b : Below w0.heap.size w0 W
  g : w0.heap.size ≤ g
  x : w0.heap.size ≤ x.b
theorem PSt.foot {g : Nat} {x : Tm} {w0 W : World} (h : PSt g x w0 W) (b : Nat) (hb : Foot g (one x) b) : w0.heap.size ≤ b := by
  rcases hb with rfl | ⟨i, y, hi, hy, rfl⟩
  · exact h.g
  · unfold one at hy
    split at hy
    · injection hy with hy; subst hy; exact h.x
    · cases hy
theorem PSt.call {g : Nat} {x : Tm} {w0 W W' : World} (h : PSt g x w0 W) (b : Below W.heap.size W W') : PSt g x w0 W' := ⟨h.t.below b, h.b.trans (b.mono h.b.size), h.g, h.x⟩
theorem PSt.alloc {g : Nat} {x : Tm} {w0 W : World} (h : PSt g x w0 W) (o : Obj) : PSt g x w0 (W.alloc o) := h.call ((Below.refl _ _).alloc (Nat.le_refl _) o)
theorem PSt.goes {g : Nat} {x y : Tm} {w0 W W' : World} (h : PSt g x w0 W) (k : IsTb W' g (one y)) (hy : y.b = x.b) (o : Only (Foot g (one x)) W W') : PSt g y w0 W' :=
  ⟨k, Only.under h.b o h.foot h.b.size, h.g, by rw [hy]; exact h.x⟩
theorem PSt.ok {g : Nat} {x : Tm} {w0 W : World} (h : PSt g x w0 W) : x.ok := (h.t.tm 0 x (by omega) (one_at x)).2.2
/-- a block that is none of the table's is as it was -/
theorem one_keep {g : Nat} {x : Tm} {W W' : World} (o : Only (Foot g (one x)) W W') {b : Nat} {t : TypeId} {cs : Array Value} (hb : Blk W b t cs) (h1 : b ≠ g) (h2 : b ≠ x.b) : Blk W' b t cs := o.blk hb (by
  rintro (hf | ⟨i, y, hi, hy, hyb⟩)
  · exact h1 hf
  · unfold one at hy
    split at hy
    · injection hy with hy; subst hy; exact h2 hyb.symm
    · cases hy)
def NlRel (w : World) (m : Nat) (s5 s8 : Value) (wr : World) : Prop := ∃ i : Nat, m = 64 - i ∧ i ≤ 64 ∧ s8 = .int .i64 i ∧ s5 = .int .i64 4611686018427387903 ∧ wr = w
set_option maxHeartbeats 2000000 in
set_option maxRecDepth 100000 in
theorem next_nil (c : Int) (w : World) :
    Calls Try.prog 51 #[.pointer none, .int .i64 c] w fun e w' => e = .returned (.int .i64 4611686018427387903) ∧ w = w' := by
  go_enter Try.func51, Try.ntmps51
  go_wp2_with fail
  go_loopg [5, 8] 64 (fun m s5 s8 wr => NlRel w m s5 s8 wr)
  case atStart => exact ⟨0, by omega, by omega, rfl, rfl, rfl⟩
  case round =>
    obtain ⟨i, hm, hi, rfl, rfl, hw⟩ := hrel
    subst hw
    have HM := Lib.hid hm
    clear hm
    by_cases hlt : i < 64
    · go_wp2_with fail
      refine (at_nil _ _).mono ?_
      rintro e w1 ⟨rfl, rfl⟩
      go_wp2_with fail
      go_roundg (64 - (i + 1))
      case measure => have := HM.out; omega
      case rel => exact ⟨i + 1, rfl, by omega, by go_num, rfl, rfl⟩
    · have hie : i = 64 := by omega
      subst hie
      go_wp2_with fail
      go_ret
      exact ⟨rfl, rfl⟩
theorem fx_set (b : Nat) : (fresh b 0 14).set 10 5 true 0 0 0 = ⟨b, 0, 14, true, 10, 5, 0⟩ := by simp [fresh, Tm.set]
theorem fx_comes (b : Nat) : (⟨b, 0, 14, true, 10, 5, 0⟩ : Tm).comes (at3 22 22 22 0) = true := by
  have h : cnt 10 5 (at3 22 22 22 0) = 3 := by decide
  simp [Tm.comes, Tm.gone, h]
theorem fx_went (b : Nat) : (⟨b, 0, 14, true, 10, 5, 0⟩ : Tm).went (at3 22 22 22 0) = ⟨b, 0, 14, true, 25, 5, 2⟩ := by
  have h : cnt 10 5 (at3 22 22 22 0) = 3 := by decide
  have h1 : nthv 10 5 3 = 25 := by decide
  have h2 : ovr 2 = 2 := by decide
  simp [Tm.went, Tm.gone, h, h1, h2]
theorem fx_aft (b : Nat) : (⟨b, 0, 14, true, 10, 5, 0⟩ : Tm).aft 22 22 22 = ⟨b, 0, 14, true, 25, 5, 2⟩ := by
  unfold Tm.aft
  rw [fx_comes b, if_pos rfl, fx_went]
theorem fx_tells (b : Nat) : Tells ⟨b, 0, 14, true, 25, 5, 2⟩ 22 0 0 0 3 0 5 := by
  have h := Tells.on ⟨b, 0, 14, true, 25, 5, 2⟩ 22 0 0 ⟨by simp, by simp, by simp⟩ rfl 3 5 (by show mx1 (unt (at3 22 0 0 0) 25) = 3; decide) (by show tf 5 = 5; decide)
  have e1 : tf 3 / 1000000000 = 0 := by decide
  have e2 : tf 3 % 1000000000 = 3 := by decide
  have e3 : (5 : Int) / 1000000000 = 0 := by decide
  have e4 : (5 : Int) % 1000000000 = 5 := by decide
  rw [e1, e2, e3, e4] at h
  exact h
set_option maxHeartbeats 4000000 in
set_option maxRecDepth 100000 in
theorem fixed_any (w : World) : Calls Try.prog 45 #[] w fun e w' => e = .returned (.bool true) ∧ Below w.heap.size w w' := by
  go_enter Try.func45, Try.ntmps45
  go_wp2_with fail
  refine (new_any _).mono ?_
  rintro e w1 ⟨g, rfl, hg, h1, b1⟩
  go_wp2_with fail
  refine (create_ok g _ _ h1 0 (by omega) 14 (by omega) 0 (by omega) rfl (fun i hi => by omega)).mono ?_
  rintro e w2 ⟨b, rfl, hb, h2, o2⟩
  rw [none_upd] at h2
  have S2 : PSt g (fresh b 0 14) w w2 := ⟨h2, Only.under b1 o2 (fun i hi => by
    rcases hi with rfl | ⟨i, x, hi, hx, _⟩
    · exact hg
    · cases hx) b1.size, hg, by have := b1.size; simp [fresh]; omega⟩
  clear h1 h2 o2 hb hg b1
  go_wp2_with fail
  refine (set_ok g _ _ S2.t 0 (by omega) (fresh b 0 14) (one_at _) 0 10 0 5 true 0 0 0 0 0 0 0 (Tells.off _ 0 0 0 rfl) (by omega) (by omega) ⟨by omega, by omega, by omega⟩ ⟨by omega, by omega, by omega⟩ 10 5 (by decide) (by decide) (by omega) (by omega)).mono ?_
  rintro e w3 ⟨rfl, h3, o3⟩
  rw [one_upd, fx_set] at h3
  have S3 := (S2.goes h3 rfl o3).alloc (.cells (set4 0 0 0 0) 79)
  clear S2 h3 o3
  unfold set4 at S3 ⊢
  go_wp2_with fail
  generalize w3.alloc (.cells #[.int .i64 0, .int .i64 0, .int .i64 0, .int .i64 0] 79) = W3 at S3 ⊢
  refine (Collect_any g _ _ S3.t 22 22 22).mono ?_
  rintro e w4 ⟨v, rfl, hv, h4, o4⟩
  rw [colT_one, fx_aft] at h4
  rw [(col_one_yes _ 22 22 22 (fx_comes b) 63).1, (col_one_yes _ 22 22 22 (fx_comes b) 63).2, fx_went] at hv
  have S4 := S3.goes h4 rfl o4
  obtain ⟨gg, cap, rfl, hgg, hggl, hcap, hcapm⟩ := own_form hv (by omega)
  clear S3 h4 o4 hgg hggl hcap hcapm
  go_wp2_with fail
  refine (next_any g _ _ S4.t 0).mono ?_
  rintro e w5 ⟨rfl, b5⟩
  have e5 : nextOf (one ⟨b, 0, 14, true, 25, 5, 2⟩) 0 64 = 25 := by rw [nextOf_one]; show (if (true && (((0 : Nat) : Int) == 0)) = true then mnc 4611686018427387903 25 else 4611686018427387903) = 25; decide
  rw [e5]
  have S5 := S4.call b5
  have hv5 := own_below hv b5
  clear S4 hv e5 b5
  go_wp2_with fail
  refine (over_ok g _ _ S5.t 0 (by omega) _ (one_at _)).mono ?_
  rintro e w6 ⟨rfl, rfl⟩
  go_wp2_with fail
  refine (get_ok g _ _ S5.t 0 (by omega) _ (one_at _) 22 0 0 0 3 0 5 (fx_tells b)).mono ?_
  rintro e w7 ⟨rfl, b7⟩
  have S7 := (S5.call b7).alloc (.cells (set4 0 3 0 5) 79)
  have hv7 := own_alloc (own_below hv5 b7) (.cells (set4 0 3 0 5) 79)
  have hs7 := Blk.new w7 79 (set4 0 3 0 5)
  clear S5 hv5 b7
  unfold set4 at S7 hv7 hs7 ⊢
  go_upto_region 8 with fail
  generalize w7.alloc (.cells #[.int .i64 0, .int .i64 3, .int .i64 0, .int .i64 5] 79) = W7 at S7 hv7 hs7 ⊢
  generalize w7.heap.size = Y at hs7 ⊢
  go_wp2_with fail
  refine (create_nil 0 1 _).mono ?_
  rintro e w8 ⟨rfl, rfl⟩
  have l0 : W7.cell? ⟨gg, 0, none⟩ = some (.int .i64 0) := own_cell hv7 rfl
  have l1 : W7.cell? ⟨gg, 1, none⟩ = some (.int .i64 14) := own_cell hv7 rfl
  have l2 : W7.cell? ⟨gg, 2, none⟩ = some (.int .i64 2) := own_cell hv7 rfl
  have y0 : W7.cell? ⟨Y, 0, none⟩ = some (.int .i64 0) := hs7.cell 0
  have y1 : W7.cell? ⟨Y, 1, none⟩ = some (.int .i64 3) := hs7.cell 1
  go_wp2_with fail
  refine (delete_ok g _ _ S7.t 0 (by omega) _ (one_at _)).mono ?_
  rintro e w9 ⟨rfl, h9, o9⟩
  rw [one_del] at h9
  have B9 := Only.under S7.b o9 S7.foot S7.b.size
  clear l0 l1 l2 y0 y1 hs7 hv7 S7 o9
  go_wp2_with fail
  refine (delete_none g _ _ h9 0 (by omega) rfl).mono ?_
  rintro e w10 ⟨rfl, rfl⟩
  go_wp2_with fail
  refine (next_nil 0 _).mono ?_
  rintro e w11 ⟨rfl, rfl⟩
  go_wp2_with fail
  go_ret
  exact ⟨rfl, B9⟩
end Go.Proofs.Ytdplpehphjgffaa.Px
