/- The contracts of sleep's Start where it starts, of Stop and of Wake. No condition but that a task's number is one. -/
import Derived.Test.YtdplpehphjgffaaSl
set_option linter.unusedVariables false
set_option linter.unusedSimpArgs false
namespace Go.Proofs.Ytdplpehphjgffaa.Sl
open Go.RowKit Go.Proofs.Ytdplpehphjgffaa.Aid Go.Proofs.Ytdplpehphjgffaa.Kt Go.Proofs.Ytdplpehphjgffaa.Sp
attribute [local go_sem] max2_int min2_int max_two min_two
/-- the clock by which a sleep goes -/
def byC (clock : Int) (ab : Bool) : Int := if ab = false ∧ clock = 1 then 0 else clock
def atC (x0 x1 x2 c : Int) : Int := if c = 0 then x0 else if c = 1 then x1 else x2
/-- the sleep that starts -/
def newS (task clock s n x0 x1 x2 : Int) (ab : Bool) : Slp := ⟨task, byC clock ab, if ab then tm s n else ad (tm s n) (atC x0 x1 x2 (byC clock ab)), !ab⟩
def Slp.cells (s : Slp) : Array Value := #[.int .i64 s.task, .int .i64 s.clock, .int .i64 s.till, .bool s.rel]
theorem IsSl.congr {w : World} {g : Nat} {l l' : Nat → Slp} {a a' : Nat → Bool} (h : IsSl w g l a) (hl : ∀ i, l i = l' i) (ha : ∀ i, a i = a' i) : IsSl w g l' a' := by
  obtain rfl : l = l' := funext hl
  obtain rfl : a = a' := funext ha
  exact h
theorem IsSl.setS {w : World} {g : Nat} {l : Nat → Slp} {a : Nat → Bool} (h : IsSl w g l a) (t : Nat) (ht : t < 32) (x : Slp) :
    IsSl ((((w.setCell ⟨g, t * 4, none⟩ (.int .i64 x.task)).setCell ⟨g, t * 4 + 1, none⟩ (.int .i64 x.clock)).setCell ⟨g, t * 4 + 2, none⟩ (.int .i64 x.till)).setCell ⟨g, t * 4 + 3, none⟩ (.bool x.rel)) g (fun i => if i = t then x else l i) a := by
  obtain ⟨⟨cs, hb, hs⟩, h1, h2, h3, h4, h5⟩ := h
  have hb1 := hb.set_ (t * 4) (.int .i64 x.task)
  have hb2 := hb1.set_ (t * 4 + 1) (.int .i64 x.clock)
  have hb3 := hb2.set_ (t * 4 + 2) (.int .i64 x.till)
  have hb4 := hb3.set_ (t * 4 + 3) (.bool x.rel)
  have c1 := fun j => cell_set hb (t * 4) j (.int .i64 x.task) (by omega)
  have c2 := fun j => cell_set hb1 (t * 4 + 1) j (.int .i64 x.clock) (by simp; omega)
  have c3 := fun j => cell_set hb2 (t * 4 + 2) j (.int .i64 x.till) (by simp; omega)
  have c4 := fun j => cell_set hb3 (t * 4 + 3) j (.bool x.rel) (by simp; omega)
  refine ⟨⟨_, hb4, by simp [hs]⟩, fun i hi => ?_, fun i hi => ?_, fun i hi => ?_, fun i hi => ?_, fun i hi => ?_⟩
  all_goals rw [c4, c3, c2, c1]
  · by_cases e : i = t
    · rw [if_neg (by omega), if_neg (by omega), if_neg (by omega), if_pos (by omega), if_pos e]
    · rw [if_neg (by omega), if_neg (by omega), if_neg (by omega), if_neg (by omega), if_neg e]; exact h1 i hi
  · by_cases e : i = t
    · rw [if_neg (by omega), if_neg (by omega), if_pos (by omega), if_pos e]
    · rw [if_neg (by omega), if_neg (by omega), if_neg (by omega), if_neg (by omega), if_neg e]; exact h2 i hi
  · by_cases e : i = t
    · rw [if_neg (by omega), if_pos (by omega), if_pos e]
    · rw [if_neg (by omega), if_neg (by omega), if_neg (by omega), if_neg (by omega), if_neg e]; exact h3 i hi
  · by_cases e : i = t
    · rw [if_pos (by omega), if_pos e]
    · rw [if_neg (by omega), if_neg (by omega), if_neg (by omega), if_neg (by omega), if_neg e]; exact h4 i hi
  · rw [if_neg (by omega), if_neg (by omega), if_neg (by omega), if_neg (by omega)]; exact h5 i hi
set_option maxHeartbeats 8000000 in
set_option maxRecDepth 100000 in
theorem start_ok_0f (g : Nat) (l : Nat → Slp) (a : Nat → Bool) (t : Nat) (ht : t < 32) (s n x0 x1 x2 : Int) (hs : -9223372036854775808 ≤ s ∧ s ≤ 9223372036854775807) (rt : Rt s n) (w : World) (h : IsSl w g l a) (ha : a t = false) (X : Slp) (hX : X.cells = #[.int .i64 (t : Int), .int .i64 0, .int .i64 (ad (tm s n) x0), .bool true]) :
    Calls Try.prog 42 #[.pointer (some ⟨g, 0, none⟩), .int .i64 t, .int .i64 0, .agg #[.int .i64 s, .int .i64 n], .bool false, .agg #[.int .i64 x0, .int .i64 x1, .int .i64 x2]] w fun e w' => e = .returned (.tuple #[X.val, .int .i64 0]) ∧ IsSl w' g (fun i => if i = t then X else l i) (fun i => if i = t then true else a i) ∧ w.grownBy w' (some g) := by
  have H := Lib.hid rt
  have HX := Lib.hid hX
  have hg := h.lt
  clear rt hX
  go_enter Try.func42, Try.ntmps42
  go_wp2_with fail
  refine (time_yes s n hs.2 H.out _).mono ?_
  rintro e W1 ⟨rfl, b1⟩
  obtain ⟨htt, hr, B1, hz⟩ := start_frame s n x0 x1 x2 w W1 b1
  clear b1
  have h1 := h.below B1 hg
  have q0 := h1.a t ht
  rw [ha] at q0
  have t0 : W1.cell? ⟨w.heap.size + 1, 0, none⟩ = some (.int .i64 x0) := htt.cell 0
  have t1 : W1.cell? ⟨w.heap.size + 1, 1, none⟩ = some (.int .i64 x1) := htt.cell 1
  have t2 : W1.cell? ⟨w.heap.size + 1, 2, none⟩ = some (.int .i64 x2) := htt.cell 2
  have n1 : w.heap.size + 1 < W1.heap.size := by omega
  have n2 : g < W1.heap.size := h1.lt
  have d1 : decide ((t : Int) < 0) = false := by simp
  have d2 : decide ((32 : Int) ≤ t) = false := by simp; omega
  go_upto_region 13 with (first | (go_at_call 57; refine (add_any _ _ _).mono ?_; rintro e W2 ⟨rfl, rfl⟩))
  obtain ⟨W, hW, hx, hr1, h2, g2, hLR, hgL⟩ : ∃ W, W = W1.alloc (.cells #[.int .i64 (t : Int), .int .i64 0, .int .i64 (ad (tm s n) x0), .bool true] 65) ∧ Blk W W1.heap.size 65 X.cells ∧ Blk W (w.heap.size + 1 + 1) 65 #[.int .i64 0, .int .i64 0, .int .i64 0, .bool false] ∧ IsSl W g l a ∧ w.grownBy W (some g) ∧ w.heap.size + 1 + 1 ≠ W1.heap.size ∧ g ≠ W1.heap.size ∧ g ≠ w.heap.size + 1 + 1 :=
    ⟨_, rfl, by rw [HX.out]; exact Blk.new _ _ _, hr.alloc _, h1.alloc _, only_alloc (only_of_below B1 _) _, by omega, by omega, by omega⟩
  rw [← hW]
  have HN := Lib.hid hgL
  have HR : Hid (w.heap.size ≤ w.heap.size + 1 + 1) := Lib.hid (by omega)
  clear hW q0 t0 t1 t2 htt hr h1 hz n1 n2 h
  generalize W1.heap.size = L at hx hLR HN ⊢
  generalize w.heap.size + 1 + 1 = R at hr1 hLR HN HR ⊢
  go_cut [] (fun wx => IsSl wx g (fun i => if i = t then X else l i) (fun i => if i = t then true else a i) ∧ Blk wx L 65 X.cells ∧ Blk wx R 65 #[.int .i64 0, .int .i64 0, .int .i64 0, .bool false] ∧ w.grownBy wx (some g))
  case first =>
    obtain ⟨cs, hb, hcs⟩ := h2.b
    have q0 := h2.task t ht
    have q1 := h2.clock t ht
    have q2 := h2.till t ht
    have q3 := h2.rel t ht
    have q4 := h2.a t ht
    have f0 := hb.frozen
    obtain ⟨y0, y1, y2, y3⟩ := res4 hx
    go_region
    all_goals
      go_wp2_with fail
      go_meet
      have hL := HN.out.1.symm
      have hR := HN.out.2.symm
      exact ⟨((h2.setS t ht X).setA t ht true).drew, (((((hx.far hL _).far hL _).far hL _).far hL _).far hL _).drew, (((((hr1.far hR _).far hR _).far hR _).far hR _).far hR _).drew, only_drew (only_setCell (only_setCell (only_setCell (only_setCell (only_setCell g2 (.inl rfl) _) (.inl rfl) _) (.inl rfl) _) (.inl rfl) _) (.inl rfl) _)⟩
  case rest =>
    obtain ⟨h3, hx3, hr3, g3⟩ := hcut
    clear h2 hx hr1 g2
    obtain ⟨r0, r1, r2, r3⟩ := res4 hr3
    obtain ⟨y0, y1, y2, y3⟩ := res4 hx3
    have f0 := hr3.frozen
    go_wp2_with fail
    clear r0 r1 r2 r3 y0 y1 y2 y3
    have hr5 := res_set hr3 X.task X.clock X.till X.rel
    obtain ⟨r0, r1, r2, r3⟩ := res4 hr5
    have hR := HN.out.2
    exact bodyPost_ret (v := .tuple #[X.val, .int .i64 0]) (by simp [results, Try.results42, go_sem, r0, r1, r2, r3, Slp.val]) rfl ⟨rfl, (((h3.far hR _).far hR _).far hR _).far hR _, only_setCell (only_setCell (only_setCell (only_setCell g3 (.inr HR.out) _) (.inr HR.out) _) (.inr HR.out) _) (.inr HR.out) _⟩
set_option maxHeartbeats 8000000 in
set_option maxRecDepth 100000 in
theorem start_ok_0t (g : Nat) (l : Nat → Slp) (a : Nat → Bool) (t : Nat) (ht : t < 32) (s n x0 x1 x2 : Int) (hs : -9223372036854775808 ≤ s ∧ s ≤ 9223372036854775807) (rt : Rt s n) (w : World) (h : IsSl w g l a) (ha : a t = false) (X : Slp) (hX : X.cells = #[.int .i64 (t : Int), .int .i64 0, .int .i64 (tm s n), .bool false]) :
    Calls Try.prog 42 #[.pointer (some ⟨g, 0, none⟩), .int .i64 t, .int .i64 0, .agg #[.int .i64 s, .int .i64 n], .bool true, .agg #[.int .i64 x0, .int .i64 x1, .int .i64 x2]] w fun e w' => e = .returned (.tuple #[X.val, .int .i64 0]) ∧ IsSl w' g (fun i => if i = t then X else l i) (fun i => if i = t then true else a i) ∧ w.grownBy w' (some g) := by
  have H := Lib.hid rt
  have HX := Lib.hid hX
  have hg := h.lt
  clear rt hX
  go_enter Try.func42, Try.ntmps42
  go_wp2_with fail
  refine (time_yes s n hs.2 H.out _).mono ?_
  rintro e W1 ⟨rfl, b1⟩
  obtain ⟨htt, hr, B1, hz⟩ := start_frame s n x0 x1 x2 w W1 b1
  clear b1
  have h1 := h.below B1 hg
  have q0 := h1.a t ht
  rw [ha] at q0
  have t0 : W1.cell? ⟨w.heap.size + 1, 0, none⟩ = some (.int .i64 x0) := htt.cell 0
  have t1 : W1.cell? ⟨w.heap.size + 1, 1, none⟩ = some (.int .i64 x1) := htt.cell 1
  have t2 : W1.cell? ⟨w.heap.size + 1, 2, none⟩ = some (.int .i64 x2) := htt.cell 2
  have n1 : w.heap.size + 1 < W1.heap.size := by omega
  have n2 : g < W1.heap.size := h1.lt
  have d1 : decide ((t : Int) < 0) = false := by simp
  have d2 : decide ((32 : Int) ≤ t) = false := by simp; omega
  go_upto_region 13 with (first | (go_at_call 57; refine (add_any _ _ _).mono ?_; rintro e W2 ⟨rfl, rfl⟩))
  obtain ⟨W, hW, hx, hr1, h2, g2, hLR, hgL⟩ : ∃ W, W = W1.alloc (.cells #[.int .i64 (t : Int), .int .i64 0, .int .i64 (tm s n), .bool false] 65) ∧ Blk W W1.heap.size 65 X.cells ∧ Blk W (w.heap.size + 1 + 1) 65 #[.int .i64 0, .int .i64 0, .int .i64 0, .bool false] ∧ IsSl W g l a ∧ w.grownBy W (some g) ∧ w.heap.size + 1 + 1 ≠ W1.heap.size ∧ g ≠ W1.heap.size ∧ g ≠ w.heap.size + 1 + 1 :=
    ⟨_, rfl, by rw [HX.out]; exact Blk.new _ _ _, hr.alloc _, h1.alloc _, only_alloc (only_of_below B1 _) _, by omega, by omega, by omega⟩
  rw [← hW]
  have HN := Lib.hid hgL
  have HR : Hid (w.heap.size ≤ w.heap.size + 1 + 1) := Lib.hid (by omega)
  clear hW q0 t0 t1 t2 htt hr h1 hz n1 n2 h
  generalize W1.heap.size = L at hx hLR HN ⊢
  generalize w.heap.size + 1 + 1 = R at hr1 hLR HN HR ⊢
  go_cut [] (fun wx => IsSl wx g (fun i => if i = t then X else l i) (fun i => if i = t then true else a i) ∧ Blk wx L 65 X.cells ∧ Blk wx R 65 #[.int .i64 0, .int .i64 0, .int .i64 0, .bool false] ∧ w.grownBy wx (some g))
  case first =>
    obtain ⟨cs, hb, hcs⟩ := h2.b
    have q0 := h2.task t ht
    have q1 := h2.clock t ht
    have q2 := h2.till t ht
    have q3 := h2.rel t ht
    have q4 := h2.a t ht
    have f0 := hb.frozen
    obtain ⟨y0, y1, y2, y3⟩ := res4 hx
    go_region
    all_goals
      go_wp2_with fail
      go_meet
      have hL := HN.out.1.symm
      have hR := HN.out.2.symm
      exact ⟨((h2.setS t ht X).setA t ht true).drew, (((((hx.far hL _).far hL _).far hL _).far hL _).far hL _).drew, (((((hr1.far hR _).far hR _).far hR _).far hR _).far hR _).drew, only_drew (only_setCell (only_setCell (only_setCell (only_setCell (only_setCell g2 (.inl rfl) _) (.inl rfl) _) (.inl rfl) _) (.inl rfl) _) (.inl rfl) _)⟩
  case rest =>
    obtain ⟨h3, hx3, hr3, g3⟩ := hcut
    clear h2 hx hr1 g2
    obtain ⟨r0, r1, r2, r3⟩ := res4 hr3
    obtain ⟨y0, y1, y2, y3⟩ := res4 hx3
    have f0 := hr3.frozen
    go_wp2_with fail
    clear r0 r1 r2 r3 y0 y1 y2 y3
    have hr5 := res_set hr3 X.task X.clock X.till X.rel
    obtain ⟨r0, r1, r2, r3⟩ := res4 hr5
    have hR := HN.out.2
    exact bodyPost_ret (v := .tuple #[X.val, .int .i64 0]) (by simp [results, Try.results42, go_sem, r0, r1, r2, r3, Slp.val]) rfl ⟨rfl, (((h3.far hR _).far hR _).far hR _).far hR _, only_setCell (only_setCell (only_setCell (only_setCell g3 (.inr HR.out) _) (.inr HR.out) _) (.inr HR.out) _) (.inr HR.out) _⟩
set_option maxHeartbeats 8000000 in
set_option maxRecDepth 100000 in
theorem start_ok_1f (g : Nat) (l : Nat → Slp) (a : Nat → Bool) (t : Nat) (ht : t < 32) (s n x0 x1 x2 : Int) (hs : -9223372036854775808 ≤ s ∧ s ≤ 9223372036854775807) (rt : Rt s n) (w : World) (h : IsSl w g l a) (ha : a t = false) (X : Slp) (hX : X.cells = #[.int .i64 (t : Int), .int .i64 0, .int .i64 (ad (tm s n) x0), .bool true]) :
    Calls Try.prog 42 #[.pointer (some ⟨g, 0, none⟩), .int .i64 t, .int .i64 1, .agg #[.int .i64 s, .int .i64 n], .bool false, .agg #[.int .i64 x0, .int .i64 x1, .int .i64 x2]] w fun e w' => e = .returned (.tuple #[X.val, .int .i64 0]) ∧ IsSl w' g (fun i => if i = t then X else l i) (fun i => if i = t then true else a i) ∧ w.grownBy w' (some g) := by
  have H := Lib.hid rt
  have HX := Lib.hid hX
  have hg := h.lt
  clear rt hX
  go_enter Try.func42, Try.ntmps42
  go_wp2_with fail
  refine (time_yes s n hs.2 H.out _).mono ?_
  rintro e W1 ⟨rfl, b1⟩
  obtain ⟨htt, hr, B1, hz⟩ := start_frame s n x0 x1 x2 w W1 b1
  clear b1
  have h1 := h.below B1 hg
  have q0 := h1.a t ht
  rw [ha] at q0
  have t0 : W1.cell? ⟨w.heap.size + 1, 0, none⟩ = some (.int .i64 x0) := htt.cell 0
  have t1 : W1.cell? ⟨w.heap.size + 1, 1, none⟩ = some (.int .i64 x1) := htt.cell 1
  have t2 : W1.cell? ⟨w.heap.size + 1, 2, none⟩ = some (.int .i64 x2) := htt.cell 2
  have n1 : w.heap.size + 1 < W1.heap.size := by omega
  have n2 : g < W1.heap.size := h1.lt
  have d1 : decide ((t : Int) < 0) = false := by simp
  have d2 : decide ((32 : Int) ≤ t) = false := by simp; omega
  go_upto_region 13 with (first | (go_at_call 57; refine (add_any _ _ _).mono ?_; rintro e W2 ⟨rfl, rfl⟩))
  obtain ⟨W, hW, hx, hr1, h2, g2, hLR, hgL⟩ : ∃ W, W = W1.alloc (.cells #[.int .i64 (t : Int), .int .i64 0, .int .i64 (ad (tm s n) x0), .bool true] 65) ∧ Blk W W1.heap.size 65 X.cells ∧ Blk W (w.heap.size + 1 + 1) 65 #[.int .i64 0, .int .i64 0, .int .i64 0, .bool false] ∧ IsSl W g l a ∧ w.grownBy W (some g) ∧ w.heap.size + 1 + 1 ≠ W1.heap.size ∧ g ≠ W1.heap.size ∧ g ≠ w.heap.size + 1 + 1 :=
    ⟨_, rfl, by rw [HX.out]; exact Blk.new _ _ _, hr.alloc _, h1.alloc _, only_alloc (only_of_below B1 _) _, by omega, by omega, by omega⟩
  rw [← hW]
  have HN := Lib.hid hgL
  have HR : Hid (w.heap.size ≤ w.heap.size + 1 + 1) := Lib.hid (by omega)
  clear hW q0 t0 t1 t2 htt hr h1 hz n1 n2 h
  generalize W1.heap.size = L at hx hLR HN ⊢
  generalize w.heap.size + 1 + 1 = R at hr1 hLR HN HR ⊢
  go_cut [] (fun wx => IsSl wx g (fun i => if i = t then X else l i) (fun i => if i = t then true else a i) ∧ Blk wx L 65 X.cells ∧ Blk wx R 65 #[.int .i64 0, .int .i64 0, .int .i64 0, .bool false] ∧ w.grownBy wx (some g))
  case first =>
    obtain ⟨cs, hb, hcs⟩ := h2.b
    have q0 := h2.task t ht
    have q1 := h2.clock t ht
    have q2 := h2.till t ht
    have q3 := h2.rel t ht
    have q4 := h2.a t ht
    have f0 := hb.frozen
    obtain ⟨y0, y1, y2, y3⟩ := res4 hx
    go_region
    all_goals
      go_wp2_with fail
      go_meet
      have hL := HN.out.1.symm
      have hR := HN.out.2.symm
      exact ⟨((h2.setS t ht X).setA t ht true).drew, (((((hx.far hL _).far hL _).far hL _).far hL _).far hL _).drew, (((((hr1.far hR _).far hR _).far hR _).far hR _).far hR _).drew, only_drew (only_setCell (only_setCell (only_setCell (only_setCell (only_setCell g2 (.inl rfl) _) (.inl rfl) _) (.inl rfl) _) (.inl rfl) _) (.inl rfl) _)⟩
  case rest =>
    obtain ⟨h3, hx3, hr3, g3⟩ := hcut
    clear h2 hx hr1 g2
    obtain ⟨r0, r1, r2, r3⟩ := res4 hr3
    obtain ⟨y0, y1, y2, y3⟩ := res4 hx3
    have f0 := hr3.frozen
    go_wp2_with fail
    clear r0 r1 r2 r3 y0 y1 y2 y3
    have hr5 := res_set hr3 X.task X.clock X.till X.rel
    obtain ⟨r0, r1, r2, r3⟩ := res4 hr5
    have hR := HN.out.2
    exact bodyPost_ret (v := .tuple #[X.val, .int .i64 0]) (by simp [results, Try.results42, go_sem, r0, r1, r2, r3, Slp.val]) rfl ⟨rfl, (((h3.far hR _).far hR _).far hR _).far hR _, only_setCell (only_setCell (only_setCell (only_setCell g3 (.inr HR.out) _) (.inr HR.out) _) (.inr HR.out) _) (.inr HR.out) _⟩
set_option maxHeartbeats 8000000 in
set_option maxRecDepth 100000 in
theorem start_ok_1t (g : Nat) (l : Nat → Slp) (a : Nat → Bool) (t : Nat) (ht : t < 32) (s n x0 x1 x2 : Int) (hs : -9223372036854775808 ≤ s ∧ s ≤ 9223372036854775807) (rt : Rt s n) (w : World) (h : IsSl w g l a) (ha : a t = false) (X : Slp) (hX : X.cells = #[.int .i64 (t : Int), .int .i64 1, .int .i64 (tm s n), .bool false]) :
    Calls Try.prog 42 #[.pointer (some ⟨g, 0, none⟩), .int .i64 t, .int .i64 1, .agg #[.int .i64 s, .int .i64 n], .bool true, .agg #[.int .i64 x0, .int .i64 x1, .int .i64 x2]] w fun e w' => e = .returned (.tuple #[X.val, .int .i64 0]) ∧ IsSl w' g (fun i => if i = t then X else l i) (fun i => if i = t then true else a i) ∧ w.grownBy w' (some g) := by
  have H := Lib.hid rt
  have HX := Lib.hid hX
  have hg := h.lt
  clear rt hX
  go_enter Try.func42, Try.ntmps42
  go_wp2_with fail
  refine (time_yes s n hs.2 H.out _).mono ?_
  rintro e W1 ⟨rfl, b1⟩
  obtain ⟨htt, hr, B1, hz⟩ := start_frame s n x0 x1 x2 w W1 b1
  clear b1
  have h1 := h.below B1 hg
  have q0 := h1.a t ht
  rw [ha] at q0
  have t0 : W1.cell? ⟨w.heap.size + 1, 0, none⟩ = some (.int .i64 x0) := htt.cell 0
  have t1 : W1.cell? ⟨w.heap.size + 1, 1, none⟩ = some (.int .i64 x1) := htt.cell 1
  have t2 : W1.cell? ⟨w.heap.size + 1, 2, none⟩ = some (.int .i64 x2) := htt.cell 2
  have n1 : w.heap.size + 1 < W1.heap.size := by omega
  have n2 : g < W1.heap.size := h1.lt
  have d1 : decide ((t : Int) < 0) = false := by simp
  have d2 : decide ((32 : Int) ≤ t) = false := by simp; omega
  go_upto_region 13 with (first | (go_at_call 57; refine (add_any _ _ _).mono ?_; rintro e W2 ⟨rfl, rfl⟩))
  obtain ⟨W, hW, hx, hr1, h2, g2, hLR, hgL⟩ : ∃ W, W = W1.alloc (.cells #[.int .i64 (t : Int), .int .i64 1, .int .i64 (tm s n), .bool false] 65) ∧ Blk W W1.heap.size 65 X.cells ∧ Blk W (w.heap.size + 1 + 1) 65 #[.int .i64 0, .int .i64 0, .int .i64 0, .bool false] ∧ IsSl W g l a ∧ w.grownBy W (some g) ∧ w.heap.size + 1 + 1 ≠ W1.heap.size ∧ g ≠ W1.heap.size ∧ g ≠ w.heap.size + 1 + 1 :=
    ⟨_, rfl, by rw [HX.out]; exact Blk.new _ _ _, hr.alloc _, h1.alloc _, only_alloc (only_of_below B1 _) _, by omega, by omega, by omega⟩
  rw [← hW]
  have HN := Lib.hid hgL
  have HR : Hid (w.heap.size ≤ w.heap.size + 1 + 1) := Lib.hid (by omega)
  clear hW q0 t0 t1 t2 htt hr h1 hz n1 n2 h
  generalize W1.heap.size = L at hx hLR HN ⊢
  generalize w.heap.size + 1 + 1 = R at hr1 hLR HN HR ⊢
  go_cut [] (fun wx => IsSl wx g (fun i => if i = t then X else l i) (fun i => if i = t then true else a i) ∧ Blk wx L 65 X.cells ∧ Blk wx R 65 #[.int .i64 0, .int .i64 0, .int .i64 0, .bool false] ∧ w.grownBy wx (some g))
  case first =>
    obtain ⟨cs, hb, hcs⟩ := h2.b
    have q0 := h2.task t ht
    have q1 := h2.clock t ht
    have q2 := h2.till t ht
    have q3 := h2.rel t ht
    have q4 := h2.a t ht
    have f0 := hb.frozen
    obtain ⟨y0, y1, y2, y3⟩ := res4 hx
    go_region
    all_goals
      go_wp2_with fail
      go_meet
      have hL := HN.out.1.symm
      have hR := HN.out.2.symm
      exact ⟨((h2.setS t ht X).setA t ht true).drew, (((((hx.far hL _).far hL _).far hL _).far hL _).far hL _).drew, (((((hr1.far hR _).far hR _).far hR _).far hR _).far hR _).drew, only_drew (only_setCell (only_setCell (only_setCell (only_setCell (only_setCell g2 (.inl rfl) _) (.inl rfl) _) (.inl rfl) _) (.inl rfl) _) (.inl rfl) _)⟩
  case rest =>
    obtain ⟨h3, hx3, hr3, g3⟩ := hcut
    clear h2 hx hr1 g2
    obtain ⟨r0, r1, r2, r3⟩ := res4 hr3
    obtain ⟨y0, y1, y2, y3⟩ := res4 hx3
    have f0 := hr3.frozen
    go_wp2_with fail
    clear r0 r1 r2 r3 y0 y1 y2 y3
    have hr5 := res_set hr3 X.task X.clock X.till X.rel
    obtain ⟨r0, r1, r2, r3⟩ := res4 hr5
    have hR := HN.out.2
    exact bodyPost_ret (v := .tuple #[X.val, .int .i64 0]) (by simp [results, Try.results42, go_sem, r0, r1, r2, r3, Slp.val]) rfl ⟨rfl, (((h3.far hR _).far hR _).far hR _).far hR _, only_setCell (only_setCell (only_setCell (only_setCell g3 (.inr HR.out) _) (.inr HR.out) _) (.inr HR.out) _) (.inr HR.out) _⟩
set_option maxHeartbeats 8000000 in
set_option maxRecDepth 100000 in
theorem start_ok_2f (g : Nat) (l : Nat → Slp) (a : Nat → Bool) (t : Nat) (ht : t < 32) (s n x0 x1 x2 : Int) (hs : -9223372036854775808 ≤ s ∧ s ≤ 9223372036854775807) (rt : Rt s n) (w : World) (h : IsSl w g l a) (ha : a t = false) (X : Slp) (hX : X.cells = #[.int .i64 (t : Int), .int .i64 2, .int .i64 (ad (tm s n) x2), .bool true]) :
    Calls Try.prog 42 #[.pointer (some ⟨g, 0, none⟩), .int .i64 t, .int .i64 2, .agg #[.int .i64 s, .int .i64 n], .bool false, .agg #[.int .i64 x0, .int .i64 x1, .int .i64 x2]] w fun e w' => e = .returned (.tuple #[X.val, .int .i64 0]) ∧ IsSl w' g (fun i => if i = t then X else l i) (fun i => if i = t then true else a i) ∧ w.grownBy w' (some g) := by
  have H := Lib.hid rt
  have HX := Lib.hid hX
  have hg := h.lt
  clear rt hX
  go_enter Try.func42, Try.ntmps42
  go_wp2_with fail
  refine (time_yes s n hs.2 H.out _).mono ?_
  rintro e W1 ⟨rfl, b1⟩
  obtain ⟨htt, hr, B1, hz⟩ := start_frame s n x0 x1 x2 w W1 b1
  clear b1
  have h1 := h.below B1 hg
  have q0 := h1.a t ht
  rw [ha] at q0
  have t0 : W1.cell? ⟨w.heap.size + 1, 0, none⟩ = some (.int .i64 x0) := htt.cell 0
  have t1 : W1.cell? ⟨w.heap.size + 1, 1, none⟩ = some (.int .i64 x1) := htt.cell 1
  have t2 : W1.cell? ⟨w.heap.size + 1, 2, none⟩ = some (.int .i64 x2) := htt.cell 2
  have n1 : w.heap.size + 1 < W1.heap.size := by omega
  have n2 : g < W1.heap.size := h1.lt
  have d1 : decide ((t : Int) < 0) = false := by simp
  have d2 : decide ((32 : Int) ≤ t) = false := by simp; omega
  go_upto_region 13 with (first | (go_at_call 57; refine (add_any _ _ _).mono ?_; rintro e W2 ⟨rfl, rfl⟩))
  obtain ⟨W, hW, hx, hr1, h2, g2, hLR, hgL⟩ : ∃ W, W = W1.alloc (.cells #[.int .i64 (t : Int), .int .i64 2, .int .i64 (ad (tm s n) x2), .bool true] 65) ∧ Blk W W1.heap.size 65 X.cells ∧ Blk W (w.heap.size + 1 + 1) 65 #[.int .i64 0, .int .i64 0, .int .i64 0, .bool false] ∧ IsSl W g l a ∧ w.grownBy W (some g) ∧ w.heap.size + 1 + 1 ≠ W1.heap.size ∧ g ≠ W1.heap.size ∧ g ≠ w.heap.size + 1 + 1 :=
    ⟨_, rfl, by rw [HX.out]; exact Blk.new _ _ _, hr.alloc _, h1.alloc _, only_alloc (only_of_below B1 _) _, by omega, by omega, by omega⟩
  rw [← hW]
  have HN := Lib.hid hgL
  have HR : Hid (w.heap.size ≤ w.heap.size + 1 + 1) := Lib.hid (by omega)
  clear hW q0 t0 t1 t2 htt hr h1 hz n1 n2 h
  generalize W1.heap.size = L at hx hLR HN ⊢
  generalize w.heap.size + 1 + 1 = R at hr1 hLR HN HR ⊢
  go_cut [] (fun wx => IsSl wx g (fun i => if i = t then X else l i) (fun i => if i = t then true else a i) ∧ Blk wx L 65 X.cells ∧ Blk wx R 65 #[.int .i64 0, .int .i64 0, .int .i64 0, .bool false] ∧ w.grownBy wx (some g))
  case first =>
    obtain ⟨cs, hb, hcs⟩ := h2.b
    have q0 := h2.task t ht
    have q1 := h2.clock t ht
    have q2 := h2.till t ht
    have q3 := h2.rel t ht
    have q4 := h2.a t ht
    have f0 := hb.frozen
    obtain ⟨y0, y1, y2, y3⟩ := res4 hx
    go_region
    all_goals
      go_wp2_with fail
      go_meet
      have hL := HN.out.1.symm
      have hR := HN.out.2.symm
      exact ⟨((h2.setS t ht X).setA t ht true).drew, (((((hx.far hL _).far hL _).far hL _).far hL _).far hL _).drew, (((((hr1.far hR _).far hR _).far hR _).far hR _).far hR _).drew, only_drew (only_setCell (only_setCell (only_setCell (only_setCell (only_setCell g2 (.inl rfl) _) (.inl rfl) _) (.inl rfl) _) (.inl rfl) _) (.inl rfl) _)⟩
  case rest =>
    obtain ⟨h3, hx3, hr3, g3⟩ := hcut
    clear h2 hx hr1 g2
    obtain ⟨r0, r1, r2, r3⟩ := res4 hr3
    obtain ⟨y0, y1, y2, y3⟩ := res4 hx3
    have f0 := hr3.frozen
    go_wp2_with fail
    clear r0 r1 r2 r3 y0 y1 y2 y3
    have hr5 := res_set hr3 X.task X.clock X.till X.rel
    obtain ⟨r0, r1, r2, r3⟩ := res4 hr5
    have hR := HN.out.2
    exact bodyPost_ret (v := .tuple #[X.val, .int .i64 0]) (by simp [results, Try.results42, go_sem, r0, r1, r2, r3, Slp.val]) rfl ⟨rfl, (((h3.far hR _).far hR _).far hR _).far hR _, only_setCell (only_setCell (only_setCell (only_setCell g3 (.inr HR.out) _) (.inr HR.out) _) (.inr HR.out) _) (.inr HR.out) _⟩
set_option maxHeartbeats 8000000 in
set_option maxRecDepth 100000 in
theorem start_ok_2t (g : Nat) (l : Nat → Slp) (a : Nat → Bool) (t : Nat) (ht : t < 32) (s n x0 x1 x2 : Int) (hs : -9223372036854775808 ≤ s ∧ s ≤ 9223372036854775807) (rt : Rt s n) (w : World) (h : IsSl w g l a) (ha : a t = false) (X : Slp) (hX : X.cells = #[.int .i64 (t : Int), .int .i64 2, .int .i64 (tm s n), .bool false]) :
    Calls Try.prog 42 #[.pointer (some ⟨g, 0, none⟩), .int .i64 t, .int .i64 2, .agg #[.int .i64 s, .int .i64 n], .bool true, .agg #[.int .i64 x0, .int .i64 x1, .int .i64 x2]] w fun e w' => e = .returned (.tuple #[X.val, .int .i64 0]) ∧ IsSl w' g (fun i => if i = t then X else l i) (fun i => if i = t then true else a i) ∧ w.grownBy w' (some g) := by
  have H := Lib.hid rt
  have HX := Lib.hid hX
  have hg := h.lt
  clear rt hX
  go_enter Try.func42, Try.ntmps42
  go_wp2_with fail
  refine (time_yes s n hs.2 H.out _).mono ?_
  rintro e W1 ⟨rfl, b1⟩
  obtain ⟨htt, hr, B1, hz⟩ := start_frame s n x0 x1 x2 w W1 b1
  clear b1
  have h1 := h.below B1 hg
  have q0 := h1.a t ht
  rw [ha] at q0
  have t0 : W1.cell? ⟨w.heap.size + 1, 0, none⟩ = some (.int .i64 x0) := htt.cell 0
  have t1 : W1.cell? ⟨w.heap.size + 1, 1, none⟩ = some (.int .i64 x1) := htt.cell 1
  have t2 : W1.cell? ⟨w.heap.size + 1, 2, none⟩ = some (.int .i64 x2) := htt.cell 2
  have n1 : w.heap.size + 1 < W1.heap.size := by omega
  have n2 : g < W1.heap.size := h1.lt
  have d1 : decide ((t : Int) < 0) = false := by simp
  have d2 : decide ((32 : Int) ≤ t) = false := by simp; omega
  go_upto_region 13 with (first | (go_at_call 57; refine (add_any _ _ _).mono ?_; rintro e W2 ⟨rfl, rfl⟩))
  obtain ⟨W, hW, hx, hr1, h2, g2, hLR, hgL⟩ : ∃ W, W = W1.alloc (.cells #[.int .i64 (t : Int), .int .i64 2, .int .i64 (tm s n), .bool false] 65) ∧ Blk W W1.heap.size 65 X.cells ∧ Blk W (w.heap.size + 1 + 1) 65 #[.int .i64 0, .int .i64 0, .int .i64 0, .bool false] ∧ IsSl W g l a ∧ w.grownBy W (some g) ∧ w.heap.size + 1 + 1 ≠ W1.heap.size ∧ g ≠ W1.heap.size ∧ g ≠ w.heap.size + 1 + 1 :=
    ⟨_, rfl, by rw [HX.out]; exact Blk.new _ _ _, hr.alloc _, h1.alloc _, only_alloc (only_of_below B1 _) _, by omega, by omega, by omega⟩
  rw [← hW]
  have HN := Lib.hid hgL
  have HR : Hid (w.heap.size ≤ w.heap.size + 1 + 1) := Lib.hid (by omega)
  clear hW q0 t0 t1 t2 htt hr h1 hz n1 n2 h
  generalize W1.heap.size = L at hx hLR HN ⊢
  generalize w.heap.size + 1 + 1 = R at hr1 hLR HN HR ⊢
  go_cut [] (fun wx => IsSl wx g (fun i => if i = t then X else l i) (fun i => if i = t then true else a i) ∧ Blk wx L 65 X.cells ∧ Blk wx R 65 #[.int .i64 0, .int .i64 0, .int .i64 0, .bool false] ∧ w.grownBy wx (some g))
  case first =>
    obtain ⟨cs, hb, hcs⟩ := h2.b
    have q0 := h2.task t ht
    have q1 := h2.clock t ht
    have q2 := h2.till t ht
    have q3 := h2.rel t ht
    have q4 := h2.a t ht
    have f0 := hb.frozen
    obtain ⟨y0, y1, y2, y3⟩ := res4 hx
    go_region
    all_goals
      go_wp2_with fail
      go_meet
      have hL := HN.out.1.symm
      have hR := HN.out.2.symm
      exact ⟨((h2.setS t ht X).setA t ht true).drew, (((((hx.far hL _).far hL _).far hL _).far hL _).far hL _).drew, (((((hr1.far hR _).far hR _).far hR _).far hR _).far hR _).drew, only_drew (only_setCell (only_setCell (only_setCell (only_setCell (only_setCell g2 (.inl rfl) _) (.inl rfl) _) (.inl rfl) _) (.inl rfl) _) (.inl rfl) _)⟩
  case rest =>
    obtain ⟨h3, hx3, hr3, g3⟩ := hcut
    clear h2 hx hr1 g2
    obtain ⟨r0, r1, r2, r3⟩ := res4 hr3
    obtain ⟨y0, y1, y2, y3⟩ := res4 hx3
    have f0 := hr3.frozen
    go_wp2_with fail
    clear r0 r1 r2 r3 y0 y1 y2 y3
    have hr5 := res_set hr3 X.task X.clock X.till X.rel
    obtain ⟨r0, r1, r2, r3⟩ := res4 hr5
    have hR := HN.out.2
    exact bodyPost_ret (v := .tuple #[X.val, .int .i64 0]) (by simp [results, Try.results42, go_sem, r0, r1, r2, r3, Slp.val]) rfl ⟨rfl, (((h3.far hR _).far hR _).far hR _).far hR _, only_setCell (only_setCell (only_setCell (only_setCell g3 (.inr HR.out) _) (.inr HR.out) _) (.inr HR.out) _) (.inr HR.out) _⟩
theorem start_ok (g : Nat) (l : Nat → Slp) (a : Nat → Bool) (t : Nat) (ht : t < 32) (clock s n x0 x1 x2 : Int) (ab : Bool) (hs : -9223372036854775808 ≤ s ∧ s ≤ 9223372036854775807) (rt : Rt s n) (hc : 0 ≤ clock ∧ clock ≤ 2) (w : World) (h : IsSl w g l a) (ha : a t = false) :
    Calls Try.prog 42 #[.pointer (some ⟨g, 0, none⟩), .int .i64 t, .int .i64 clock, .agg #[.int .i64 s, .int .i64 n], .bool ab, .agg #[.int .i64 x0, .int .i64 x1, .int .i64 x2]] w fun e w' => e = .returned (.tuple #[(newS t clock s n x0 x1 x2 ab).val, .int .i64 0]) ∧ IsSl w' g (fun i => if i = t then newS t clock s n x0 x1 x2 ab else l i) (fun i => if i = t then true else a i) ∧ w.grownBy w' (some g) := by
  have hc3 : clock = 0 ∨ clock = 1 ∨ clock = 2 := by omega
  rcases hc3 with rfl | rfl | rfl
  · cases ab
    · exact start_ok_0f g l a t ht s n x0 x1 x2 hs rt w h ha _ (by simp [Slp.cells, newS, byC, atC])
    · exact start_ok_0t g l a t ht s n x0 x1 x2 hs rt w h ha _ (by simp [Slp.cells, newS, byC, atC])
  · cases ab
    · exact start_ok_1f g l a t ht s n x0 x1 x2 hs rt w h ha _ (by simp [Slp.cells, newS, byC, atC])
    · exact start_ok_1t g l a t ht s n x0 x1 x2 hs rt w h ha _ (by simp [Slp.cells, newS, byC, atC])
  · cases ab
    · exact start_ok_2f g l a t ht s n x0 x1 x2 hs rt w h ha _ (by simp [Slp.cells, newS, byC, atC])
    · exact start_ok_2t g l a t ht s n x0 x1 x2 hs rt w h ha _ (by simp [Slp.cells, newS, byC, atC])
end Go.Proofs.Ytdplpehphjgffaa.Sl
