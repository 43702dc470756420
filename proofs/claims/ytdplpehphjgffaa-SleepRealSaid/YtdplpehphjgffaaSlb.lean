/- The contracts of sleep's Stop and Wake. No condition but that a task's number is one. -/
import Derived.Test.YtdplpehphjgffaaSla
set_option linter.unusedVariables false
set_option linter.unusedSimpArgs false
namespace Go.Proofs.Ytdplpehphjgffaa.Sl
open Go.RowKit Go.Proofs.Ytdplpehphjgffaa.Aid Go.Proofs.Ytdplpehphjgffaa.Kt Go.Proofs.Ytdplpehphjgffaa.Sp
attribute [local go_sem] max2_int min2_int max_two min_two
theorem stop_frame (x0 x1 x2 : Int) (w W1 : World) (b1 : Below ((w.alloc (.cells #[.int .i64 x0, .int .i64 x1, .int .i64 x2] 68)).alloc (.cells #[.int .i64 0, .int .i64 0] 60)).heap.size ((w.alloc (.cells #[.int .i64 x0, .int .i64 x1, .int .i64 x2] 68)).alloc (.cells #[.int .i64 0, .int .i64 0] 60)) W1) :
    Blk W1 w.heap.size 68 #[.int .i64 x0, .int .i64 x1, .int .i64 x2] ∧ Blk W1 (w.heap.size + 1) 60 #[.int .i64 0, .int .i64 0] ∧ Below w.heap.size w W1 ∧ w.heap.size + 1 < W1.heap.size := by
  have e1 : (w.alloc (.cells #[.int .i64 x0, .int .i64 x1, .int .i64 x2] 68)).heap.size = w.heap.size + 1 := by simp
  have h1 := (Blk.new w 68 #[.int .i64 x0, .int .i64 x1, .int .i64 x2]).alloc (.cells #[.int .i64 0, .int .i64 0] 60)
  have h2 := Blk.new (w.alloc (.cells #[.int .i64 x0, .int .i64 x1, .int .i64 x2] 68)) 60 #[.int .i64 0, .int .i64 0]
  rw [e1] at h2
  have k2 := h2.below b1 h2.lt
  refine ⟨h1.below b1 h1.lt, k2, Below.trans ?_ (b1.mono ?_), k2.lt⟩
  · exact ((Below.refl w.heap.size w).alloc (Nat.le_refl _) _).alloc (by simp) _
  · simp; omega
theorem res2 {W : World} {g : Nat} {a b : Int} (h : Blk W g 60 #[.int .i64 a, .int .i64 b]) : W.cell? ⟨g, 0, none⟩ = some (.int .i64 a) ∧ W.cell? ⟨g, 1, none⟩ = some (.int .i64 b) := ⟨h.cell 0, h.cell 1⟩
theorem res_set2 {W : World} {g : Nat} {a b : Int} (h : Blk W g 60 #[.int .i64 a, .int .i64 b]) (x y : Int) : Blk ((W.setCell ⟨g, 0, none⟩ (.int .i64 x)).setCell ⟨g, 1, none⟩ (.int .i64 y)) g 60 #[.int .i64 x, .int .i64 y] := by simpa using (h.set_ 0 (.int .i64 x)).set_ 1 (.int .i64 y)
set_option maxHeartbeats 4000000 in
set_option maxRecDepth 100000 in
theorem stop_none (g : Nat) (l : Nat → Slp) (a : Nat → Bool) (t : Nat) (ht : t < 32) (x0 x1 x2 : Int) (w : World) (h : IsSl w g l a) (ha : a t = false) :
    Calls Try.prog 43 #[.pointer (some ⟨g, 0, none⟩), .int .i64 t, .agg #[.int .i64 x0, .int .i64 x1, .int .i64 x2]] w fun e w' => e = .returned (.tuple #[.agg #[.int .i64 0, .int .i64 0], .int .i64 7]) ∧ Below w.heap.size w w' := by
  have hg := h.lt
  go_enter Try.func43, Try.ntmps43
  go_wp2_with fail
  refine (of_none g l a _ ((h.alloc _).alloc _) t ht ha).mono ?_
  rintro e W1 ⟨rfl, b1⟩
  obtain ⟨htt, hr, B1, hz⟩ := stop_frame x0 x1 x2 w W1 b1
  obtain ⟨r0, r1⟩ := res2 hr
  have f0 := hr.frozen
  clear b1
  go_wp2_with fail
  have hr2 := (res_set2 hr 0 0).alloc (.cells #[.int .i64 0, .int .i64 0, .int .i64 0, .bool false] 65)
  obtain ⟨r0, r1⟩ := res2 hr2
  refine bodyPost_ret (v := .tuple #[.agg #[.int .i64 0, .int .i64 0], .int .i64 7]) (by simp [results, Try.results43, go_sem, r0, r1]) rfl ⟨rfl, ((B1.setCell (by simp) _).setCell (by simp) _).alloc (by simp; omega) _⟩
set_option maxHeartbeats 4000000 in
set_option maxRecDepth 100000 in
theorem stop_abs (g : Nat) (l : Nat → Slp) (a : Nat → Bool) (t : Nat) (ht : t < 32) (x0 x1 x2 : Int) (w : World) (h : IsSl w g l a) (ha : a t = true) (hrel : (l t).rel = false) :
    Calls Try.prog 43 #[.pointer (some ⟨g, 0, none⟩), .int .i64 t, .agg #[.int .i64 x0, .int .i64 x1, .int .i64 x2]] w fun e w' => e = .returned (.tuple #[.agg #[.int .i64 0, .int .i64 0], .int .i64 4]) ∧ IsSl w' g l (fun i => if i = t then false else a i) ∧ w.grownBy w' (some g) := by
  have hg := h.lt
  go_enter Try.func43, Try.ntmps43
  go_wp2_with fail
  refine (of_some g l a _ ((h.alloc _).alloc _) t ht ha).mono ?_
  rintro e W1 ⟨rfl, b1⟩
  obtain ⟨htt, hr, B1, hz⟩ := stop_frame x0 x1 x2 w W1 b1
  have h1 := h.below B1 hg
  clear b1
  have ev : (l t).val = .agg #[.int .i64 (l t).task, .int .i64 (l t).clock, .int .i64 (l t).till, .bool false] := by rw [← hrel]; rfl
  rw [ev]
  clear hrel ev
  generalize (l t).task = y0
  generalize (l t).clock = y1
  generalize (l t).till = y2
  go_upto_region 6 with fail
  obtain ⟨W, hW, hx, hr2, ht2, h2, g2⟩ : ∃ W, W = W1.alloc (.cells #[.int .i64 y0, .int .i64 y1, .int .i64 y2, .bool false] 65) ∧ Blk W W1.heap.size 65 #[.int .i64 y0, .int .i64 y1, .int .i64 y2, .bool false] ∧ Blk W (w.heap.size + 1) 60 #[.int .i64 0, .int .i64 0] ∧ Blk W w.heap.size 68 #[.int .i64 x0, .int .i64 x1, .int .i64 x2] ∧ IsSl W g l a ∧ w.grownBy W (some g) :=
    ⟨_, rfl, Blk.new _ _ _, hr.alloc _, htt.alloc _, h1.alloc _, only_alloc (only_of_below B1 _) _⟩
  rw [← hW]
  have HN : Hid ((g ≠ W1.heap.size ∧ g ≠ w.heap.size + 1 ∧ g ≠ w.heap.size) ∧ w.heap.size ≤ w.heap.size + 1 ∧ w.heap.size ≤ W1.heap.size) := Lib.hid (by omega)
  clear hW htt hr h1 hz h
  obtain ⟨T, hT⟩ : ∃ T, T = w.heap.size := ⟨_, rfl⟩
  obtain ⟨R, hR⟩ : ∃ R, R = w.heap.size + 1 := ⟨_, rfl⟩
  rw [← hR] at hr2 HN ⊢
  rw [← hT] at ht2 HN ⊢
  have HT := Lib.hid hT
  clear hR hT
  generalize W1.heap.size = L at hx HN ⊢
  go_cut [] (fun wx => IsSl wx g l (fun i => if i = t then false else a i) ∧ Blk wx L 65 #[.int .i64 y0, .int .i64 y1, .int .i64 y2, .bool false] ∧ Blk wx R 60 #[.int .i64 0, .int .i64 0] ∧ Blk wx T 68 #[.int .i64 x0, .int .i64 x1, .int .i64 x2] ∧ w.grownBy wx (some g))
  case first =>
    have q4 := h2.a t ht
    have f0 := h2.frozen
    have hL := HN.out.1.1.symm
    have hR := HN.out.1.2.1.symm
    have hT := HN.out.1.2.2.symm
    go_wp2_with fail
    go_meet
    exact ⟨h2.setA t ht false, hx.far hL _, hr2.far hR _, ht2.far hT _, only_setCell g2 (.inl rfl) _⟩
  case rest =>
    obtain ⟨h3, hx3, hr3, ht3, g3⟩ := hcut
    clear hx hr2 ht2 h2 g2
    obtain ⟨z0, z1, z2, z3⟩ := res4 hx3
    have s0 : wc.cell? ⟨T, 0, none⟩ = some (.int .i64 x0) := ht3.cell 0
    have s1 : wc.cell? ⟨T, 1, none⟩ = some (.int .i64 x1) := ht3.cell 1
    have s2 : wc.cell? ⟨T, 2, none⟩ = some (.int .i64 x2) := ht3.cell 2
    obtain ⟨r0, r1⟩ := res2 hr3
    have f0 := hr3.frozen
    go_wp2_with fail
    clear r0 r1 z0 z1 z2 z3 s0 s1 s2
    have hr5 := res_set2 hr3 0 0
    obtain ⟨r0, r1⟩ := res2 hr5
    have hR := HN.out.1.2.1
    have hH : w.heap.size ≤ R := by have := HN.out.2.1; have := HT.out; omega
    exact bodyPost_ret (v := .tuple #[.agg #[.int .i64 0, .int .i64 0], .int .i64 4]) (by simp [results, Try.results43, go_sem, r0, r1]) rfl ⟨rfl, (h3.far hR _).far hR _, only_setCell (only_setCell g3 (.inr hH) _) (.inr hH) _⟩
set_option maxHeartbeats 4000000 in
set_option maxRecDepth 100000 in
theorem stop_rel0 (g : Nat) (l : Nat → Slp) (a : Nat → Bool) (t : Nat) (ht : t < 32) (x0 x1 x2 : Int) (w : World) (h : IsSl w g l a) (ha : a t = true) (hrel : (l t).rel = true) (hc : (l t).clock = 0) :
    Calls Try.prog 43 #[.pointer (some ⟨g, 0, none⟩), .int .i64 t, .agg #[.int .i64 x0, .int .i64 x1, .int .i64 x2]] w fun e w' => e = .returned (.tuple #[.agg #[.int .i64 (tf (unt x0 (l t).till) / 1000000000), .int .i64 (tf (unt x0 (l t).till) % 1000000000)], .int .i64 4]) ∧ IsSl w' g l (fun i => if i = t then false else a i) ∧ w.grownBy w' (some g) := by
  have hg := h.lt
  obtain ⟨y2, hy2⟩ : ∃ y, (l t).till = y := ⟨_, rfl⟩
  rw [hy2]
  have HY := Lib.hid hy2
  clear hy2
  go_enter Try.func43, Try.ntmps43
  go_wp2_with fail
  refine (of_some g l a _ ((h.alloc _).alloc _) t ht ha).mono ?_
  rintro e W1 ⟨rfl, b1⟩
  obtain ⟨htt, hr, B1, hz⟩ := stop_frame x0 x1 x2 w W1 b1
  have h1 := h.below B1 hg
  clear b1
  have ev : (l t).val = .agg #[.int .i64 (l t).task, .int .i64 (l t).clock, .int .i64 (l t).till, .bool true] := by rw [← hrel]; rfl
  rw [ev, HY.out]
  clear hrel ev
  generalize (l t).task = y0
  rw [hc]
  clear hc
  go_upto_region 6 with fail
  obtain ⟨W, hW, hx, hr2, ht2, h2, g2⟩ : ∃ W, W = W1.alloc (.cells #[.int .i64 y0, .int .i64 0, .int .i64 y2, .bool true] 65) ∧ Blk W W1.heap.size 65 #[.int .i64 y0, .int .i64 0, .int .i64 y2, .bool true] ∧ Blk W (w.heap.size + 1) 60 #[.int .i64 0, .int .i64 0] ∧ Blk W w.heap.size 68 #[.int .i64 x0, .int .i64 x1, .int .i64 x2] ∧ IsSl W g l a ∧ w.grownBy W (some g) :=
    ⟨_, rfl, Blk.new _ _ _, hr.alloc _, htt.alloc _, h1.alloc _, only_alloc (only_of_below B1 _) _⟩
  rw [← hW]
  have HN : Hid ((g ≠ W1.heap.size ∧ g ≠ w.heap.size + 1 ∧ g ≠ w.heap.size) ∧ w.heap.size ≤ w.heap.size + 1 ∧ w.heap.size ≤ W1.heap.size) := Lib.hid (by omega)
  clear hW htt hr h1 hz h
  obtain ⟨T, hT⟩ : ∃ T, T = w.heap.size := ⟨_, rfl⟩
  obtain ⟨R, hR⟩ : ∃ R, R = w.heap.size + 1 := ⟨_, rfl⟩
  rw [← hR] at hr2 HN ⊢
  rw [← hT] at ht2 HN ⊢
  have HT := Lib.hid hT
  clear hR hT
  generalize W1.heap.size = L at hx HN ⊢
  go_cut [] (fun wx => IsSl wx g l (fun i => if i = t then false else a i) ∧ Blk wx L 65 #[.int .i64 y0, .int .i64 0, .int .i64 y2, .bool true] ∧ Blk wx R 60 #[.int .i64 0, .int .i64 0] ∧ Blk wx T 68 #[.int .i64 x0, .int .i64 x1, .int .i64 x2] ∧ w.grownBy wx (some g))
  case first =>
    have q4 := h2.a t ht
    have f0 := h2.frozen
    have hL := HN.out.1.1.symm
    have hR := HN.out.1.2.1.symm
    have hT := HN.out.1.2.2.symm
    go_wp2_with fail
    go_meet
    exact ⟨h2.setA t ht false, hx.far hL _, hr2.far hR _, ht2.far hT _, only_setCell g2 (.inl rfl) _⟩
  case rest =>
    obtain ⟨h3, hx3, hr3, ht3, g3⟩ := hcut
    clear hx hr2 ht2 h2 g2
    obtain ⟨z0, z1, z2, z3⟩ := res4 hx3
    have s0 : wc.cell? ⟨T, 0, none⟩ = some (.int .i64 x0) := ht3.cell 0
    have s1 : wc.cell? ⟨T, 1, none⟩ = some (.int .i64 x1) := ht3.cell 1
    have s2 : wc.cell? ⟨T, 2, none⟩ = some (.int .i64 x2) := ht3.cell 2
    obtain ⟨r0, r1⟩ := res2 hr3
    have f0 := hr3.frozen
    go_upto_region 9 with fail
    have hr3d := hr3.drew
    have h3d := h3.drew
    have g3d := only_drew g3
    have hH : Hid (w.heap.size ≤ R ∧ g ≠ R) := Lib.hid (by have := HN.out.2.1; have := HT.out; exact ⟨by omega, HN.out.1.2.1⟩)
    go_cut [7] (fun s7 wx => s7 = .int .i64 4 ∧ IsSl wx g l (fun i => if i = t then false else a i) ∧ Blk wx R 60 #[.int .i64 (tf (unt x0 y2) / 1000000000), .int .i64 (tf (unt x0 y2) % 1000000000)] ∧ w.grownBy wx (some g))
    case first =>
      go_region_with (first
        | (go_at_call 68; refine (until_any _ _ _).mono ?_; rintro e W2 ⟨rfl, rfl⟩)
        | (go_at_call 67; refine (of_any _ _).mono ?_; rintro e W2 ⟨rfl, b2⟩; have hr4 := hr3d.below b2 hr3d.lt; have h4 := h3d.below b2 h3d.lt; have g4 := grown_below g3d b2; obtain ⟨p0, p1⟩ := res2 hr4; have f1 := hr4.frozen))
      all_goals
        go_wp2_with fail
        go_meet
        exact ⟨rfl, (h4.far hH.out.2 _).far hH.out.2 _, res_set2 hr4 _ _, only_setCell (only_setCell g4 (.inr hH.out.1) _) (.inr hH.out.1) _⟩
    case rest =>
      obtain ⟨rfl, h5, hr5, g5⟩ := hcut
      clear r0 r1 z0 z1 z2 z3 s0 s1 s2
      obtain ⟨r0, r1⟩ := res2 hr5
      go_wp2_with fail
      exact bodyPost_ret (v := .tuple #[.agg #[.int .i64 (tf (unt x0 y2) / 1000000000), .int .i64 (tf (unt x0 y2) % 1000000000)], .int .i64 4]) (by simp [results, Try.results43, go_sem, r0, r1]) rfl ⟨rfl, h5, g5⟩
set_option maxHeartbeats 4000000 in
set_option maxRecDepth 100000 in
theorem stop_rel1 (g : Nat) (l : Nat → Slp) (a : Nat → Bool) (t : Nat) (ht : t < 32) (x0 x1 x2 : Int) (w : World) (h : IsSl w g l a) (ha : a t = true) (hrel : (l t).rel = true) (hc : (l t).clock = 1) :
    Calls Try.prog 43 #[.pointer (some ⟨g, 0, none⟩), .int .i64 t, .agg #[.int .i64 x0, .int .i64 x1, .int .i64 x2]] w fun e w' => e = .returned (.tuple #[.agg #[.int .i64 (tf (unt x1 (l t).till) / 1000000000), .int .i64 (tf (unt x1 (l t).till) % 1000000000)], .int .i64 4]) ∧ IsSl w' g l (fun i => if i = t then false else a i) ∧ w.grownBy w' (some g) := by
  have hg := h.lt
  obtain ⟨y2, hy2⟩ : ∃ y, (l t).till = y := ⟨_, rfl⟩
  rw [hy2]
  have HY := Lib.hid hy2
  clear hy2
  go_enter Try.func43, Try.ntmps43
  go_wp2_with fail
  refine (of_some g l a _ ((h.alloc _).alloc _) t ht ha).mono ?_
  rintro e W1 ⟨rfl, b1⟩
  obtain ⟨htt, hr, B1, hz⟩ := stop_frame x0 x1 x2 w W1 b1
  have h1 := h.below B1 hg
  clear b1
  have ev : (l t).val = .agg #[.int .i64 (l t).task, .int .i64 (l t).clock, .int .i64 (l t).till, .bool true] := by rw [← hrel]; rfl
  rw [ev, HY.out]
  clear hrel ev
  generalize (l t).task = y0
  rw [hc]
  clear hc
  go_upto_region 6 with fail
  obtain ⟨W, hW, hx, hr2, ht2, h2, g2⟩ : ∃ W, W = W1.alloc (.cells #[.int .i64 y0, .int .i64 1, .int .i64 y2, .bool true] 65) ∧ Blk W W1.heap.size 65 #[.int .i64 y0, .int .i64 1, .int .i64 y2, .bool true] ∧ Blk W (w.heap.size + 1) 60 #[.int .i64 0, .int .i64 0] ∧ Blk W w.heap.size 68 #[.int .i64 x0, .int .i64 x1, .int .i64 x2] ∧ IsSl W g l a ∧ w.grownBy W (some g) :=
    ⟨_, rfl, Blk.new _ _ _, hr.alloc _, htt.alloc _, h1.alloc _, only_alloc (only_of_below B1 _) _⟩
  rw [← hW]
  have HN : Hid ((g ≠ W1.heap.size ∧ g ≠ w.heap.size + 1 ∧ g ≠ w.heap.size) ∧ w.heap.size ≤ w.heap.size + 1 ∧ w.heap.size ≤ W1.heap.size) := Lib.hid (by omega)
  clear hW htt hr h1 hz h
  obtain ⟨T, hT⟩ : ∃ T, T = w.heap.size := ⟨_, rfl⟩
  obtain ⟨R, hR⟩ : ∃ R, R = w.heap.size + 1 := ⟨_, rfl⟩
  rw [← hR] at hr2 HN ⊢
  rw [← hT] at ht2 HN ⊢
  have HT := Lib.hid hT
  clear hR hT
  generalize W1.heap.size = L at hx HN ⊢
  go_cut [] (fun wx => IsSl wx g l (fun i => if i = t then false else a i) ∧ Blk wx L 65 #[.int .i64 y0, .int .i64 1, .int .i64 y2, .bool true] ∧ Blk wx R 60 #[.int .i64 0, .int .i64 0] ∧ Blk wx T 68 #[.int .i64 x0, .int .i64 x1, .int .i64 x2] ∧ w.grownBy wx (some g))
  case first =>
    have q4 := h2.a t ht
    have f0 := h2.frozen
    have hL := HN.out.1.1.symm
    have hR := HN.out.1.2.1.symm
    have hT := HN.out.1.2.2.symm
    go_wp2_with fail
    go_meet
    exact ⟨h2.setA t ht false, hx.far hL _, hr2.far hR _, ht2.far hT _, only_setCell g2 (.inl rfl) _⟩
  case rest =>
    obtain ⟨h3, hx3, hr3, ht3, g3⟩ := hcut
    clear hx hr2 ht2 h2 g2
    obtain ⟨z0, z1, z2, z3⟩ := res4 hx3
    have s0 : wc.cell? ⟨T, 0, none⟩ = some (.int .i64 x0) := ht3.cell 0
    have s1 : wc.cell? ⟨T, 1, none⟩ = some (.int .i64 x1) := ht3.cell 1
    have s2 : wc.cell? ⟨T, 2, none⟩ = some (.int .i64 x2) := ht3.cell 2
    obtain ⟨r0, r1⟩ := res2 hr3
    have f0 := hr3.frozen
    go_upto_region 9 with fail
    have hr3d := hr3.drew
    have h3d := h3.drew
    have g3d := only_drew g3
    have hH : Hid (w.heap.size ≤ R ∧ g ≠ R) := Lib.hid (by have := HN.out.2.1; have := HT.out; exact ⟨by omega, HN.out.1.2.1⟩)
    go_cut [7] (fun s7 wx => s7 = .int .i64 4 ∧ IsSl wx g l (fun i => if i = t then false else a i) ∧ Blk wx R 60 #[.int .i64 (tf (unt x1 y2) / 1000000000), .int .i64 (tf (unt x1 y2) % 1000000000)] ∧ w.grownBy wx (some g))
    case first =>
      go_region_with (first
        | (go_at_call 68; refine (until_any _ _ _).mono ?_; rintro e W2 ⟨rfl, rfl⟩)
        | (go_at_call 67; refine (of_any _ _).mono ?_; rintro e W2 ⟨rfl, b2⟩; have hr4 := hr3d.below b2 hr3d.lt; have h4 := h3d.below b2 h3d.lt; have g4 := grown_below g3d b2; obtain ⟨p0, p1⟩ := res2 hr4; have f1 := hr4.frozen))
      all_goals
        go_wp2_with fail
        go_meet
        exact ⟨rfl, (h4.far hH.out.2 _).far hH.out.2 _, res_set2 hr4 _ _, only_setCell (only_setCell g4 (.inr hH.out.1) _) (.inr hH.out.1) _⟩
    case rest =>
      obtain ⟨rfl, h5, hr5, g5⟩ := hcut
      clear r0 r1 z0 z1 z2 z3 s0 s1 s2
      obtain ⟨r0, r1⟩ := res2 hr5
      go_wp2_with fail
      exact bodyPost_ret (v := .tuple #[.agg #[.int .i64 (tf (unt x1 y2) / 1000000000), .int .i64 (tf (unt x1 y2) % 1000000000)], .int .i64 4]) (by simp [results, Try.results43, go_sem, r0, r1]) rfl ⟨rfl, h5, g5⟩
set_option maxHeartbeats 4000000 in
set_option maxRecDepth 100000 in
theorem stop_rel2 (g : Nat) (l : Nat → Slp) (a : Nat → Bool) (t : Nat) (ht : t < 32) (x0 x1 x2 : Int) (w : World) (h : IsSl w g l a) (ha : a t = true) (hrel : (l t).rel = true) (hc : (l t).clock = 2) :
    Calls Try.prog 43 #[.pointer (some ⟨g, 0, none⟩), .int .i64 t, .agg #[.int .i64 x0, .int .i64 x1, .int .i64 x2]] w fun e w' => e = .returned (.tuple #[.agg #[.int .i64 (tf (unt x2 (l t).till) / 1000000000), .int .i64 (tf (unt x2 (l t).till) % 1000000000)], .int .i64 4]) ∧ IsSl w' g l (fun i => if i = t then false else a i) ∧ w.grownBy w' (some g) := by
  have hg := h.lt
  obtain ⟨y2, hy2⟩ : ∃ y, (l t).till = y := ⟨_, rfl⟩
  rw [hy2]
  have HY := Lib.hid hy2
  clear hy2
  go_enter Try.func43, Try.ntmps43
  go_wp2_with fail
  refine (of_some g l a _ ((h.alloc _).alloc _) t ht ha).mono ?_
  rintro e W1 ⟨rfl, b1⟩
  obtain ⟨htt, hr, B1, hz⟩ := stop_frame x0 x1 x2 w W1 b1
  have h1 := h.below B1 hg
  clear b1
  have ev : (l t).val = .agg #[.int .i64 (l t).task, .int .i64 (l t).clock, .int .i64 (l t).till, .bool true] := by rw [← hrel]; rfl
  rw [ev, HY.out]
  clear hrel ev
  generalize (l t).task = y0
  rw [hc]
  clear hc
  go_upto_region 6 with fail
  obtain ⟨W, hW, hx, hr2, ht2, h2, g2⟩ : ∃ W, W = W1.alloc (.cells #[.int .i64 y0, .int .i64 2, .int .i64 y2, .bool true] 65) ∧ Blk W W1.heap.size 65 #[.int .i64 y0, .int .i64 2, .int .i64 y2, .bool true] ∧ Blk W (w.heap.size + 1) 60 #[.int .i64 0, .int .i64 0] ∧ Blk W w.heap.size 68 #[.int .i64 x0, .int .i64 x1, .int .i64 x2] ∧ IsSl W g l a ∧ w.grownBy W (some g) :=
    ⟨_, rfl, Blk.new _ _ _, hr.alloc _, htt.alloc _, h1.alloc _, only_alloc (only_of_below B1 _) _⟩
  rw [← hW]
  have HN : Hid ((g ≠ W1.heap.size ∧ g ≠ w.heap.size + 1 ∧ g ≠ w.heap.size) ∧ w.heap.size ≤ w.heap.size + 1 ∧ w.heap.size ≤ W1.heap.size) := Lib.hid (by omega)
  clear hW htt hr h1 hz h
  obtain ⟨T, hT⟩ : ∃ T, T = w.heap.size := ⟨_, rfl⟩
  obtain ⟨R, hR⟩ : ∃ R, R = w.heap.size + 1 := ⟨_, rfl⟩
  rw [← hR] at hr2 HN ⊢
  rw [← hT] at ht2 HN ⊢
  have HT := Lib.hid hT
  clear hR hT
  generalize W1.heap.size = L at hx HN ⊢
  go_cut [] (fun wx => IsSl wx g l (fun i => if i = t then false else a i) ∧ Blk wx L 65 #[.int .i64 y0, .int .i64 2, .int .i64 y2, .bool true] ∧ Blk wx R 60 #[.int .i64 0, .int .i64 0] ∧ Blk wx T 68 #[.int .i64 x0, .int .i64 x1, .int .i64 x2] ∧ w.grownBy wx (some g))
  case first =>
    have q4 := h2.a t ht
    have f0 := h2.frozen
    have hL := HN.out.1.1.symm
    have hR := HN.out.1.2.1.symm
    have hT := HN.out.1.2.2.symm
    go_wp2_with fail
    go_meet
    exact ⟨h2.setA t ht false, hx.far hL _, hr2.far hR _, ht2.far hT _, only_setCell g2 (.inl rfl) _⟩
  case rest =>
    obtain ⟨h3, hx3, hr3, ht3, g3⟩ := hcut
    clear hx hr2 ht2 h2 g2
    obtain ⟨z0, z1, z2, z3⟩ := res4 hx3
    have s0 : wc.cell? ⟨T, 0, none⟩ = some (.int .i64 x0) := ht3.cell 0
    have s1 : wc.cell? ⟨T, 1, none⟩ = some (.int .i64 x1) := ht3.cell 1
    have s2 : wc.cell? ⟨T, 2, none⟩ = some (.int .i64 x2) := ht3.cell 2
    obtain ⟨r0, r1⟩ := res2 hr3
    have f0 := hr3.frozen
    go_upto_region 9 with fail
    have hr3d := hr3.drew
    have h3d := h3.drew
    have g3d := only_drew g3
    have hH : Hid (w.heap.size ≤ R ∧ g ≠ R) := Lib.hid (by have := HN.out.2.1; have := HT.out; exact ⟨by omega, HN.out.1.2.1⟩)
    go_cut [7] (fun s7 wx => s7 = .int .i64 4 ∧ IsSl wx g l (fun i => if i = t then false else a i) ∧ Blk wx R 60 #[.int .i64 (tf (unt x2 y2) / 1000000000), .int .i64 (tf (unt x2 y2) % 1000000000)] ∧ w.grownBy wx (some g))
    case first =>
      go_region_with (first
        | (go_at_call 68; refine (until_any _ _ _).mono ?_; rintro e W2 ⟨rfl, rfl⟩)
        | (go_at_call 67; refine (of_any _ _).mono ?_; rintro e W2 ⟨rfl, b2⟩; have hr4 := hr3d.below b2 hr3d.lt; have h4 := h3d.below b2 h3d.lt; have g4 := grown_below g3d b2; obtain ⟨p0, p1⟩ := res2 hr4; have f1 := hr4.frozen))
      all_goals
        go_wp2_with fail
        go_meet
        exact ⟨rfl, (h4.far hH.out.2 _).far hH.out.2 _, res_set2 hr4 _ _, only_setCell (only_setCell g4 (.inr hH.out.1) _) (.inr hH.out.1) _⟩
    case rest =>
      obtain ⟨rfl, h5, hr5, g5⟩ := hcut
      clear r0 r1 z0 z1 z2 z3 s0 s1 s2
      obtain ⟨r0, r1⟩ := res2 hr5
      go_wp2_with fail
      exact bodyPost_ret (v := .tuple #[.agg #[.int .i64 (tf (unt x2 y2) / 1000000000), .int .i64 (tf (unt x2 y2) % 1000000000)], .int .i64 4]) (by simp [results, Try.results43, go_sem, r0, r1]) rfl ⟨rfl, h5, g5⟩
end Go.Proofs.Ytdplpehphjgffaa.Sl
