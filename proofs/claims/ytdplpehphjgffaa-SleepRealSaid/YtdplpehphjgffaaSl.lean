/- The contracts of sleep's functions. No condition but that a task's number is one. -/
import Derived.Test.YtdplpehphjgffaaSp
set_option linter.unusedVariables false
set_option linter.unusedSimpArgs false
namespace Go.Proofs.Ytdplpehphjgffaa.Sl
open Go.RowKit Go.Proofs.Ytdplpehphjgffaa.Aid Go.Proofs.Ytdplpehphjgffaa.Kt Go.Proofs.Ytdplpehphjgffaa.Sp
attribute [local go_sem] max2_int min2_int max_two min_two
structure Slp where
  task : Int
  clock : Int
  till : Int
  rel : Bool
def Slp.val (s : Slp) : Value := .agg #[.int .i64 s.task, .int .i64 s.clock, .int .i64 s.till, .bool s.rel]
/-- the sleeps' block: a sleep for each task, and whether it is asleep -/
structure IsSl (w : World) (g : Nat) (l : Nat → Slp) (a : Nat → Bool) : Prop where
  b : ∃ cs, Blk w g 102 cs ∧ cs.size = 160
  task : ∀ i, i < 32 → w.cell? ⟨g, i * 4, none⟩ = some (.int .i64 (l i).task)
  clock : ∀ i, i < 32 → w.cell? ⟨g, i * 4 + 1, none⟩ = some (.int .i64 (l i).clock)
  till : ∀ i, i < 32 → w.cell? ⟨g, i * 4 + 2, none⟩ = some (.int .i64 (l i).till)
  rel : ∀ i, i < 32 → w.cell? ⟨g, i * 4 + 3, none⟩ = some (.bool (l i).rel)
  a : ∀ i, i < 32 → w.cell? ⟨g, 128 + i, none⟩ = some (.bool (a i))
theorem IsSl.lt {w : World} {g : Nat} {l : Nat → Slp} {a : Nat → Bool} (h : IsSl w g l a) : g < w.heap.size := by obtain ⟨cs, hb, _⟩ := h.b; exact hb.lt
theorem IsSl.frozen {w : World} {g : Nat} {l : Nat → Slp} {a : Nat → Bool} (h : IsSl w g l a) (i : Nat) : w.frozen? ⟨g, i, none⟩ = false := by obtain ⟨cs, hb, _⟩ := h.b; exact hb.frozen i
/-- the block as it was -/
theorem IsSl.same {w w' : World} {g : Nat} {l : Nat → Slp} {a : Nat → Bool} (h : IsSl w g l a) (e : w'.heap[g]? = w.heap[g]?) : IsSl w' g l a := by
  have hc : ∀ i, w'.cell? ⟨g, i, none⟩ = w.cell? ⟨g, i, none⟩ := fun i => World.cell?_of_block (w := w) (a := ⟨g, i, none⟩) e
  obtain ⟨⟨cs, hb, hs⟩, h1, h2, h3, h4, h5⟩ := h
  exact ⟨⟨cs, by unfold Blk at hb ⊢; rw [e]; exact hb, hs⟩, fun i hi => (hc _).trans (h1 i hi), fun i hi => (hc _).trans (h2 i hi), fun i hi => (hc _).trans (h3 i hi), fun i hi => (hc _).trans (h4 i hi), fun i hi => (hc _).trans (h5 i hi)⟩
theorem IsSl.drewN {w : World} {g : Nat} {l : Nat → Slp} {a : Nat → Bool} (h : IsSl w g l a) (n : Nat) : IsSl (w.drewN n) g l a := h.same rfl
theorem IsSl.drew {w : World} {g : Nat} {l : Nat → Slp} {a : Nat → Bool} (h : IsSl w g l a) : IsSl w.drew g l a := h.same rfl
theorem IsSl.alloc {w : World} {g : Nat} {l : Nat → Slp} {a : Nat → Bool} (h : IsSl w g l a) (o : Obj) : IsSl (w.alloc o) g l a := h.same (Below.heap_alloc w o g h.lt)
theorem IsSl.below {B : Nat} {w w' : World} {g : Nat} {l : Nat → Slp} {a : Nat → Bool} (h : IsSl w g l a) (b : Below B w w') (hg : g < B) : IsSl w' g l a := h.same (b.block g hg)
theorem IsSl.grown {row : Option Nat} {w w' : World} {g : Nat} {l : Nat → Slp} {a : Nat → Bool} (h : IsSl w g l a) (b : w.grownBy w' row) (hg : some g ≠ row) : IsSl w' g l a := h.same (b.block g h.lt hg)
theorem IsSl.far {w : World} {g : Nat} {l : Nat → Slp} {a : Nat → Bool} (h : IsSl w g l a) {p : Addr} (hp : g ≠ p.block) (u : Value) : IsSl (w.setCell p u) g l a := h.same (Below.heap_setCell w p u g hp)
theorem cell_set {w : World} {g : Nat} {t : TypeId} {cs : Array Value} (h : Blk w g t cs) (i j : Nat) (u : Value) (hi : i < cs.size) : (w.setCell ⟨g, i, none⟩ u).cell? ⟨g, j, none⟩ = if i = j then some u else w.cell? ⟨g, j, none⟩ := by
  rw [(h.set_ i u).cell j, h.cell j, Array.getElem?_setIfInBounds]
  by_cases e : i = j
  · subst e; simp [hi]
  · simp [e]
/-- a task falls asleep, or wakes -/
theorem IsSl.setA {w : World} {g : Nat} {l : Nat → Slp} {a : Nat → Bool} (h : IsSl w g l a) (t : Nat) (ht : t < 32) (b : Bool) : IsSl (w.setCell ⟨g, 128 + t, none⟩ (.bool b)) g l (fun i => if i = t then b else a i) := by
  obtain ⟨⟨cs, hb, hs⟩, h1, h2, h3, h4, h5⟩ := h
  have hc := fun j => cell_set hb (128 + t) j (.bool b) (by omega)
  refine ⟨⟨_, hb.set_ _ _, by simp [hs]⟩, fun i hi => ?_, fun i hi => ?_, fun i hi => ?_, fun i hi => ?_, fun i hi => ?_⟩
  · rw [hc, if_neg (by omega)]; exact h1 i hi
  · rw [hc, if_neg (by omega)]; exact h2 i hi
  · rw [hc, if_neg (by omega)]; exact h3 i hi
  · rw [hc, if_neg (by omega)]; exact h4 i hi
  · rw [hc]
    by_cases e : i = t
    · rw [if_pos (by omega), if_pos e]
    · rw [if_neg (by omega), if_neg e]; exact h5 i hi
set_option maxHeartbeats 2000000 in
set_option maxRecDepth 100000 in
theorem of_none (g : Nat) (l : Nat → Slp) (a : Nat → Bool) (w : World) (h : IsSl w g l a) (t : Nat) (ht : t < 32) (ha : a t = false) :
    Calls Try.prog 66 #[.pointer (some ⟨g, 0, none⟩), .int .i64 t] w fun e w' => e = .returned (.tuple #[.agg #[.int .i64 0, .int .i64 0, .int .i64 0, .bool false], .bool false]) ∧ Below w.heap.size w w' := by
  have q0 : (w.alloc (.cells #[.int .i64 0, .int .i64 0, .int .i64 0, .bool false] 65)).cell? ⟨g, 128 + t, none⟩ = some (.bool (a t)) := (h.alloc _).a t ht
  rw [ha] at q0
  have d1 : decide ((t : Int) < 0) = false := by simp
  have d2 : decide ((32 : Int) ≤ t) = false := by simp; omega
  go_enter Try.func66, Try.ntmps66
  go_wp2_with fail
  exact bodyPost_ret (v := .tuple #[.agg #[.int .i64 0, .int .i64 0, .int .i64 0, .bool false], .bool false]) (by simp [results, Try.results66, go_sem]) rfl ⟨rfl, (Below.refl _ _).alloc (Nat.le_refl _) _⟩
set_option maxHeartbeats 2000000 in
set_option maxRecDepth 100000 in
theorem of_some (g : Nat) (l : Nat → Slp) (a : Nat → Bool) (w : World) (h : IsSl w g l a) (t : Nat) (ht : t < 32) (ha : a t = true) :
    Calls Try.prog 66 #[.pointer (some ⟨g, 0, none⟩), .int .i64 t] w fun e w' => e = .returned (.tuple #[(l t).val, .bool true]) ∧ Below w.heap.size w w' := by
  have h1 := h.alloc (.cells #[.int .i64 0, .int .i64 0, .int .i64 0, .bool false] 65)
  have q0 := h1.a t ht
  rw [ha] at q0
  have q1 := h1.task t ht
  have q2 := h1.clock t ht
  have q3 := h1.till t ht
  have q4 := h1.rel t ht
  clear h1
  have d1 : decide ((t : Int) < 0) = false := by simp
  have d2 : decide ((32 : Int) ≤ t) = false := by simp; omega
  go_enter Try.func66, Try.ntmps66
  go_wp2_with fail
  exact bodyPost_ret (v := .tuple #[(l t).val, .bool true]) (by simp [results, Try.results66, go_sem, Slp.val]) rfl ⟨rfl, (Below.refl _ _).alloc (Nat.le_refl _) _⟩
theorem lt32 {i : Nat} (h : i < 32) : i = 0 ∨ i = 1 ∨ i = 2 ∨ i = 3 ∨ i = 4 ∨ i = 5 ∨ i = 6 ∨ i = 7 ∨ i = 8 ∨ i = 9 ∨ i = 10 ∨ i = 11 ∨ i = 12 ∨ i = 13 ∨ i = 14 ∨ i = 15 ∨ i = 16 ∨ i = 17 ∨ i = 18 ∨ i = 19 ∨ i = 20 ∨ i = 21 ∨ i = 22 ∨ i = 23 ∨ i = 24 ∨ i = 25 ∨ i = 26 ∨ i = 27 ∨ i = 28 ∨ i = 29 ∨ i = 30 ∨ i = 31 := by omega
set_option maxRecDepth 100000 in
theorem zc : Try.zeroCells102.size = 160 ∧ (∀ i, i < 32 → Try.zeroCells102[i * 4]? = some (.int .i64 0) ∧ Try.zeroCells102[i * 4 + 1]? = some (.int .i64 0) ∧ Try.zeroCells102[i * 4 + 2]? = some (.int .i64 0) ∧ Try.zeroCells102[i * 4 + 3]? = some (.bool false) ∧ Try.zeroCells102[128 + i]? = some (.bool false)) := by
  refine ⟨by kernel_rfl, fun i hi => ?_⟩
  rcases lt32 hi with rfl | rfl | rfl | rfl | rfl | rfl | rfl | rfl | rfl | rfl | rfl | rfl | rfl | rfl | rfl | rfl | rfl | rfl | rfl | rfl | rfl | rfl | rfl | rfl | rfl | rfl | rfl | rfl | rfl | rfl | rfl | rfl
  all_goals exact ⟨by kernel_rfl, by kernel_rfl, by kernel_rfl, by kernel_rfl, by kernel_rfl⟩
theorem IsSl.new (w : World) : IsSl (w.alloc (.cells Try.zeroCells102 102)) w.heap.size (fun _ => ⟨0, 0, 0, false⟩) (fun _ => false) := by
  have hb := Blk.new w 102 Try.zeroCells102
  refine ⟨⟨_, hb, zc.1⟩, fun i hi => (hb.cell _).trans (zc.2 i hi).1, fun i hi => (hb.cell _).trans (zc.2 i hi).2.1, fun i hi => (hb.cell _).trans (zc.2 i hi).2.2.1, fun i hi => (hb.cell _).trans (zc.2 i hi).2.2.2.1, fun i hi => (hb.cell _).trans (zc.2 i hi).2.2.2.2⟩
set_option maxHeartbeats 2000000 in
set_option maxRecDepth 100000 in
theorem new_any (w : World) :
    Calls Try.prog 41 #[] w fun e w' => ∃ g, e = .returned (.pointer (some ⟨g, 0, none⟩)) ∧ w.heap.size ≤ g ∧ IsSl w' g (fun _ => ⟨0, 0, 0, false⟩) (fun _ => false) ∧ Below w.heap.size w w' := by
  go_enter Try.func41, Try.ntmps41
  go_wp2_with fail
  go_ret
  exact ⟨_, rfl, Nat.le_refl _, IsSl.new w, (Below.refl _ _).alloc (Nat.le_refl _) _⟩
theorem start_frame (s n x0 x1 x2 : Int) (w W1 : World) (b1 : Below (((w.alloc (.cells #[.int .i64 s, .int .i64 n] 60)).alloc (.cells #[.int .i64 x0, .int .i64 x1, .int .i64 x2] 68)).alloc (.cells #[.int .i64 0, .int .i64 0, .int .i64 0, .bool false] 65)).heap.size (((w.alloc (.cells #[.int .i64 s, .int .i64 n] 60)).alloc (.cells #[.int .i64 x0, .int .i64 x1, .int .i64 x2] 68)).alloc (.cells #[.int .i64 0, .int .i64 0, .int .i64 0, .bool false] 65)) W1) :
    Blk W1 (w.heap.size + 1) 68 #[.int .i64 x0, .int .i64 x1, .int .i64 x2] ∧ Blk W1 (w.heap.size + 1 + 1) 65 #[.int .i64 0, .int .i64 0, .int .i64 0, .bool false] ∧ Below w.heap.size w W1 ∧ w.heap.size + 1 + 1 < W1.heap.size := by
  have e1 : (w.alloc (.cells #[.int .i64 s, .int .i64 n] 60)).heap.size = w.heap.size + 1 := by simp
  have e2 : ((w.alloc (.cells #[.int .i64 s, .int .i64 n] 60)).alloc (.cells #[.int .i64 x0, .int .i64 x1, .int .i64 x2] 68)).heap.size = w.heap.size + 1 + 1 := by simp
  have h1 := (Blk.new (w.alloc (.cells #[.int .i64 s, .int .i64 n] 60)) 68 #[.int .i64 x0, .int .i64 x1, .int .i64 x2]).alloc (.cells #[.int .i64 0, .int .i64 0, .int .i64 0, .bool false] 65)
  have h2 := Blk.new ((w.alloc (.cells #[.int .i64 s, .int .i64 n] 60)).alloc (.cells #[.int .i64 x0, .int .i64 x1, .int .i64 x2] 68)) 65 #[.int .i64 0, .int .i64 0, .int .i64 0, .bool false]
  rw [e1] at h1
  rw [e2] at h2
  have k2 := h2.below b1 h2.lt
  refine ⟨h1.below b1 h1.lt, k2, Below.trans ?_ (b1.mono ?_), k2.lt⟩
  · exact (((Below.refl w.heap.size w).alloc (Nat.le_refl _) _).alloc (by simp) _).alloc (by simp; omega) _
  · simp; omega
/-- the cells of a result -/
theorem res4 {W : World} {g : Nat} {a b c : Int} {d : Bool} (h : Blk W g 65 #[.int .i64 a, .int .i64 b, .int .i64 c, .bool d]) : W.cell? ⟨g, 0, none⟩ = some (.int .i64 a) ∧ W.cell? ⟨g, 1, none⟩ = some (.int .i64 b) ∧ W.cell? ⟨g, 2, none⟩ = some (.int .i64 c) ∧ W.cell? ⟨g, 3, none⟩ = some (.bool d) := ⟨h.cell 0, h.cell 1, h.cell 2, h.cell 3⟩
theorem res_set {W : World} {g : Nat} {a b c : Int} {d : Bool} (h : Blk W g 65 #[.int .i64 a, .int .i64 b, .int .i64 c, .bool d]) (x y z : Int) (u : Bool) :
    Blk ((((W.setCell ⟨g, 0, none⟩ (.int .i64 x)).setCell ⟨g, 1, none⟩ (.int .i64 y)).setCell ⟨g, 2, none⟩ (.int .i64 z)).setCell ⟨g, 3, none⟩ (.bool u)) g 65 #[.int .i64 x, .int .i64 y, .int .i64 z, .bool u] := by simpa using (((h.set_ 0 (.int .i64 x)).set_ 1 (.int .i64 y)).set_ 2 (.int .i64 z)).set_ 3 (.bool u)
theorem res_below {B : Nat} {w W : World} (h : Below B w W) {g : Nat} (hg : B ≤ g) (x y z : Int) (u : Bool) :
    Below B w ((((W.setCell ⟨g, 0, none⟩ (.int .i64 x)).setCell ⟨g, 1, none⟩ (.int .i64 y)).setCell ⟨g, 2, none⟩ (.int .i64 z)).setCell ⟨g, 3, none⟩ (.bool u)) := (((h.setCell hg _).setCell hg _).setCell hg _).setCell hg _
set_option maxHeartbeats 2000000 in
set_option maxRecDepth 100000 in
theorem start_nil (task clock s n x0 x1 x2 : Int) (ab : Bool) (hs : -9223372036854775808 ≤ s ∧ s ≤ 9223372036854775807) (w : World) :
    Calls Try.prog 42 #[.pointer none, .int .i64 task, .int .i64 clock, .agg #[.int .i64 s, .int .i64 n], .bool ab, .agg #[.int .i64 x0, .int .i64 x1, .int .i64 x2]] w fun e w' => e = .returned (.tuple #[.agg #[.int .i64 0, .int .i64 0, .int .i64 0, .bool false], .int .i64 1]) ∧ Below w.heap.size w w' := by
  by_cases h : Rt s n
  all_goals
    have H := Lib.hid h
    clear h
    go_enter Try.func42, Try.ntmps42
    go_wp2_with fail
    first
      | refine (time_yes s n hs.2 H.out _).mono ?_
      | refine (time_no s n H.out _).mono ?_
    rintro e W1 ⟨rfl, b1⟩
    obtain ⟨ht, hr, B1, hz⟩ := start_frame s n x0 x1 x2 w W1 b1
    clear b1
    obtain ⟨r0, r1, r2, r3⟩ := res4 hr
    have f0 := hr.frozen
    go_wp2_with fail
    clear r0 r1 r2 r3
    have hr5 := res_set hr 0 0 0 false
    have B5 := res_below B1 (g := w.heap.size + 1 + 1) (by omega) 0 0 0 false
    obtain ⟨r0, r1, r2, r3⟩ := res4 hr5
    exact bodyPost_ret (v := .tuple #[.agg #[.int .i64 0, .int .i64 0, .int .i64 0, .bool false], .int .i64 1]) (by simp [results, Try.results42, go_sem, r0, r1, r2, r3]) rfl ⟨rfl, B5⟩
/-- which arguments may not be -/
def Bad (s n task clock : Int) : Prop := ¬ Rt s n ∨ (Rt s n ∧ task < 0) ∨ (Rt s n ∧ 0 ≤ task ∧ 32 ≤ task) ∨ (Rt s n ∧ 0 ≤ task ∧ task < 32 ∧ clock < 0) ∨ (Rt s n ∧ 0 ≤ task ∧ task < 32 ∧ 0 ≤ clock ∧ 3 ≤ clock)
set_option maxHeartbeats 4000000 in
set_option maxRecDepth 100000 in
theorem start_bad (g : Nat) (task clock s n x0 x1 x2 : Int) (ab : Bool) (hs : -9223372036854775808 ≤ s ∧ s ≤ 9223372036854775807) (bad : Bad s n task clock) (w : World) :
    Calls Try.prog 42 #[.pointer (some ⟨g, 0, none⟩), .int .i64 task, .int .i64 clock, .agg #[.int .i64 s, .int .i64 n], .bool ab, .agg #[.int .i64 x0, .int .i64 x1, .int .i64 x2]] w fun e w' => e = .returned (.tuple #[.agg #[.int .i64 0, .int .i64 0, .int .i64 0, .bool false], .int .i64 2]) ∧ Below w.heap.size w w' := by
  rcases bad with h | ⟨h, h1⟩ | ⟨h, h1, h2⟩ | ⟨h, h1, h2, h3⟩ | ⟨h, h1, h2, h3, h4⟩
  all_goals
    have H := Lib.hid h
    clear h
    go_enter Try.func42, Try.ntmps42
    go_wp2_with fail
    first
      | refine (time_yes s n hs.2 H.out _).mono ?_
      | refine (time_no s n H.out _).mono ?_
    rintro e W1 ⟨rfl, b1⟩
    obtain ⟨ht, hr, B1, hz⟩ := start_frame s n x0 x1 x2 w W1 b1
    clear b1
    obtain ⟨r0, r1, r2, r3⟩ := res4 hr
    have f0 := hr.frozen
    go_wp2_with fail
    clear r0 r1 r2 r3
    have hr5 := res_set hr 0 0 0 false
    have B5 := res_below B1 (g := w.heap.size + 1 + 1) (by omega) 0 0 0 false
    obtain ⟨r0, r1, r2, r3⟩ := res4 hr5
    exact bodyPost_ret (v := .tuple #[.agg #[.int .i64 0, .int .i64 0, .int .i64 0, .bool false], .int .i64 2]) (by simp [results, Try.results42, go_sem, r0, r1, r2, r3]) rfl ⟨rfl, B5⟩
set_option maxHeartbeats 4000000 in
set_option maxRecDepth 100000 in
theorem start_busy (g : Nat) (l : Nat → Slp) (a : Nat → Bool) (t : Nat) (ht : t < 32) (clock s n x0 x1 x2 : Int) (ab : Bool) (hs : -9223372036854775808 ≤ s ∧ s ≤ 9223372036854775807) (rt : Rt s n) (hc : 0 ≤ clock ∧ clock ≤ 2) (w : World) (h : IsSl w g l a) (ha : a t = true) :
    Calls Try.prog 42 #[.pointer (some ⟨g, 0, none⟩), .int .i64 t, .int .i64 clock, .agg #[.int .i64 s, .int .i64 n], .bool ab, .agg #[.int .i64 x0, .int .i64 x1, .int .i64 x2]] w fun e w' => e = .returned (.tuple #[.agg #[.int .i64 0, .int .i64 0, .int .i64 0, .bool false], .int .i64 9]) ∧ Below w.heap.size w w' := by
  have H := Lib.hid rt
  have hg := h.lt
  clear rt
  go_enter Try.func42, Try.ntmps42
  go_wp2_with fail
  refine (time_yes s n hs.2 H.out _).mono ?_
  rintro e W1 ⟨rfl, b1⟩
  obtain ⟨htt, hr, B1, hz⟩ := start_frame s n x0 x1 x2 w W1 b1
  clear b1
  have h1 := h.below B1 hg
  have q0 := h1.a t ht
  rw [ha] at q0
  obtain ⟨r0, r1, r2, r3⟩ := res4 hr
  have f0 := hr.frozen
  go_wp2_with fail
  clear r0 r1 r2 r3
  have hr5 := res_set hr 0 0 0 false
  have B5 := res_below B1 (g := w.heap.size + 1 + 1) (by omega) 0 0 0 false
  obtain ⟨r0, r1, r2, r3⟩ := res4 hr5
  exact bodyPost_ret (v := .tuple #[.agg #[.int .i64 0, .int .i64 0, .int .i64 0, .bool false], .int .i64 9]) (by simp [results, Try.results42, go_sem, r0, r1, r2, r3]) rfl ⟨rfl, B5⟩
end Go.Proofs.Ytdplpehphjgffaa.Sl
