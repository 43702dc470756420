/- The contracts of clock's methods, at a clock that is there and at none: what each answers, and what the clock then is. No condition but the clock's own bounds. -/
import Derived.Test.YtdplpehphjgffaaKtr
import Derived.Test.YtdplpehphjgffaaArr3
set_option linter.unusedVariables false
set_option linter.unusedSimpArgs false
namespace Go.Proofs.Ytdplpehphjgffaa.Ck
open Go.RowKit Go.Proofs.Ytdplpehphjgffaa.Aid Go.Proofs.Ytdplpehphjgffaa.Kt
structure Ck where
  counter : Int
  mono : Int
  o0 : Int
  o1 : Int
  o2 : Int
  asleep : Bool
  slept : Int
  gen : Int
def Ck.cells (c : Ck) : Array Value := #[.int .i64 c.counter, .int .i64 c.mono, .int .i64 c.o0, .int .i64 c.o1, .int .i64 c.o2, .bool c.asleep, .int .i64 c.slept, .int .i64 c.gen]
structure Ck.ok (c : Ck) : Prop where
  n : 0 ≤ c.counter ∧ c.counter ≤ 1152921504606846976
  m : 0 ≤ c.mono ∧ c.mono ≤ c.counter
  z : c.o0 = 0
  s : 0 ≤ c.slept ∧ c.slept ≤ c.counter
  r : 0 ≤ c.mono + c.o1 ∧ c.mono + c.o1 + (if c.asleep then c.slept else 0) ≤ 1152921504606846976 + c.counter
  b : 0 ≤ c.o2 ∧ c.mono + c.o2 + (if c.asleep then c.slept else 0) ≤ c.counter
  g : 0 ≤ c.gen ∧ c.gen ≤ 4611686018427387904
abbrev IsCk (w : World) (g : Nat) (c : Ck) : Prop := Blk w g 94 c.cells
section
variable {w : World} {g : Nat} {c : Ck}
theorem c0 (h : IsCk w g c) : w.cell? ⟨g, 0, none⟩ = some (.int .i64 c.counter) := h.cell 0
theorem c1 (h : IsCk w g c) : w.cell? ⟨g, 1, none⟩ = some (.int .i64 c.mono) := h.cell 1
theorem c2 (h : IsCk w g c) : w.cell? ⟨g, 2, none⟩ = some (.int .i64 c.o0) := h.cell 2
theorem c3 (h : IsCk w g c) : w.cell? ⟨g, 3, none⟩ = some (.int .i64 c.o1) := h.cell 3
theorem c4 (h : IsCk w g c) : w.cell? ⟨g, 4, none⟩ = some (.int .i64 c.o2) := h.cell 4
theorem c5 (h : IsCk w g c) : w.cell? ⟨g, 5, none⟩ = some (.bool c.asleep) := h.cell 5
theorem c6 (h : IsCk w g c) : w.cell? ⟨g, 6, none⟩ = some (.int .i64 c.slept) := h.cell 6
theorem c7 (h : IsCk w g c) : w.cell? ⟨g, 7, none⟩ = some (.int .i64 c.gen) := h.cell 7
end
def Ck.off (c : Ck) (k : Int) : Int := if k = 0 then c.o0 else if k = 1 then c.o1 else c.o2
set_option maxHeartbeats 1000000 in
theorem is_yes (g : Nat) (k : Int) (w : World) (h1 : 0 ≤ k) (h2 : k < 3) : Calls Try.prog 61 #[.pointer (some ⟨g, 0, none⟩), .int .i64 k] w fun e w' => e = .returned (.bool true) ∧ w = w' := by
  go_enter Try.func61, Try.ntmps61
  go_wp2
  go_ret
  exact ⟨ret_bool (by simp [h1, h2]), rfl⟩
set_option maxHeartbeats 1000000 in
theorem is_no (g : Nat) (k : Int) (w : World) (h : k < 0 ∨ 2 < k) : Calls Try.prog 61 #[.pointer (some ⟨g, 0, none⟩), .int .i64 k] w fun e w' => e = .returned (.bool false) ∧ w = w' := by
  by_cases h1 : 0 ≤ k
  · have h2 : ¬ k < 3 := by omega
    go_enter Try.func61, Try.ntmps61
    go_wp2
    go_ret
    exact ⟨ret_bool (by first | rfl | (simp; omega)), rfl⟩
  · go_enter Try.func61, Try.ntmps61
    go_wp2
    go_ret
    exact ⟨ret_bool (by first | rfl | (simp; omega)), rfl⟩
set_option maxHeartbeats 1000000 in
theorem is_none (k : Int) (w : World) : Calls Try.prog 61 #[.pointer none, .int .i64 k] w fun e w' => e = .returned (.bool false) ∧ w = w' := by
  go_enter Try.func61, Try.ntmps61
  go_wp2
  go_ret
  exact ⟨rfl, rfl⟩
set_option maxHeartbeats 1000000 in
theorem now_some (g : Nat) (c : Ck) (k : Int) (w : World) (h : IsCk w g c) (ok : c.ok) (hk : k = 0 ∨ k = 1 ∨ k = 2) : Calls Try.prog 33 #[.pointer (some ⟨g, 0, none⟩), .int .i64 k] w fun e w' => e = .returned (.tuple #[.int .i64 (c.mono + c.off k), .bool true]) ∧ ∃ n, w' = w.drewN n := by
  have q1 := c1 h
  have q2 := c2 h
  have q3 := c3 h
  have q4 := c4 h
  have hm := ok.m
  have hn := ok.n
  have hz := ok.z
  have hr := ok.r
  have hb := ok.b
  have hs := ok.s
  have b1 : c.mono + c.o1 ≤ 4611686018427387904 := by have := hr.2; split at this <;> omega
  have b2 : c.mono + c.o2 ≤ 4611686018427387904 := by have := hb.2; split at this <;> omega
  have b0 := hr.1
  have b3 := hb.1
  have b4 : -10 ≤ c.o0 ∧ c.o0 ≤ 10 := by omega
  clear hr hb hz
  rcases hk with rfl | rfl | rfl
  all_goals
    go_enter Try.func33, Try.ntmps33
    go_wp2_with (go_at_call 61; refine (is_yes g _ _ (by omega) (by omega)).mono ?_; rintro e w1 ⟨rfl, rfl⟩)
    go_quiet (fail)
    go_wp2
    go_ret2
    exact ⟨by first | rfl | simp [Ck.off], _, rfl⟩
set_option maxHeartbeats 1000000 in
theorem now_no (g : Nat) (k : Int) (w : World) (hk : k < 0 ∨ 2 < k) : Calls Try.prog 33 #[.pointer (some ⟨g, 0, none⟩), .int .i64 k] w fun e w' => e = .returned (.tuple #[.int .i64 0, .bool false]) ∧ w = w' := by
  go_enter Try.func33, Try.ntmps33
  go_wp2_with (go_at_call 61; refine (is_no g _ _ hk).mono ?_; rintro e w1 ⟨rfl, rfl⟩)
  go_ret2
  exact ⟨rfl, rfl⟩
set_option maxHeartbeats 1000000 in
theorem offset_some (g : Nat) (c : Ck) (w : World) (h : IsCk w g c) (k : Int) (hk : k = 0 ∨ k = 1 ∨ k = 2) : Calls Try.prog 34 #[.pointer (some ⟨g, 0, none⟩), .int .i64 k] w fun e w' => e = .returned (.tuple #[.int .i64 (c.off k), .bool true]) ∧ ∃ n, w' = w.drewN n := by
  have q2 := c2 h
  have q3 := c3 h
  have q4 := c4 h
  rcases hk with rfl | rfl | rfl
  all_goals
    go_enter Try.func34, Try.ntmps34
    go_wp2_with (go_at_call 61; refine (is_yes g _ _ (by omega) (by omega)).mono ?_; rintro e w1 ⟨rfl, rfl⟩)
    first
      | (go_ret2; exact ⟨by first | rfl | simp [Ck.off], ⟨0, rfl⟩⟩)
      | (go_quiet (fail); go_wp2; go_ret2; exact ⟨by first | rfl | simp [Ck.off], _, rfl⟩)
set_option maxHeartbeats 1000000 in
theorem offset_no (g : Nat) (k : Int) (w : World) (hk : k < 0 ∨ 2 < k) : Calls Try.prog 34 #[.pointer (some ⟨g, 0, none⟩), .int .i64 k] w fun e w' => e = .returned (.tuple #[.int .i64 0, .bool false]) ∧ w = w' := by
  go_enter Try.func34, Try.ntmps34
  go_wp2_with (go_at_call 61; refine (is_no g _ _ hk).mono ?_; rintro e w1 ⟨rfl, rfl⟩)
  go_ret2
  exact ⟨rfl, rfl⟩
set_option maxHeartbeats 1000000 in
theorem counter_some (g : Nat) (c : Ck) (w : World) (h : IsCk w g c) : Calls Try.prog 35 #[.pointer (some ⟨g, 0, none⟩)] w fun e w' => e = .returned (.int .i64 c.counter) ∧ w = w' := by
  have q0 := c0 h
  go_enter Try.func35, Try.ntmps35
  go_wp2
  go_ret
  exact ⟨rfl, rfl⟩
set_option maxHeartbeats 1000000 in
theorem generation_some (g : Nat) (c : Ck) (w : World) (h : IsCk w g c) : Calls Try.prog 37 #[.pointer (some ⟨g, 0, none⟩)] w fun e w' => e = .returned (.int .i64 c.gen) ∧ w = w' := by
  have q7 := c7 h
  go_enter Try.func37, Try.ntmps37
  go_wp2
  go_ret
  exact ⟨rfl, rfl⟩
set_option maxHeartbeats 1000000 in
theorem suspended_some (g : Nat) (c : Ck) (w : World) (h : IsCk w g c) : Calls Try.prog 36 #[.pointer (some ⟨g, 0, none⟩)] w fun e w' => e = .returned (.bool c.asleep) ∧ w = w' := by
  have q5 := c5 h
  go_enter Try.func36, Try.ntmps36
  go_wp2
  go_ret
  exact ⟨rfl, rfl⟩
set_option maxHeartbeats 1000000 in
theorem suspended_none (w : World) : Calls Try.prog 36 #[.pointer none] w fun e w' => e = .returned (.bool false) ∧ w = w' := by
  go_enter Try.func36, Try.ntmps36
  go_wp2
  go_ret
  exact ⟨rfl, rfl⟩
set_option maxHeartbeats 1000000 in
theorem advance_none (n : Int) (w : World) : Calls Try.prog 27 #[.pointer none, .int .i64 n] w fun e w' => e = .returned (.int .i64 1) ∧ w = w' := by
  go_enter Try.func27, Try.ntmps27
  go_wp2
  go_ret
  exact ⟨rfl, rfl⟩
set_option maxHeartbeats 1000000 in
theorem advance_bad (g : Nat) (c : Ck) (w : World) (h : IsCk w g c) (n : Int) (ok : c.ok) (hn : n < 0 ∨ 1152921504606846976 < c.counter + n) : Calls Try.prog 27 #[.pointer (some ⟨g, 0, none⟩), .int .i64 n] w fun e w' => e = .returned (.int .i64 2) ∧ ∃ n, w' = w.drewN n := by
  have q0 := c0 h
  have b0 := ok.n
  by_cases h0 : n < 0
  · have d0 : decide (n < 0) = true := decide_eq_true h0
    go_enter Try.func27, Try.ntmps27
    go_wp2
    first
      | (go_ret; exact ⟨rfl, ⟨0, rfl⟩⟩)
      | (go_quiet (fail); go_wp2; go_ret; exact ⟨rfl, _, rfl⟩)
  · have h1 : 1152921504606846976 - c.counter < n := by omega
    go_enter Try.func27, Try.ntmps27
    go_wp2
    first
      | (go_ret; exact ⟨rfl, ⟨0, rfl⟩⟩)
      | (go_quiet (fail); go_wp2; go_ret; exact ⟨rfl, _, rfl⟩)
set_option maxHeartbeats 1000000 in
theorem advance_awake (g : Nat) (c : Ck) (w : World) (h : IsCk w g c) (n : Int) (ok : c.ok) (hn : 0 ≤ n) (hn2 : c.counter + n ≤ 1152921504606846976) (ha : c.asleep = false) : Calls Try.prog 27 #[.pointer (some ⟨g, 0, none⟩), .int .i64 n] w fun e w' => e = .returned (.int .i64 0) ∧ IsCk w' g { c with counter := c.counter + n, mono := c.mono + n } ∧ w.grownBy w' (some g) := by
  have q0 := c0 h
  have q1 := c1 h
  have q2 := c2 h
  have q3 := c3 h
  have q4 := c4 h
  have q5 := c5 h
  have q6 := c6 h
  have q7 := c7 h
  have f0 := h.frozen
  have b0 := ok.n
  have b1 := ok.m
  have h1 : n ≤ 1152921504606846976 - c.counter := by omega
  go_enter Try.func27, Try.ntmps27
  go_wp2
  go_ret
  exact ⟨rfl, by simpa [IsCk, Ck.cells] using (h.set_ 0 (.int .i64 (c.counter + n))).set_ 1 (.int .i64 (c.mono + n)), only_setCell (only_setCell (World.grownBy.refl w (some g)) (.inl rfl) _) (.inl rfl) _⟩
set_option maxHeartbeats 1000000 in
theorem advance_asleep (g : Nat) (c : Ck) (w : World) (h : IsCk w g c) (n : Int) (ok : c.ok) (hn : 0 ≤ n) (hn2 : c.counter + n ≤ 1152921504606846976) (ha : c.asleep = true) : Calls Try.prog 27 #[.pointer (some ⟨g, 0, none⟩), .int .i64 n] w fun e w' => e = .returned (.int .i64 0) ∧ IsCk w' g { c with counter := c.counter + n, slept := c.slept + n } ∧ w.grownBy w' (some g) := by
  have q0 := c0 h
  have q1 := c1 h
  have q2 := c2 h
  have q3 := c3 h
  have q4 := c4 h
  have q5 := c5 h
  have q6 := c6 h
  have q7 := c7 h
  have f0 := h.frozen
  have b0 := ok.n
  have b1 := ok.s
  have h1 : n ≤ 1152921504606846976 - c.counter := by omega
  go_enter Try.func27, Try.ntmps27
  go_wp2
  go_ret
  exact ⟨rfl, by simpa [IsCk, Ck.cells] using (h.set_ 0 (.int .i64 (c.counter + n))).set_ 6 (.int .i64 (c.slept + n)), only_setCell (only_setCell (World.grownBy.refl w (some g)) (.inl rfl) _) (.inl rfl) _⟩
set_option maxHeartbeats 1000000 in
theorem suspend_awake (g : Nat) (c : Ck) (w : World) (h : IsCk w g c) (ha : c.asleep = false) : Calls Try.prog 30 #[.pointer (some ⟨g, 0, none⟩)] w fun e w' => e = .returned (.int .i64 0) ∧ IsCk w' g { c with asleep := true, slept := 0 } ∧ w.grownBy w' (some g) := by
  have q0 := c0 h
  have q1 := c1 h
  have q2 := c2 h
  have q3 := c3 h
  have q4 := c4 h
  have q5 := c5 h
  have q6 := c6 h
  have q7 := c7 h
  have f0 := h.frozen
  go_enter Try.func30, Try.ntmps30
  go_wp2
  go_ret
  exact ⟨rfl, by simpa [IsCk, Ck.cells] using (h.set_ 5 (.bool true)).set_ 6 (.int .i64 0), only_setCell (only_setCell (World.grownBy.refl w (some g)) (.inl rfl) _) (.inl rfl) _⟩
set_option maxHeartbeats 1000000 in
theorem suspend_asleep (g : Nat) (c : Ck) (w : World) (h : IsCk w g c) (ha : c.asleep = true) : Calls Try.prog 30 #[.pointer (some ⟨g, 0, none⟩)] w fun e w' => e = .returned (.int .i64 8) ∧ w = w' := by
  have q0 := c0 h
  have q1 := c1 h
  have q2 := c2 h
  have q3 := c3 h
  have q4 := c4 h
  have q5 := c5 h
  have q6 := c6 h
  have q7 := c7 h
  have f0 := h.frozen
  go_enter Try.func30, Try.ntmps30
  go_wp2
  go_ret
  exact ⟨rfl, rfl⟩
set_option maxHeartbeats 1000000 in
theorem move_same (g : Nat) (c : Ck) (w : World) (h : IsCk w g c) : Calls Try.prog 60 #[.pointer (some ⟨g, 0, none⟩), .agg #[.int .i64 c.o0, .int .i64 c.o1, .int .i64 c.o2]] w fun e w' => e = .returned (.tuple #[]) ∧ IsCk w' g c ∧ w.grownBy w' (some g) := by
  have hl := h.lt
  have q0 := c0 h
  have q1 := c1 h
  have q2 := c2 h
  have q3 := c3 h
  have q4 := c4 h
  have q5 := c5 h
  have q6 := c6 h
  have q7 := c7 h
  have f0 := h.frozen
  have hne := fun W => Arr3.neq3_same c.o0 c.o1 c.o2 W
  go_enter Try.func60, Try.ntmps60
  go_wp2
  go_quiet (fail)
  go_wp2
  go_end0
  exact ⟨rfl, (Blk.alloc h _).drewN _, only_drewN (only_alloc (World.grownBy.refl w (some g)) _) _⟩
set_option maxHeartbeats 1000000 in
theorem move_other (g : Nat) (c : Ck) (w : World) (h : IsCk w g c) (a b d : Int) (hg : 0 ≤ c.gen ∧ c.gen ≤ 4611686018427387904) (hd : ¬ (a = c.o0 ∧ b = c.o1 ∧ d = c.o2)) : Calls Try.prog 60 #[.pointer (some ⟨g, 0, none⟩), .agg #[.int .i64 a, .int .i64 b, .int .i64 d]] w fun e w' => e = .returned (.tuple #[]) ∧ IsCk w' g { c with o0 := a, o1 := b, o2 := d, gen := c.gen + 1 } ∧ w.grownBy w' (some g) := by
  have hl := h.lt
  have q0 := c0 h
  have q1 := c1 h
  have q2 := c2 h
  have q3 := c3 h
  have q4 := c4 h
  have q5 := c5 h
  have q6 := c6 h
  have q7 := c7 h
  have f0 := h.frozen
  have hne := fun W => Arr3.neq3_other a b d c.o0 c.o1 c.o2 hd W
  clear hd
  go_enter Try.func60, Try.ntmps60
  go_wp2
  go_quiet (fail)
  go_wp2
  go_end0
  refine ⟨rfl, ?_, only_setCell (only_setCell (only_setCell (only_setCell (only_drewN (only_alloc (World.grownBy.refl w (some g)) _) _) (.inl rfl) _) (.inl rfl) _) (.inl rfl) _) (.inl rfl) _⟩
  simpa [IsCk, Ck.cells] using (((((Blk.alloc h _).drewN nq).set_ 2 (.int .i64 a)).set_ 3 (.int .i64 b)).set_ 4 (.int .i64 d)).set_ 7 (.int .i64 (c.gen + 1))
/-- the offsets are others -/
def Ck.moved (c : Ck) (b d : Int) : Ck := { c with o1 := b, o2 := d, gen := if b = c.o1 ∧ d = c.o2 then c.gen else c.gen + 1 }
set_option maxHeartbeats 1000000 in
theorem move_any (g : Nat) (c : Ck) (w : World) (h : IsCk w g c) (b d : Int) (hg : 0 ≤ c.gen ∧ c.gen ≤ 4611686018427387904) : Calls Try.prog 60 #[.pointer (some ⟨g, 0, none⟩), .agg #[.int .i64 c.o0, .int .i64 b, .int .i64 d]] w fun e w' => e = .returned (.tuple #[]) ∧ IsCk w' g (c.moved b d) ∧ w.grownBy w' (some g) := by
  by_cases hs : b = c.o1 ∧ d = c.o2
  · have e : c.moved b d = c := by unfold Ck.moved; rw [if_pos hs, hs.1, hs.2]
    rw [e, hs.1, hs.2]
    exact move_same g c w h
  · have e : c.moved b d = { c with o0 := c.o0, o1 := b, o2 := d, gen := c.gen + 1 } := by unfold Ck.moved; rw [if_neg hs]
    rw [e]
    exact move_other g c w h c.o0 b d hg (fun hh => hs hh.2)
set_option maxHeartbeats 1000000 in
theorem set_bad (g : Nat) (c : Ck) (w : World) (h : IsCk w g c) (t : Int) (ht : t < 0 ∨ 1152921504606846976 < t) : Calls Try.prog 28 #[.pointer (some ⟨g, 0, none⟩), .int .i64 t] w fun e w' => e = .returned (.int .i64 2) ∧ w = w' := by
  by_cases h0 : t < 0
  all_goals
    go_enter Try.func28, Try.ntmps28
    go_wp2
    go_ret
    exact ⟨rfl, rfl⟩
set_option maxHeartbeats 1000000 in
theorem set_ok (g : Nat) (c : Ck) (w : World) (h : IsCk w g c) (t : Int) (ok : c.ok) (h0 : 0 ≤ t) (h1 : t ≤ 1152921504606846976) : Calls Try.prog 28 #[.pointer (some ⟨g, 0, none⟩), .int .i64 t] w fun e w' => e = .returned (.int .i64 0) ∧ IsCk w' g (c.moved (t - c.mono) c.o2) ∧ w.grownBy w' (some g) := by
  have hl := h.lt
  have q0 := c0 h
  have q1 := c1 h
  have q2 := c2 h
  have q3 := c3 h
  have q4 := c4 h
  have q5 := c5 h
  have q6 := c6 h
  have q7 := c7 h
  have f0 := h.frozen
  have b0 := ok.n
  have b1 := ok.m
  have b2 := ok.g
  go_enter Try.func28, Try.ntmps28
  go_wp2_with fail
  refine (move_any g c _ (by exact Blk.alloc h _) (t - c.mono) c.o2 b2).mono ?_
  rintro e w1 ⟨rfl, h1', g1⟩
  go_wp2_with fail
  go_ret
  exact ⟨rfl, h1', grown_trans (only_alloc (World.grownBy.refl w (some g)) _) g1⟩
set_option maxHeartbeats 1000000 in
theorem resume_awake (g : Nat) (c : Ck) (w : World) (h : IsCk w g c) (ha : c.asleep = false) : Calls Try.prog 31 #[.pointer (some ⟨g, 0, none⟩)] w fun e w' => e = .returned (.int .i64 8) ∧ w = w' := by
  have hl := h.lt
  have q0 := c0 h
  have q1 := c1 h
  have q2 := c2 h
  have q3 := c3 h
  have q4 := c4 h
  have q5 := c5 h
  have q6 := c6 h
  have q7 := c7 h
  have f0 := h.frozen
  go_enter Try.func31, Try.ntmps31
  go_wp2
  go_ret
  exact ⟨rfl, rfl⟩
set_option maxHeartbeats 2000000 in
theorem resume_asleep (g : Nat) (c : Ck) (w : World) (h : IsCk w g c) (ok : c.ok) (ha : c.asleep = true) : Calls Try.prog 31 #[.pointer (some ⟨g, 0, none⟩)] w fun e w' => e = .returned (.int .i64 0) ∧ IsCk w' g ({ c with asleep := false }.moved (c.o1 + c.slept) (c.o2 + c.slept)) ∧ w.grownBy w' (some g) := by
  have hl := h.lt
  have q0 := c0 h
  have q1 := c1 h
  have q2 := c2 h
  have q3 := c3 h
  have q4 := c4 h
  have q5 := c5 h
  have q6 := c6 h
  have q7 := c7 h
  have f0 := h.frozen
  have b0 := ok.n
  have b1 := ok.m
  have b2 := ok.g
  have b3 := ok.s
  have b5 : -1152921504606846976 ≤ c.o1 ∧ c.o1 ≤ 4611686018427387904 := by have := ok.r; have := this.2; split at this <;> omega
  have b6 : 0 ≤ c.o2 ∧ c.o2 ≤ 4611686018427387904 := by have := ok.b; have := this.2; split at this <;> omega
  go_enter Try.func31, Try.ntmps31
  go_upto_region 7 with fail
  go_cut [2] (fun s2 wx => s2 = .int .i64 0 ∧ IsCk wx g { c with asleep := false } ∧ Blk wx w.heap.size 68 #[.int .i64 c.o0, .int .i64 (c.o1 + c.slept), .int .i64 c.o2] ∧ w.grownBy wx (some g))
  case first =>
    go_region
    all_goals
      go_wp2_with fail
      go_meet
      refine ⟨rfl, ?_, ?_, only_drew (only_alloc (only_setCell (World.grownBy.refl w (some g)) (.inl rfl) _) _)⟩
      · simpa [IsCk, Ck.cells] using (Blk.alloc (h.set_ 5 (.bool false)) _).drew
      · have := Blk.new (w.setCell ⟨g, 5, none⟩ (.bool false)) 68 #[.int .i64 c.o0, .int .i64 (c.o1 + c.slept), .int .i64 c.o2]
        simpa using this.drew
  case rest =>
    obtain ⟨rfl, h1, hl1, g1⟩ := hcut
    have hgl : g ≠ w.heap.size := by omega
    have hLs : w.heap.size ≤ w.heap.size := Nat.le_refl _
    generalize hL : w.heap.size = L at hl1 hgl ⊢
    have hLs : w.heap.size ≤ L := by omega
    clear hL q0 q1 q2 q3 q4 q5 q6 q7 f0 h hl
    have r2 := hl1.cell 2
    have f1 := hl1.frozen
    have q6 := c6 h1
    simp only at q6
    have r2 : wc.cell? ⟨L, 2, none⟩ = some (.int .i64 c.o2) := hl1.cell 2
    go_upto_region 8 with fail
    go_cut [2] (fun s2 wx => s2 = .int .i64 0 ∧ IsCk wx g { c with asleep := false } ∧ Blk wx L 68 #[.int .i64 c.o0, .int .i64 (c.o1 + c.slept), .int .i64 (c.o2 + c.slept)] ∧ w.grownBy wx (some g))
    case first =>
      go_region
      all_goals
        go_wp2_with fail
        go_meet
        exact ⟨rfl, (Blk.far h1 hgl _).drew, by simpa using (hl1.set_ 2 (.int .i64 (c.o2 + c.slept))).drew, only_drew (only_setCell g1 (.inr hLs) _)⟩
    case rest =>
      obtain ⟨rfl, h2, hl2, g2⟩ := hcut
      have r0 : wc.cell? ⟨L, 0, none⟩ = some (.int .i64 c.o0) := hl2.cell 0
      have r1 : wc.cell? ⟨L, 1, none⟩ = some (.int .i64 (c.o1 + c.slept)) := hl2.cell 1
      have r2 : wc.cell? ⟨L, 2, none⟩ = some (.int .i64 (c.o2 + c.slept)) := hl2.cell 2
      go_wp2_with fail
      refine (move_any g { c with asleep := false } _ h2 (c.o1 + c.slept) (c.o2 + c.slept) b2).mono ?_
      rintro e w1 ⟨rfl, h3, g3⟩
      go_wp2_with fail
      go_ret
      exact ⟨rfl, h3, grown_trans g2 g3⟩
set_option maxHeartbeats 2000000 in
theorem adjust_bad (g : Nat) (c : Ck) (w : World) (h : IsCk w g c) (by_ : Int) (ok : c.ok) (hb : by_ < -2305843009213693952 ∨ 1152921504606846976 < by_) : Calls Try.prog 29 #[.pointer (some ⟨g, 0, none⟩), .int .i64 by_] w fun e w' => e = .returned (.int .i64 2) ∧ ∃ n, w' = w.drewN n := by
  by_cases h0 : by_ < -2305843009213693952
  all_goals
    go_enter Try.func29, Try.ntmps29
    go_wp2_with (go_at_call 33; refine (now_some g c 1 _ h ok (by omega)).mono ?_; rintro e w1 ⟨rfl, n1, rfl⟩)
    go_ret
    exact ⟨rfl, _, rfl⟩
set_option maxHeartbeats 2000000 in
theorem adjust_bad2 (g : Nat) (c : Ck) (w : World) (h : IsCk w g c) (by_ : Int) (ok : c.ok) (h0 : -2305843009213693952 ≤ by_) (h1 : by_ ≤ 1152921504606846976) (hb : c.mono + c.o1 + by_ < 0 ∨ 1152921504606846976 < c.mono + c.o1 + by_) : Calls Try.prog 29 #[.pointer (some ⟨g, 0, none⟩), .int .i64 by_] w fun e w' => e = .returned (.int .i64 2) ∧ ∃ n, w' = w.drewN n := by
  have b0 := ok.n
  have b1 := ok.m
  have b4 : 0 ≤ c.mono + c.o1 ∧ c.mono + c.o1 ≤ 2305843009213693952 := by have := ok.r; have h2 := this.2; have := ok.s; split at h2 <;> omega
  have eo : c.off 1 = c.o1 := rfl
  go_enter Try.func29, Try.ntmps29
  go_wp2_with (go_at_call 33; refine (now_some g c 1 _ h ok (by omega)).mono ?_; rintro e w1 ⟨rfl, n1, rfl⟩)
  refine (set_bad g c _ (h.drewN _) _ hb).mono ?_
  rintro e w2 ⟨rfl, rfl⟩
  go_wp2_with fail
  go_ret
  exact ⟨rfl, _, rfl⟩
set_option maxHeartbeats 2000000 in
theorem adjust_ok (g : Nat) (c : Ck) (w : World) (h : IsCk w g c) (by_ : Int) (ok : c.ok) (h0 : -2305843009213693952 ≤ by_) (h1 : by_ ≤ 1152921504606846976) (h2 : 0 ≤ c.mono + c.o1 + by_) (h3 : c.mono + c.o1 + by_ ≤ 1152921504606846976) : Calls Try.prog 29 #[.pointer (some ⟨g, 0, none⟩), .int .i64 by_] w fun e w' => e = .returned (.int .i64 0) ∧ IsCk w' g (c.moved (c.mono + c.o1 + by_ - c.mono) c.o2) ∧ w.grownBy w' (some g) := by
  have b0 := ok.n
  have b1 := ok.m
  have b4 : 0 ≤ c.mono + c.o1 ∧ c.mono + c.o1 ≤ 2305843009213693952 := by have := ok.r; have h2 := this.2; have := ok.s; split at h2 <;> omega
  have eo : c.off 1 = c.o1 := rfl
  go_enter Try.func29, Try.ntmps29
  go_wp2_with (go_at_call 33; refine (now_some g c 1 _ h ok (by omega)).mono ?_; rintro e w1 ⟨rfl, n1, rfl⟩)
  refine (set_ok g c _ (h.drewN _) _ ok h2 h3).mono ?_
  rintro e w2 ⟨rfl, h4, g4⟩
  go_wp2_with fail
  go_ret
  exact ⟨rfl, h4, grown_trans (only_drewN (World.grownBy.refl w (some g)) _) g4⟩
set_option maxHeartbeats 2000000 in
theorem tomono_some (g : Nat) (c : Ck) (w : World) (h : IsCk w g c) (k t : Int) (hk : k = 0 ∨ k = 1 ∨ k = 2) : Calls Try.prog 38 #[.pointer (some ⟨g, 0, none⟩), .int .i64 k, .int .i64 t] w fun e w' => e = .returned (.int .i64 (sb t (c.off k))) ∧ ∃ n, w' = w.drewN n := by
  go_enter Try.func38, Try.ntmps38
  go_wp2_with (first | (go_at_call 34; refine (offset_some g c _ h k hk).mono ?_; rintro e w1 ⟨rfl, n1, rfl⟩) | (go_at_call 62; refine (sub_any _ _ _).mono ?_; rintro e w2 ⟨rfl, rfl⟩))
  go_ret
  exact ⟨rfl, _, rfl⟩
set_option maxHeartbeats 2000000 in
theorem tomono_no (g : Nat) (k t : Int) (w : World) (hk : k < 0 ∨ 2 < k) : Calls Try.prog 38 #[.pointer (some ⟨g, 0, none⟩), .int .i64 k, .int .i64 t] w fun e w' => e = .returned (.int .i64 4611686018427387903) ∧ w = w' := by
  go_enter Try.func38, Try.ntmps38
  go_wp2_with (go_at_call 34; refine (offset_no g k _ hk).mono ?_; rintro e w1 ⟨rfl, rfl⟩)
  go_ret
  exact ⟨rfl, rfl⟩
set_option maxHeartbeats 1000000 in
theorem new_any (w : World) : Calls Try.prog 26 #[] w fun e w' => e = .returned (.pointer (some ⟨w.heap.size, 0, none⟩)) ∧ IsCk w' w.heap.size ⟨0, 0, 0, 0, 0, false, 0, 0⟩ ∧ Below w.heap.size w w' ∧ w.heap.size < w'.heap.size := by
  go_enter Try.func26, Try.ntmps26
  go_wp2
  go_ret
  exact ⟨rfl, Blk.new _ _ _, (Below.refl _ _).alloc (Nat.le_refl _) _, by simp⟩
theorem ok_new : (Ck.mk 0 0 0 0 0 false 0 0).ok := ⟨by decide, by decide, rfl, by decide, by decide, by decide, by decide⟩
theorem Ck.ok.awake {c : Ck} (ok : c.ok) (n : Int) (h0 : 0 ≤ n) (h1 : c.counter + n ≤ 1152921504606846976) (ha : c.asleep = false) : ({ c with counter := c.counter + n, mono := c.mono + n } : Ck).ok := by
  obtain ⟨b0, b1, b2, b3, b4, b5, b6⟩ := ok
  rw [ha] at b4 b5
  simp only [Bool.false_eq_true, if_false] at b4 b5
  refine ⟨?_, ?_, b2, ?_, ?_, ?_, b6⟩ <;> simp only [ha, Bool.false_eq_true, if_false] <;> omega
theorem Ck.ok.nap {c : Ck} (ok : c.ok) (n : Int) (h0 : 0 ≤ n) (h1 : c.counter + n ≤ 1152921504606846976) (ha : c.asleep = true) : ({ c with counter := c.counter + n, slept := c.slept + n } : Ck).ok := by
  obtain ⟨b0, b1, b2, b3, b4, b5, b6⟩ := ok
  rw [ha] at b4 b5
  simp only [if_true] at b4 b5
  refine ⟨?_, ?_, b2, ?_, ?_, ?_, b6⟩ <;> simp only [ha, if_true] <;> omega
theorem Ck.ok.rest {c : Ck} (ok : c.ok) (ha : c.asleep = false) : ({ c with asleep := true, slept := 0 } : Ck).ok := by
  obtain ⟨b0, b1, b2, b3, b4, b5, b6⟩ := ok
  rw [ha] at b4 b5
  simp only [Bool.false_eq_true, if_false] at b4 b5
  refine ⟨b0, b1, b2, ?_, ?_, ?_, b6⟩ <;> simp only [if_true] <;> omega
theorem Ck.ok.set {c : Ck} (ok : c.ok) (t : Int) (h0 : 0 ≤ t) (h1 : t ≤ 1152921504606846976) (hg : c.gen ≤ 1000000) : (c.moved (t - c.mono) c.o2).ok := by
  obtain ⟨b0, b1, b2, b3, b4, b5, b6⟩ := ok
  refine ⟨b0, b1, b2, b3, ?_, b5, ?_⟩
  · show 0 ≤ c.mono + (t - c.mono) ∧ c.mono + (t - c.mono) + (if c.asleep then c.slept else 0) ≤ 1152921504606846976 + c.counter
    split <;> omega
  · unfold Ck.moved; simp only; split <;> omega
theorem Ck.ok.wake {c : Ck} (ok : c.ok) (ha : c.asleep = true) (hg : c.gen ≤ 1000000) : (({ c with asleep := false } : Ck).moved (c.o1 + c.slept) (c.o2 + c.slept)).ok := by
  obtain ⟨b0, b1, b2, b3, b4, b5, b6⟩ := ok
  rw [ha] at b4 b5
  simp only [if_true] at b4 b5
  refine ⟨b0, b1, b2, b3, ?_, ?_, ?_⟩
  · show 0 ≤ c.mono + (c.o1 + c.slept) ∧ c.mono + (c.o1 + c.slept) + (if false = true then c.slept else 0) ≤ 1152921504606846976 + c.counter
    rw [if_neg (by decide)]; omega
  · show 0 ≤ c.o2 + c.slept ∧ c.mono + (c.o2 + c.slept) + (if false = true then c.slept else 0) ≤ c.counter
    rw [if_neg (by decide)]; omega
  · unfold Ck.moved; simp only; split <;> omega
end Go.Proofs.Ytdplpehphjgffaa.Ck
