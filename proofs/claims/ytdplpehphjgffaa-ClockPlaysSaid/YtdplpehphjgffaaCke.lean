/- The contract of the law's own plain clock, at its other acts: it does what the clock does. No condition but the clock's own bounds. -/
import Derived.Test.YtdplpehphjgffaaCkd
set_option linter.unusedVariables false
set_option linter.unusedSimpArgs false
namespace Go.Proofs.Ytdplpehphjgffaa.Ck
open Go.RowKit Go.Proofs.Ytdplpehphjgffaa.Aid Go.Proofs.Ytdplpehphjgffaa.Kt
set_option maxHeartbeats 4000000 in
set_option maxRecDepth 100000 in
theorem plain0_bad1 (g : Nat) (c : Ck) (w : World) (h : IsPl w g c) (ok : c.ok) (kd n : Int) (hq : kd % 5 = 0) (hk : 0 ≤ kd ∧ kd ≤ 255) (hn : -9223372036854775808 ≤ n ∧ n ≤ 9223372036854775807) (hb : n < 0) :
    Calls Try.prog 32 #[.pointer (some ⟨g, 0, none⟩), .agg #[.int .u8 kd, .int .i64 n]] w fun e w' => e = .returned (.int .i64 2) ∧ IsPl w' g c ∧ w.grownBy w' (some g) := by
  have q0 := p0 h
  have q1 := p1 h
  have q2 := p2 h
  have q3 := p3 h
  have q4 := p4 h
  have q5 := p5 h
  have q6 := p6 h
  have b0 := ok.n
  have b1 := ok.m
  have bs := ok.s
  have bg := ok.g
  have b2 : 0 ≤ c.mono + c.o1 ∧ c.mono + c.o1 ≤ 2305843009213693952 := by have := ok.r; have h2 := this.2; split at h2 <;> omega
  have b3 : 0 ≤ c.mono + c.o2 ∧ c.mono + c.o2 ≤ 1152921504606846976 := by have := ok.b; have h2 := this.2; split at h2 <;> omega
  have hl := h.lt
  have f0 := h.frozen
  have hne : g ≠ w.heap.size := by omega
  have d1 : decide (n < 0) = true := decide_eq_true hb
  go_enter Try.func32, Try.ntmps32
  go_wp2
  go_quiet (fail)
  go_wp2
  go_ret
  exact ⟨rfl, (Blk.alloc h _).drewN _, only_drewN (only_alloc (World.grownBy.refl w (some g)) _) _⟩
set_option maxHeartbeats 4000000 in
set_option maxRecDepth 100000 in
theorem plain0_bad2 (g : Nat) (c : Ck) (w : World) (h : IsPl w g c) (ok : c.ok) (kd n : Int) (hq : kd % 5 = 0) (hk : 0 ≤ kd ∧ kd ≤ 255) (hn : -9223372036854775808 ≤ n ∧ n ≤ 9223372036854775807) (h0 : 0 ≤ n) (hb : 1152921504606846976 < n) :
    Calls Try.prog 32 #[.pointer (some ⟨g, 0, none⟩), .agg #[.int .u8 kd, .int .i64 n]] w fun e w' => e = .returned (.int .i64 2) ∧ IsPl w' g c ∧ w.grownBy w' (some g) := by
  have q0 := p0 h
  have q1 := p1 h
  have q2 := p2 h
  have q3 := p3 h
  have q4 := p4 h
  have q5 := p5 h
  have q6 := p6 h
  have b0 := ok.n
  have b1 := ok.m
  have bs := ok.s
  have bg := ok.g
  have b2 : 0 ≤ c.mono + c.o1 ∧ c.mono + c.o1 ≤ 2305843009213693952 := by have := ok.r; have h2 := this.2; split at h2 <;> omega
  have b3 : 0 ≤ c.mono + c.o2 ∧ c.mono + c.o2 ≤ 1152921504606846976 := by have := ok.b; have h2 := this.2; split at h2 <;> omega
  have hl := h.lt
  have f0 := h.frozen
  have hne : g ≠ w.heap.size := by omega
  have d1 : decide (n < 0) = false := decide_eq_false (by omega)
  have d2 : decide (1152921504606846976 < n) = true := decide_eq_true hb
  go_enter Try.func32, Try.ntmps32
  go_wp2
  go_quiet (fail)
  go_wp2
  go_ret
  exact ⟨rfl, (Blk.alloc h _).drewN _, only_drewN (only_alloc (World.grownBy.refl w (some g)) _) _⟩
set_option maxHeartbeats 4000000 in
set_option maxRecDepth 100000 in
theorem plain0_bad3 (g : Nat) (c : Ck) (w : World) (h : IsPl w g c) (ok : c.ok) (kd n : Int) (hq : kd % 5 = 0) (hk : 0 ≤ kd ∧ kd ≤ 255) (hn : -9223372036854775808 ≤ n ∧ n ≤ 9223372036854775807) (h0 : 0 ≤ n) (h1 : n ≤ 1152921504606846976) (hb : 1152921504606846976 < c.counter + n) :
    Calls Try.prog 32 #[.pointer (some ⟨g, 0, none⟩), .agg #[.int .u8 kd, .int .i64 n]] w fun e w' => e = .returned (.int .i64 2) ∧ IsPl w' g c ∧ w.grownBy w' (some g) := by
  have q0 := p0 h
  have q1 := p1 h
  have q2 := p2 h
  have q3 := p3 h
  have q4 := p4 h
  have q5 := p5 h
  have q6 := p6 h
  have b0 := ok.n
  have b1 := ok.m
  have bs := ok.s
  have bg := ok.g
  have b2 : 0 ≤ c.mono + c.o1 ∧ c.mono + c.o1 ≤ 2305843009213693952 := by have := ok.r; have h2 := this.2; split at h2 <;> omega
  have b3 : 0 ≤ c.mono + c.o2 ∧ c.mono + c.o2 ≤ 1152921504606846976 := by have := ok.b; have h2 := this.2; split at h2 <;> omega
  have hl := h.lt
  have f0 := h.frozen
  have hne : g ≠ w.heap.size := by omega
  have d1 : decide (n < 0) = false := decide_eq_false (by omega)
  have d2 : decide (1152921504606846976 < n) = false := decide_eq_false (by omega)
  have d3 : decide (1152921504606846976 < c.counter + n) = true := decide_eq_true hb
  go_enter Try.func32, Try.ntmps32
  go_wp2
  go_quiet (fail)
  go_wp2
  go_ret
  exact ⟨rfl, (Blk.alloc h _).drewN _, only_drewN (only_alloc (World.grownBy.refl w (some g)) _) _⟩
set_option maxHeartbeats 4000000 in
set_option maxRecDepth 100000 in
theorem plain1_bad (g : Nat) (c : Ck) (w : World) (h : IsPl w g c) (ok : c.ok) (kd n : Int) (hq : kd % 5 = 1) (hk : 0 ≤ kd ∧ kd ≤ 255) (hn : -9223372036854775808 ≤ n ∧ n ≤ 9223372036854775807) (hb : n < 0 ∨ 1152921504606846976 < n) :
    Calls Try.prog 32 #[.pointer (some ⟨g, 0, none⟩), .agg #[.int .u8 kd, .int .i64 n]] w fun e w' => e = .returned (.int .i64 2) ∧ IsPl w' g c ∧ w.grownBy w' (some g) := by
  have q0 := p0 h
  have q1 := p1 h
  have q2 := p2 h
  have q3 := p3 h
  have q4 := p4 h
  have q5 := p5 h
  have q6 := p6 h
  have b0 := ok.n
  have b1 := ok.m
  have bs := ok.s
  have bg := ok.g
  have b2 : 0 ≤ c.mono + c.o1 ∧ c.mono + c.o1 ≤ 2305843009213693952 := by have := ok.r; have h2 := this.2; split at h2 <;> omega
  have b3 : 0 ≤ c.mono + c.o2 ∧ c.mono + c.o2 ≤ 1152921504606846976 := by have := ok.b; have h2 := this.2; split at h2 <;> omega
  have hl := h.lt
  have f0 := h.frozen
  have hne : g ≠ w.heap.size := by omega
  by_cases h0 : n < 0
  all_goals
    go_enter Try.func32, Try.ntmps32
    go_wp2
    go_ret
    exact ⟨rfl, Blk.alloc h _, only_alloc (World.grownBy.refl w (some g)) _⟩
set_option maxHeartbeats 4000000 in
set_option maxRecDepth 100000 in
theorem plain1_same (g : Nat) (c : Ck) (w : World) (h : IsPl w g c) (ok : c.ok) (kd n : Int) (hq : kd % 5 = 1) (hk : 0 ≤ kd ∧ kd ≤ 255) (hn : -9223372036854775808 ≤ n ∧ n ≤ 9223372036854775807) (h0 : 0 ≤ n) (h1 : n ≤ 1152921504606846976) (hs : n = c.mono + c.o1) :
    Calls Try.prog 32 #[.pointer (some ⟨g, 0, none⟩), .agg #[.int .u8 kd, .int .i64 n]] w fun e w' => e = .returned (.int .i64 0) ∧ IsPl w' g (c.moved (n - c.mono) c.o2) ∧ w.grownBy w' (some g) := by
  have q0 := p0 h
  have q1 := p1 h
  have q2 := p2 h
  have q3 := p3 h
  have q4 := p4 h
  have q5 := p5 h
  have q6 := p6 h
  have b0 := ok.n
  have b1 := ok.m
  have bs := ok.s
  have bg := ok.g
  have b2 : 0 ≤ c.mono + c.o1 ∧ c.mono + c.o1 ≤ 2305843009213693952 := by have := ok.r; have h2 := this.2; split at h2 <;> omega
  have b3 : 0 ≤ c.mono + c.o2 ∧ c.mono + c.o2 ≤ 1152921504606846976 := by have := ok.b; have h2 := this.2; split at h2 <;> omega
  have hl := h.lt
  have f0 := h.frozen
  have hne : g ≠ w.heap.size := by omega
  have k1 : ((n : Int) != c.mono + c.o1) = false := by rw [hs]; simp
  have HS := Lib.hid hs
  clear hs
  go_enter Try.func32, Try.ntmps32
  go_wp2
  go_ret
  have e : c.moved (n - c.mono) c.o2 = c := by unfold Ck.moved; rw [if_pos ⟨by have := HS.out; omega, rfl⟩, show n - c.mono = c.o1 by (have := HS.out; omega)]
  rw [e]
  refine ⟨rfl, ?_, only_alloc (only_setCell (World.grownBy.refl w (some g)) (.inl rfl) _) _⟩
  have := Blk.alloc (Blk.set_ h 2 (.int .i64 (n))) (.cells #[.int .u8 kd, .int .i64 n] 50)
  simpa [IsPl, Ck.plain, HS.out] using this
set_option maxHeartbeats 4000000 in
set_option maxRecDepth 100000 in
theorem plain2_same (g : Nat) (c : Ck) (w : World) (h : IsPl w g c) (ok : c.ok) (kd n : Int) (hq : kd % 5 = 2) (hk : 0 ≤ kd ∧ kd ≤ 255) (hn : -9223372036854775808 ≤ n ∧ n ≤ 9223372036854775807) (h2 : -2305843009213693952 ≤ n) (h3 : n ≤ 2305843009213693952) (h0 : 0 ≤ c.mono + c.o1 + n) (h1 : c.mono + c.o1 + n ≤ 1152921504606846976) (hs : c.mono + c.o1 + n = c.mono + c.o1) :
    Calls Try.prog 32 #[.pointer (some ⟨g, 0, none⟩), .agg #[.int .u8 kd, .int .i64 n]] w fun e w' => e = .returned (.int .i64 0) ∧ IsPl w' g (c.moved ((c.mono + c.o1 + n) - c.mono) c.o2) ∧ w.grownBy w' (some g) := by
  have q0 := p0 h
  have q1 := p1 h
  have q2 := p2 h
  have q3 := p3 h
  have q4 := p4 h
  have q5 := p5 h
  have q6 := p6 h
  have b0 := ok.n
  have b1 := ok.m
  have bs := ok.s
  have bg := ok.g
  have b2 : 0 ≤ c.mono + c.o1 ∧ c.mono + c.o1 ≤ 2305843009213693952 := by have := ok.r; have h2 := this.2; split at h2 <;> omega
  have b3 : 0 ≤ c.mono + c.o2 ∧ c.mono + c.o2 ≤ 1152921504606846976 := by have := ok.b; have h2 := this.2; split at h2 <;> omega
  have hl := h.lt
  have f0 := h.frozen
  have hne : g ≠ w.heap.size := by omega
  have k1 : ((c.mono + c.o1 + n : Int) != c.mono + c.o1) = false := by rw [hs]; simp
  have HS := Lib.hid hs
  clear hs
  go_enter Try.func32, Try.ntmps32
  go_wp2
  go_quiet (fail)
  go_wp2
  go_ret
  have e : c.moved ((c.mono + c.o1 + n) - c.mono) c.o2 = c := by unfold Ck.moved; rw [if_pos ⟨by have := HS.out; omega, rfl⟩, show (c.mono + c.o1 + n) - c.mono = c.o1 by (have := HS.out; omega)]
  rw [e]
  refine ⟨rfl, ?_, only_setCell (only_drewN (only_alloc (World.grownBy.refl w (some g)) _) _) (.inl rfl) _⟩
  have := Blk.set_ ((Blk.alloc h (.cells #[.int .u8 kd, .int .i64 n] 50)).drewN nq) 2 (.int .i64 (c.mono + c.o1 + n))
  simpa [IsPl, Ck.plain, HS.out] using this
set_option maxHeartbeats 4000000 in
set_option maxRecDepth 100000 in
theorem plain1_other (g : Nat) (c : Ck) (w : World) (h : IsPl w g c) (ok : c.ok) (kd n : Int) (hq : kd % 5 = 1) (hk : 0 ≤ kd ∧ kd ≤ 255) (hn : -9223372036854775808 ≤ n ∧ n ≤ 9223372036854775807) (h0 : 0 ≤ n) (h1 : n ≤ 1152921504606846976) (hs : n ≠ c.mono + c.o1) :
    Calls Try.prog 32 #[.pointer (some ⟨g, 0, none⟩), .agg #[.int .u8 kd, .int .i64 n]] w fun e w' => e = .returned (.int .i64 0) ∧ IsPl w' g (c.moved (n - c.mono) c.o2) ∧ w.grownBy w' (some g) := by
  have q0 := p0 h
  have q1 := p1 h
  have q2 := p2 h
  have q3 := p3 h
  have q4 := p4 h
  have q5 := p5 h
  have q6 := p6 h
  have b0 := ok.n
  have b1 := ok.m
  have bs := ok.s
  have bg := ok.g
  have b2 : 0 ≤ c.mono + c.o1 ∧ c.mono + c.o1 ≤ 2305843009213693952 := by have := ok.r; have h2 := this.2; split at h2 <;> omega
  have b3 : 0 ≤ c.mono + c.o2 ∧ c.mono + c.o2 ≤ 1152921504606846976 := by have := ok.b; have h2 := this.2; split at h2 <;> omega
  have hl := h.lt
  have f0 := h.frozen
  have hne : g ≠ w.heap.size := by omega
  have k1 : ((n : Int) != c.mono + c.o1) = true := by simp; omega
  have HS := Lib.hid hs
  clear hs
  go_enter Try.func32, Try.ntmps32
  go_wp2
  go_ret
  have e : c.moved (n - c.mono) c.o2 = { c with o1 := n - c.mono, gen := c.gen + 1 } := by unfold Ck.moved; rw [if_neg (by have := HS.out; omega)]
  rw [e]
  refine ⟨rfl, ?_, only_alloc (only_setCell (only_setCell (World.grownBy.refl w (some g)) (.inl rfl) _) (.inl rfl) _) _⟩
  have := Blk.alloc ((Blk.set_ h 5 (.int .i64 (c.gen + 1))).set_ 2 (.int .i64 (n))) (.cells #[.int .u8 kd, .int .i64 n] 50)
  simpa [IsPl, Ck.plain, show c.mono + (n - c.mono) = n by omega] using this
set_option maxHeartbeats 4000000 in
set_option maxRecDepth 100000 in
theorem plain2_other (g : Nat) (c : Ck) (w : World) (h : IsPl w g c) (ok : c.ok) (kd n : Int) (hq : kd % 5 = 2) (hk : 0 ≤ kd ∧ kd ≤ 255) (hn : -9223372036854775808 ≤ n ∧ n ≤ 9223372036854775807) (h2 : -2305843009213693952 ≤ n) (h3 : n ≤ 2305843009213693952) (h0 : 0 ≤ c.mono + c.o1 + n) (h1 : c.mono + c.o1 + n ≤ 1152921504606846976) (hs : c.mono + c.o1 + n ≠ c.mono + c.o1) :
    Calls Try.prog 32 #[.pointer (some ⟨g, 0, none⟩), .agg #[.int .u8 kd, .int .i64 n]] w fun e w' => e = .returned (.int .i64 0) ∧ IsPl w' g (c.moved ((c.mono + c.o1 + n) - c.mono) c.o2) ∧ w.grownBy w' (some g) := by
  have q0 := p0 h
  have q1 := p1 h
  have q2 := p2 h
  have q3 := p3 h
  have q4 := p4 h
  have q5 := p5 h
  have q6 := p6 h
  have b0 := ok.n
  have b1 := ok.m
  have bs := ok.s
  have bg := ok.g
  have b2 : 0 ≤ c.mono + c.o1 ∧ c.mono + c.o1 ≤ 2305843009213693952 := by have := ok.r; have h2 := this.2; split at h2 <;> omega
  have b3 : 0 ≤ c.mono + c.o2 ∧ c.mono + c.o2 ≤ 1152921504606846976 := by have := ok.b; have h2 := this.2; split at h2 <;> omega
  have hl := h.lt
  have f0 := h.frozen
  have hne : g ≠ w.heap.size := by omega
  have k1 : ((c.mono + c.o1 + n : Int) != c.mono + c.o1) = true := by simp; omega
  have HS := Lib.hid hs
  clear hs
  go_enter Try.func32, Try.ntmps32
  go_wp2
  go_quiet (fail)
  go_wp2
  go_ret
  have e : c.moved ((c.mono + c.o1 + n) - c.mono) c.o2 = { c with o1 := (c.mono + c.o1 + n) - c.mono, gen := c.gen + 1 } := by unfold Ck.moved; rw [if_neg (by have := HS.out; omega)]
  rw [e]
  refine ⟨rfl, ?_, only_setCell (only_setCell (only_drewN (only_alloc (World.grownBy.refl w (some g)) _) _) (.inl rfl) _) (.inl rfl) _⟩
  have := (Blk.set_ ((Blk.alloc h (.cells #[.int .u8 kd, .int .i64 n] 50)).drewN nq) 5 (.int .i64 (c.gen + 1))).set_ 2 (.int .i64 (c.mono + c.o1 + n))
  simpa [IsPl, Ck.plain, show c.mono + ((c.mono + c.o1 + n) - c.mono) = c.mono + c.o1 + n by omega] using this
set_option maxHeartbeats 4000000 in
set_option maxRecDepth 100000 in
theorem plain2_bad1 (g : Nat) (c : Ck) (w : World) (h : IsPl w g c) (ok : c.ok) (kd n : Int) (hq : kd % 5 = 2) (hk : 0 ≤ kd ∧ kd ≤ 255) (hn : -9223372036854775808 ≤ n ∧ n ≤ 9223372036854775807) (hb : n < -2305843009213693952 ∨ 2305843009213693952 < n) :
    Calls Try.prog 32 #[.pointer (some ⟨g, 0, none⟩), .agg #[.int .u8 kd, .int .i64 n]] w fun e w' => e = .returned (.int .i64 2) ∧ IsPl w' g c ∧ w.grownBy w' (some g) := by
  have q0 := p0 h
  have q1 := p1 h
  have q2 := p2 h
  have q3 := p3 h
  have q4 := p4 h
  have q5 := p5 h
  have q6 := p6 h
  have b0 := ok.n
  have b1 := ok.m
  have bs := ok.s
  have bg := ok.g
  have b2 : 0 ≤ c.mono + c.o1 ∧ c.mono + c.o1 ≤ 2305843009213693952 := by have := ok.r; have h2 := this.2; split at h2 <;> omega
  have b3 : 0 ≤ c.mono + c.o2 ∧ c.mono + c.o2 ≤ 1152921504606846976 := by have := ok.b; have h2 := this.2; split at h2 <;> omega
  have hl := h.lt
  have f0 := h.frozen
  have hne : g ≠ w.heap.size := by omega
  by_cases h0 : n < -2305843009213693952
  all_goals
    go_enter Try.func32, Try.ntmps32
    go_wp2
    go_ret
    exact ⟨rfl, Blk.alloc h _, only_alloc (World.grownBy.refl w (some g)) _⟩
set_option maxHeartbeats 4000000 in
set_option maxRecDepth 100000 in
theorem plain2_bad2 (g : Nat) (c : Ck) (w : World) (h : IsPl w g c) (ok : c.ok) (kd n : Int) (hq : kd % 5 = 2) (hk : 0 ≤ kd ∧ kd ≤ 255) (hn : -9223372036854775808 ≤ n ∧ n ≤ 9223372036854775807) (h2 : -2305843009213693952 ≤ n) (h3 : n ≤ 2305843009213693952) (hb : c.mono + c.o1 + n < 0 ∨ 1152921504606846976 < c.mono + c.o1 + n) :
    Calls Try.prog 32 #[.pointer (some ⟨g, 0, none⟩), .agg #[.int .u8 kd, .int .i64 n]] w fun e w' => e = .returned (.int .i64 2) ∧ IsPl w' g c ∧ w.grownBy w' (some g) := by
  have q0 := p0 h
  have q1 := p1 h
  have q2 := p2 h
  have q3 := p3 h
  have q4 := p4 h
  have q5 := p5 h
  have q6 := p6 h
  have b0 := ok.n
  have b1 := ok.m
  have bs := ok.s
  have bg := ok.g
  have b2 : 0 ≤ c.mono + c.o1 ∧ c.mono + c.o1 ≤ 2305843009213693952 := by have := ok.r; have h2 := this.2; split at h2 <;> omega
  have b3 : 0 ≤ c.mono + c.o2 ∧ c.mono + c.o2 ≤ 1152921504606846976 := by have := ok.b; have h2 := this.2; split at h2 <;> omega
  have hl := h.lt
  have f0 := h.frozen
  have hne : g ≠ w.heap.size := by omega
  by_cases h0 : c.mono + c.o1 + n < 0
  all_goals
    go_enter Try.func32, Try.ntmps32
    go_wp2
    go_quiet (fail)
    go_wp2
    go_ret
    exact ⟨rfl, (Blk.alloc h _).drewN _, only_drewN (only_alloc (World.grownBy.refl w (some g)) _) _⟩
set_option maxHeartbeats 4000000 in
set_option maxRecDepth 100000 in
theorem plain3_no (g : Nat) (c : Ck) (w : World) (h : IsPl w g c) (ok : c.ok) (kd n : Int) (hq : kd % 5 = 3) (hk : 0 ≤ kd ∧ kd ≤ 255) (hn : -9223372036854775808 ≤ n ∧ n ≤ 9223372036854775807) (ha : c.asleep = true) :
    Calls Try.prog 32 #[.pointer (some ⟨g, 0, none⟩), .agg #[.int .u8 kd, .int .i64 n]] w fun e w' => e = .returned (.int .i64 8) ∧ IsPl w' g c ∧ w.grownBy w' (some g) := by
  have q0 := p0 h
  have q1 := p1 h
  have q2 := p2 h
  have q3 := p3 h
  have q4 := p4 h
  have q5 := p5 h
  have q6 := p6 h
  have b0 := ok.n
  have b1 := ok.m
  have bs := ok.s
  have bg := ok.g
  have b2 : 0 ≤ c.mono + c.o1 ∧ c.mono + c.o1 ≤ 2305843009213693952 := by have := ok.r; have h2 := this.2; split at h2 <;> omega
  have b3 : 0 ≤ c.mono + c.o2 ∧ c.mono + c.o2 ≤ 1152921504606846976 := by have := ok.b; have h2 := this.2; split at h2 <;> omega
  have hl := h.lt
  have f0 := h.frozen
  have hne : g ≠ w.heap.size := by omega
  go_enter Try.func32, Try.ntmps32
  go_wp2
  go_ret
  exact ⟨rfl, Blk.alloc h _, only_alloc (World.grownBy.refl w (some g)) _⟩
set_option maxHeartbeats 4000000 in
set_option maxRecDepth 100000 in
theorem plain3_yes (g : Nat) (c : Ck) (w : World) (h : IsPl w g c) (ok : c.ok) (kd n : Int) (hq : kd % 5 = 3) (hk : 0 ≤ kd ∧ kd ≤ 255) (hn : -9223372036854775808 ≤ n ∧ n ≤ 9223372036854775807) (ha : c.asleep = false) :
    Calls Try.prog 32 #[.pointer (some ⟨g, 0, none⟩), .agg #[.int .u8 kd, .int .i64 n]] w fun e w' => e = .returned (.int .i64 0) ∧ IsPl w' g { c with asleep := true, slept := 0 } ∧ w.grownBy w' (some g) := by
  have q0 := p0 h
  have q1 := p1 h
  have q2 := p2 h
  have q3 := p3 h
  have q4 := p4 h
  have q5 := p5 h
  have q6 := p6 h
  have b0 := ok.n
  have b1 := ok.m
  have bs := ok.s
  have bg := ok.g
  have b2 : 0 ≤ c.mono + c.o1 ∧ c.mono + c.o1 ≤ 2305843009213693952 := by have := ok.r; have h2 := this.2; split at h2 <;> omega
  have b3 : 0 ≤ c.mono + c.o2 ∧ c.mono + c.o2 ≤ 1152921504606846976 := by have := ok.b; have h2 := this.2; split at h2 <;> omega
  have hl := h.lt
  have f0 := h.frozen
  have hne : g ≠ w.heap.size := by omega
  go_enter Try.func32, Try.ntmps32
  go_wp2
  go_ret
  refine ⟨rfl, ?_, only_alloc (only_setCell (only_setCell (World.grownBy.refl w (some g)) (.inl rfl) _) (.inl rfl) _) _⟩
  simpa [IsPl, Ck.plain] using Blk.alloc ((Blk.set_ h 6 (.bool true)).set_ 4 (.int .i64 0)) (.cells #[.int .u8 kd, .int .i64 n] 50)
set_option maxHeartbeats 4000000 in
set_option maxRecDepth 100000 in
theorem plain4_no (g : Nat) (c : Ck) (w : World) (h : IsPl w g c) (ok : c.ok) (kd n : Int) (hq : kd % 5 = 4) (hk : 0 ≤ kd ∧ kd ≤ 255) (hn : -9223372036854775808 ≤ n ∧ n ≤ 9223372036854775807) (ha : c.asleep = false) :
    Calls Try.prog 32 #[.pointer (some ⟨g, 0, none⟩), .agg #[.int .u8 kd, .int .i64 n]] w fun e w' => e = .returned (.int .i64 8) ∧ IsPl w' g c ∧ w.grownBy w' (some g) := by
  have q0 := p0 h
  have q1 := p1 h
  have q2 := p2 h
  have q3 := p3 h
  have q4 := p4 h
  have q5 := p5 h
  have q6 := p6 h
  have b0 := ok.n
  have b1 := ok.m
  have bs := ok.s
  have bg := ok.g
  have b2 : 0 ≤ c.mono + c.o1 ∧ c.mono + c.o1 ≤ 2305843009213693952 := by have := ok.r; have h2 := this.2; split at h2 <;> omega
  have b3 : 0 ≤ c.mono + c.o2 ∧ c.mono + c.o2 ≤ 1152921504606846976 := by have := ok.b; have h2 := this.2; split at h2 <;> omega
  have hl := h.lt
  have f0 := h.frozen
  have hne : g ≠ w.heap.size := by omega
  go_enter Try.func32, Try.ntmps32
  go_wp2
  go_ret
  exact ⟨rfl, Blk.alloc h _, only_alloc (World.grownBy.refl w (some g)) _⟩
end Go.Proofs.Ytdplpehphjgffaa.Ck
