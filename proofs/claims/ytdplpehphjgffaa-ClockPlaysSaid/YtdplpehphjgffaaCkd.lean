/- The contract of the law's own plain clock: it does what the clock does. No condition but the clock's own bounds. -/
import Derived.Test.YtdplpehphjgffaaCkg
import Derived.BigRegion
set_option linter.unusedVariables false
set_option linter.unusedSimpArgs false
namespace Go.Proofs.Ytdplpehphjgffaa.Ck
open Go.RowKit Go.Proofs.Ytdplpehphjgffaa.Aid Go.Proofs.Ytdplpehphjgffaa.Kt
def Ck.plain (c : Ck) : Array Value := #[.int .i64 c.counter, .int .i64 c.mono, .int .i64 (c.mono + c.o1), .int .i64 (c.mono + c.o2), .int .i64 c.slept, .int .i64 c.gen, .bool c.asleep]
abbrev IsPl (w : World) (g : Nat) (c : Ck) : Prop := Blk w g 48 c.plain
section
variable {w : World} {g : Nat} {c : Ck}
theorem p0 (h : IsPl w g c) : w.cell? ⟨g, 0, none⟩ = some (.int .i64 c.counter) := h.cell 0
theorem p1 (h : IsPl w g c) : w.cell? ⟨g, 1, none⟩ = some (.int .i64 c.mono) := h.cell 1
theorem p2 (h : IsPl w g c) : w.cell? ⟨g, 2, none⟩ = some (.int .i64 (c.mono + c.o1)) := h.cell 2
theorem p3 (h : IsPl w g c) : w.cell? ⟨g, 3, none⟩ = some (.int .i64 (c.mono + c.o2)) := h.cell 3
theorem p4 (h : IsPl w g c) : w.cell? ⟨g, 4, none⟩ = some (.int .i64 c.slept) := h.cell 4
theorem p5 (h : IsPl w g c) : w.cell? ⟨g, 5, none⟩ = some (.int .i64 c.gen) := h.cell 5
theorem p6 (h : IsPl w g c) : w.cell? ⟨g, 6, none⟩ = some (.bool c.asleep) := h.cell 6
end
set_option maxHeartbeats 4000000 in
set_option maxRecDepth 100000 in
theorem plain0_awake (g : Nat) (c : Ck) (w : World) (h : IsPl w g c) (ok : c.ok) (kd n : Int) (hq : kd % 5 = 0) (hk : 0 ≤ kd ∧ kd ≤ 255) (hn : 0 ≤ n) (hn2 : c.counter + n ≤ 1152921504606846976) (ha : c.asleep = false) :
    Calls Try.prog 32 #[.pointer (some ⟨g, 0, none⟩), .agg #[.int .u8 kd, .int .i64 n]] w fun e w' => e = .returned (.int .i64 0) ∧ IsPl w' g { c with counter := c.counter + n, mono := c.mono + n } ∧ w.grownBy w' (some g) := by
  have q0 := p0 h
  have q1 := p1 h
  have q2 := p2 h
  have q3 := p3 h
  have q6 := p6 h
  have b0 := ok.n
  have b1 := ok.m
  have b2 : 0 ≤ c.mono + c.o1 ∧ c.mono + c.o1 ≤ 2305843009213693952 := by have := ok.r; have h2 := this.2; have := ok.s; split at h2 <;> omega
  have b3 : 0 ≤ c.mono + c.o2 ∧ c.mono + c.o2 ≤ 1152921504606846976 := by have := ok.b; have h2 := this.2; have := ok.s; split at h2 <;> omega
  have hl := h.lt
  have f0 := h.frozen
  have hne : g ≠ w.heap.size := by omega
  have d1 : decide (n < 0) = false := decide_eq_false (by omega)
  have d2 : decide (1152921504606846976 < n) = false := decide_eq_false (by omega)
  have d3 : decide (1152921504606846976 < c.counter + n) = false := decide_eq_false (by omega)
  go_enter Try.func32, Try.ntmps32
  go_wp2
  go_quiet (fail)
  go_wp2
  have hb := Blk.new w 50 #[.int .u8 kd, .int .i64 n]
  have h1 := Blk.drewN (Blk.alloc h (.cells #[.int .u8 kd, .int .i64 n] 50)) nq
  have g1 := only_drewN (only_alloc (World.grownBy.refl w (some g)) (.cells #[.int .u8 kd, .int .i64 n] 50)) nq
  have hb1 := hb.drewN nq
  have hLs : w.heap.size ≤ w.heap.size := Nat.le_refl _
  generalize (w.alloc (.cells #[.int .u8 kd, .int .i64 n] 50)).drewN nq = W at h1 g1 hb1 ⊢
  generalize hL : w.heap.size = L at hb1 hne ⊢
  clear q0 q1 q2 q3 q6 f0 hb hl h hL hLs
  have q0 := p0 h1
  have r1 : W.cell? ⟨L, 1, none⟩ = some (.int .i64 n) := hb1.cell 1
  have f0 := h1.frozen
  go_cut [4] (fun s4 wx => s4 = .int .i64 0 ∧ Blk wx g 48 #[.int .i64 (c.counter + n), .int .i64 c.mono, .int .i64 (c.mono + c.o1), .int .i64 (c.mono + c.o2), .int .i64 c.slept, .int .i64 c.gen, .bool c.asleep] ∧ Blk wx L 50 #[.int .u8 kd, .int .i64 n] ∧ w.grownBy wx (some g))
  case first =>
    go_region
    all_goals
      go_wp2_with fail
      go_meet
      exact ⟨rfl, by simpa [Ck.plain] using (h1.set_ 0 (.int .i64 (c.counter + n))).drew, (Blk.far hb1 (by simpa using hne.symm) _).drew, only_drew (only_setCell g1 (.inl rfl) _)⟩
  case rest =>
    obtain ⟨rfl, h2, hb2, g2⟩ := hcut
    clear q0 r1 f0 h1 hb1 g1
    have q6 : wc.cell? ⟨g, 6, none⟩ = some (.bool c.asleep) := h2.cell 6
    have q1 : wc.cell? ⟨g, 1, none⟩ = some (.int .i64 c.mono) := h2.cell 1
    have q2 : wc.cell? ⟨g, 2, none⟩ = some (.int .i64 (c.mono + c.o1)) := h2.cell 2
    have q3 : wc.cell? ⟨g, 3, none⟩ = some (.int .i64 (c.mono + c.o2)) := h2.cell 3
    have r1 : wc.cell? ⟨L, 1, none⟩ = some (.int .i64 n) := hb2.cell 1
    have f0 := h2.frozen
    go_wp2_with fail
    go_region
    all_goals
      go_wp2_with fail
      go_ret
      refine ⟨rfl, ?_, only_drew (only_setCell (only_setCell (only_setCell g2 (.inl rfl) _) (.inl rfl) _) (.inl rfl) _)⟩
      have e1 : c.mono + n + c.o1 = c.mono + c.o1 + n := by omega
      have e2 : c.mono + n + c.o2 = c.mono + c.o2 + n := by omega
      have := (((h2.set_ 1 (.int .i64 (c.mono + n))).set_ 2 (.int .i64 (c.mono + c.o1 + n))).set_ 3 (.int .i64 (c.mono + c.o2 + n))).drew
      simpa [IsPl, Ck.plain, e1, e2] using this
set_option maxHeartbeats 4000000 in
set_option maxRecDepth 100000 in
theorem plain0_asleep (g : Nat) (c : Ck) (w : World) (h : IsPl w g c) (ok : c.ok) (kd n : Int) (hq : kd % 5 = 0) (hk : 0 ≤ kd ∧ kd ≤ 255) (hn : 0 ≤ n) (hn2 : c.counter + n ≤ 1152921504606846976) (ha : c.asleep = true) :
    Calls Try.prog 32 #[.pointer (some ⟨g, 0, none⟩), .agg #[.int .u8 kd, .int .i64 n]] w fun e w' => e = .returned (.int .i64 0) ∧ IsPl w' g { c with counter := c.counter + n, slept := c.slept + n } ∧ w.grownBy w' (some g) := by
  have q0 := p0 h
  have q4 := p4 h
  have q6 := p6 h
  have b0 := ok.n
  have bs := ok.s
  have b1 := ok.m
  have b2 : 0 ≤ c.mono + c.o1 ∧ c.mono + c.o1 ≤ 2305843009213693952 := by have := ok.r; have h2 := this.2; have := ok.s; split at h2 <;> omega
  have b3 : 0 ≤ c.mono + c.o2 ∧ c.mono + c.o2 ≤ 1152921504606846976 := by have := ok.b; have h2 := this.2; have := ok.s; split at h2 <;> omega
  have hl := h.lt
  have f0 := h.frozen
  have hne : g ≠ w.heap.size := by omega
  have d1 : decide (n < 0) = false := decide_eq_false (by omega)
  have d2 : decide (1152921504606846976 < n) = false := decide_eq_false (by omega)
  have d3 : decide (1152921504606846976 < c.counter + n) = false := decide_eq_false (by omega)
  go_enter Try.func32, Try.ntmps32
  go_wp2
  go_quiet (fail)
  go_wp2
  have hb := Blk.new w 50 #[.int .u8 kd, .int .i64 n]
  have h1 := Blk.drewN (Blk.alloc h (.cells #[.int .u8 kd, .int .i64 n] 50)) nq
  have g1 := only_drewN (only_alloc (World.grownBy.refl w (some g)) (.cells #[.int .u8 kd, .int .i64 n] 50)) nq
  have hb1 := hb.drewN nq
  have hLs : w.heap.size ≤ w.heap.size := Nat.le_refl _
  generalize (w.alloc (.cells #[.int .u8 kd, .int .i64 n] 50)).drewN nq = W at h1 g1 hb1 ⊢
  generalize hL : w.heap.size = L at hb1 hne ⊢
  clear q0 q4 q6 f0 hb hl h hL hLs
  have q0 := p0 h1
  have r1 : W.cell? ⟨L, 1, none⟩ = some (.int .i64 n) := hb1.cell 1
  have f0 := h1.frozen
  go_cut [4] (fun s4 wx => s4 = .int .i64 0 ∧ Blk wx g 48 #[.int .i64 (c.counter + n), .int .i64 c.mono, .int .i64 (c.mono + c.o1), .int .i64 (c.mono + c.o2), .int .i64 c.slept, .int .i64 c.gen, .bool c.asleep] ∧ Blk wx L 50 #[.int .u8 kd, .int .i64 n] ∧ w.grownBy wx (some g))
  case first =>
    go_region
    all_goals
      go_wp2_with fail
      go_meet
      exact ⟨rfl, by simpa [Ck.plain] using (h1.set_ 0 (.int .i64 (c.counter + n))).drew, (Blk.far hb1 (by simpa using hne.symm) _).drew, only_drew (only_setCell g1 (.inl rfl) _)⟩
  case rest =>
    obtain ⟨rfl, h2, hb2, g2⟩ := hcut
    clear q0 r1 f0 h1 hb1 g1
    have q6 : wc.cell? ⟨g, 6, none⟩ = some (.bool c.asleep) := h2.cell 6
    have q4 : wc.cell? ⟨g, 4, none⟩ = some (.int .i64 c.slept) := h2.cell 4
    have r1 : wc.cell? ⟨L, 1, none⟩ = some (.int .i64 n) := hb2.cell 1
    have f0 := h2.frozen
    go_wp2_with fail
    go_region
    all_goals
      go_wp2_with fail
      go_ret
      exact ⟨rfl, by simpa [IsPl, Ck.plain] using (h2.set_ 4 (.int .i64 (c.slept + n))).drew, only_drew (only_setCell g2 (.inl rfl) _)⟩
end Go.Proofs.Ytdplpehphjgffaa.Ck
