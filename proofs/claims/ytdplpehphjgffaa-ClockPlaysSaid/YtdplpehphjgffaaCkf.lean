/- The contract of the law's own plain clock, whatever is done: it does what the clock does. No condition but the clock's own bounds. -/
import Derived.Test.YtdplpehphjgffaaCke
set_option linter.unusedVariables false
set_option linter.unusedSimpArgs false
namespace Go.Proofs.Ytdplpehphjgffaa.Ck
open Go.RowKit Go.Proofs.Ytdplpehphjgffaa.Aid Go.Proofs.Ytdplpehphjgffaa.Kt
set_option maxHeartbeats 4000000 in
set_option maxRecDepth 100000 in
theorem plain4_some (g : Nat) (c : Ck) (w : World) (h : IsPl w g c) (ok : c.ok) (kd n : Int) (hq : kd % 5 = 4) (hk : 0 ≤ kd ∧ kd ≤ 255) (hn : -9223372036854775808 ≤ n ∧ n ≤ 9223372036854775807) (ha : c.asleep = true) (hs : 0 < c.slept) :
    Calls Try.prog 32 #[.pointer (some ⟨g, 0, none⟩), .agg #[.int .u8 kd, .int .i64 n]] w fun e w' => e = .returned (.int .i64 0) ∧ IsPl w' g (({ c with asleep := false } : Ck).moved (c.o1 + c.slept) (c.o2 + c.slept)) ∧ w.grownBy w' (some g) := by
  have q0 := p0 h
  have q1 := p1 h
  have q2 := p2 h
  have q3 := p3 h
  have q4 := p4 h
  have q5 := p5 h
  have q6 := p6 h
  have b0 := ok.n
  have b1 := ok.m
  have bs := ok.s
  have bg := ok.g
  have b2 : 0 ≤ c.mono + c.o1 ∧ c.mono + c.o1 ≤ 2305843009213693952 := by have := ok.r; have h2 := this.2; split at h2 <;> omega
  have b3 : 0 ≤ c.mono + c.o2 ∧ c.mono + c.o2 ≤ 1152921504606846976 := by have := ok.b; have h2 := this.2; split at h2 <;> omega
  have hl := h.lt
  have f0 := h.frozen
  have hne : g ≠ w.heap.size := by omega
  go_enter Try.func32, Try.ntmps32
  go_upto_region 31 with fail
  have hw : ∃ W, W = (((w.setCell ⟨g, 6, none⟩ (.bool false)).setCell ⟨g, 5, none⟩ (.int .i64 (c.gen + 1))).alloc (.cells #[.int .u8 kd, .int .i64 n] 50)) ∧ Blk W g 48 #[.int .i64 c.counter, .int .i64 c.mono, .int .i64 (c.mono + c.o1), .int .i64 (c.mono + c.o2), .int .i64 c.slept, .int .i64 (c.gen + 1), .bool false] ∧ w.grownBy W (some g) := ⟨_, rfl, by simpa [Ck.plain] using Blk.alloc ((Blk.set_ h 6 (.bool false)).set_ 5 (.int .i64 (c.gen + 1))) (.cells #[.int .u8 kd, .int .i64 n] 50), only_alloc (only_setCell (only_setCell (World.grownBy.refl w (some g)) (.inl rfl) _) (.inl rfl) _) _⟩
  obtain ⟨W, eW, h2, g2⟩ := hw
  rw [← eW]
  clear eW q0 q1 q2 q3 q4 q5 q6 f0 hl hne h
  have q2 : W.cell? ⟨g, 2, none⟩ = some (.int .i64 (c.mono + c.o1)) := h2.cell 2
  have q3 : W.cell? ⟨g, 3, none⟩ = some (.int .i64 (c.mono + c.o2)) := h2.cell 3
  have q4 : W.cell? ⟨g, 4, none⟩ = some (.int .i64 c.slept) := h2.cell 4
  have f0 := h2.frozen
  go_region
  all_goals
    go_wp2_with fail
    go_ret
    refine ⟨rfl, ?_, only_drew (only_setCell (only_setCell g2 (.inl rfl) _) (.inl rfl) _)⟩
    have e : ({ c with asleep := false } : Ck).moved (c.o1 + c.slept) (c.o2 + c.slept) = { c with asleep := false, o1 := c.o1 + c.slept, o2 := c.o2 + c.slept, gen := c.gen + 1 } := by unfold Ck.moved; simp only; rw [if_neg (by omega)]
    rw [e]
    have := ((h2.set_ 2 (.int .i64 (c.mono + c.o1 + c.slept))).set_ 3 (.int .i64 (c.mono + c.o2 + c.slept))).drew
    simpa [IsPl, Ck.plain, show c.mono + (c.o1 + c.slept) = c.mono + c.o1 + c.slept by omega, show c.mono + (c.o2 + c.slept) = c.mono + c.o2 + c.slept by omega] using this
set_option maxHeartbeats 4000000 in
set_option maxRecDepth 100000 in
theorem plain4_none (g : Nat) (c : Ck) (w : World) (h : IsPl w g c) (ok : c.ok) (kd n : Int) (hq : kd % 5 = 4) (hk : 0 ≤ kd ∧ kd ≤ 255) (hn : -9223372036854775808 ≤ n ∧ n ≤ 9223372036854775807) (ha : c.asleep = true) (hs : c.slept = 0) :
    Calls Try.prog 32 #[.pointer (some ⟨g, 0, none⟩), .agg #[.int .u8 kd, .int .i64 n]] w fun e w' => e = .returned (.int .i64 0) ∧ IsPl w' g (({ c with asleep := false } : Ck).moved (c.o1 + c.slept) (c.o2 + c.slept)) ∧ w.grownBy w' (some g) := by
  have q0 := p0 h
  have q1 := p1 h
  have q2 := p2 h
  have q3 := p3 h
  have q4 := p4 h
  have q5 := p5 h
  have q6 := p6 h
  have b0 := ok.n
  have b1 := ok.m
  have bs := ok.s
  have bg := ok.g
  have b2 : 0 ≤ c.mono + c.o1 ∧ c.mono + c.o1 ≤ 2305843009213693952 := by have := ok.r; have h2 := this.2; split at h2 <;> omega
  have b3 : 0 ≤ c.mono + c.o2 ∧ c.mono + c.o2 ≤ 1152921504606846976 := by have := ok.b; have h2 := this.2; split at h2 <;> omega
  have hl := h.lt
  have f0 := h.frozen
  have hne : g ≠ w.heap.size := by omega
  have HS := Lib.hid hs
  have hs2 : c.slept ≤ 0 := by omega
  clear hs
  go_enter Try.func32, Try.ntmps32
  go_upto_region 31 with fail
  have hw : ∃ W, W = ((w.setCell ⟨g, 6, none⟩ (.bool false)).alloc (.cells #[.int .u8 kd, .int .i64 n] 50)) ∧ Blk W g 48 #[.int .i64 c.counter, .int .i64 c.mono, .int .i64 (c.mono + c.o1), .int .i64 (c.mono + c.o2), .int .i64 c.slept, .int .i64 (c.gen), .bool false] ∧ w.grownBy W (some g) := ⟨_, rfl, by simpa [Ck.plain] using Blk.alloc (Blk.set_ h 6 (.bool false)) (.cells #[.int .u8 kd, .int .i64 n] 50), only_alloc (only_setCell (World.grownBy.refl w (some g)) (.inl rfl) _) _⟩
  obtain ⟨W, eW, h2, g2⟩ := hw
  rw [← eW]
  clear eW q0 q1 q2 q3 q4 q5 q6 f0 hl hne h
  have q2 : W.cell? ⟨g, 2, none⟩ = some (.int .i64 (c.mono + c.o1)) := h2.cell 2
  have q3 : W.cell? ⟨g, 3, none⟩ = some (.int .i64 (c.mono + c.o2)) := h2.cell 3
  have q4 : W.cell? ⟨g, 4, none⟩ = some (.int .i64 c.slept) := h2.cell 4
  have f0 := h2.frozen
  go_region
  all_goals
    go_wp2_with fail
    go_ret
    refine ⟨rfl, ?_, only_drew (only_setCell (only_setCell g2 (.inl rfl) _) (.inl rfl) _)⟩
    have e : ({ c with asleep := false } : Ck).moved (c.o1 + c.slept) (c.o2 + c.slept) = { c with asleep := false, o1 := c.o1 + c.slept, o2 := c.o2 + c.slept, gen := c.gen } := by unfold Ck.moved; simp only; rw [if_pos (by have := HS.out; omega)]
    rw [e]
    have := ((h2.set_ 2 (.int .i64 (c.mono + c.o1 + c.slept))).set_ 3 (.int .i64 (c.mono + c.o2 + c.slept))).drew
    simpa [IsPl, Ck.plain, show c.mono + (c.o1 + c.slept) = c.mono + c.o1 + c.slept by omega, show c.mono + (c.o2 + c.slept) = c.mono + c.o2 + c.slept by omega] using this
theorem plain_do (g : Nat) (c : Ck) (w : World) (h : IsPl w g c) (ok : c.ok) (kd n : Int) (hk : 0 ≤ kd ∧ kd ≤ 255) (hn : -9223372036854775808 ≤ n ∧ n ≤ 9223372036854775807) (q : Int) (hq : kd % 5 = q) :
    Calls Try.prog 32 #[.pointer (some ⟨g, 0, none⟩), .agg #[.int .u8 kd, .int .i64 n]] w fun e w' => e = .returned (.int .i64 (c.err q n)) ∧ IsPl w' g (c.act q n) ∧ w.grownBy w' (some g) := by
  have h5 : q = 0 ∨ q = 1 ∨ q = 2 ∨ q = 3 ∨ q = 4 := by omega
  rcases h5 with rfl | rfl | rfl | rfl | rfl
  · rw [Ck.err0, Ck.act0]
    by_cases hb : n < 0 ∨ 1152921504606846976 < c.counter + n
    · rw [if_pos hb, if_pos hb]
      by_cases h0 : n < 0
      · exact plain0_bad1 g c w h ok kd n hq hk hn h0
      by_cases h1 : 1152921504606846976 < n
      · exact plain0_bad2 g c w h ok kd n hq hk hn (by omega) h1
      · exact plain0_bad3 g c w h ok kd n hq hk hn (by omega) (by omega) (by omega)
    · rw [if_neg hb, if_neg hb]
      by_cases ha : c.asleep = true
      · rw [if_pos ha]; exact plain0_asleep g c w h ok kd n hq hk (by omega) (by omega) ha
      · rw [if_neg ha]; exact plain0_awake g c w h ok kd n hq hk (by omega) (by omega) (by simpa using ha)
  · rw [Ck.err1, Ck.act1]
    by_cases hb : n < 0 ∨ 1152921504606846976 < n
    · rw [if_pos hb, if_pos hb]; exact plain1_bad g c w h ok kd n hq hk hn hb
    · rw [if_neg hb, if_neg hb]
      by_cases hs : n = c.mono + c.o1
      · exact plain1_same g c w h ok kd n hq hk hn (by omega) (by omega) hs
      · exact plain1_other g c w h ok kd n hq hk hn (by omega) (by omega) hs
  · rw [Ck.err2, Ck.act2]
    have hr := ok.r.1
    by_cases hb : n < -2305843009213693952 ∨ 1152921504606846976 < n
    · rw [if_pos hb, if_pos hb]
      by_cases h0 : n < -2305843009213693952 ∨ 2305843009213693952 < n
      · exact plain2_bad1 g c w h ok kd n hq hk hn h0
      · exact plain2_bad2 g c w h ok kd n hq hk hn (by omega) (by omega) (by omega)
    rw [if_neg hb, if_neg hb]
    by_cases hc : c.mono + c.o1 + n < 0 ∨ 1152921504606846976 < c.mono + c.o1 + n
    · rw [if_pos hc, if_pos hc]; exact plain2_bad2 g c w h ok kd n hq hk hn (by omega) (by omega) hc
    · rw [if_neg hc, if_neg hc]
      by_cases hs : c.mono + c.o1 + n = c.mono + c.o1
      · exact plain2_same g c w h ok kd n hq hk hn (by omega) (by omega) (by omega) (by omega) hs
      · exact plain2_other g c w h ok kd n hq hk hn (by omega) (by omega) (by omega) (by omega) hs
  · rw [Ck.err3, Ck.act3]
    by_cases ha : c.asleep = true
    · rw [if_pos ha, if_pos ha]; exact plain3_no g c w h ok kd n hq hk hn ha
    · rw [if_neg ha, if_neg ha]; exact plain3_yes g c w h ok kd n hq hk hn (by simpa using ha)
  · rw [Ck.err4, Ck.act4]
    by_cases ha : c.asleep = true
    · rw [if_pos ha, if_pos ha]
      by_cases hs : 0 < c.slept
      · exact plain4_some g c w h ok kd n hq hk hn ha hs
      · exact plain4_none g c w h ok kd n hq hk hn ha (by have := ok.s.1; omega)
    · rw [if_neg ha, if_neg ha]; exact plain4_no g c w h ok kd n hq hk hn (by simpa using ha)
end Go.Proofs.Ytdplpehphjgffaa.Ck
