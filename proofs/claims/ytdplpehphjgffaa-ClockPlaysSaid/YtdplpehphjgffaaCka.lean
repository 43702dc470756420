/- What an act does to a clock, told at once for each kind of act; the fixed facts of layer 11 hold. No condition but the clock's own bounds. -/
import Derived.Test.YtdplpehphjgffaaCk
import Derived.Test.YtdplpehphjgffaaLeaf
set_option linter.unusedVariables false
set_option linter.unusedSimpArgs false
set_option linter.unusedSectionVars false
namespace Go.Proofs.Ytdplpehphjgffaa.Ck
open Go.RowKit Go.Proofs.Ytdplpehphjgffaa.Aid Go.Proofs.Ytdplpehphjgffaa.Kt
/-- what it comes to -/
def Ck.err (c : Ck) (q n : Int) : Int :=
  if q = 0 then (if n < 0 ∨ 1152921504606846976 < c.counter + n then 2 else 0)
  else if q = 1 then (if n < 0 ∨ 1152921504606846976 < n then 2 else 0)
  else if q = 2 then (if n < -2305843009213693952 ∨ 1152921504606846976 < n then 2 else if c.mono + c.o1 + n < 0 ∨ 1152921504606846976 < c.mono + c.o1 + n then 2 else 0)
  else if q = 3 then (if c.asleep = true then 8 else 0)
  else (if c.asleep = true then 0 else 8)
/-- what the clock then is -/
def Ck.act (c : Ck) (q n : Int) : Ck :=
  if q = 0 then (if n < 0 ∨ 1152921504606846976 < c.counter + n then c else if c.asleep = true then { c with counter := c.counter + n, slept := c.slept + n } else { c with counter := c.counter + n, mono := c.mono + n })
  else if q = 1 then (if n < 0 ∨ 1152921504606846976 < n then c else c.moved (n - c.mono) c.o2)
  else if q = 2 then (if n < -2305843009213693952 ∨ 1152921504606846976 < n then c else if c.mono + c.o1 + n < 0 ∨ 1152921504606846976 < c.mono + c.o1 + n then c else c.moved (c.mono + c.o1 + n - c.mono) c.o2)
  else if q = 3 then (if c.asleep = true then c else { c with asleep := true, slept := 0 })
  else (if c.asleep = true then ({ c with asleep := false } : Ck).moved (c.o1 + c.slept) (c.o2 + c.slept) else c)
theorem Ck.act_ok {c : Ck} (ok : c.ok) (hg : c.gen ≤ 1000000) (q n : Int) : (c.act q n).ok := by
  unfold Ck.act
  by_cases q0 : q = 0
  · rw [if_pos q0]
    by_cases h : n < 0 ∨ 1152921504606846976 < c.counter + n
    · rw [if_pos h]; exact ok
    · rw [if_neg h]
      cases ha : c.asleep
      · rw [if_neg (by decide)]; rw [← ha]; exact ok.awake n (by omega) (by omega) ha
      · rw [if_pos rfl]; rw [← ha]; exact ok.nap n (by omega) (by omega) ha
  rw [if_neg q0]
  by_cases q1 : q = 1
  · rw [if_pos q1]
    by_cases h : n < 0 ∨ 1152921504606846976 < n
    · rw [if_pos h]; exact ok
    · rw [if_neg h]; exact ok.set n (by omega) (by omega) hg
  rw [if_neg q1]
  by_cases q2 : q = 2
  · rw [if_pos q2]
    by_cases h : n < -2305843009213693952 ∨ 1152921504606846976 < n
    · rw [if_pos h]; exact ok
    rw [if_neg h]
    by_cases h' : c.mono + c.o1 + n < 0 ∨ 1152921504606846976 < c.mono + c.o1 + n
    · rw [if_pos h']; exact ok
    · rw [if_neg h']; exact ok.set _ (by omega) (by omega) hg
  rw [if_neg q2]
  by_cases q3 : q = 3
  · rw [if_pos q3]
    by_cases ha : c.asleep = true
    · rw [if_pos ha]; exact ok
    · rw [if_neg ha]; exact ok.rest (by simpa using ha)
  rw [if_neg q3]
  by_cases ha : c.asleep = true
  · rw [if_pos ha]; exact ok.wake ha hg
  · rw [if_neg ha]; exact ok
theorem Ck.moved_gen (c : Ck) (b d : Int) : c.gen ≤ (c.moved b d).gen ∧ (c.moved b d).gen ≤ c.gen + 1 := by unfold Ck.moved; simp only; split <;> omega
/-- MONO AND BOOT never go back; steps of Real leave both alone -/
theorem Ck.act_goes {c : Ck} (ok : c.ok) (q n : Int) : (c.act q n).gen ≤ c.gen + 1 ∧ c.mono ≤ (c.act q n).mono ∧ c.mono + c.o2 ≤ (c.act q n).mono + (c.act q n).o2 ∧ (q = 1 ∨ q = 2 → (c.act q n).mono = c.mono ∧ (c.act q n).o2 = c.o2) := by
  have hs := ok.s
  unfold Ck.act
  by_cases q0 : q = 0
  · rw [if_pos q0]
    by_cases h : n < 0 ∨ 1152921504606846976 < c.counter + n
    · rw [if_pos h]; exact ⟨by omega, by omega, by omega, fun _ => ⟨rfl, rfl⟩⟩
    · rw [if_neg h]
      by_cases ha : c.asleep = true
      · rw [if_pos ha]; exact ⟨by simp; try omega, by simp; try omega, by simp; try omega, by simp⟩
      · rw [if_neg ha]; simp only; exact ⟨by omega, by omega, by omega, fun _ => by omega⟩
  rw [if_neg q0]
  by_cases q1 : q = 1
  · rw [if_pos q1]
    by_cases h : n < 0 ∨ 1152921504606846976 < n
    · rw [if_pos h]; exact ⟨by omega, by omega, by omega, fun _ => ⟨rfl, rfl⟩⟩
    · rw [if_neg h]; exact ⟨(c.moved_gen _ _).2, Int.le_refl _, Int.le_refl _, fun _ => ⟨rfl, rfl⟩⟩
  rw [if_neg q1]
  by_cases q2 : q = 2
  · rw [if_pos q2]
    by_cases h : n < -2305843009213693952 ∨ 1152921504606846976 < n
    · rw [if_pos h]; exact ⟨by omega, by omega, by omega, fun _ => ⟨rfl, rfl⟩⟩
    rw [if_neg h]
    by_cases h' : c.mono + c.o1 + n < 0 ∨ 1152921504606846976 < c.mono + c.o1 + n
    · rw [if_pos h']; exact ⟨by omega, by omega, by omega, fun _ => ⟨rfl, rfl⟩⟩
    · rw [if_neg h']; exact ⟨(c.moved_gen _ _).2, Int.le_refl _, Int.le_refl _, fun _ => ⟨rfl, rfl⟩⟩
  rw [if_neg q2]
  by_cases q3 : q = 3
  · rw [if_pos q3]
    by_cases ha : c.asleep = true
    · rw [if_pos ha]; exact ⟨by omega, by omega, by omega, fun _ => ⟨rfl, rfl⟩⟩
    · rw [if_neg ha]; exact ⟨by simp; try omega, by simp; try omega, by simp; try omega, by simp⟩
  rw [if_neg q3]
  by_cases ha : c.asleep = true
  · rw [if_pos ha]
    refine ⟨(Ck.moved_gen _ _ _).2, Int.le_refl _, ?_, fun h => by omega⟩
    show c.mono + c.o2 ≤ c.mono + (c.o2 + c.slept)
    omega
  · rw [if_neg ha]; exact ⟨by omega, by omega, by omega, fun _ => ⟨rfl, rfl⟩⟩
theorem Ck.err0 (c : Ck) (n : Int) : c.err 0 n = if n < 0 ∨ 1152921504606846976 < c.counter + n then 2 else 0 := rfl
theorem Ck.err1 (c : Ck) (n : Int) : c.err 1 n = if n < 0 ∨ 1152921504606846976 < n then 2 else 0 := rfl
theorem Ck.err2 (c : Ck) (n : Int) : c.err 2 n = if n < -2305843009213693952 ∨ 1152921504606846976 < n then 2 else if c.mono + c.o1 + n < 0 ∨ 1152921504606846976 < c.mono + c.o1 + n then 2 else 0 := rfl
theorem Ck.err3 (c : Ck) (n : Int) : c.err 3 n = if c.asleep = true then 8 else 0 := rfl
theorem Ck.err4 (c : Ck) (n : Int) : c.err 4 n = if c.asleep = true then 0 else 8 := rfl
theorem Ck.act0 (c : Ck) (n : Int) : c.act 0 n = if n < 0 ∨ 1152921504606846976 < c.counter + n then c else if c.asleep = true then { c with counter := c.counter + n, slept := c.slept + n } else { c with counter := c.counter + n, mono := c.mono + n } := rfl
theorem Ck.act1 (c : Ck) (n : Int) : c.act 1 n = if n < 0 ∨ 1152921504606846976 < n then c else c.moved (n - c.mono) c.o2 := rfl
theorem Ck.act2 (c : Ck) (n : Int) : c.act 2 n = if n < -2305843009213693952 ∨ 1152921504606846976 < n then c else if c.mono + c.o1 + n < 0 ∨ 1152921504606846976 < c.mono + c.o1 + n then c else c.moved (c.mono + c.o1 + n - c.mono) c.o2 := rfl
theorem Ck.act3 (c : Ck) (n : Int) : c.act 3 n = if c.asleep = true then c else { c with asleep := true, slept := 0 } := rfl
theorem Ck.act4 (c : Ck) (n : Int) : c.act 4 n = if c.asleep = true then ({ c with asleep := false } : Ck).moved (c.o1 + c.slept) (c.o2 + c.slept) else c := rfl
theorem grown_drew {w : World} {g : Nat} (n : Nat) : w.grownBy (w.drewN n) (some g) := only_drewN (World.grownBy.refl w (some g)) n
section
variable (g : Nat) (c : Ck) (w : World) (h : IsCk w g c) (ok : c.ok) (n : Int)
include h ok
theorem do_advance : Calls Try.prog 27 #[.pointer (some ⟨g, 0, none⟩), .int .i64 n] w fun e w' => e = .returned (.int .i64 (c.err 0 n)) ∧ IsCk w' g (c.act 0 n) ∧ w.grownBy w' (some g) := by
  rw [Ck.err0, Ck.act0]
  by_cases hb : n < 0 ∨ 1152921504606846976 < c.counter + n
  · rw [if_pos hb, if_pos hb]
    exact (advance_bad g c w h n ok hb).mono fun e w' ⟨he, m, hm⟩ => ⟨he, by rw [hm]; exact h.drewN m, by rw [hm]; exact grown_drew m⟩
  · rw [if_neg hb, if_neg hb]
    by_cases ha : c.asleep = true
    · rw [if_pos ha]; exact advance_asleep g c w h n ok (by omega) (by omega) ha
    · rw [if_neg ha]; exact advance_awake g c w h n ok (by omega) (by omega) (by simpa using ha)
theorem do_set : Calls Try.prog 28 #[.pointer (some ⟨g, 0, none⟩), .int .i64 n] w fun e w' => e = .returned (.int .i64 (c.err 1 n)) ∧ IsCk w' g (c.act 1 n) ∧ w.grownBy w' (some g) := by
  rw [Ck.err1, Ck.act1]
  by_cases hb : n < 0 ∨ 1152921504606846976 < n
  · rw [if_pos hb, if_pos hb]
    exact (set_bad g c w h n hb).mono fun e w' ⟨he, hm⟩ => ⟨he, by rw [← hm]; exact h, by rw [← hm]; exact World.grownBy.refl _ _⟩
  · rw [if_neg hb, if_neg hb]
    exact set_ok g c w h n ok (by omega) (by omega)
theorem do_adjust : Calls Try.prog 29 #[.pointer (some ⟨g, 0, none⟩), .int .i64 n] w fun e w' => e = .returned (.int .i64 (c.err 2 n)) ∧ IsCk w' g (c.act 2 n) ∧ w.grownBy w' (some g) := by
  rw [Ck.err2, Ck.act2]
  by_cases hb : n < -2305843009213693952 ∨ 1152921504606846976 < n
  · rw [if_pos hb, if_pos hb]
    exact (adjust_bad g c w h n ok hb).mono fun e w' ⟨he, m, hm⟩ => ⟨he, by rw [hm]; exact h.drewN m, by rw [hm]; exact grown_drew m⟩
  rw [if_neg hb, if_neg hb]
  by_cases hc : c.mono + c.o1 + n < 0 ∨ 1152921504606846976 < c.mono + c.o1 + n
  · rw [if_pos hc, if_pos hc]
    exact (adjust_bad2 g c w h n ok (by omega) (by omega) hc).mono fun e w' ⟨he, m, hm⟩ => ⟨he, by rw [hm]; exact h.drewN m, by rw [hm]; exact grown_drew m⟩
  · rw [if_neg hc, if_neg hc]
    exact adjust_ok g c w h n ok (by omega) (by omega) (by omega) (by omega)
theorem do_suspend : Calls Try.prog 30 #[.pointer (some ⟨g, 0, none⟩)] w fun e w' => e = .returned (.int .i64 (c.err 3 n)) ∧ IsCk w' g (c.act 3 n) ∧ w.grownBy w' (some g) := by
  rw [Ck.err3, Ck.act3]
  by_cases ha : c.asleep = true
  · rw [if_pos ha, if_pos ha]
    exact (suspend_asleep g c w h ha).mono fun e w' ⟨he, hm⟩ => ⟨he, by rw [← hm]; exact h, by rw [← hm]; exact World.grownBy.refl _ _⟩
  · rw [if_neg ha, if_neg ha]; exact suspend_awake g c w h (by simpa using ha)
theorem do_resume : Calls Try.prog 31 #[.pointer (some ⟨g, 0, none⟩)] w fun e w' => e = .returned (.int .i64 (c.err 4 n)) ∧ IsCk w' g (c.act 4 n) ∧ w.grownBy w' (some g) := by
  rw [Ck.err4, Ck.act4]
  by_cases ha : c.asleep = true
  · rw [if_pos ha, if_pos ha]; exact resume_asleep g c w h ok ha
  · rw [if_neg ha, if_neg ha]
    exact (resume_awake g c w h (by simpa using ha)).mono fun e w' ⟨he, hm⟩ => ⟨he, by rw [← hm]; exact h, by rw [← hm]; exact World.grownBy.refl _ _⟩
end
set_option maxHeartbeats 2000000 in
set_option maxRecDepth 100000 in
theorem fixed_any (w : World) : Calls Try.prog 25 #[] w fun e w' => e = .returned (.bool true) ∧ Below w.heap.size w w' := by
  have O0 := Lib.hid ok_new
  have O1 : Hid (Ck.mk 5 5 0 0 0 false 0 0).ok := Lib.hid ⟨by decide, by decide, rfl, by decide, by decide, by decide, by decide⟩
  have O2 : Hid (Ck.mk 5 5 0 95 0 false 0 1).ok := Lib.hid ⟨by decide, by decide, rfl, by decide, by decide, by decide, by decide⟩
  have O3 : Hid (Ck.mk 10 10 0 95 0 false 0 1).ok := Lib.hid ⟨by decide, by decide, rfl, by decide, by decide, by decide, by decide⟩
  have O4 : Hid (Ck.mk 10 10 0 95 0 true 0 1).ok := Lib.hid ⟨by decide, by decide, rfl, by decide, by decide, by decide, by decide⟩
  have O5 : Hid (Ck.mk 17 10 0 95 0 true 7 1).ok := Lib.hid ⟨by decide, by decide, rfl, by decide, by decide, by decide, by decide⟩
  have O6 : Hid (Ck.mk 17 10 0 102 7 false 7 2).ok := Lib.hid ⟨by decide, by decide, rfl, by decide, by decide, by decide, by decide⟩
  have s10 : sb 112 102 = 10 := by decide
  go_enter Try.func25, Try.ntmps25
  go_wp2_with fail
  refine (new_any _).mono ?_
  rintro e w1 ⟨rfl, h1, b1, z1⟩
  go_wp2_with fail
  refine (do_advance _ _ _ h1 O0.out 5).mono ?_
  rintro e w2 ⟨rfl, h2, g2⟩
  replace h2 : IsCk w2 w.heap.size ⟨5, 5, 0, 0, 0, false, 0, 0⟩ := h2
  have v2 : (Ck.mk 0 0 0 0 0 false 0 0).err 0 5 = 0 := by decide
  go_wp2_with fail
  refine (do_set _ _ _ h2 O1.out 100).mono ?_
  rintro e w3 ⟨rfl, h3, g3⟩
  replace h3 : IsCk w3 w.heap.size ⟨5, 5, 0, 95, 0, false, 0, 1⟩ := h3
  have v3 : (Ck.mk 5 5 0 0 0 false 0 0).err 1 100 = 0 := by decide
  go_wp2_with fail
  refine (do_advance _ _ _ h3 O2.out 5).mono ?_
  rintro e w4 ⟨rfl, h4, g4⟩
  replace h4 : IsCk w4 w.heap.size ⟨10, 10, 0, 95, 0, false, 0, 1⟩ := h4
  have v4 : (Ck.mk 5 5 0 95 0 false 0 1).err 0 5 = 0 := by decide
  go_wp2_with fail
  refine (now_some _ _ 0 _ h4 O3.out (by omega)).mono ?_
  rintro e w5 ⟨rfl, n5, rfl⟩
  have v5 : (10 : Int) + (Ck.mk 10 10 0 95 0 false 0 1).off 0 = 10 := by decide
  simp only [v5]
  go_wp2_with fail
  refine (now_some _ _ 1 _ (Blk.drewN h4 _) O3.out (by omega)).mono ?_
  rintro e w6 ⟨rfl, n6, rfl⟩
  have v6 : (10 : Int) + (Ck.mk 10 10 0 95 0 false 0 1).off 1 = 105 := by decide
  simp only [v6]
  go_wp2_with fail
  refine (do_suspend _ _ _ (Blk.drewN h4 _) O3.out 0).mono ?_
  rintro e w7 ⟨rfl, h7, g7⟩
  replace h7 : IsCk w7 w.heap.size ⟨10, 10, 0, 95, 0, true, 0, 1⟩ := h7
  have v7 : (Ck.mk 10 10 0 95 0 false 0 1).err 3 0 = 0 := by decide
  go_wp2_with fail
  refine (do_advance _ _ _ h7 O4.out 7).mono ?_
  rintro e w8 ⟨rfl, h8, g8⟩
  replace h8 : IsCk w8 w.heap.size ⟨17, 10, 0, 95, 0, true, 7, 1⟩ := h8
  go_wp2_with fail
  refine (do_resume _ _ _ h8 O5.out 0).mono ?_
  rintro e w9 ⟨rfl, h9, g9⟩
  replace h9 : IsCk w9 w.heap.size ⟨17, 10, 0, 102, 7, false, 7, 2⟩ := h9
  have v9 : (Ck.mk 17 10 0 95 0 true 7 1).err 4 0 = 0 := by decide
  go_wp2_with fail
  refine (now_some _ _ 2 _ h9 O6.out (by omega)).mono ?_
  rintro e w10 ⟨rfl, n10, rfl⟩
  have v10 : (10 : Int) + (Ck.mk 17 10 0 102 7 false 7 2).off 2 = 17 := by decide
  simp only [v10]
  go_wp2_with fail
  refine (now_no _ 3 _ (by omega)).mono ?_
  rintro e w11 ⟨rfl, rfl⟩
  go_wp2_with fail
  refine (generation_some _ _ _ (Blk.drewN h9 _)).mono ?_
  rintro e w12 ⟨rfl, rfl⟩
  go_wp2_with fail
  refine (counter_some _ _ _ (Blk.drewN h9 _)).mono ?_
  rintro e w13 ⟨rfl, rfl⟩
  go_wp2_with fail
  refine (tomono_some _ _ _ (Blk.drewN h9 _) 1 112 (by omega)).mono ?_
  rintro e w14 ⟨rfl, n14, rfl⟩
  have v14 : (Ck.mk 17 10 0 102 7 false 7 2).off 1 = 102 := by decide
  simp only [v14, s10]
  go_wp2_with fail
  refine (resume_awake _ _ _ (Blk.drewN h9 _) rfl).mono ?_
  rintro e w15 ⟨rfl, rfl⟩
  go_wp2_with fail
  refine (advance_none 1 _).mono ?_
  rintro e w16 ⟨rfl, rfl⟩
  go_wp2_with fail
  refine (suspended_none _).mono ?_
  rintro e w17 ⟨rfl, rfl⟩
  go_wp2_with fail
  go_ret
  refine ⟨rfl, ?_⟩
  have B4 := below_grown (below_grown (below_grown b1 g2 (Nat.le_refl _)) g3 (Nat.le_refl _)) g4 (Nat.le_refl _)
  have B6 := below_drewN (below_drewN B4 n5) n6
  have B9 := below_grown (below_grown (below_grown B6 (by simpa using g7) (Nat.le_refl _)) g8 (Nat.le_refl _)) g9 (Nat.le_refl _)
  simpa using below_drewN (below_drewN B9 n10) n14
end Go.Proofs.Ytdplpehphjgffaa.Ck
