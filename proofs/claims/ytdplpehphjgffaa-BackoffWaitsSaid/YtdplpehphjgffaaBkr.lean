/- The contracts of backoff.Retry. -/
import Derived.Test.YtdplpehphjgffaaBku
set_option linter.unusedVariables false
set_option linter.unusedSimpArgs false
namespace Go.Proofs.Ytdplpehphjgffaa.Bk
open Go.RowKit Go.Proofs.Ytdplpehphjgffaa.Aid Go.Proofs.Ytdplpehphjgffaa.Kt
attribute [local go_sem] max2_int min2_int max_two min_two
structure Rt where
  p : Pl
  most : Int
  n : Int
  un : Int
  over : Bool
def Rt.cells (r : Rt) : Array Value := #[.int .i64 r.p.first, .int .i64 r.p.factor, .int .i64 r.p.great, .int .i64 r.most, .int .i64 r.n, .int .i64 r.un, .bool r.over]
structure Rt.ok (r : Rt) : Prop where
  p : r.p.ok
  m : 1 ≤ r.most ∧ r.most ≤ 1000
  n : 0 ≤ r.n ∧ r.n ≤ r.most
theorem new_bad (p : Pl) (most : Int) (h : ¬ p.ok ∨ most < 1 ∨ 1000 < most) (w : World) :
    Calls Try.prog 20 #[.agg #[.int .i64 p.first, .int .i64 p.factor, .int .i64 p.great], .int .i64 most] w fun e w' => e = .returned (.pointer none) ∧ Below w.heap.size w w' := by
  by_cases hp : p.ok
  · have HO := Lib.hid hp
    have h2 : most < 1 ∨ 1000 < most := by rcases h with h | h; exact absurd hp h; exact h
    clear hp h
    rcases h2 with h2 | h2
    all_goals
      go_enter Try.func20, Try.ntmps20
      go_wp2_with fail
      refine (right_yes p HO.out _).mono ?_
      rintro e W1 ⟨rfl, b1⟩
      go_wp2_with fail
      go_ret
      exact ⟨rfl, ((Below.refl w.heap.size w).alloc (Nat.le_refl _) _).trans (b1.mono (by simp))⟩
  · have HN := Lib.hid hp
    clear hp h
    go_enter Try.func20, Try.ntmps20
    go_wp2_with fail
    refine (right_no p HN.out _).mono ?_
    rintro e W1 ⟨rfl, b1⟩
    go_wp2_with fail
    go_ret
    exact ⟨rfl, ((Below.refl w.heap.size w).alloc (Nat.le_refl _) _).trans (b1.mono (by simp))⟩
theorem new_good (p : Pl) (most : Int) (ok : p.ok) (hm : 1 ≤ most ∧ most ≤ 1000) (w : World) :
    Calls Try.prog 20 #[.agg #[.int .i64 p.first, .int .i64 p.factor, .int .i64 p.great], .int .i64 most] w fun e w' => ∃ g, e = .returned (.pointer (some ⟨g, 0, none⟩)) ∧ w.heap.size ≤ g ∧ Blk w' g 92 (Rt.cells ⟨p, most, 0, 0, false⟩) ∧ Below w.heap.size w w' := by
  have HO := Lib.hid ok
  clear ok
  go_enter Try.func20, Try.ntmps20
  go_wp2_with fail
  refine (right_yes p HO.out _).mono ?_
  rintro e W1 ⟨rfl, b1⟩
  have hb := (Blk.new w 23 p.cells).below b1 (Blk.new w 23 p.cells).lt
  have q0 : W1.cell? ⟨w.heap.size, 0, none⟩ = some (.int .i64 p.first) := hb.cell 0
  have q1 : W1.cell? ⟨w.heap.size, 1, none⟩ = some (.int .i64 p.factor) := hb.cell 1
  have q2 : W1.cell? ⟨w.heap.size, 2, none⟩ = some (.int .i64 p.great) := hb.cell 2
  go_wp2_with fail
  go_ret
  refine ⟨_, rfl, ?_, Blk.new _ _ _, ?_⟩
  · exact Nat.le_of_lt hb.lt
  · exact (((Below.refl w.heap.size w).alloc (Nat.le_refl _) _).trans (b1.mono (by simp))).alloc (Nat.le_of_lt hb.lt) _
theorem Rt.c4 {w : World} {g : Nat} {r : Rt} (h : Blk w g 92 r.cells) : w.cell? ⟨g, 4, none⟩ = some (.int .i64 r.n) := h.cell 4
theorem Rt.c5 {w : World} {g : Nat} {r : Rt} (h : Blk w g 92 r.cells) : w.cell? ⟨g, 5, none⟩ = some (.int .i64 r.un) := h.cell 5
theorem fail_nil (now : Int) (w : World) :
    Calls Try.prog 21 #[.pointer none, .int .i64 now] w fun e w' => e = .returned (.tuple #[.int .i64 0, .bool false]) ∧ w = w' := by
  go_enter Try.func21, Try.ntmps21
  go_wp2
  go_ret2
  exact ⟨rfl, rfl⟩
theorem may_nil (now : Int) (w : World) :
    Calls Try.prog 24 #[.pointer none, .int .i64 now] w fun e w' => e = .returned (.bool false) ∧ ∃ k, w' = w.drewN k := by
  go_enter Try.func24, Try.ntmps24
  go_wp2
  go_quiet ((go_at_call 58; exact quiet_left (clamp_any _ _)))
  go_wp2
  go_ret
  exact ⟨rfl, _, rfl⟩
theorem fail_full (r : Rt) (g : Nat) (now : Int) (h : r.n = r.most) (w : World) (hb : Blk w g 92 r.cells) :
    Calls Try.prog 21 #[.pointer (some ⟨g, 0, none⟩), .int .i64 now] w fun e w' => e = .returned (.tuple #[.int .i64 0, .bool false]) ∧ Blk w' g 92 ({ r with over := true } : Rt).cells ∧ w.grownBy w' (some g) := by
  have q0 : w.cell? ⟨g, 4, none⟩ = some (.int .i64 r.n) := hb.cell 4
  have q1 : w.cell? ⟨g, 3, none⟩ = some (.int .i64 r.n) := by rw [h]; exact hb.cell 3
  have q6 : w.cell? ⟨g, 6, none⟩ = some (.bool r.over) := hb.cell 6
  have f0 := hb.frozen
  have H := Lib.hid h
  clear h
  go_enter Try.func21, Try.ntmps21
  go_wp2
  go_quiet (fail)
  go_wp2
  go_ret2
  exact ⟨rfl, (hb.drewN _).set_ 6 (.bool true), only_setCell (only_drewN (World.grownBy.refl w (some g)) _) (.inl rfl) _⟩
set_option maxHeartbeats 1000000 in
theorem fail_goes (r : Rt) (g : Nat) (now : Int) (ok : r.ok) (h : r.n < r.most) (w : World) (hb : Blk w g 92 r.cells) :
    Calls Try.prog 21 #[.pointer (some ⟨g, 0, none⟩), .int .i64 now] w fun e w' => e = .returned (.tuple #[.int .i64 (ad now (wait r.p r.n)), .bool true]) ∧ Blk w' g 92 ({ r with un := ad now (wait r.p r.n), n := r.n + 1 } : Rt).cells ∧ w.grownBy w' (some g) := by
  have q0 : w.cell? ⟨g, 4, none⟩ = some (.int .i64 r.n) := hb.cell 4
  have q1 : w.cell? ⟨g, 3, none⟩ = some (.int .i64 r.most) := hb.cell 3
  have q2 : w.cell? ⟨g, 0, none⟩ = some (.int .i64 r.p.first) := hb.cell 0
  have q3 : w.cell? ⟨g, 1, none⟩ = some (.int .i64 r.p.factor) := hb.cell 1
  have q4 : w.cell? ⟨g, 2, none⟩ = some (.int .i64 r.p.great) := hb.cell 2
  have q5 : w.cell? ⟨g, 5, none⟩ = some (.int .i64 r.un) := hb.cell 5
  have f0 := hb.frozen
  have hd : (r.n == r.most) = false := by rw [beq_eq_false_iff_ne]; omega
  have hn := ok.n
  have hm := ok.m
  have HO := Lib.hid ok.p
  have hn2 : -9223372036854775808 ≤ r.n ∧ r.n ≤ 9223372036854775807 := by omega
  clear ok
  go_enter Try.func21, Try.ntmps21
  go_wp2
  go_quiet (fail)
  go_wp2
  have hb0 := hb.drewN nq
  go_cut [] (fun wx => Blk wx g 92 ({ r with un := ad now (wait r.p r.n) } : Rt).cells ∧ w.grownBy wx (some g))
  case first =>
    go_region_with (first | (go_at_call 13; refine (wait_ok _ hn2 r.p HO.out _).mono ?_; rintro e W1 ⟨rfl, b1⟩; have hb1 : Blk W1 g 92 r.cells := (by first | exact hb0.below b1 hb0.lt | exact (Blk.drew hb0).below b1 hb0.lt | exact (Blk.drewN hb0 _).below b1 hb0.lt); have q5 : W1.cell? ⟨g, 5, none⟩ = some (.int .i64 r.un) := hb1.cell 5; have f1 := hb1.frozen) | (go_at_call 57; refine (add_any _ _ _).mono ?_; rintro e W2 ⟨rfl, rfl⟩))
    all_goals
      go_wp2_with fail
      go_meet
      exact ⟨hb1.set_ 5 (.int .i64 (ad now (wait r.p r.n))), only_setCell (grown_below (by first | exact only_drewN (World.grownBy.refl w (some g)) _ | exact only_drew (only_drewN (World.grownBy.refl w (some g)) _) | exact only_drewN (only_drewN (World.grownBy.refl w (some g)) _) _) b1) (.inl rfl) _⟩
  case rest =>
    obtain ⟨hB, hG⟩ := hcut
    clear q0 q1 q2 q3 q4 q5 f0
    have q4 := Rt.c4 hB
    have q5 := Rt.c5 hB
    simp only at q4 q5
    have f0 := hB.frozen
    go_wp2
    go_ret2
    exact ⟨rfl, hB.set_ 4 (.int .i64 (r.n + 1)), only_setCell hG (.inl rfl) _⟩
set_option maxHeartbeats 1000000 in
theorem done_some (r : Rt) (g : Nat) (w : World) (hb : Blk w g 92 r.cells) :
    Calls Try.prog 23 #[.pointer (some ⟨g, 0, none⟩)] w fun e w' => e = .returned (.tuple #[]) ∧ Blk w' g 92 ({ r with n := 0, over := false } : Rt).cells ∧ w.grownBy w' (some g) := by
  have q4 : w.cell? ⟨g, 4, none⟩ = some (.int .i64 r.n) := hb.cell 4
  have q6 : w.cell? ⟨g, 6, none⟩ = some (.bool r.over) := hb.cell 6
  have f0 := hb.frozen
  go_enter Try.func23, Try.ntmps23
  go_wp2
  go_end0
  exact ⟨rfl, (hb.set_ 4 (.int .i64 0)).set_ 6 (.bool false), only_setCell (only_setCell (World.grownBy.refl w (some g)) (.inl rfl) _) (.inl rfl) _⟩
set_option maxHeartbeats 1000000 in
theorem may_some (r : Rt) (g : Nat) (now : Int) (w : World) (hb : Blk w g 92 r.cells) :
    Calls Try.prog 24 #[.pointer (some ⟨g, 0, none⟩), .int .i64 now] w fun e w' => e = .returned (.bool (!r.over && (r.n == 0 || decide (r.un ≤ cl now)))) ∧ ∃ k, w' = w.drewN k := by
  have q4 : w.cell? ⟨g, 4, none⟩ = some (.int .i64 r.n) := hb.cell 4
  have q5 : w.cell? ⟨g, 5, none⟩ = some (.int .i64 r.un) := hb.cell 5
  have q6 : w.cell? ⟨g, 6, none⟩ = some (.bool r.over) := hb.cell 6
  cases hv : r.over <;> cases hn : (r.n == 0) <;> simp only [Bool.not_true, Bool.not_false, Bool.true_and, Bool.false_and, Bool.true_or, Bool.false_or]
  all_goals
    rw [hv] at q6
    go_enter Try.func24, Try.ntmps24
    go_wp2
    go_quiet ((go_at_call 58; exact quiet_left (clamp_any _ _)))
    go_wp2
    go_ret
    exact ⟨rfl, _, rfl⟩
end Go.Proofs.Ytdplpehphjgffaa.Bk
