/- The contracts of device's methods, at an alarm that is there and at none: what each answers, and what the alarm then is. No condition but the alarm's own bounds. -/
import Derived.Test.YthginjllhlfadaaKtr
set_option linter.unusedVariables false
set_option linter.unusedSimpArgs false
namespace Go.Proofs.Ythginjllhlfadaa.Dv
open Go.RowKit Go.Proofs.Ythginjllhlfadaa.Aid Go.Proofs.Ythginjllhlfadaa.Kt
structure Dev where
  least : Int
  greatest : Int
  at_ : Int
  armed : Bool
  latched : Bool
  off : Bool
def Dev.cells (d : Dev) : Array Value := #[.int .i64 d.least, .int .i64 d.greatest, .int .i64 d.at_, .bool d.armed, .bool d.latched, .bool d.off]
/-- the alarm d lies in block g -/
structure IsDev (w : World) (g : Nat) (d : Dev) : Prop where
  blk : Blk w g 64 d.cells
  ok : 0 ≤ d.least ∧ d.least ≤ 1099511627776 ∧ 0 ≤ d.greatest ∧ d.greatest ≤ 1099511627776
section
variable {w : World} {g : Nat} {d : Dev}
theorem IsDev.c0 (h : IsDev w g d) : w.cell? ⟨g, 0, none⟩ = some (.int .i64 d.least) := h.blk.cell 0
theorem IsDev.c1 (h : IsDev w g d) : w.cell? ⟨g, 1, none⟩ = some (.int .i64 d.greatest) := h.blk.cell 1
theorem IsDev.c2 (h : IsDev w g d) : w.cell? ⟨g, 2, none⟩ = some (.int .i64 d.at_) := h.blk.cell 2
theorem IsDev.c3 (h : IsDev w g d) : w.cell? ⟨g, 3, none⟩ = some (.bool d.armed) := h.blk.cell 3
theorem IsDev.c4 (h : IsDev w g d) : w.cell? ⟨g, 4, none⟩ = some (.bool d.latched) := h.blk.cell 4
theorem IsDev.c5 (h : IsDev w g d) : w.cell? ⟨g, 5, none⟩ = some (.bool d.off) := h.blk.cell 5
theorem IsDev.drewN (h : IsDev w g d) (n : Nat) : IsDev (w.drewN n) g d := ⟨h.blk.drewN n, h.ok⟩
end
/-- when it would be armed -/
def Dev.when (d : Dev) (now t : Int) : Int := btw (ad now d.least) t (ad now d.greatest)
set_option maxHeartbeats 400000 in
theorem live_some (g : Nat) (d : Dev) (w : World) (h : IsDev w g d) : Calls Try.prog 45 #[.pointer (some ⟨g, 0, none⟩)] w fun e w' => e = .returned (.bool (!d.off)) ∧ w = w' := by
  have c5 := h.c5
  go_enter Try.func45, Try.ntmps45
  go_wp2
  go_ret
  exact ⟨rfl, rfl⟩
set_option maxHeartbeats 400000 in
theorem live_none (w : World) : Calls Try.prog 45 #[.pointer none] w fun e w' => e = .returned (.bool false) ∧ w = w' := by
  go_enter Try.func45, Try.ntmps45
  go_wp2
  go_ret
  exact ⟨rfl, rfl⟩
set_option maxHeartbeats 1000000 in
theorem when_some (g : Nat) (d : Dev) (now t : Int) (w : World) (h : IsDev w g d) : Calls Try.prog 58 #[.pointer (some ⟨g, 0, none⟩), .int .i64 now, .int .i64 t] w fun e w' => e = .returned (.int .i64 (d.when now t)) ∧ ∃ n, w' = w.drewN n := by
  have c0 := h.c0
  have c1 := h.c1
  go_enter Try.func58, Try.ntmps58
  go_wp2
  go_quiet ((first | (go_at_call 31; exact quiet_left (add_any _ _ _)) | (go_at_call 38; exact quiet_left (between_any _ _ _ _))))
  go_wp2
  go_ret
  exact ⟨rfl, _, rfl⟩
set_option maxHeartbeats 1000000 in
theorem stop_some (g : Nat) (d : Dev) (w : World) (h : IsDev w g d) : Calls Try.prog 42 #[.pointer (some ⟨g, 0, none⟩)] w fun e w' => e = .returned (.tuple #[]) ∧ IsDev w' g { d with armed := false } ∧ w.grownBy w' (some g) := by
  have hb := h.blk
  have c0 := h.c0
  have c1 := h.c1
  have c2 := h.c2
  have c3 := h.c3
  have c4 := h.c4
  have c5 := h.c5
  have f0 := h.blk.frozen
  go_enter Try.func42, Try.ntmps42
  go_wp2
  go_end0
  exact ⟨rfl, ⟨by simpa [Dev.cells] using (hb.set_ 3 (.bool false)), h.ok⟩, only_setCell (World.grownBy.refl w (some g)) (.inl rfl) _⟩
set_option maxHeartbeats 1000000 in
theorem stop_none (w : World) : Calls Try.prog 42 #[.pointer none] w fun e w' => e = .returned (.tuple #[]) ∧ w = w' := by
  go_enter Try.func42, Try.ntmps42
  go_wp2
  go_end0
  exact ⟨rfl, rfl⟩
set_option maxHeartbeats 1000000 in
theorem off_some (g : Nat) (d : Dev) (w : World) (h : IsDev w g d) : Calls Try.prog 43 #[.pointer (some ⟨g, 0, none⟩)] w fun e w' => e = .returned (.tuple #[]) ∧ IsDev w' g { d with off := true, armed := false, latched := false } ∧ w.grownBy w' (some g) := by
  have hb := h.blk
  have c0 := h.c0
  have c1 := h.c1
  have c2 := h.c2
  have c3 := h.c3
  have c4 := h.c4
  have c5 := h.c5
  have f0 := h.blk.frozen
  go_enter Try.func43, Try.ntmps43
  go_wp2
  go_end0
  exact ⟨rfl, ⟨by simpa [Dev.cells] using (((hb.set_ 5 (.bool true)).set_ 3 (.bool false)).set_ 4 (.bool false)), h.ok⟩, only_setCell (only_setCell (only_setCell (World.grownBy.refl w (some g)) (.inl rfl) _) (.inl rfl) _) (.inl rfl) _⟩
set_option maxHeartbeats 1000000 in
theorem off_none (w : World) : Calls Try.prog 43 #[.pointer none] w fun e w' => e = .returned (.tuple #[]) ∧ w = w' := by
  go_enter Try.func43, Try.ntmps43
  go_wp2
  go_end0
  exact ⟨rfl, rfl⟩
set_option maxHeartbeats 1000000 in
theorem on_some (g : Nat) (d : Dev) (w : World) (h : IsDev w g d) : Calls Try.prog 44 #[.pointer (some ⟨g, 0, none⟩)] w fun e w' => e = .returned (.tuple #[]) ∧ IsDev w' g { d with off := false } ∧ w.grownBy w' (some g) := by
  have hb := h.blk
  have c0 := h.c0
  have c1 := h.c1
  have c2 := h.c2
  have c3 := h.c3
  have c4 := h.c4
  have c5 := h.c5
  have f0 := h.blk.frozen
  go_enter Try.func44, Try.ntmps44
  go_wp2
  go_end0
  exact ⟨rfl, ⟨by simpa [Dev.cells] using (hb.set_ 5 (.bool false)), h.ok⟩, only_setCell (World.grownBy.refl w (some g)) (.inl rfl) _⟩
set_option maxHeartbeats 1000000 in
theorem on_none (w : World) : Calls Try.prog 44 #[.pointer none] w fun e w' => e = .returned (.tuple #[]) ∧ w = w' := by
  go_enter Try.func44, Try.ntmps44
  go_wp2
  go_end0
  exact ⟨rfl, rfl⟩
set_option maxHeartbeats 1000000 in
theorem latched_some (g : Nat) (d : Dev) (w : World) (h : IsDev w g d) : Calls Try.prog 26 #[.pointer (some ⟨g, 0, none⟩)] w fun e w' => e = .returned (.bool d.latched) ∧ w = w' := by
  have c4 := h.c4
  go_enter Try.func26, Try.ntmps26
  go_wp2
  go_ret
  exact ⟨rfl, rfl⟩
set_option maxHeartbeats 1000000 in
theorem latched_none (w : World) : Calls Try.prog 26 #[.pointer none] w fun e w' => e = .returned (.bool false) ∧ w = w' := by
  go_enter Try.func26, Try.ntmps26
  go_wp2
  go_ret
  exact ⟨rfl, rfl⟩
set_option maxHeartbeats 1000000 in
theorem armed_yes (g : Nat) (d : Dev) (w : World) (h : IsDev w g d) (ha : d.armed = true) : Calls Try.prog 40 #[.pointer (some ⟨g, 0, none⟩)] w fun e w' => e = .returned (.tuple #[.int .i64 d.at_, .bool true]) ∧ w = w' := by
  have hb := h.blk
  have c0 := h.c0
  have c1 := h.c1
  have c2 := h.c2
  have c3 := h.c3
  have c4 := h.c4
  have c5 := h.c5
  have f0 := h.blk.frozen
  go_enter Try.func40, Try.ntmps40
  go_wp2
  go_ret2
  exact ⟨rfl, rfl⟩
set_option maxHeartbeats 1000000 in
theorem armed_no (g : Nat) (d : Dev) (w : World) (h : IsDev w g d) (ha : d.armed = false) : Calls Try.prog 40 #[.pointer (some ⟨g, 0, none⟩)] w fun e w' => e = .returned (.tuple #[.int .i64 0, .bool false]) ∧ w = w' := by
  have hb := h.blk
  have c0 := h.c0
  have c1 := h.c1
  have c2 := h.c2
  have c3 := h.c3
  have c4 := h.c4
  have c5 := h.c5
  have f0 := h.blk.frozen
  go_enter Try.func40, Try.ntmps40
  go_wp2
  go_ret2
  exact ⟨rfl, rfl⟩
set_option maxHeartbeats 1000000 in
theorem armed_none (w : World) : Calls Try.prog 40 #[.pointer none] w fun e w' => e = .returned (.tuple #[.int .i64 0, .bool false]) ∧ w = w' := by
  go_enter Try.func40, Try.ntmps40
  go_wp2
  go_ret2
  exact ⟨rfl, rfl⟩
set_option maxHeartbeats 1000000 in
theorem take_yes (g : Nat) (d : Dev) (w : World) (h : IsDev w g d) (ha : d.latched = true) : Calls Try.prog 27 #[.pointer (some ⟨g, 0, none⟩)] w fun e w' => e = .returned (.bool true) ∧ IsDev w' g { d with latched := false } ∧ w.grownBy w' (some g) := by
  have hb := h.blk
  have c0 := h.c0
  have c1 := h.c1
  have c2 := h.c2
  have c3 := h.c3
  have c4 := h.c4
  have c5 := h.c5
  have f0 := h.blk.frozen
  go_enter Try.func27, Try.ntmps27
  go_wp2
  go_ret
  exact ⟨rfl, ⟨by simpa [Dev.cells] using (hb.set_ 4 (.bool false)), h.ok⟩, only_setCell (World.grownBy.refl w (some g)) (.inl rfl) _⟩
set_option maxHeartbeats 1000000 in
theorem take_no (g : Nat) (d : Dev) (w : World) (h : IsDev w g d) (ha : d.latched = false) : Calls Try.prog 27 #[.pointer (some ⟨g, 0, none⟩)] w fun e w' => e = .returned (.bool false) ∧ w = w' := by
  have hb := h.blk
  have c0 := h.c0
  have c1 := h.c1
  have c2 := h.c2
  have c3 := h.c3
  have c4 := h.c4
  have c5 := h.c5
  have f0 := h.blk.frozen
  go_enter Try.func27, Try.ntmps27
  go_wp2
  go_ret
  exact ⟨rfl, rfl⟩
set_option maxHeartbeats 1000000 in
theorem take_none (w : World) : Calls Try.prog 27 #[.pointer none] w fun e w' => e = .returned (.bool false) ∧ w = w' := by
  go_enter Try.func27, Try.ntmps27
  go_wp2
  go_ret
  exact ⟨rfl, rfl⟩
set_option maxHeartbeats 1000000 in
theorem pass_not (g : Nat) (d : Dev) (w : World) (h : IsDev w g d) (now : Int) (ha : d.armed = false) : Calls Try.prog 25 #[.pointer (some ⟨g, 0, none⟩), .int .i64 now] w fun e w' => e = .returned (.bool false) ∧ ∃ n, w' = w.drewN n := by
  have hb := h.blk
  have c0 := h.c0
  have c1 := h.c1
  have c2 := h.c2
  have c3 := h.c3
  have c4 := h.c4
  have c5 := h.c5
  have f0 := h.blk.frozen
  go_enter Try.func25, Try.ntmps25
  go_wp2
  go_quiet ((go_at_call 30; exact quiet_left (clamp_any _ _)))
  go_wp2
  go_ret
  exact ⟨rfl, _, rfl⟩
set_option maxHeartbeats 1000000 in
theorem pass_later (g : Nat) (d : Dev) (w : World) (h : IsDev w g d) (now : Int) (ha : d.armed = true) (hn : cl now < d.at_) : Calls Try.prog 25 #[.pointer (some ⟨g, 0, none⟩), .int .i64 now] w fun e w' => e = .returned (.bool false) ∧ ∃ n, w' = w.drewN n := by
  have hb := h.blk
  have c0 := h.c0
  have c1 := h.c1
  have c2 := h.c2
  have c3 := h.c3
  have c4 := h.c4
  have c5 := h.c5
  have f0 := h.blk.frozen
  have hd : decide (cl now < d.at_) = true := decide_eq_true hn
  go_enter Try.func25, Try.ntmps25
  go_wp2
  go_quiet ((go_at_call 30; exact quiet_left (clamp_any _ _)))
  go_wp2
  go_ret
  exact ⟨rfl, _, rfl⟩
set_option maxHeartbeats 1000000 in
theorem pass_yes (g : Nat) (d : Dev) (w : World) (h : IsDev w g d) (now : Int) (ha : d.armed = true) (hn : d.at_ ≤ cl now) : Calls Try.prog 25 #[.pointer (some ⟨g, 0, none⟩), .int .i64 now] w fun e w' => e = .returned (.bool true) ∧ IsDev w' g { d with armed := false, latched := true } ∧ w.grownBy w' (some g) := by
  have hb := h.blk
  have c0 := h.c0
  have c1 := h.c1
  have c2 := h.c2
  have c3 := h.c3
  have c4 := h.c4
  have c5 := h.c5
  have f0 := h.blk.frozen
  have hd : decide (cl now < d.at_) = false := decide_eq_false (by omega)
  go_enter Try.func25, Try.ntmps25
  go_wp2
  go_quiet ((go_at_call 30; exact quiet_left (clamp_any _ _)))
  go_wp2
  go_ret
  exact ⟨rfl, ⟨by simpa [Dev.cells] using (((hb.drewN _).set_ 3 (.bool false)).set_ 4 (.bool true)), h.ok⟩, only_setCell (only_setCell (only_drewN (World.grownBy.refl w (some g)) _) (.inl rfl) _) (.inl rfl) _⟩
set_option maxHeartbeats 1000000 in
theorem pass_none (now : Int) (w : World) : Calls Try.prog 25 #[.pointer none, .int .i64 now] w fun e w' => e = .returned (.bool false) ∧ ∃ n, w' = w.drewN n := by
  go_enter Try.func25, Try.ntmps25
  go_wp2
  go_quiet ((go_at_call 30; exact quiet_left (clamp_any _ _)))
  go_wp2
  go_ret
  exact ⟨rfl, _, rfl⟩
set_option maxHeartbeats 1000000 in
theorem program_off (g : Nat) (d : Dev) (w : World) (h : IsDev w g d) (now t : Int) (ho : d.off = true) : Calls Try.prog 24 #[.pointer (some ⟨g, 0, none⟩), .int .i64 now, .int .i64 t] w fun e w' => e = .returned (.tuple #[.int .i64 0, .bool false]) ∧ w = w' := by
  go_enter Try.func24, Try.ntmps24
  go_wp2_with ((go_at_call 45; refine (live_some g d _ h).mono ?_; rintro e w' ⟨rfl, rfl⟩))
  go_ret2
  exact ⟨rfl, rfl⟩
set_option maxHeartbeats 1000000 in
theorem program_none (now t : Int) (w : World) : Calls Try.prog 24 #[.pointer none, .int .i64 now, .int .i64 t] w fun e w' => e = .returned (.tuple #[.int .i64 0, .bool false]) ∧ w = w' := by
  go_enter Try.func24, Try.ntmps24
  go_wp2_with ((go_at_call 45; refine (live_none _).mono ?_; rintro e w' ⟨rfl, rfl⟩))
  go_ret2
  exact ⟨rfl, rfl⟩
set_option maxHeartbeats 1000000 in
theorem program_never (g : Nat) (d : Dev) (w : World) (h : IsDev w g d) (now t : Int) (ho : d.off = false) (hn : nev t = true) : Calls Try.prog 24 #[.pointer (some ⟨g, 0, none⟩), .int .i64 now, .int .i64 t] w fun e w' => e = .returned (.tuple #[.int .i64 0, .bool false]) ∧ IsDev w' g { d with armed := false } ∧ w.grownBy w' (some g) := by
  go_enter Try.func24, Try.ntmps24
  go_wp2_with (first | (go_at_call 45; refine (live_some g d _ h).mono ?_; rintro e w' ⟨rfl, rfl⟩) | (go_at_call 36; refine (never_any _ _).mono ?_; rintro e w' ⟨rfl, rfl⟩) | (go_at_call 42; refine (stop_some g d _ h).mono ?_; rintro e w1 ⟨rfl, h1, g1⟩))
  go_ret2
  exact ⟨rfl, h1, g1⟩
set_option maxHeartbeats 1000000 in
theorem program_set (g : Nat) (d : Dev) (w : World) (h : IsDev w g d) (now t : Int) (ho : d.off = false) (hn : nev t = false) : Calls Try.prog 24 #[.pointer (some ⟨g, 0, none⟩), .int .i64 now, .int .i64 t] w fun e w' => e = .returned (.tuple #[.int .i64 (d.when now t), .bool true]) ∧ IsDev w' g { d with at_ := d.when now t, armed := true } ∧ w.grownBy w' (some g) := by
  have hb := h.blk
  have c0 := h.c0
  have c1 := h.c1
  have c2 := h.c2
  have c3 := h.c3
  have c4 := h.c4
  have c5 := h.c5
  have f0 := h.blk.frozen
  go_enter Try.func24, Try.ntmps24
  go_wp2_with (first | (go_at_call 45; refine (live_some g d _ h).mono ?_; rintro e w' ⟨rfl, rfl⟩) | (go_at_call 36; refine (never_any _ _).mono ?_; rintro e w' ⟨rfl, rfl⟩) | (go_at_call 58; refine (when_some g d _ _ _ h).mono ?_; rintro e w1 ⟨rfl, n1, rfl⟩))
  go_ret2
  exact ⟨rfl, ⟨by simpa [Dev.cells] using (((hb.drewN n1).set_ 2 (.int .i64 (d.when now t))).set_ 3 (.bool true)), h.ok⟩, only_setCell (only_setCell (only_drewN (World.grownBy.refl w (some g)) _) (.inl rfl) _) (.inl rfl) _⟩
set_option maxHeartbeats 1000000 in
theorem new_bad (least greatest : Int) (w : World) (h : (least < 0 ∨ greatest < least ∨ greatest < 1 ∨ 1099511627776 < greatest)) : Calls Try.prog 23 #[.int .i64 least, .int .i64 greatest] w fun e w' => e = .returned (.pointer none) ∧ w = w' := by
  by_cases h1 : least < 0 <;> by_cases h2 : greatest < least <;> by_cases h3 : greatest < 1 <;> by_cases h4 : 1099511627776 < greatest
  all_goals first
    | (exfalso; omega; done)
    | (go_enter Try.func23, Try.ntmps23
       go_wp2
       go_ret
       exact ⟨rfl, rfl⟩)
set_option maxHeartbeats 1000000 in
theorem new_ok (least greatest : Int) (w : World) (h1 : 0 ≤ least) (h2 : least ≤ greatest) (h3 : 1 ≤ greatest) (h4 : greatest ≤ 1099511627776) : Calls Try.prog 23 #[.int .i64 least, .int .i64 greatest] w fun e w' => e = .returned (.pointer (some ⟨w.heap.size, 0, none⟩)) ∧ IsDev w' w.heap.size ⟨least, greatest, 0, false, false, false⟩ ∧ Below w.heap.size w w' ∧ w.heap.size < w'.heap.size := by
  go_enter Try.func23, Try.ntmps23
  go_wp2
  go_ret
  exact ⟨rfl, ⟨Blk.new _ _ _, by simp only; omega⟩, (Below.refl _ _).alloc (Nat.le_refl _) _, by simp⟩
set_option maxHeartbeats 1000000 in
theorem sooner_off (g : Nat) (d : Dev) (w : World) (h : IsDev w g d) (now t : Int) (ho : d.off = true) : Calls Try.prog 41 #[.pointer (some ⟨g, 0, none⟩), .int .i64 now, .int .i64 t] w fun e w' => e = .returned (.bool false) ∧ ∃ n, w' = w.drewN n := by
  have c2 := h.c2
  have c3 := h.c3
  go_enter Try.func41, Try.ntmps41
  go_wp2
  go_quiet ((first | (go_at_call 45; exact quiet_left (live_some g d _ (h.drewN _))) | (go_at_call 36; exact quiet_left (never_any _ _)) | (go_at_call 58; exact quiet_draws (when_some g d _ _ _ (h.drewN _)))))
  go_wp2
  go_ret
  exact ⟨rfl, _, rfl⟩
set_option maxHeartbeats 1000000 in
theorem sooner_never (g : Nat) (d : Dev) (w : World) (h : IsDev w g d) (now t : Int) (ho : d.off = false) (hn : nev t = true) : Calls Try.prog 41 #[.pointer (some ⟨g, 0, none⟩), .int .i64 now, .int .i64 t] w fun e w' => e = .returned (.bool false) ∧ ∃ n, w' = w.drewN n := by
  have c2 := h.c2
  have c3 := h.c3
  go_enter Try.func41, Try.ntmps41
  go_wp2
  go_quiet ((first | (go_at_call 45; exact quiet_left (live_some g d _ (h.drewN _))) | (go_at_call 36; exact quiet_left (never_any _ _)) | (go_at_call 58; exact quiet_draws (when_some g d _ _ _ (h.drewN _)))))
  go_wp2
  go_ret
  exact ⟨rfl, _, rfl⟩
set_option maxHeartbeats 1000000 in
theorem sooner_not (g : Nat) (d : Dev) (w : World) (h : IsDev w g d) (now t : Int) (ho : d.off = false) (hn : nev t = false) (ha : d.armed = true) (hw : d.at_ ≤ d.when now t) : Calls Try.prog 41 #[.pointer (some ⟨g, 0, none⟩), .int .i64 now, .int .i64 t] w fun e w' => e = .returned (.bool false) ∧ ∃ n, w' = w.drewN n := by
  have c2 := h.c2
  have c3 := h.c3
  have hd : decide (d.at_ ≤ d.when now t) = true := decide_eq_true hw
  go_enter Try.func41, Try.ntmps41
  go_wp2
  go_quiet ((first | (go_at_call 45; exact quiet_left (live_some g d _ (h.drewN _))) | (go_at_call 36; exact quiet_left (never_any _ _)) | (go_at_call 58; exact quiet_draws (when_some g d _ _ _ (h.drewN _)))))
  go_wp2
  go_ret
  exact ⟨rfl, _, rfl⟩
set_option maxHeartbeats 1000000 in
theorem sooner_free (g : Nat) (d : Dev) (w : World) (h : IsDev w g d) (now t : Int) (ho : d.off = false) (hn : nev t = false) (ha : d.armed = false) : Calls Try.prog 41 #[.pointer (some ⟨g, 0, none⟩), .int .i64 now, .int .i64 t] w fun e w' => e = .returned (.bool true) ∧ IsDev w' g { d with at_ := d.when now t, armed := true } ∧ w.grownBy w' (some g) := by
  have c2 := h.c2
  have c3 := h.c3
  go_enter Try.func41, Try.ntmps41
  go_wp2
  go_quiet ((first | (go_at_call 45; exact quiet_left (live_some g d _ (h.drewN _))) | (go_at_call 36; exact quiet_left (never_any _ _)) | (go_at_call 58; exact quiet_draws (when_some g d _ _ _ (h.drewN _)))))
  go_wp2_with ((go_at_call 24; refine (program_set g d _ (h.drewN _) _ _ ho hn).mono ?_; rintro e w1 ⟨rfl, h1, g1⟩))
  go_ret
  exact ⟨rfl, h1, ⟨g1.os, g1.tape, g1.output, g1.size, g1.block⟩⟩
set_option maxHeartbeats 1000000 in
theorem sooner_yes (g : Nat) (d : Dev) (w : World) (h : IsDev w g d) (now t : Int) (ho : d.off = false) (hn : nev t = false) (ha : d.armed = true) (hw : d.when now t < d.at_) : Calls Try.prog 41 #[.pointer (some ⟨g, 0, none⟩), .int .i64 now, .int .i64 t] w fun e w' => e = .returned (.bool true) ∧ IsDev w' g { d with at_ := d.when now t, armed := true } ∧ w.grownBy w' (some g) := by
  have c2 := h.c2
  have c3 := h.c3
  have hd : decide (d.at_ ≤ d.when now t) = false := decide_eq_false (by omega)
  go_enter Try.func41, Try.ntmps41
  go_wp2
  go_quiet ((first | (go_at_call 45; exact quiet_left (live_some g d _ (h.drewN _))) | (go_at_call 36; exact quiet_left (never_any _ _)) | (go_at_call 58; exact quiet_draws (when_some g d _ _ _ (h.drewN _)))))
  go_wp2_with ((go_at_call 24; refine (program_set g d _ (h.drewN _) _ _ ho hn).mono ?_; rintro e w1 ⟨rfl, h1, g1⟩))
  go_ret
  exact ⟨rfl, h1, ⟨g1.os, g1.tape, g1.output, g1.size, g1.block⟩⟩
end Go.Proofs.Ythginjllhlfadaa.Dv
