/- The contracts of tickless's methods, at a ticker that is there and at none: what each answers, and what the ticker then is. No condition but the ticker's own bounds. -/
import Derived.Test.YthginjllhlfadaaFwd
set_option linter.unusedVariables false
set_option linter.unusedSimpArgs false
namespace Go.Proofs.Ythginjllhlfadaa.Tk
open Go.RowKit Go.Proofs.Ythginjllhlfadaa.Aid Go.Proofs.Ythginjllhlfadaa.Kt Go.Proofs.Ythginjllhlfadaa.Fw
attribute [local go_sem] max2_int min2_int max_two min_two
structure Tk where
  period : Int
  now : Int
  stopped : Bool
  seen : Int
  came : Int
  left : Int
def Tk.cells (t : Tk) : Array Value := #[.int .i64 t.period, .int .i64 t.now, .bool t.stopped, .int .i64 t.seen, .int .i64 t.came, .int .i64 t.left]
structure Tk.ok (t : Tk) : Prop where
  p : 1 ≤ t.period ∧ t.period ≤ 1099511627776
  n : 0 ≤ t.now ∧ t.now ≤ 1152921504606846976
  s : t.seen = t.now / t.period + 1
  c : 0 ≤ t.came ∧ 0 ≤ t.left ∧ t.came + t.left = t.seen
abbrev IsTk (w : World) (g : Nat) (t : Tk) : Prop := Blk w g 69 t.cells
section
variable {w : World} {g : Nat} {t : Tk}
theorem c0 (h : IsTk w g t) : w.cell? ⟨g, 0, none⟩ = some (.int .i64 t.period) := h.cell 0
theorem c1 (h : IsTk w g t) : w.cell? ⟨g, 1, none⟩ = some (.int .i64 t.now) := h.cell 1
theorem c2 (h : IsTk w g t) : w.cell? ⟨g, 2, none⟩ = some (.bool t.stopped) := h.cell 2
theorem c3 (h : IsTk w g t) : w.cell? ⟨g, 3, none⟩ = some (.int .i64 t.seen) := h.cell 3
theorem c4 (h : IsTk w g t) : w.cell? ⟨g, 4, none⟩ = some (.int .i64 t.came) := h.cell 4
theorem c5 (h : IsTk w g t) : w.cell? ⟨g, 5, none⟩ = some (.int .i64 t.left) := h.cell 5
end
def upTo (n now : Int) : Int := if (if now < 0 then 0 else if 1152921504606846976 < now then 1152921504606846976 else now) > n then (if now < 0 then 0 else if 1152921504606846976 < now then 1152921504606846976 else now) else n
theorem upTo_bd (n now : Int) (h : 0 ≤ n ∧ n ≤ 1152921504606846976) : n ≤ upTo n now ∧ upTo n now ≤ 1152921504606846976 := by unfold upTo; omega
theorem cnt_div (p n : Int) (hp : 1 ≤ p ∧ p ≤ 1099511627776) (hn : 0 ≤ n ∧ n ≤ 1152921504606846976) : cnt (cl 0) (per p) n = n / p + 1 := by
  have e1 : cl 0 = 0 := by decide
  have e2 : per p = p := by unfold per cl; omega
  have e3 : lim n = n := by unfold lim cl; omega
  rw [e1, e2]
  unfold cnt
  rw [e3, if_neg (by omega), if_neg (by omega), Int.sub_zero]
theorem div_bd (p n : Int) (hp : 1 ≤ p) (hn : 0 ≤ n) : 0 ≤ n / p ∧ n / p ≤ n := ediv_bd hn (by omega)
theorem Tk.ok.bd {t : Tk} (h : t.ok) : 1 ≤ t.seen ∧ t.seen ≤ 1152921504606846977 := by
  have := div_bd t.period t.now h.p.1 h.n.1
  have h1 := h.s
  have h2 := h.n
  omega
theorem Tk.ok.le {t : Tk} (h : t.ok) (now : Int) : t.seen ≤ upTo t.now now / t.period + 1 ∧ upTo t.now now / t.period + 1 ≤ 1152921504606846977 := by
  have h1 := upTo_bd t.now now h.n
  have h2 := div_bd t.period (upTo t.now now) h.p.1 (by have := h.n; omega)
  have h3 : t.now / t.period ≤ upTo t.now now / t.period := Int.ediv_le_ediv (by have := h.p; omega) h1.1
  have h4 := h.s
  omega
set_option maxHeartbeats 2000000 in
theorem reach_any (g : Nat) (t : Tk) (now : Int) (w : World) (h : IsTk w g t) (ok : t.ok) : Calls Try.prog 62 #[.pointer (some ⟨g, 0, none⟩), .int .i64 now] w fun e w' =>
    e = .returned (.int .i64 (upTo t.now now / t.period + 1 - t.seen)) ∧ IsTk w' g { t with now := upTo t.now now, seen := upTo t.now now / t.period + 1 } ∧ w.grownBy w' (some g) := by
  have hu := upTo_bd t.now now ok.n
  have hn := ok.n
  have hp := ok.p
  have hle := ok.le now
  have hbd := ok.bd
  have q0 := c0 h
  have q1 := c1 h
  have q3 := c3 h
  have f0 := h.frozen
  have hgl := h.lt
  go_enter Try.func62, Try.ntmps62
  go_upto_region 1 with fail
  go_cut [4] (fun s4 wx => s4 = .int .i64 0 ∧ wx = w.setCell ⟨g, 1, none⟩ (.int .i64 (upTo t.now now)))
  case first =>
    go_wp2_with fail
    all_goals
      go_meet
      exact ⟨rfl, congrArg (fun n => w.setCell ⟨g, 1, none⟩ (.int .i64 n)) (by unfold upTo; omega)⟩
  case rest =>
    obtain ⟨rfl, rfl⟩ := hcut
    have h1 : IsTk (w.setCell ⟨g, 1, none⟩ (.int .i64 (upTo t.now now))) g { t with now := upTo t.now now } := by simpa [IsTk, Tk.cells] using h.set_ 1 (.int .i64 (upTo t.now now))
    have g1 : w.grownBy (w.setCell ⟨g, 1, none⟩ (.int .i64 (upTo t.now now))) (some g) := only_setCell (World.grownBy.refl w (some g)) (.inl rfl) _
    generalize w.setCell ⟨g, 1, none⟩ (.int .i64 (upTo t.now now)) = w1 at h1 g1 ⊢
    clear q0 q1 q3 f0 h
    have q0 := c0 h1
    have q1 := c1 h1
    simp only at q0 q1
    go_upto_region 2 with fail
    go_cut [5] (fun s5 wx => s5 = .int .i64 (upTo t.now now / t.period + 1) ∧ IsTk wx g { t with now := upTo t.now now } ∧ w.grownBy wx (some g))
    case first =>
      go_region_with (go_at_call 17; refine (Count_any _ _ _ _).mono ?_; rintro e w2 ⟨rfl, b2⟩)
      all_goals
        go_wp2_with fail
        go_meet
        exact ⟨congrArg (Value.int .i64) (cnt_div _ _ hp (by omega)), (Blk.drew h1).below b2 h1.lt, grown_below (only_drew g1) b2⟩
    case rest =>
      obtain ⟨rfl, h2, g2⟩ := hcut
      have q3 := c3 h2
      have f0 := h2.frozen
      simp only at q3
      go_wp2_with fail
      go_ret
      exact ⟨rfl, by simpa [IsTk, Tk.cells] using h2.set_ 3 (.int .i64 (upTo t.now now / t.period + 1)), only_setCell g2 (.inl rfl) _⟩
set_option maxHeartbeats 1000000 in
theorem running_some (g : Nat) (t : Tk) (w : World) (h : IsTk w g t) : Calls Try.prog 49 #[.pointer (some ⟨g, 0, none⟩)] w fun e w' => e = .returned (.bool (!t.stopped)) ∧ w = w' := by
  have q2 := c2 h
  go_enter Try.func49, Try.ntmps49
  go_wp2
  go_ret
  exact ⟨rfl, rfl⟩
set_option maxHeartbeats 1000000 in
theorem running_none (w : World) : Calls Try.prog 49 #[.pointer none] w fun e w' => e = .returned (.bool false) ∧ w = w' := by
  go_enter Try.func49, Try.ntmps49
  go_wp2
  go_ret
  exact ⟨rfl, rfl⟩
/-- time went on, and ticks came -/
def Tk.adv (t : Tk) (now : Int) : Tk := { t with now := upTo t.now now, seen := upTo t.now now / t.period + 1, came := t.came + (upTo t.now now / t.period + 1 - t.seen) }
/-- time went on, and ticks were left out -/
def Tk.skip (t : Tk) (now : Int) : Tk := { t with now := upTo t.now now, seen := upTo t.now now / t.period + 1, left := t.left + (upTo t.now now / t.period + 1 - t.seen), stopped := false }
theorem Tk.ok.adv {t : Tk} (h : t.ok) (now : Int) : (t.adv now).ok := by
  have hu := upTo_bd t.now now h.n
  have hle := h.le now
  have hn := h.n
  have hc := h.c
  exact ⟨h.p, ⟨by unfold Tk.adv; simp only; omega, hu.2⟩, rfl, by unfold Tk.adv; simp only; omega⟩
theorem Tk.ok.skip {t : Tk} (h : t.ok) (now : Int) : (t.skip now).ok := by
  have hu := upTo_bd t.now now h.n
  have hle := h.le now
  have hn := h.n
  have hc := h.c
  exact ⟨h.p, ⟨by unfold Tk.skip; simp only; omega, hu.2⟩, rfl, by unfold Tk.skip; simp only; omega⟩
set_option maxHeartbeats 1000000 in
theorem advance_runs (g : Nat) (t : Tk) (w : World) (h : IsTk w g t) (now : Int) (ok : t.ok) (hs : t.stopped = false) : Calls Try.prog 48 #[.pointer (some ⟨g, 0, none⟩), .int .i64 now] w fun e w' => e = .returned (.int .i64 (upTo t.now now / t.period + 1 - t.seen)) ∧ IsTk w' g (t.adv now) ∧ w.grownBy w' (some g) := by
  have hle := ok.le now
  have hbd := ok.bd
  have hc := ok.c
  go_enter Try.func48, Try.ntmps48
  go_wp2_with (go_at_call 49; refine (running_some g t _ h).mono ?_; rintro e w1 ⟨rfl, rfl⟩)
  refine (reach_any g t now _ h ok).mono ?_
  rintro e w1 ⟨rfl, h1, g1⟩
  have q4 := c4 h1
  simp only at q4
  have f0 := h1.frozen
  go_wp2_with fail
  go_ret
  exact ⟨rfl, by simpa [IsTk, Tk.cells, Tk.adv] using h1.set_ 4 (.int .i64 (t.came + (upTo t.now now / t.period + 1 - t.seen))), only_setCell g1 (.inl rfl) _⟩
set_option maxHeartbeats 1000000 in
theorem advance_stopped (g : Nat) (t : Tk) (w : World) (h : IsTk w g t) (now : Int) (hs : t.stopped = true) : Calls Try.prog 48 #[.pointer (some ⟨g, 0, none⟩), .int .i64 now] w fun e w' => e = .returned (.int .i64 0) ∧ w = w' := by
  go_enter Try.func48, Try.ntmps48
  go_wp2_with (go_at_call 49; refine (running_some g t _ h).mono ?_; rintro e w1 ⟨rfl, rfl⟩)
  go_ret
  exact ⟨rfl, rfl⟩
set_option maxHeartbeats 1000000 in
theorem stop_runs (g : Nat) (t : Tk) (w : World) (h : IsTk w g t) (now : Int) (ok : t.ok) (hs : t.stopped = false) : Calls Try.prog 50 #[.pointer (some ⟨g, 0, none⟩), .int .i64 now] w fun e w' => e = .returned (.int .i64 0) ∧ IsTk w' g { t.adv now with stopped := true } ∧ w.grownBy w' (some g) := by
  have q2 := c2 h
  go_enter Try.func50, Try.ntmps50
  go_wp2_with fail
  refine (advance_runs g t _ h now ok hs).mono ?_
  rintro e w1 ⟨rfl, h1, g1⟩
  have f0 := h1.frozen
  have q2 := c2 h1
  go_wp2_with fail
  go_ret
  exact ⟨rfl, by simpa [IsTk, Tk.cells] using h1.set_ 2 (.bool true), only_setCell g1 (.inl rfl) _⟩
set_option maxHeartbeats 1000000 in
theorem stop_none (now : Int) (w : World) : Calls Try.prog 50 #[.pointer none, .int .i64 now] w fun e w' => e = .returned (.int .i64 1) ∧ w = w' := by
  go_enter Try.func50, Try.ntmps50
  go_wp2
  go_ret
  exact ⟨rfl, rfl⟩
set_option maxHeartbeats 1000000 in
theorem start_stopped (g : Nat) (t : Tk) (w : World) (h : IsTk w g t) (now : Int) (ok : t.ok) (hs : t.stopped = true) : Calls Try.prog 51 #[.pointer (some ⟨g, 0, none⟩), .int .i64 now] w fun e w' => e = .returned (.tuple #[.int .i64 (upTo t.now now / t.period + 1 - t.seen), .int .i64 0]) ∧ IsTk w' g (t.skip now) ∧ w.grownBy w' (some g) := by
  have hle := ok.le now
  have hbd := ok.bd
  have hc := ok.c
  have q2 := c2 h
  go_enter Try.func51, Try.ntmps51
  go_wp2_with fail
  refine (reach_any g t now _ h ok).mono ?_
  rintro e w1 ⟨rfl, h1, g1⟩
  have q2 := c2 h1
  have q5 := c5 h1
  simp only at q5 q2
  have f0 := h1.frozen
  go_wp2_with fail
  go_ret2
  exact ⟨rfl, by simpa [IsTk, Tk.cells, Tk.skip] using (h1.set_ 5 (.int .i64 (t.left + (upTo t.now now / t.period + 1 - t.seen)))).set_ 2 (.bool false), only_setCell (only_setCell g1 (.inl rfl) _) (.inl rfl) _⟩
set_option maxHeartbeats 1000000 in
theorem start_runs (g : Nat) (t : Tk) (w : World) (h : IsTk w g t) (now : Int) (hs : t.stopped = false) : Calls Try.prog 51 #[.pointer (some ⟨g, 0, none⟩), .int .i64 now] w fun e w' => e = .returned (.tuple #[.int .i64 0, .int .i64 8]) ∧ w = w' := by
  have q2 := c2 h
  go_enter Try.func51, Try.ntmps51
  go_wp2
  go_ret2
  exact ⟨rfl, rfl⟩
set_option maxHeartbeats 1000000 in
theorem counts_some (g : Nat) (t : Tk) (w : World) (h : IsTk w g t) : Calls Try.prog 52 #[.pointer (some ⟨g, 0, none⟩)] w fun e w' => e = .returned (.tuple #[.int .i64 t.came, .int .i64 t.left]) ∧ ∃ n, w' = w.drewN n := by
  have q4 := c4 h
  have q5 := c5 h
  go_enter Try.func52, Try.ntmps52
  go_wp2
  go_quiet (fail)
  go_wp2
  go_ret2
  exact ⟨rfl, _, rfl⟩
set_option maxHeartbeats 1000000 in
theorem next_runs (g : Nat) (t : Tk) (w : World) (h : IsTk w g t) (ok : t.ok) (hs : t.stopped = false) : Calls Try.prog 53 #[.pointer (some ⟨g, 0, none⟩)] w fun e w' => e = .returned (.int .i64 (nthv (cl 0) (per t.period) t.seen)) ∧ Below w.heap.size w w' := by
  have hbd := ok.bd
  have q0 := c0 h
  have q3 := c3 h
  go_enter Try.func53, Try.ntmps53
  go_wp2_with (go_at_call 49; refine (running_some g t _ h).mono ?_; rintro e w1 ⟨rfl, rfl⟩)
  go_upto_region 3 with fail
  go_cut [2] (fun s2 wx => s2 = .int .i64 (nthv (cl 0) (per t.period) t.seen) ∧ Below w.heap.size w wx)
  case first =>
    go_region_with (go_at_call 20; refine (Nth_any _ _ _ _ (by omega)).mono ?_; rintro e w2 ⟨rfl, b2⟩)
    all_goals
      go_wp2_with fail
      go_meet
      exact ⟨rfl, (Below.drew (Below.refl _ _)).trans b2⟩
  case rest =>
    obtain ⟨rfl, b2⟩ := hcut
    go_wp2_with fail
    go_ret
    exact ⟨rfl, b2⟩
set_option maxHeartbeats 1000000 in
theorem next_none (w : World) : Calls Try.prog 53 #[.pointer none] w fun e w' => e = .returned (.int .i64 4611686018427387903) ∧ w = w' := by
  go_enter Try.func53, Try.ntmps53
  go_wp2_with ((go_at_call 49; refine (running_none _).mono ?_; rintro e w1 ⟨rfl, rfl⟩))
  go_ret
  exact ⟨rfl, rfl⟩
set_option maxHeartbeats 1000000 in
theorem new_bad (p : Int) (w : World) (h : p < 1 ∨ 1099511627776 < p) : Calls Try.prog 47 #[.int .i64 p] w fun e w' => e = .returned (.pointer none) ∧ w = w' := by
  by_cases h1 : p < 1
  all_goals
    go_enter Try.func47, Try.ntmps47
    go_wp2
    go_ret
    exact ⟨rfl, rfl⟩
set_option maxHeartbeats 1000000 in
theorem new_ok (p : Int) (w : World) (h : 1 ≤ p ∧ p ≤ 1099511627776) : Calls Try.prog 47 #[.int .i64 p] w fun e w' => e = .returned (.pointer (some ⟨w.heap.size, 0, none⟩)) ∧ IsTk w' w.heap.size ⟨p, 0, false, 1, 1, 0⟩ ∧ Below w.heap.size w w' ∧ w.heap.size < w'.heap.size := by
  go_enter Try.func47, Try.ntmps47
  go_wp2
  go_ret
  exact ⟨rfl, Blk.new _ _ _, (Below.refl _ _).alloc (Nat.le_refl _) _, by simp⟩
theorem ok_new (p : Int) (h : 1 ≤ p ∧ p ≤ 1099511627776) : (Tk.mk p 0 false 1 1 0).ok := ⟨h, by simp only; omega, by simp, by simp⟩
end Go.Proofs.Ythginjllhlfadaa.Tk
