/- The statements' own right and wait. -/
import Derived.Test.YtdplpehphjgffaaBkr
import Derived.Test.YtdplpehphjgffaaBkq
set_option linter.unusedVariables false
set_option linter.unusedSimpArgs false
namespace Go.Proofs.Ytdplpehphjgffaa.Bk
open Go.RowKit Go.Proofs.Ytdplpehphjgffaa.Aid Go.Proofs.Ytdplpehphjgffaa.Kt
attribute [local go_sem] max2_int min2_int max_two min_two
set_option maxHeartbeats 1000000 in
theorem lright_yes (p : Pl) (ok : p.ok) (w : World) : Calls Try.prog 12 #[.agg #[.int .i64 p.first, .int .i64 p.factor, .int .i64 p.great]] w fun e w' => e = .returned (.bool true) ∧ Below w.heap.size w w' := by
  obtain ⟨⟨a1, a2⟩, ⟨b1, b2⟩, ⟨c1, c2⟩⟩ := ok
  go_enter Try.func12, Try.ntmps12
  go_wp2
  first
    | (go_ret; exact ⟨rfl, (Below.refl _ _).alloc (Nat.le_refl _) _⟩)
    | (go_quiet (fail); go_wp2; go_ret; exact ⟨rfl, below_drewN ((Below.refl _ _).alloc (Nat.le_refl _) _) _⟩)
set_option maxHeartbeats 2000000 in
theorem lright_no (p : Pl) (no : ¬ p.ok) (w : World) : Calls Try.prog 12 #[.agg #[.int .i64 p.first, .int .i64 p.factor, .int .i64 p.great]] w fun e w' => e = .returned (.bool false) ∧ Below w.heap.size w w' := by
  have hn := not_ok no
  clear no
  rcases hn with a1 | ⟨a1, a2⟩ | ⟨a1, a2, b1⟩ | ⟨a1, a2, b1, b2⟩ | ⟨a1, a2, b1, b2, c1⟩ | ⟨a1, a2, b1, b2, c1, c2⟩
  all_goals
    go_enter Try.func12, Try.ntmps12
    go_wp2
    first
      | (go_ret; exact ⟨ret_bool (by first | rfl | exact decide_eq_false (by omega)), (Below.refl _ _).alloc (Nat.le_refl _) _⟩)
      | (go_quiet (fail); go_wp2; go_ret; exact ⟨ret_bool (by first | rfl | exact decide_eq_false (by omega)), below_drewN ((Below.refl _ _).alloc (Nat.le_refl _) _) _⟩)
/-- rounding up, as the statements do it -/
theorem ceil16 (y : Int) (h : 0 ≤ y) : (if 0 < y % 16 then y / 16 + 1 else y / 16) = (y + 15) / 16 := by split <;> omega
def WRel (p : Pl) (n : Int) (bq : Nat) (W : World) (m : Nat) (s5 s10 : Value) (wr : World) : Prop :=
  ∃ i : Nat, m = n.toNat - i ∧ i ≤ n.toNat ∧ s10 = .int .i64 i ∧ s5 = .int .i64 (wt p i) ∧ Blk wr bq 23 p.cells ∧ Below W.heap.size W wr
set_option maxHeartbeats 1000000 in
theorem lwait_any (n : Int) (hn : -9223372036854775808 ≤ n ∧ n ≤ 9223372036854775807) (p : Pl) (ok : p.fit) (w : World) : Calls Try.prog 18 #[.agg #[.int .i64 p.first, .int .i64 p.factor, .int .i64 p.great], .int .i64 n] w fun e w' => e = .returned (.int .i64 (wt p n.toNat)) ∧ Below w.heap.size w w' := by
  go_enter Try.func18, Try.ntmps18
  have HO := Lib.hid ok
  have hb := Blk.new w 23 p.cells
  have g0 : Below w.heap.size w (w.alloc (.cells p.cells 23)) := (Below.refl _ _).alloc (Nat.le_refl _) _
  clear ok
  go_wp2
  go_loopg [5, 10] (n.toNat) (fun m s5 s10 wr => WRel p n w.heap.size w m s5 s10 wr)
  case atStart => exact ⟨0, by omega, by omega, rfl, rfl, hb, g0⟩
  case round =>
    obtain ⟨i, hm2, hi, rfl, rfl, hbq, hgr⟩ := hrel
    have hx := wt_bdf p HO.out i
    have q1 : wr.cell? ⟨w.heap.size, 1, none⟩ = some (.int .i64 p.factor) := hbq.cell 1
    have q2 : wr.cell? ⟨w.heap.size, 2, none⟩ = some (.int .i64 p.great) := hbq.cell 2
    have hm := mul_bdf p HO.out _ hx
    have hc := HO.out.c
    have ewt : wt p (i + 1) = nx p (wt p i) := rfl
    have HM2 := Lib.hid hm2
    clear hm2
    by_cases hlt : (i : Int) < n
    · have hpos : 0 ≤ wt p i * p.factor := by omega
      go_wp2
      all_goals
        go_roundg (n.toNat - (i + 1))
        case measure => have := HM2.out; omega
        case rel =>
          refine ⟨i + 1, by omega, by omega, by go_num, ?_, hbq, hgr⟩
          refine congrArg (Value.int .i64) ?_
          rw [ewt]; unfold nx
          generalize wt p i * p.factor = y at *
          omega
    · go_wp2
      go_ret
      exact ⟨ret_int (by rw [show i = n.toNat by omega]), hgr⟩
end Go.Proofs.Ytdplpehphjgffaa.Bk
