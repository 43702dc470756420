/- The contracts of sleep's Wake, and of All at none. No condition but that a task's number is one. -/
import Derived.Test.YtdplpehphjgffaaSlb
set_option linter.unusedVariables false
set_option linter.unusedSimpArgs false
namespace Go.Proofs.Ytdplpehphjgffaa.Sl
open Go.RowKit Go.Proofs.Ytdplpehphjgffaa.Aid Go.Proofs.Ytdplpehphjgffaa.Kt Go.Proofs.Ytdplpehphjgffaa.Sp
attribute [local go_sem] max2_int min2_int max_two min_two
set_option maxHeartbeats 4000000 in
set_option maxRecDepth 100000 in
theorem wake_none (g : Nat) (l : Nat → Slp) (a : Nat → Bool) (t : Nat) (ht : t < 32) (x0 x1 x2 : Int) (w : World) (h : IsSl w g l a) (ha : a t = false) :
    Calls Try.prog 63 #[.pointer (some ⟨g, 0, none⟩), .int .i64 t, .agg #[.int .i64 x0, .int .i64 x1, .int .i64 x2]] w fun e w' => e = .returned (.int .i64 7) ∧ Below w.heap.size w w' := by
  have hg := h.lt
  go_enter Try.func63, Try.ntmps63
  go_wp2_with fail
  refine (of_none g l a _ (h.alloc _) t ht ha).mono ?_
  rintro e W1 ⟨rfl, b1⟩
  have B1 : Below w.heap.size w W1 := ((Below.refl w.heap.size w).alloc (Nat.le_refl _) _).trans (b1.mono (by simp))
  go_wp2_with fail
  go_ret
  exact ⟨rfl, B1.alloc B1.size _⟩
set_option maxHeartbeats 4000000 in
set_option maxRecDepth 100000 in
theorem wake_not0 (g : Nat) (l : Nat → Slp) (a : Nat → Bool) (t : Nat) (ht : t < 32) (x0 x1 x2 : Int) (w : World) (h : IsSl w g l a) (ha : a t = true) (hc : (l t).clock = 0) (hn : 4611686018427387903 ≤ (l t).till ∨ ((l t).till < 4611686018427387903 ∧ cl x0 < (l t).till)) :
    Calls Try.prog 63 #[.pointer (some ⟨g, 0, none⟩), .int .i64 t, .agg #[.int .i64 x0, .int .i64 x1, .int .i64 x2]] w fun e w' => e = .returned (.int .i64 8) ∧ Below w.heap.size w w' := by
  have hg := h.lt
  have ev : (l t).val = .agg #[.int .i64 (l t).task, .int .i64 0, .int .i64 (l t).till, .bool (l t).rel] := by rw [← hc]; rfl
  have EV := Lib.hid ev
  clear ev hc
  generalize (l t).till = y2 at hn EV
  rcases hn with hn | ⟨hn1, hn2⟩
  · have hv : nev y2 = true := decide_eq_true hn
    go_enter Try.func63, Try.ntmps63
    go_wp2_with fail
    refine (of_some g l a _ (h.alloc _) t ht ha).mono ?_
    rintro e W1 ⟨rfl, b1⟩
    have htt := (Blk.new w 68 #[.int .i64 x0, .int .i64 x1, .int .i64 x2]).below b1 (Blk.new w 68 #[.int .i64 x0, .int .i64 x1, .int .i64 x2]).lt
    have B1 : Below w.heap.size w W1 := ((Below.refl w.heap.size w).alloc (Nat.le_refl _) _).trans (b1.mono (by simp))
    have n1 := htt.lt
    rw [EV.out]
    have s0 : W1.cell? ⟨w.heap.size, 0, none⟩ = some (.int .i64 x0) := htt.cell 0
    clear b1
    go_wp2_with fail
    go_quiet ((first | (go_at_call 78; exact quiet_left (never_any _ _)) | (go_at_call 58; exact quiet_left (clamp_any _ _))))
    go_wp2_with fail
    go_ret
    exact ⟨rfl, below_drewN (B1.alloc B1.size _) _⟩
  · have hv : nev y2 = false := decide_eq_false (by omega)
    have hv2 : decide (cl x0 < y2) = true := by simp; exact hn2
    go_enter Try.func63, Try.ntmps63
    go_wp2_with fail
    refine (of_some g l a _ (h.alloc _) t ht ha).mono ?_
    rintro e W1 ⟨rfl, b1⟩
    have htt := (Blk.new w 68 #[.int .i64 x0, .int .i64 x1, .int .i64 x2]).below b1 (Blk.new w 68 #[.int .i64 x0, .int .i64 x1, .int .i64 x2]).lt
    have B1 : Below w.heap.size w W1 := ((Below.refl w.heap.size w).alloc (Nat.le_refl _) _).trans (b1.mono (by simp))
    have n1 := htt.lt
    rw [EV.out]
    have s0 : W1.cell? ⟨w.heap.size, 0, none⟩ = some (.int .i64 x0) := htt.cell 0
    clear b1
    go_wp2_with fail
    go_quiet ((first | (go_at_call 78; exact quiet_left (never_any _ _)) | (go_at_call 58; exact quiet_left (clamp_any _ _))))
    go_wp2_with fail
    go_ret
    exact ⟨rfl, below_drewN (B1.alloc B1.size _) _⟩
set_option maxHeartbeats 4000000 in
set_option maxRecDepth 100000 in
theorem of_nil (t : Int) (w : World) :
    Calls Try.prog 66 #[.pointer none, .int .i64 t] w fun e w' => e = .returned (.tuple #[.agg #[.int .i64 0, .int .i64 0, .int .i64 0, .bool false], .bool false]) ∧ Below w.heap.size w w' := by
  go_enter Try.func66, Try.ntmps66
  go_wp2_with fail
  exact bodyPost_ret (v := .tuple #[.agg #[.int .i64 0, .int .i64 0, .int .i64 0, .bool false], .bool false]) (by simp [results, Try.results66, go_sem]) rfl ⟨rfl, (Below.refl _ _).alloc (Nat.le_refl _) _⟩
def NRel (w : World) (m : Nat) (s3 s7 : Value) (wr : World) : Prop := ∃ i : Nat, m = 32 - i ∧ i ≤ 32 ∧ s7 = .int .i64 i ∧ s3 = .slice none 0 0 ∧ Below w.heap.size w wr
set_option maxHeartbeats 4000000 in
set_option maxRecDepth 100000 in
theorem all_nil (w : World) :
    Calls Try.prog 64 #[.pointer none] w fun e w' => e = .returned (.slice none 0 0) ∧ Below w.heap.size w w' := by
  go_enter Try.func64, Try.ntmps64
  go_wp2_with fail
  go_loopg [3, 7] 32 (fun m s3 s7 wr => NRel w m s3 s7 wr)
  case atStart => exact ⟨0, rfl, by omega, rfl, rfl, Below.refl _ _⟩
  case round =>
    obtain ⟨i, hm, hi, rfl, rfl, hb⟩ := hrel
    have HM := Lib.hid hm
    clear hm
    by_cases hlt : (i : Int) < 32
    · go_wp2_with fail
      refine (of_nil _ _).mono ?_
      rintro e W1 ⟨rfl, b1⟩
      have B1 : Below w.heap.size w W1 := hb.trans (b1.mono hb.size)
      go_wp2_with fail
      go_roundg (32 - (i + 1))
      case measure => have := HM.out; omega
      case rel => exact ⟨i + 1, by omega, by omega, by go_num, rfl, B1.alloc B1.size _⟩
    · go_wp2_with fail
      go_ret
      exact ⟨rfl, hb⟩
end Go.Proofs.Ytdplpehphjgffaa.Sl
