/- The contracts of backoff.Total, Tries and Spread, whole. No condition. -/
import Derived.Test.YtdplpehphjgffaaBkt
set_option linter.unusedVariables false
set_option linter.unusedSimpArgs false
namespace Go.Proofs.Ytdplpehphjgffaa.Bk
open Go.RowKit Go.Proofs.Ytdplpehphjgffaa.Aid Go.Proofs.Ytdplpehphjgffaa.Kt
attribute [local go_sem] max2_int min2_int max_two min_two
set_option maxHeartbeats 2000000 in
theorem total_ok (n : Int) (p : Pl) (ok : p.ok) (w : World) :
    Calls Try.prog 15 #[.agg #[.int .i64 p.first, .int .i64 p.factor, .int .i64 p.great], .int .i64 n] w fun e w' => e = .returned (.int .i64 (sm p (stop n))) ∧ Below w.heap.size w w' := by
  have HO := Lib.hid ok
  clear ok
  have hmf : ∀ (fn : Fn) (first cap : Array Value) (w : World), (Instr.makeFunc fn first cap).run Try.prog w = .ok (.func fn first cap) w := fun _ _ _ _ => rfl
  go_enter Try.func15, Try.ntmps15
  have hm : Two (((w.alloc (.cells p.cells 23)).alloc (.cells #[.int .i64 n] 3)).alloc (.cells #[.int .i64 0] 3)) (w.heap.size + 1) (w.heap.size + 1 + 1) n 0 := by
    have e1 : (w.alloc (.cells p.cells 23)).heap.size = w.heap.size + 1 := by simp
    have e2 : ((w.alloc (.cells p.cells 23)).alloc (.cells #[.int .i64 n] 3)).heap.size = w.heap.size + 1 + 1 := by simp
    have h1 := Blk.new (w.alloc (.cells p.cells 23)) 3 #[.int .i64 n]
    have h2 := Blk.new ((w.alloc (.cells p.cells 23)).alloc (.cells #[.int .i64 n] 3)) 3 #[.int .i64 0]
    rw [e1] at h1
    rw [e2] at h2
    exact ⟨h1.alloc _, h2, by omega⟩
  have HM := Lib.hid hm
  clear hm
  go_wp2_with fail
  refine (each_total _ _ n p HO.out _ HM.out).mono ?_
  rintro e w1 ⟨rfl, h1, g1⟩
  have q0 : w1.cell? ⟨w.heap.size + 1 + 1, 0, none⟩ = some (.int .i64 (sm p (stop n))) := h1.hb.cell 0
  go_wp2_with fail
  go_ret
  refine ⟨rfl, below_grown (g := w.heap.size + 1 + 1) ?_ g1 (by omega)⟩
  exact (((Below.refl w.heap.size w).alloc (Nat.le_refl _) _).alloc (by simp) _).alloc (by simp; omega) _
set_option maxHeartbeats 2000000 in
theorem total_no (n : Int) (p : Pl) (no : ¬ p.ok) (w : World) :
    Calls Try.prog 15 #[.agg #[.int .i64 p.first, .int .i64 p.factor, .int .i64 p.great], .int .i64 n] w fun e w' => e = .returned (.int .i64 0) ∧ Below w.heap.size w w' := by
  have HN := Lib.hid no
  clear no
  have hmf : ∀ (fn : Fn) (first cap : Array Value) (w : World), (Instr.makeFunc fn first cap).run Try.prog w = .ok (.func fn first cap) w := fun _ _ _ _ => rfl
  have h2 : Blk (((w.alloc (.cells p.cells 23)).alloc (.cells #[.int .i64 n] 3)).alloc (.cells #[.int .i64 0] 3)) (w.heap.size + 1 + 1) 3 #[.int .i64 0] := by
    have e2 : ((w.alloc (.cells p.cells 23)).alloc (.cells #[.int .i64 n] 3)).heap.size = w.heap.size + 1 + 1 := by simp
    have h2 := Blk.new ((w.alloc (.cells p.cells 23)).alloc (.cells #[.int .i64 n] 3)) 3 #[.int .i64 0]
    rwa [e2] at h2
  have H2 := Lib.hid h2
  clear h2
  go_enter Try.func15, Try.ntmps15
  go_wp2_with fail
  refine (each_no _ p HN.out _).mono ?_
  rintro e w1 ⟨rfl, b1⟩
  have q0 : w1.cell? ⟨w.heap.size + 1 + 1, 0, none⟩ = some (.int .i64 0) := (H2.out.below b1 H2.out.lt).cell 0
  go_wp2_with fail
  go_ret
  refine ⟨rfl, Below.trans ?_ (b1.mono ?_)⟩
  · exact (((Below.refl w.heap.size w).alloc (Nat.le_refl _) _).alloc (by simp) _).alloc (by simp; omega) _
  · simp; omega
set_option maxHeartbeats 2000000 in
set_option maxRecDepth 100000 in
theorem tries_ok (n : Int) (p : Pl) (ok : p.ok) (w : World) :
    Calls Try.prog 16 #[.agg #[.int .i64 p.first, .int .i64 p.factor, .int .i64 p.great], .int .i64 n] w fun e w' => e = .returned (.int .i64 (trg p 10000 0 (cl n))) ∧ Below w.heap.size w w' := by
  have HO := Lib.hid ok
  clear ok
  obtain ⟨K, hK⟩ : ∃ K, trg p 10000 0 (cl n) = K := ⟨_, rfl⟩
  rw [hK]
  have HK := Lib.hid hK
  have hcl := cl_bd n
  clear hK
  have hmf : ∀ (fn : Fn) (first cap : Array Value) (w : World), (Instr.makeFunc fn first cap).run Try.prog w = .ok (.func fn first cap) w := fun _ _ _ _ => rfl
  go_enter Try.func16, Try.ntmps16
  go_wp2_with fail
  refine (clamp_any _ _).mono ?_
  rintro e W1 ⟨rfl, rfl⟩
  have hm : Two (((w.alloc (.cells p.cells 23)).alloc (.cells #[.int .i64 0] 3)).alloc (.cells #[.int .i64 (cl n)] 3)) (w.heap.size + 1 + 1) (w.heap.size + 1) (cl n) 0 := by
    have e1 : (w.alloc (.cells p.cells 23)).heap.size = w.heap.size + 1 := by simp
    have e2 : ((w.alloc (.cells p.cells 23)).alloc (.cells #[.int .i64 0] 3)).heap.size = w.heap.size + 1 + 1 := by simp
    have h1 := Blk.new (w.alloc (.cells p.cells 23)) 3 #[.int .i64 0]
    have h2 := Blk.new ((w.alloc (.cells p.cells 23)).alloc (.cells #[.int .i64 0] 3)) 3 #[.int .i64 (cl n)]
    rw [e1] at h1
    rw [e2] at h2
    exact ⟨h2, h1.alloc _, by omega⟩
  have HM := Lib.hid hm
  clear hm
  go_wp2_with fail
  refine (each_tries w.heap.size _ _ (cl n) hcl p HO.out _ HM.out ⟨by omega, by omega⟩).mono ?_
  rintro e w1 ⟨rfl, ⟨l, h1⟩, g1⟩
  rw [HK.out] at h1
  have q0 : w1.cell? ⟨w.heap.size + 1, 0, none⟩ = some (.int .i64 K) := h1.hb.cell 0
  go_wp2_with fail
  go_ret
  refine ⟨rfl, Below.trans ?_ g1⟩
  exact (((Below.refl w.heap.size w).alloc (Nat.le_refl _) _).alloc (by simp) _).alloc (by simp; omega) _
set_option maxHeartbeats 2000000 in
theorem tries_no (n : Int) (p : Pl) (no : ¬ p.ok) (w : World) :
    Calls Try.prog 16 #[.agg #[.int .i64 p.first, .int .i64 p.factor, .int .i64 p.great], .int .i64 n] w fun e w' => e = .returned (.int .i64 0) ∧ Below w.heap.size w w' := by
  have HN := Lib.hid no
  clear no
  have hmf : ∀ (fn : Fn) (first cap : Array Value) (w : World), (Instr.makeFunc fn first cap).run Try.prog w = .ok (.func fn first cap) w := fun _ _ _ _ => rfl
  have h2 : Blk (((w.alloc (.cells p.cells 23)).alloc (.cells #[.int .i64 0] 3)).alloc (.cells #[.int .i64 (cl n)] 3)) (w.heap.size + 1) 3 #[.int .i64 0] := by
    have e2 : (w.alloc (.cells p.cells 23)).heap.size = w.heap.size + 1 := by simp
    have h2 := Blk.new (w.alloc (.cells p.cells 23)) 3 #[.int .i64 0]
    rw [e2] at h2
    exact h2.alloc _
  have H2 := Lib.hid h2
  clear h2
  go_enter Try.func16, Try.ntmps16
  go_wp2_with fail
  refine (clamp_any _ _).mono ?_
  rintro e W1 ⟨rfl, rfl⟩
  go_wp2_with fail
  refine (each_no _ p HN.out _).mono ?_
  rintro e w1 ⟨rfl, b1⟩
  have q0 : w1.cell? ⟨w.heap.size + 1, 0, none⟩ = some (.int .i64 0) := (H2.out.below b1 H2.out.lt).cell 0
  go_wp2_with fail
  go_ret
  refine ⟨rfl, Below.trans ?_ (b1.mono ?_)⟩
  · exact (((Below.refl w.heap.size w).alloc (Nat.le_refl _) _).alloc (by simp) _).alloc (by simp; omega) _
  · simp; omega
theorem wait_bd (p : Pl) (ok : p.ok) (n : Int) : 0 ≤ wait p n ∧ wait p n ≤ 1125899906842624 := by
  have := ok.c
  have := wt_bd p ok n.toNat
  unfold wait
  split <;> omega
/-- a wait spread by a draw -/
def spr (x d : Int) : Int := (x + 1) / 2 + d % (x - (x + 1) / 2 + 1)
set_option maxHeartbeats 2000000 in
theorem spread_of (x n d : Int) (hx : 0 ≤ x ∧ x ≤ 1125899906842624) (hd : 0 ≤ d ∧ d ≤ 18446744073709551615) (p : Pl) (w : World)
    (hw : ∀ w, Calls Try.prog 13 #[.agg #[.int .i64 p.first, .int .i64 p.factor, .int .i64 p.great], .int .i64 n] w fun e w' => e = .returned (.int .i64 x) ∧ Below w.heap.size w w') :
    Calls Try.prog 17 #[.agg #[.int .i64 p.first, .int .i64 p.factor, .int .i64 p.great], .int .i64 n, .int .u64 d] w fun e w' => e = .returned (.int .i64 (spr x d)) ∧ Below w.heap.size w w' := by
  go_enter Try.func17, Try.ntmps17
  go_wp2_with fail
  refine (hw _).mono ?_
  rintro e W1 ⟨rfl, b1⟩
  go_wp2_with fail
  have hy : 0 ≤ (x + 1) / 2 ∧ (x + 1) / 2 ≤ x := by omega
  unfold spr
  generalize (x + 1) / 2 = y at hy ⊢
  have hz : 0 ≤ d % (x - y + 1) ∧ d % (x - y + 1) ≤ x - y := ⟨Int.emod_nonneg _ (by omega), by have := Int.emod_lt_of_pos d (show 0 < x - y + 1 by omega); omega⟩
  generalize d % (x - y + 1) = z at hz ⊢
  have e1 : wrap64 z = z := by unfold wrap64; omega
  have e2 : wrap64 (y + z) = y + z := by unfold wrap64; omega
  rw [e1, e2]
  go_ret
  exact ⟨rfl, ((Below.refl w.heap.size w).alloc (Nat.le_refl _) _).trans (b1.mono (by simp))⟩
end Go.Proofs.Ytdplpehphjgffaa.Bk
