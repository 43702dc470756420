/- The fixed facts of layer 19 hold; the walk of the statement TicklessSame: for any period, steps and stops it returns true. No condition. -/
import Derived.Test.YthginjllhlfadaaTk
import Derived.Test.YthginjllhlfadaaKtr
import Derived.Test.YthginjllhlfadaaLeaf
set_option linter.unusedVariables false
set_option linter.unusedSimpArgs false
namespace Go.Proofs.Ythginjllhlfadaa.Tk
open Go.RowKit Go.Proofs.Ythginjllhlfadaa.Aid Go.Proofs.Ythginjllhlfadaa.Kt Go.Proofs.Ythginjllhlfadaa.Fw
attribute [local go_sem] max2_int min2_int max_two min_two
theorem first2 (a b : Int) (W : World) : Calls Try.prog 39 #[.slice (some ⟨W.heap.size, 0, none⟩) 2 2] (W.alloc (.cells #[.int .i64 a, .int .i64 b] 3)) fun e w' => e = .returned (.int .i64 (firstOf [a, b])) ∧ W.alloc (.cells #[.int .i64 a, .int .i64 b] 3) = w' :=
  first_any ⟨W.heap.size, 0, none⟩ [a, b] 2 2 (W.alloc (.cells #[.int .i64 a, .int .i64 b] 3)) rfl (by omega) (fun k hk => by
    have hb := (Blk.new W 3 #[.int .i64 a, .int .i64 b]).cell k
    have ha : (Addr.add ⟨W.heap.size, 0, none⟩ k) = ⟨W.heap.size, k, none⟩ := by
      unfold Addr.add; split
      · next h => rw [h]
      · simp
    rw [ha, hb]
    have : k = 0 ∨ k = 1 := by omega
    rcases this with rfl | rfl <;> rfl)
set_option maxHeartbeats 1000000 in
theorem idle_runs (g : Nat) (t : Tk) (w : World) (h : IsTk w g t) (now event : Int) (ok : t.ok) (hs : t.stopped = false) (hn : 0 ≤ now ∧ now ≤ 1152921504606846976) :
    Calls Try.prog 61 #[.pointer (some ⟨g, 0, none⟩), .int .i64 now, .int .i64 event] w fun e w' => e = .returned (.int .i64 (unt now (firstOf [event, nthv (cl 0) (per t.period) t.seen]))) ∧ Below w.heap.size w w' := by
  have hF := fun W => first2 event (nthv (cl 0) (per t.period) t.seen) W
  have HF := Lib.hid hF
  clear hF
  go_enter Try.func61, Try.ntmps61
  go_wp2_with fail
  refine (next_runs g t _ h ok hs).mono ?_
  rintro e w1 ⟨rfl, b1⟩
  go_wp2_with fail
  refine (HF.out w1).mono ?_
  rintro e w2 ⟨rfl, rfl⟩
  go_wp2_with fail
  refine (until_any _ _ _).mono ?_
  rintro e w2 ⟨rfl, rfl⟩
  go_wp2_with fail
  go_ret
  exact ⟨rfl, b1.alloc b1.size _⟩
set_option maxHeartbeats 2000000 in
set_option maxRecDepth 100000 in
theorem fixed_any (w : World) : Calls Try.prog 46 #[] w fun e w' => e = .returned (.bool true) ∧ Below w.heap.size w w' := by
  have e1 : Tk.adv ⟨10, 0, false, 1, 1, 0⟩ 25 = ⟨10, 25, false, 3, 3, 0⟩ := by unfold Tk.adv upTo; simp
  have v1 : upTo 0 25 / 10 + 1 - 1 = 2 := by decide
  have e2 : Tk.adv ⟨10, 25, false, 3, 3, 0⟩ 25 = ⟨10, 25, false, 3, 3, 0⟩ := by unfold Tk.adv upTo; simp
  have e3 : Tk.skip ⟨10, 25, true, 3, 3, 0⟩ 57 = ⟨10, 57, false, 6, 3, 3⟩ := by unfold Tk.skip upTo; simp
  have v3 : upTo 25 57 / 10 + 1 - 3 = 3 := by decide
  have o1 := ok_new 10 (by omega)
  have o2 := o1.adv 25
  rw [e1] at o2
  have o3 : (Tk.mk 10 25 true 3 3 0).ok := ⟨o2.p, o2.n, o2.s, o2.c⟩
  have o4 := o3.skip 57
  rw [e3] at o4
  have n1 : nthv (cl 0) (per 10) 6 = 60 := by decide
  have f1 : unt 57 (firstOf [59, 60]) = 2 := by decide
  have f2 : unt 57 (firstOf [99, 60]) = 3 := by decide
  have E1 := Lib.hid e1
  have E2 := Lib.hid e2
  have E3 := Lib.hid e3
  have O1 := Lib.hid o1
  have O2 := Lib.hid o2
  have O3 := Lib.hid o3
  have O4 := Lib.hid o4
  clear e1 e2 e3 o1 o2 o3 o4
  go_enter Try.func46, Try.ntmps46
  go_wp2_with fail
  refine (new_ok 10 _ (by omega)).mono ?_
  rintro e w1 ⟨rfl, h1, b1, z1⟩
  go_wp2_with fail
  refine (advance_runs _ _ _ h1 25 O1.out rfl).mono ?_
  rintro e w2 ⟨rfl, h2, g2⟩
  rw [E1.out] at h2
  go_wp2_with fail
  refine (stop_runs _ _ _ h2 25 O2.out rfl).mono ?_
  rintro e w3 ⟨rfl, h3, g3⟩
  rw [E2.out] at h3
  go_wp2_with fail
  refine (start_stopped _ _ _ h3 57 O3.out rfl).mono ?_
  rintro e w4 ⟨rfl, h4, g4⟩
  replace h4 : IsTk w4 w.heap.size ⟨10, 57, false, 6, 3, 3⟩ := by
    have := E3.out
    rw [← this]; exact h4
  go_wp2_with fail
  refine (counts_some _ _ _ h4).mono ?_
  rintro e w5 ⟨rfl, n5, rfl⟩
  replace h4 := h4.drewN n5
  go_wp2_with fail
  refine (start_runs _ _ _ h4 60 rfl).mono ?_
  rintro e w6 ⟨rfl, rfl⟩
  go_wp2_with fail
  refine (next_runs _ _ _ h4 O4.out rfl).mono ?_
  rintro e w7 ⟨rfl, b7⟩
  have h7 := h4.below b7 h4.lt
  go_wp2_with fail
  refine (idle_runs _ _ _ h7 57 59 O4.out rfl (by omega)).mono ?_
  rintro e w8 ⟨rfl, b8⟩
  have h8 := h7.below b8 h7.lt
  simp only [n1]
  go_wp2_with fail
  refine (idle_runs _ _ _ h8 57 99 O4.out rfl (by omega)).mono ?_
  rintro e w9 ⟨rfl, b9⟩
  simp only [n1]
  go_wp2_with fail
  refine (new_bad 0 _ (by omega)).mono ?_
  rintro e w10 ⟨rfl, rfl⟩
  go_wp2_with fail
  refine (next_none _).mono ?_
  rintro e w11 ⟨rfl, rfl⟩
  go_wp2_with fail
  refine (stop_none 1 _).mono ?_
  rintro e w12 ⟨rfl, rfl⟩
  go_wp2_with fail
  refine (running_none _).mono ?_
  rintro e w13 ⟨rfl, rfl⟩
  go_wp2_with fail
  go_ret
  refine ⟨rfl, ?_⟩
  have B4 := below_drewN (below_grown (below_grown (below_grown b1 g2 (Nat.le_refl _)) g3 (Nat.le_refl _)) g4 (Nat.le_refl _)) n5
  have B7 := B4.trans (b7.mono B4.size)
  have B8 := B7.trans (b8.mono B7.size)
  exact B8.trans (b9.mono B8.size)
end Go.Proofs.Ythginjllhlfadaa.Tk
