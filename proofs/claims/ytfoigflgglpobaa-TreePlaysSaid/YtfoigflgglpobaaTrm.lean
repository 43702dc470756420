/- The contracts of tree's functions at no tree. No condition. -/
import Derived.Test.YtfoigflgglpobaaTre
set_option linter.unusedVariables false
set_option linter.unusedSimpArgs false
namespace Go.Proofs.Ytfoigflgglpobaa.Tr
open Go.RowKit Go.Proofs.Ytfoigflgglpobaa.Aid
set_option maxHeartbeats 1000000 in
set_option maxRecDepth 100000 in
theorem First_nil (w : World) :
    Calls Try.prog 14 #[.pointer none] w fun e w' => e = .returned (.tuple #[.agg #[.int .i64 0, .int .i64 0], .bool false]) ∧ Below w.heap.size w w' := by
  have h2 := Blk.new w 29 (two_ 0 0)
  have B : Below w.heap.size w (w.alloc (.cells (two_ 0 0) 29)) := (Below.refl w.heap.size w).alloc (Nat.le_refl _) _
  have HR : Hid (w.heap.size ≤ w.heap.size) := Lib.hid (Nat.le_refl _)
  go_enter Try.func14, Try.ntmps14
  go_upto_region 1 with fail
  change Blk (w.alloc (.cells #[.int .i64 0, .int .i64 0] 29)) _ _ _ at h2
  change Below _ _ (w.alloc (.cells #[.int .i64 0, .int .i64 0] 29)) at B
  generalize w.alloc (.cells #[.int .i64 0, .int .i64 0] 29) = W at h2 B ⊢
  obtain ⟨r0, r1⟩ := two_cells h2
  have f0 := h2.frozen
  go_wp2_with fail
  clear r0 r1
  obtain ⟨r0, r1⟩ := two_cells (two_set h2 0 0)
  exact bodyPost_ret (v := .tuple #[.agg #[.int .i64 0, .int .i64 0], .bool false]) (by simp [results, Try.results14, go_sem, r0, r1]) rfl ⟨rfl, two_below B HR.out _ _⟩
set_option maxHeartbeats 1000000 in
set_option maxRecDepth 100000 in
theorem At_nil (τ : Int) (w : World) :
    Calls Try.prog 19 #[.pointer none, .int .i64 τ] w fun e w' => e = .returned (.tuple #[.agg #[.int .i64 0, .int .i64 0], .bool false]) ∧ Below w.heap.size w w' := by
  have h2 := Blk.new w 29 (two_ 0 0)
  have B : Below w.heap.size w (w.alloc (.cells (two_ 0 0) 29)) := (Below.refl w.heap.size w).alloc (Nat.le_refl _) _
  have HR : Hid (w.heap.size ≤ w.heap.size) := Lib.hid (Nat.le_refl _)
  go_enter Try.func19, Try.ntmps19
  go_upto_region 1 with fail
  change Blk (w.alloc (.cells #[.int .i64 0, .int .i64 0] 29)) _ _ _ at h2
  change Below _ _ (w.alloc (.cells #[.int .i64 0, .int .i64 0] 29)) at B
  generalize w.alloc (.cells #[.int .i64 0, .int .i64 0] 29) = W at h2 B ⊢
  obtain ⟨r0, r1⟩ := two_cells h2
  have f0 := h2.frozen
  go_wp2_with fail
  clear r0 r1
  obtain ⟨r0, r1⟩ := two_cells (two_set h2 0 0)
  exact bodyPost_ret (v := .tuple #[.agg #[.int .i64 0, .int .i64 0], .bool false]) (by simp [results, Try.results19, go_sem, r0, r1]) rfl ⟨rfl, two_below B HR.out _ _⟩
set_option maxHeartbeats 1000000 in
theorem Keys_nil (w : World) :
    Calls Try.prog 22 #[.pointer none] w fun e w' => e = .returned (.slice none 0 0) ∧ Below w.heap.size w w' := by
  go_enter Try.func22, Try.ntmps22
  go_wp2
  go_ret
  exact ⟨rfl, Below.refl _ _⟩
set_option maxHeartbeats 1000000 in
theorem Drop_nil (p t : Int) (w : World) :
    Calls Try.prog 17 #[.pointer none, .agg #[.int .i64 p, .int .i64 t]] w fun e w' => e = .returned (.int .i64 1) ∧ Below w.heap.size w w' := by
  have B : Below w.heap.size w (w.alloc (.cells #[.int .i64 p, .int .i64 t] 29)) := (Below.refl w.heap.size w).alloc (Nat.le_refl _) _
  go_enter Try.func17, Try.ntmps17
  go_upto_region 1 with fail
  generalize w.alloc (.cells #[.int .i64 p, .int .i64 t] 29) = W at B ⊢
  have HB := Lib.hid B
  clear B
  go_wp2_with fail
  go_ret
  exact ⟨rfl, HB.out⟩
set_option maxHeartbeats 1000000 in
theorem Drop_no (g gl : Nat) (s : TS) (w : World) (h : IsT w g gl s) (p t : Int) (hi : isH s p t = false) :
    Calls Try.prog 17 #[.pointer (some ⟨g, 0, none⟩), .agg #[.int .i64 p, .int .i64 t]] w fun e w' => e = .returned (.int .i64 7) ∧ Below w.heap.size w w' := by
  have B : Below w.heap.size w (w.alloc (.cells #[.int .i64 p, .int .i64 t] 29)) := (Below.refl w.heap.size w).alloc (Nat.le_refl _) _
  have h2 := Blk.new w 29 #[.int .i64 p, .int .i64 t]
  have HA := Lib.hid (h.alloc (.cells #[.int .i64 p, .int .i64 t] 29))
  have HI := Lib.hid (fun (W : World) (hW : IsT W g gl s) => is_any g gl s W hW p t)
  rw [hi] at HI
  clear h hi
  go_enter Try.func17, Try.ntmps17
  go_upto_region 1 with fail
  generalize w.alloc (.cells #[.int .i64 p, .int .i64 t] 29) = W at B h2 HA ⊢
  have HB := Lib.hid B
  obtain ⟨c0, c1⟩ := two_cells h2
  clear B h2
  go_wp2_with fail
  refine (HI.out W HA.out).mono ?_
  rintro e W1 ⟨rfl, b1⟩
  have HB1 := Lib.hid (HB.out.trans (b1.mono HB.out.size))
  go_wp2_with fail
  go_ret
  exact ⟨rfl, HB1.out⟩
set_option maxHeartbeats 1000000 in
set_option maxRecDepth 100000 in
theorem Put_nil (p t : Int) (w : World) :
    Calls Try.prog 13 #[.pointer none, .agg #[.int .i64 p, .int .i64 t]] w fun e w' => e = .returned (.tuple #[.agg #[.int .i64 0, .int .i64 0], .int .i64 1]) ∧ Below w.heap.size w w' := by
  have e1 : (w.alloc (.cells #[.int .i64 p, .int .i64 t] 27)).heap.size = w.heap.size + 1 := by simp
  have h2 := Blk.new (w.alloc (.cells #[.int .i64 p, .int .i64 t] 27)) 29 (two_ 0 0)
  rw [e1] at h2
  have B : Below w.heap.size w ((w.alloc (.cells #[.int .i64 p, .int .i64 t] 27)).alloc (.cells (two_ 0 0) 29)) := ((Below.refl w.heap.size w).alloc (Nat.le_refl _) _).alloc (by rw [e1]; omega) _
  have HR : Hid (w.heap.size ≤ w.heap.size + 1) := Lib.hid (by omega)
  clear e1
  go_enter Try.func13, Try.ntmps13
  go_upto_region 1 with fail
  change Blk ((w.alloc (.cells #[.int .i64 p, .int .i64 t] 27)).alloc (.cells #[.int .i64 0, .int .i64 0] 29)) _ _ _ at h2
  change Below _ _ ((w.alloc (.cells #[.int .i64 p, .int .i64 t] 27)).alloc (.cells #[.int .i64 0, .int .i64 0] 29)) at B
  generalize (w.alloc (.cells #[.int .i64 p, .int .i64 t] 27)).alloc (.cells #[.int .i64 0, .int .i64 0] 29) = W at h2 B ⊢
  obtain ⟨r0, r1⟩ := two_cells h2
  have f0 := h2.frozen
  go_wp2_with fail
  clear r0 r1
  obtain ⟨r0, r1⟩ := two_cells (two_set h2 0 0)
  exact bodyPost_ret (v := .tuple #[.agg #[.int .i64 0, .int .i64 0], .int .i64 1]) (by simp [results, Try.results13, go_sem, r0, r1]) rfl ⟨rfl, two_below B HR.out _ _⟩
end Go.Proofs.Ytfoigflgglpobaa.Tr
