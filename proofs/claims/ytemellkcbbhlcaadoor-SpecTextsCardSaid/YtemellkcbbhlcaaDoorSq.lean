/- The contracts of spec's other numbers: microseconds, which one is less, sums; and which specs may be by the reference. No condition. -/
import Derived.Test.YtemellkcbbhlcaaDoorSp
import Derived.Test.YtemellkcbbhlcaaDoorTrb
set_option linter.unusedVariables false
set_option linter.unusedSimpArgs false
namespace Go.Proofs.YtemellkcbbhlcaaDoor.Sp
open Go.RowKit Go.Proofs.YtemellkcbbhlcaaDoor.Aid Go.Proofs.YtemellkcbbhlcaaDoor.Kt Go.Proofs.YtemellkcbbhlcaaDoor.Tr
instance (s n : Int) : Decidable (Rt s n) := by unfold Rt; exact inferInstance
set_option maxHeartbeats 1000000 in
theorem micro_no (s u : Int) (h : s < 0 ∨ u < 0 ∨ 999999 < u) (w : World) : Calls Tryd.prog 23 #[.int .i64 s, .int .i64 u] w fun e w' => e = .returned (.tuple #[.agg #[.int .i64 0, .int .i64 0], .int .i64 2]) ∧ Below w.heap.size w w' := by
  have h' : s < 0 ∨ (¬ s < 0 ∧ u < 0) ∨ (¬ s < 0 ∧ ¬ u < 0 ∧ 999999 < u) := by omega
  clear h
  rcases h' with h1 | ⟨h1, h2⟩ | ⟨h1, h2, h3⟩
  all_goals
    go_enter Tryd.func23, Tryd.ntmps23
    go_wp2
    exact bodyPost_ret (v := .tuple #[.agg #[.int .i64 0, .int .i64 0], .int .i64 2]) (by simp [results, Tryd.results23, go_sem]) rfl ⟨rfl, (Below.refl _ _).alloc (Nat.le_refl _) _⟩
set_option maxHeartbeats 1000000 in
theorem micro_yes (s u : Int) (h1 : 0 ≤ s) (h2 : 0 ≤ u) (h3 : u ≤ 999999) (w : World) : Calls Tryd.prog 23 #[.int .i64 s, .int .i64 u] w fun e w' => e = .returned (.tuple #[.agg #[.int .i64 s, .int .i64 (u * 1000)], .int .i64 0]) ∧ Below w.heap.size w w' := by
  have hw : IntKind.i64.wrap (u * 1000) = u * 1000 := by rw [IntKind.wrap_i64]; omega
  have n1 : decide (s < 0) = false := decide_eq_false (by omega)
  have n2 : decide (u < 0) = false := decide_eq_false (by omega)
  have n3 : decide (u > 999999) = false := decide_eq_false (by omega)
  go_enter Tryd.func23, Tryd.ntmps23
  go_wp2
  exact bodyPost_ret (v := .tuple #[.agg #[.int .i64 s, .int .i64 (u * 1000)], .int .i64 0]) (by simp [results, Tryd.results23, go_sem]) rfl ⟨rfl, (Below.refl _ _).alloc (Nat.le_refl _) _⟩
set_option maxHeartbeats 1000000 in
theorem rright_any (s n : Int) (w : World) : Calls Tryd.prog 15 #[.agg #[.int .i64 s, .int .i64 n]] w fun e w' => e = .returned (.bool (decide (Rt s n))) ∧ Below w.heap.size w w' := by
  have h : ((¬ 0 ≤ s) ∧ decide (Rt s n) = false) ∨ (0 ≤ s ∧ (¬ 0 ≤ n) ∧ decide (Rt s n) = false) ∨ (0 ≤ s ∧ 0 ≤ n ∧ (¬ n ≤ 999999999) ∧ decide (Rt s n) = false) ∨ (0 ≤ s ∧ 0 ≤ n ∧ n ≤ 999999999 ∧ decide (Rt s n) = true) := by
    by_cases h : Rt s n
    · have h' := h; unfold Rt at h'; exact .inr (.inr (.inr ⟨h'.1, h'.2.1, h'.2.2, decide_eq_true h⟩))
    · have := not_rt h
      rw [decide_eq_false h]
      rcases this with h1 | ⟨h1, h2⟩ | ⟨h1, h2, h3⟩
      · exact .inl ⟨by omega, rfl⟩
      · exact .inr (.inl ⟨h1, by omega, rfl⟩)
      · exact .inr (.inr (.inl ⟨h1, h2, by omega, rfl⟩))
  rcases h with ⟨h1, h⟩ | ⟨h1, h2, h⟩ | ⟨h1, h2, h3, h⟩ | ⟨h1, h2, h3, h⟩
  all_goals
    rw [h]
    clear h
    go_enter Tryd.func15, Tryd.ntmps15
    go_wp2
    go_ret
    exact ⟨ret_bool (by first | rfl | simp; omega), (Below.refl _ _).alloc (Nat.le_refl _) _⟩
def lsS (a b c d : Int) : Bool := decide (a < c ∨ a = c ∧ b < d)
set_option maxHeartbeats 1000000 in
set_option maxRecDepth 100000 in
theorem less_any (a b c d : Int) (w : World) : Calls Tryd.prog 22 #[.agg #[.int .i64 a, .int .i64 b], .agg #[.int .i64 c, .int .i64 d]] w fun e w' => e = .returned (.bool (lsS a b c d)) ∧ Below w.heap.size w w' := by
  have h1 := (Blk.new w 23 #[.int .i64 a, .int .i64 b]).alloc (.cells #[.int .i64 c, .int .i64 d] 23)
  have h2 := Blk.new (w.alloc (.cells #[.int .i64 a, .int .i64 b] 23)) 23 #[.int .i64 c, .int .i64 d]
  have B := ((Below.refl w.heap.size w).alloc (Nat.le_refl _) (.cells #[.int .i64 a, .int .i64 b] 23)).alloc (by simp) (.cells #[.int .i64 c, .int .i64 d] 23)
  have es : (w.alloc (.cells #[.int .i64 a, .int .i64 b] 23)).heap.size = w.heap.size + 1 := by simp
  rw [es] at h2
  have HR := Lib.hid (show decide (ordK a b c d < 0) = lsS a b c d by
    unfold lsS
    refine decide_eq_decide.2 ?_
    have := ordK_ge (t1 := a) (s1 := b) (t2 := c) (s2 := d)
    omega)
  go_enter Tryd.func22, Tryd.ntmps22
  go_upto_region 1 with fail
  generalize w.heap.size + 1 = g2 at h2 ⊢
  generalize (w.alloc (.cells #[.int .i64 a, .int .i64 b] 23)).alloc (.cells #[.int .i64 c, .int .i64 d] 23) = W at h1 h2 B ⊢
  have BF : Hid (Below w.heap.size w ((W.alloc (.cells #[.int .i64 (cmpI a c), .int .i64 (cmpI b d)] 3)).drew)) := Lib.hid (below_drewN (B.alloc B.size _) 1)
  refine wp_region_still_tail 10 (by kernel_rfl) (by kernel_rfl) ?_
  change wpStill _ _ W.drew _ _ _
  have c0' : W.drew.cell? ⟨w.heap.size, 0, none⟩ = some (.int .i64 a) := h1.cell 0
  have c1' : W.drew.cell? ⟨w.heap.size, 1, none⟩ = some (.int .i64 b) := h1.cell 1
  have c2' : W.drew.cell? ⟨g2, 0, none⟩ = some (.int .i64 c) := h2.cell 0
  have c3' : W.drew.cell? ⟨g2, 1, none⟩ = some (.int .i64 d) := h2.cell 1
  clear B h1 h2 es
  generalize W.drew = W1 at c0' c1' c2' c3' ⊢
  simp only [List.take_succ_cons, List.take_zero, List.drop_succ_cons, List.drop_zero]
  still_step
  still_step
  still_step
  still_step
  still_call ((Compare_any a c W1).mono fun e w' h => ⟨h.1, h.2.symm⟩)
  still_step
  still_step
  still_step
  still_step
  still_call ((Compare_any b d W1).mono fun e w' h => ⟨h.1, h.2.symm⟩)
  refine wpStill_nil ?_
  clear c0' c1' c2' c3'
  go_wp2_with fail
  refine (Or_new W _ _).mono ?_
  rintro e w1 ⟨rfl, rfl⟩
  go_wp2_with fail
  go_ret
  exact ⟨ret_bool HR.out, BF.out⟩
/-- a sum: seconds, nanoseconds; its error -/
def addS (a b c d : Int) : Int × Int × Int := if ¬ Rt a b ∨ ¬ Rt c d then (0, 0, 2) else if a > 4611686018427387904 - (b + d) / 1000000000 ∨ c > 4611686018427387904 - (b + d) / 1000000000 - a then (0, 0, 6) else (a + c + (b + d) / 1000000000, (b + d) % 1000000000, 0)
/-- what stands in Add -/
structure SMd (w W : World) (g1 g2 g4 : Nat) (a b c d x y : Int) : Prop where
  h1 : Blk W g1 23 #[.int .i64 a, .int .i64 b]
  h2 : Blk W g2 23 #[.int .i64 c, .int .i64 d]
  h4 : Blk W g4 23 #[.int .i64 x, .int .i64 y]
  B : Below w.heap.size w W
  n : w.heap.size ≤ g4
theorem SMd.call {w W W' : World} {g1 g2 g4 : Nat} {a b c d x y : Int} (h : SMd w W g1 g2 g4 a b c d x y) (k : Below W.heap.size W W') : SMd w W' g1 g2 g4 a b c d x y :=
  ⟨h.h1.below k h.h1.lt, h.h2.below k h.h2.lt, h.h4.below k h.h4.lt, h.B.trans (k.mono h.B.size), h.n⟩
theorem SMd.cells {w W : World} {g1 g2 g4 : Nat} {a b c d x y : Int} (h : SMd w W g1 g2 g4 a b c d x y) : W.cell? ⟨g1, 0, none⟩ = some (.int .i64 a) ∧ W.cell? ⟨g1, 1, none⟩ = some (.int .i64 b) ∧ W.cell? ⟨g2, 0, none⟩ = some (.int .i64 c) ∧ W.cell? ⟨g2, 1, none⟩ = some (.int .i64 d) ∧ W.cell? ⟨g4, 0, none⟩ = some (.int .i64 x) ∧ W.cell? ⟨g4, 1, none⟩ = some (.int .i64 y) := ⟨h.h1.cell 0, h.h1.cell 1, h.h2.cell 0, h.h2.cell 1, h.h4.cell 0, h.h4.cell 1⟩
theorem SMd.put {w W : World} {g1 g2 g4 : Nat} {a b c d x y : Int} (h : SMd w W g1 g2 g4 a b c d x y) (u v : Int) :
    ((W.setCell ⟨g4, 0, none⟩ (.int .i64 u)).setCell ⟨g4, 1, none⟩ (.int .i64 v)).cell? ⟨g4, 0, none⟩ = some (.int .i64 u) ∧ ((W.setCell ⟨g4, 0, none⟩ (.int .i64 u)).setCell ⟨g4, 1, none⟩ (.int .i64 v)).cell? ⟨g4, 1, none⟩ = some (.int .i64 v) ∧ Below w.heap.size w ((W.setCell ⟨g4, 0, none⟩ (.int .i64 u)).setCell ⟨g4, 1, none⟩ (.int .i64 v)) := by
  have hb := (h.h4.set_ 0 (.int .i64 u)).set_ 1 (.int .i64 v)
  exact ⟨by simpa using hb.cell 0, by simpa using hb.cell 1, (h.B.setCell (p := ⟨g4, 0, none⟩) h.n _).setCell (p := ⟨g4, 1, none⟩) h.n _⟩
set_option maxHeartbeats 2000000 in
set_option maxRecDepth 100000 in
theorem sadd_any (a b c d : Int) (hb : -9223372036854775808 ≤ a ∧ a ≤ 9223372036854775807 ∧ -9223372036854775808 ≤ c ∧ c ≤ 9223372036854775807) (w : World) : Calls Tryd.prog 24 #[.agg #[.int .i64 a, .int .i64 b], .agg #[.int .i64 c, .int .i64 d]] w fun e w' => e = .returned (.tuple #[.agg #[.int .i64 (addS a b c d).1, .int .i64 (addS a b c d).2.1], .int .i64 (addS a b c d).2.2]) ∧ Below w.heap.size w w' := by
  have h1 := ((Blk.new w 23 #[.int .i64 a, .int .i64 b]).alloc (.cells #[.int .i64 c, .int .i64 d] 23)).alloc (.cells #[.int .i64 0, .int .i64 0] 23)
  have h2 := (Blk.new (w.alloc (.cells #[.int .i64 a, .int .i64 b] 23)) 23 #[.int .i64 c, .int .i64 d]).alloc (.cells #[.int .i64 0, .int .i64 0] 23)
  have h4 := Blk.new ((w.alloc (.cells #[.int .i64 a, .int .i64 b] 23)).alloc (.cells #[.int .i64 c, .int .i64 d] 23)) 23 #[.int .i64 0, .int .i64 0]
  have B := (((Below.refl w.heap.size w).alloc (Nat.le_refl _) (.cells #[.int .i64 a, .int .i64 b] 23)).alloc (by simp) (.cells #[.int .i64 c, .int .i64 d] 23)).alloc (by simp; omega) (.cells #[.int .i64 0, .int .i64 0] 23)
  have es : (w.alloc (.cells #[.int .i64 a, .int .i64 b] 23)).heap.size = w.heap.size + 1 := by simp
  have es2 : ((w.alloc (.cells #[.int .i64 a, .int .i64 b] 23)).alloc (.cells #[.int .i64 c, .int .i64 d] 23)).heap.size = w.heap.size + 1 + 1 := by simp
  rw [es] at h2
  rw [es2] at h4
  have S := show SMd w (((w.alloc (.cells #[.int .i64 a, .int .i64 b] 23)).alloc (.cells #[.int .i64 c, .int .i64 d] 23)).alloc (.cells #[.int .i64 0, .int .i64 0] 23)) w.heap.size (w.heap.size + 1) (w.heap.size + 1 + 1) a b c d 0 0 from ⟨h1, h2, h4, B, by omega⟩
  clear h1 h2 h4 B es es2
  obtain ⟨R, hR⟩ : ∃ R, addS a b c d = R := ⟨_, rfl⟩
  rw [hR]
  have HRR := Lib.hid hR
  clear hR
  go_enter Tryd.func24, Tryd.ntmps24
  go_upto_region 1 with fail
  generalize ((w.alloc (.cells #[.int .i64 a, .int .i64 b] 23)).alloc (.cells #[.int .i64 c, .int .i64 d] 23)).alloc (.cells #[.int .i64 0, .int .i64 0] 23) = W at S ⊢
  generalize w.heap.size + 1 + 1 = g4 at S ⊢
  generalize w.heap.size + 1 = g2 at S ⊢
  obtain ⟨g1, hg1⟩ : ∃ g, w.heap.size = g := ⟨_, rfl⟩
  have HG := Lib.hid hg1
  rw [hg1] at S ⊢
  clear hg1
  obtain ⟨c0, c1, c2, c3, c4, c5⟩ := S.cells
  have HS := Lib.hid S
  clear S
  by_cases hab : Rt a b
  · have HR := Lib.hid (fun W => right_yes a b hab W)
    go_wp2_with fail
    refine (HR.out _).mono ?_
    rintro e W1 ⟨rfl, b1⟩
    have S1 := HS.out.call b1
    clear HS b1 c0 c1 c2 c3 c4 c5 HR
    obtain ⟨c0, c1, c2, c3, c4, c5⟩ := S1.cells
    have HS := Lib.hid S1
    clear S1
    by_cases hcd : Rt c d
    · have HR := Lib.hid (fun W => right_yes c d hcd W)
      obtain ⟨q, hq⟩ : ∃ q, (b + d) / 1000000000 = q := ⟨_, rfl⟩
      obtain ⟨r, hr⟩ : ∃ r, (b + d) % 1000000000 = r := ⟨_, rfl⟩
      have k1 := hab
      have k2 := hcd
      unfold Rt at k1 k2
      have hqb : 0 ≤ q ∧ q ≤ 1 := by omega
      have e1 : wrap64 (b + d) = b + d := by unfold wrap64; omega
      have e2 : wrap64 (4611686018427387904 - q) = 4611686018427387904 - q := by unfold wrap64; omega
      have e3 : wrap64 (4611686018427387904 - q - a) = 4611686018427387904 - q - a := by unfold wrap64; omega
      have et1 : (b + d).tdiv 1000000000 = q := by rw [Int.tdiv_eq_ediv_of_nonneg (by omega)]; exact hq
      have et2 : (b + d).tmod 1000000000 = r := by rw [Int.tmod_eq_emod_of_nonneg (by omega)]; exact hr
      go_wp2_with fail
      refine (HR.out _).mono ?_
      rintro e W2 ⟨rfl, b2⟩
      have S2 := HS.out.call b2
      clear HS b2 c0 c1 c2 c3 c4 c5 HR
      obtain ⟨c0, c1, c2, c3, c4, c5⟩ := S2.cells
      have f4 := S2.h4.frozen
      have HS := Lib.hid S2
      clear S2
      by_cases k3 : a > 4611686018427387904 - q
      · have HE := Lib.hid (show addS a b c d = (0, 0, 6) by unfold addS; rw [if_neg (by rw [not_or]; exact ⟨fun h => h hab, fun h => h hcd⟩), hq, if_pos (.inl k3)])
        clear hab hcd
        go_wp2_with fail
        obtain ⟨p0, p1, p2⟩ := HS.out.put (0) (0)
        exact bodyPost_ret (v := .tuple #[.agg #[.int .i64 (0), .int .i64 (0)], .int .i64 6]) (by simp [results, Tryd.results24, go_sem, p0, p1]) rfl ⟨by rw [← HRR.out, HE.out], p2⟩
      · have k3' : decide (a > 4611686018427387904 - q) = false := decide_eq_false k3
        by_cases k4 : c > 4611686018427387904 - q - a
        · have HE := Lib.hid (show addS a b c d = (0, 0, 6) by unfold addS; rw [if_neg (by rw [not_or]; exact ⟨fun h => h hab, fun h => h hcd⟩), hq, if_pos (.inr k4)])
          clear hab hcd
          go_wp2_with fail
          obtain ⟨p0, p1, p2⟩ := HS.out.put (0) (0)
          exact bodyPost_ret (v := .tuple #[.agg #[.int .i64 (0), .int .i64 (0)], .int .i64 6]) (by simp [results, Tryd.results24, go_sem, p0, p1]) rfl ⟨by rw [← HRR.out, HE.out], p2⟩
        · have k4' : decide (c > 4611686018427387904 - q - a) = false := decide_eq_false k4
          have HE := Lib.hid (show addS a b c d = (a + c + q, r, 0) by unfold addS; rw [if_neg (by rw [not_or]; exact ⟨fun h => h hab, fun h => h hcd⟩), hq, hr, if_neg (by rw [not_or]; exact ⟨k3, k4⟩)])
          have e4 : wrap64 (a + c) = a + c := by unfold wrap64; omega
          have e5 : wrap64 (a + c + q) = a + c + q := by unfold wrap64; omega
          clear hab hcd
          go_wp2_with fail
          obtain ⟨p0, p1, p2⟩ := HS.out.put (a + c + q) (r)
          exact bodyPost_ret (v := .tuple #[.agg #[.int .i64 (a + c + q), .int .i64 (r)], .int .i64 0]) (by simp [results, Tryd.results24, go_sem, p0, p1]) rfl ⟨by rw [← HRR.out, HE.out], p2⟩
    · have HR := Lib.hid (fun W => right_no c d hcd W)
      have HE := Lib.hid (show addS a b c d = (0, 0, 2) by unfold addS; rw [if_pos (.inr hcd)])
      go_wp2_with fail
      refine (HR.out _).mono ?_
      rintro e W2 ⟨rfl, b2⟩
      have S2 := HS.out.call b2
      clear HS b2 c0 c1 c2 c3 c4 c5 HR
      obtain ⟨c0, c1, c2, c3, c4, c5⟩ := S2.cells
      have f4 := S2.h4.frozen
      have HS := Lib.hid S2
      clear S2
      go_wp2_with fail
      obtain ⟨p0, p1, p2⟩ := HS.out.put (0) (0)
      exact bodyPost_ret (v := .tuple #[.agg #[.int .i64 (0), .int .i64 (0)], .int .i64 2]) (by simp [results, Tryd.results24, go_sem, p0, p1]) rfl ⟨by rw [← HRR.out, HE.out], p2⟩
  · have HR := Lib.hid (fun W => right_no a b hab W)
    have HE := Lib.hid (show addS a b c d = (0, 0, 2) by unfold addS; rw [if_pos (.inl hab)])
    go_wp2_with fail
    refine (HR.out _).mono ?_
    rintro e W2 ⟨rfl, b2⟩
    have S2 := HS.out.call b2
    clear HS b2 c0 c1 c2 c3 c4 c5 HR
    obtain ⟨c0, c1, c2, c3, c4, c5⟩ := S2.cells
    have f4 := S2.h4.frozen
    have HS := Lib.hid S2
    clear S2
    go_wp2_with fail
    obtain ⟨p0, p1, p2⟩ := HS.out.put (0) (0)
    exact bodyPost_ret (v := .tuple #[.agg #[.int .i64 (0), .int .i64 (0)], .int .i64 2]) (by simp [results, Tryd.results24, go_sem, p0, p1]) rfl ⟨by rw [← HRR.out, HE.out], p2⟩
end Go.Proofs.YtemellkcbbhlcaaDoor.Sp
