/- Lemmas and contracts for RowBaseMoves, merged by program out of Be. No condition. -/
import Derived.Test.YtcoibhmgblicfaaBz12
set_option linter.unusedVariables false
set_option linter.unusedSimpArgs false
/- Base's Start. No condition but that memory holds a base. -/
set_option linter.unusedVariables false
set_option linter.unusedSimpArgs false
namespace Go.Proofs.Ytcoibhmgblicfaa.Ba
open Go.RowKit Go.Proofs.Ytcoibhmgblicfaa.Aid Go.Proofs.Ytcoibhmgblicfaa.Tr Go.Proofs.Ytcoibhmgblicfaa.Kt Go.Proofs.Ytcoibhmgblicfaa.Q
/-- a timer's queue -/
def place (t : Tm) : Nat := 2 * t.clock.toNat + sd t.lazy
def startE (rows : Nat → List Tm) (t : Tm) : Int := if t.clock < 0 ∨ 3 ≤ t.clock then 2 else if hasB rows t.id then 9 else addE (rows (place t)) t
def startR (rows : Nat → List Tm) (t : Tm) : Nat → List Tm := fun j => if startE rows t = 0 ∧ j = place t then addR (rows j) t else rows j
theorem place_lt {t : Tm} (h0 : 0 ≤ t.clock) (h3 : t.clock < 3) : place t < 6 := by
  unfold place sd
  split <;> omega
/-- a timer of no clock -/
theorem start_clock (b : Nat) (t : Tm) (hc : t.clock < 0 ∨ 3 ≤ t.clock) (w : World) :
    Calls Try.prog 8 #[.pointer (some ⟨b, 0, none⟩), t.agg] w fun e w' => e = .returned (.int .i64 2) ∧ Below w.heap.size w w' := by
  have hb := Blk.new w 29 t.cells
  have B1 := (Below.refl w.heap.size w).alloc (Nat.le_refl _) (.cells t.cells 29)
  obtain ⟨c0, c1, c2, c3, c4⟩ := bx5_cells hb
  have HB := Lib.hid B1
  clear B1 hb
  unfold Tm.cells at c0 c1 c2 c3 c4 HB
  unfold Tm.agg
  go_enter Try.func8, Try.ntmps8
  by_cases h0 : t.clock < 0
  · go_wp2_with fail
    go_ret
    exact ⟨rfl, HB.out⟩
  · have h3 : 3 ≤ t.clock := by omega
    go_wp2_with fail
    go_ret
    exact ⟨rfl, HB.out⟩
set_option maxHeartbeats 1000000 in
set_option maxRecDepth 100000 in
theorem start_busy (w : World) {b : Nat} {P : Nat → QP} {rows : Nat → List Tm} {M : Int} (h : BHas w b P rows M) (t : Tm) (hid : I64 t.id) (h0 : 0 ≤ t.clock) (h3 : t.clock < 3) (hyes : hasB rows t.id = true) :
    Calls Try.prog 8 #[.pointer (some ⟨b, 0, none⟩), t.agg] w fun e w' => e = .returned (.int .i64 9) ∧ Below w.heap.size w w' := by
  have hb := Blk.new w 29 t.cells
  have B1 := (Below.refl w.heap.size w).alloc (Nat.le_refl _) (.cells t.cells 29)
  obtain ⟨c0, c1, c2, c3, c4⟩ := bx5_cells hb
  have C := has_any _ (h.alloc (.cells t.cells 29)) t.id hid
  rw [hyes] at C
  have HC := Lib.hid C
  have HB := Lib.hid B1
  clear B1 hb C hyes h
  unfold Tm.cells at c0 c1 c2 c3 c4 HB HC
  unfold Tm.agg
  have n0 : ¬ t.clock < 0 := by omega
  have n3 : ¬ 3 ≤ t.clock := by omega
  go_enter Try.func8, Try.ntmps8
  go_wp2_with fail
  refine HC.out.mono ?_
  rintro e W1 ⟨rfl, b1⟩
  go_wp2_with fail
  go_ret
  exact ⟨rfl, HB.out.trans (b1.mono HB.out.size)⟩
set_option maxHeartbeats 2000000 in
set_option maxRecDepth 100000 in
theorem start_add (w : World) {b : Nat} {P : Nat → QP} {rows : Nat → List Tm} {M : Int} (h : BHas w b P rows M) (t : Tm) (hid : I64 t.id) (h0 : 0 ≤ t.clock) (h3 : t.clock < 3) (hno : hasB rows t.id = false) (hM : M ≤ 4611686018427387904) :
    Calls Try.prog 8 #[.pointer (some ⟨b, 0, none⟩), t.agg] w fun e w' => e = .returned (.int .i64 (addE (rows (place t)) t)) ∧ BHas w' b P (fun j => if j = place t then addR (rows (place t)) t else rows j) (M + 1) ∧ Only (BF b P) w w' := by
  have hp6 := place_lt h0 h3
  obtain ⟨id, c, so, ha, lz⟩ := t
  obtain ⟨k, rfl⟩ : ∃ k : Nat, c = k := ⟨c.toNat, by simp only at h0; omega⟩
  simp only at h0 h3 hid hno
  have hk3 : k < 3 := by omega
  have hpl : place ⟨id, k, so, ha, lz⟩ = k * 2 + sd lz := by unfold place; simp; omega
  obtain ⟨t, ht⟩ : ∃ t : Tm, t = ⟨id, k, so, ha, lz⟩ := ⟨_, rfl⟩
  rw [← ht] at hp6 hpl ⊢
  have hC : hasB rows t.id = false := by rw [ht]; exact hno
  have hI : I64 t.id := by rw [ht]; exact hid
  clear hno hid
  have hb := Blk.new w 29 t.cells
  have B1 := (Below.refl w.heap.size w).alloc (Nat.le_refl _) (.cells t.cells 29)
  have h1 := h.alloc (.cells t.cells 29)
  have C := has_any _ h1 t.id hI
  rw [hC] at C
  have HC := Lib.hid C
  have HB := Lib.hid (And.intro hb (And.intro B1 h1))
  obtain ⟨c0, c1, c2, c3, c4⟩ := bx5_cells hb
  clear B1 hb C hC h1
  have HT := Lib.hid ht
  have ea : t.agg = .agg #[.int .i64 id, .int .i64 (k : Nat), .int .i64 so, .int .i64 ha, .bool lz] := by rw [ht]; rfl
  have ec : t.cells = #[.int .i64 id, .int .i64 (k : Nat), .int .i64 so, .int .i64 ha, .bool lz] := by rw [ht]; rfl
  have ei : t.id = id := by rw [ht]
  rw [ea]
  rw [ec] at c0 c1 c2 c3 c4 HC HB
  rw [ei] at HC c0
  simp only [ht] at c0 c1 c2 c3 c4
  clear ea ec ei ht
  have n0 : ¬ ((k : Nat) : Int) < 0 := by omega
  have n3 : ¬ (3 : Int) ≤ ((k : Nat) : Int) := by omega
  obtain ⟨E, hE⟩ : ∃ e, addE (rows (place t)) t = e := ⟨_, rfl⟩
  obtain ⟨R, hR⟩ : ∃ e, addR (rows (place t)) t = e := ⟨_, rfl⟩
  rw [hE, hR]
  have HER := Lib.hid (And.intro hE hR)
  clear hE hR
  go_enter Try.func8, Try.ntmps8
  go_wp2_with fail
  refine HC.out.mono ?_
  rintro e W1 ⟨rfl, b1⟩
  have hb1 := HB.out.1.below b1 HB.out.1.lt
  have h1 := HB.out.2.2.below b1
  have B1 := HB.out.2.1.trans (b1.mono HB.out.2.1.size)
  obtain ⟨g, hg⟩ : ∃ g, w.heap.size = g := ⟨_, rfl⟩
  rw [hg] at hb1 c0 c1 c2 c3 c4 ⊢
  clear c0 c1 c2 c3 c4
  have c0 := hb1.cell 0
  have c1 := hb1.cell 1
  have c2 := hb1.cell 2
  have c3 := hb1.cell 3
  have c4 := hb1.cell 4
  have cb : W1.cell? ⟨b, k * 2 + sd lz, none⟩ = some (.pointer (some ⟨(P (k * 2 + sd lz)).q, 0, none⟩)) := (h1.bb.cell _).trans (six_at P _ (by rw [← hpl]; exact hp6))
  have hsd : sd lz < 2 := by unfold sd; split <;> omega
  have CA := QHas_add (h1.q (place t) hp6).drew t hI hM
  rw [HER.out.1, HER.out.2] at CA
  rw [hpl] at CA
  rw [show t.agg = .agg #[.int .i64 id, .int .i64 (k : Nat), .int .i64 so, .int .i64 ha, .bool lz] by rw [HT.out]; rfl] at CA
  have CA : Calls Try.prog 21 #[.pointer (some ⟨(P (k * 2 + sd lz)).q, 0, none⟩), .agg #[.int .i64 id, .int .i64 (k : Nat), .int .i64 so, .int .i64 ha, .bool lz]] W1.drew fun e w' =>
    e = .returned (.int .i64 E) ∧ QHas w' (P (k * 2 + sd lz)) R (M + 1) ∧ Only (P (k * 2 + sd lz)).F W1.drew w' := CA
  have HA := Lib.hid CA
  have HW := Lib.hid (And.intro h1 (And.intro B1 hpl))
  have hb2 := hb1.drew
  have d0 := hb2.cell 0
  have d1 := hb2.cell 1
  have d2 := hb2.cell 2
  have d3 := hb2.cell 3
  have d4 := hb2.cell 4
  have db : W1.drew.cell? ⟨b, k * 2 + sd lz, none⟩ = some (.pointer (some ⟨(P (k * 2 + sd lz)).q, 0, none⟩)) := cb
  have hsi : ((sd lz : Nat) : Int) < 2 := by omega
  have hsi0 : (0 : Int) ≤ ((sd lz : Nat) : Int) := by omega
  have hks : ((k : Nat) : Int) < 3 := by omega
  clear CA h1 B1 hpl hb1 hb2 c0 c1 c2 c3 c4 cb h0 h3 n0 n3 b1 HC HB hg
  go_wp2_with fail
  go_region_with (first | (go_at_call 20; refine (side_any lz _).mono ?_; rintro e W5 ⟨rfl, rfl⟩) | (go_at_call 21; refine HA.out.mono ?_; rintro e W6 ⟨rfl, h6, o6⟩))
  all_goals
    rw [← HW.out.2.2] at h6 o6
    have h1 : BHas W1.drew b P rows M := HW.out.1.same fun _ _ => rfl
    have h2 := h1.goes hp6 h6 o6 (by omega)
    have o2 : Only (BF b P) w W6 := (Only.of_below (below_drewN HW.out.2.1 1) _).trans o6 fun x _ hx => .inr ⟨_, hp6, hx⟩
    have FIN := Lib.hid (And.intro h2 o2)
    clear h6 o6 h1 h2 o2 HW HA CA HT HER d0 d1 d2 d3 d4 db
    go_wp2_with fail
    go_ret
    exact ⟨rfl, FIN.out.1, FIN.out.2⟩
/-- Start on a base: whatever the timer -/
theorem start_any (w : World) {b : Nat} {P : Nat → QP} {rows : Nat → List Tm} {M : Int} (h : BHas w b P rows M) (t : Tm) (hid : I64 t.id) (hM : M ≤ 4611686018427387904) :
    Calls Try.prog 8 #[.pointer (some ⟨b, 0, none⟩), t.agg] w fun e w' => e = .returned (.int .i64 (startE rows t)) ∧ BHas w' b P (startR rows t) (M + 1) ∧ Only (BF b P) w w' := by
  by_cases hc : t.clock < 0 ∨ 3 ≤ t.clock
  · have e1 : startE rows t = 2 := by unfold startE; rw [if_pos hc]
    have e2 : startR rows t = rows := by unfold startR; rw [e1]; rfl
    rw [e1, e2]
    refine (start_clock b t hc w).mono ?_
    rintro e w' ⟨rfl, b1⟩
    exact ⟨rfl, (h.below b1).mono (by omega), Only.of_below b1 _⟩
  · have h0 : 0 ≤ t.clock := by omega
    have h3 : t.clock < 3 := by omega
    cases hb : hasB rows t.id with
    | true =>
      have e1 : startE rows t = 9 := by unfold startE; rw [if_neg hc, if_pos hb]
      have e2 : startR rows t = rows := by unfold startR; rw [e1]; rfl
      rw [e1, e2]
      refine (start_busy w h t hid h0 h3 hb).mono ?_
      rintro e w' ⟨rfl, b1⟩
      exact ⟨rfl, (h.below b1).mono (by omega), Only.of_below b1 _⟩
    | false =>
      have e1 : startE rows t = addE (rows (place t)) t := by unfold startE; rw [if_neg hc, if_neg (by rw [hb]; simp)]
      have e2 : startR rows t = fun j => if j = place t then addR (rows (place t)) t else rows j := by
        funext j
        unfold startR
        rw [e1]
        by_cases ej : j = place t
        · subst ej
          rw [if_pos rfl]
          unfold addR
          by_cases e0 : addE (rows (place t)) t = 0
          · rw [if_pos ⟨e0, rfl⟩]
          · rw [if_neg (fun e => e0 e.1), if_neg e0]
        · rw [if_neg ej, if_neg (fun e => ej e.2)]
      rw [e1, e2]
      exact start_add w h t hid h0 h3 hb hM
/-- Start on no base -/
theorem start_nil (t : Tm) (w : World) : Calls Try.prog 8 #[.pointer none, t.agg] w fun e w' => e = .returned (.int .i64 1) ∧ Below w.heap.size w w' := by
  have B1 := (Below.refl w.heap.size w).alloc (Nat.le_refl _) (.cells t.cells 29)
  have HB := Lib.hid B1
  clear B1
  unfold Tm.cells at HB
  unfold Tm.agg
  go_enter Try.func8, Try.ntmps8
  go_wp2_with fail
  go_ret
  exact ⟨rfl, HB.out⟩
end Go.Proofs.Ytcoibhmgblicfaa.Ba
