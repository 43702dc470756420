/- SpecTexts: the walk. No condition but what the library's variables hold. -/
import Derived.Test.YtemellkcbbhlcaaDoorSx
set_option linter.unusedVariables false
set_option linter.unusedSimpArgs false
namespace Go.Proofs.YtemellkcbbhlcaaDoor.Sp
open Go.RowKit Go.Sort Go.Proofs.YtemellkcbbhlcaaDoor.Aid Go.Proofs.YtemellkcbbhlcaaDoor.Kt Go.Proofs.YtemellkcbbhlcaaDoor.Tr Go.Proofs.YtemellkcbbhlcaaDoor.Str
theorem textS_len {s n : Int} (h : Rt s n) (hs : s ≤ 9223372036854775807) : (textS s n).length ≤ 30 := by
  have h1 := h
  unfold Rt at h1
  have l1 := itoa_len h1.1 hs
  have l2 := itoa_len9 h1.2.1 h1.2.2
  unfold textS
  simp only [List.length_append, Lib.repeatL_length, List.length_cons, List.length_nil]
  omega
theorem parse_pv (l : List UInt8) (hl : l.length < 4294967281) (X Y : Int) (I : Bool) (hX : X = ((parseS l).getD (0, 0)).1) (hY : Y = ((parseS l).getD (0, 0)).2) (hI : I = (parseS l).isSome) (w : World) (hm : Mx w) : Calls Tryd.prog 20 #[.string ⟨l.toArray⟩] w fun e w' => e = .returned (.tuple #[.agg #[.int .i64 X, .int .i64 Y], .bool I]) ∧ Below w.heap.size w w' := by
  subst hX hY hI
  exact parse_any l hl w hm
theorem rparse_pv (l : List UInt8) (hl : l.length ≤ 1000000) (X Y : Int) (I : Bool) (hX : X = ((parseS l).getD (0, 0)).1) (hY : Y = ((parseS l).getD (0, 0)).2) (hI : I = (parseS l).isSome) (w : World) : Calls Tryd.prog 21 #[.string ⟨l.toArray⟩] w fun e w' => e = .returned (.tuple #[.agg #[.int .i64 X, .int .i64 Y], .bool I]) ∧ Below w.heap.size w w' := by
  subst hX hY hI
  refine (rparse_any l hl w).mono ?_
  rintro e w' ⟨o, ho, rfl, b⟩
  rw [parse_same ho]
  refine ⟨?_, b⟩
  unfold refV
  cases parseS l <;> rfl
set_option maxHeartbeats 400000 in
set_option maxRecDepth 100000 in
theorem specTexts_big (s n : Int) (S : ByteArray) (hS : 100 < S.size) (w : World) (ht : Tab w) (hm : Mx w) : Calls Tryd.prog 4 #[.agg #[.int .i64 s, .int .i64 n], .string S] w fun e w' => e = .returned (.bool true) ∧ Below w.heap.size w w' := by
  have L0 := (show SB w w [] from ⟨Below.refl _ _, fun e he => by cases he⟩).box s n
  have hb : ((S.size : Nat) : Int) > 100 := by omega
  have HF := Lib.hid (sfixed_any _ (ht.below L0.B (Nat.le_refl _)) (hm.below L0.B (Nat.le_refl _)))
  have HB := Lib.hid L0.B
  clear L0
  go_enter Tryd.func4, Tryd.ntmps4
  go_wp2_with fail
  refine HF.out.mono ?_
  rintro e W2 ⟨rfl, b2⟩
  have HB2 := Lib.hid (HB.out.trans (b2.mono HB.out.size))
  clear HF HB b2
  go_wp2_with fail
  go_ret
  exact ⟨rfl, HB2.out⟩
set_option maxHeartbeats 4000000 in
set_option maxRecDepth 100000 in
theorem specTexts_walk (s n : Int) (hs : -9223372036854775808 ≤ s ∧ s ≤ 9223372036854775807) (l : List UInt8) (hl : l.length ≤ 100) (w : World) (ht : Tab w) (hm : Mx w) : Calls Tryd.prog 4 #[.agg #[.int .i64 s, .int .i64 n], .string ⟨l.toArray⟩] w fun e w' => e = .returned (.bool true) ∧ Below w.heap.size w w' := by
  have L0 := (show SB w w [] from ⟨Below.refl _ _, fun e he => by cases he⟩).box s n
  have HTM := Lib.hid (And.intro ht hm)
  clear ht hm
  have hsz : (ByteArray.mk l.toArray).size = l.length := sz_mk l
  obtain ⟨X, hX⟩ : ∃ X : Int, X = ((parseS l).getD (0, 0)).1 := ⟨_, rfl⟩
  obtain ⟨Y, hY⟩ : ∃ X : Int, X = ((parseS l).getD (0, 0)).2 := ⟨_, rfl⟩
  obtain ⟨I, hI⟩ : ∃ X : Bool, X = (parseS l).isSome := ⟨_, rfl⟩
  have HP1 := Lib.hid (fun W h => parse_pv l (by omega) X Y I hX hY hI W h)
  have HP2 := Lib.hid (fun W => rparse_pv l (by omega) X Y I hX hY hI W)
  clear hX hY hI
  have hb : decide (((l.length : Nat) : Int) > 100) = false := decide_eq_false (by omega)
  generalize ByteArray.mk l.toArray = S at hsz HP1 HP2 ⊢
  generalize l.length = N at hsz hb
  clear hl
  go_enter Tryd.func4, Tryd.ntmps4
  go_upto_region 1 with fail
  generalize hW1 : w.alloc (.cells #[.int .i64 s, .int .i64 n] 23) = W1 at L0 ⊢
  obtain ⟨g1, hg1⟩ : ∃ g, w.heap.size = g := ⟨_, rfl⟩
  rw [hg1] at L0 ⊢
  clear hg1 hW1
  have HF := Lib.hid (sfixed_any W1 (HTM.out.1.below L0.B (Nat.le_refl _)) (HTM.out.2.below L0.B (Nat.le_refl _)))
  have HL := Lib.hid L0
  clear L0
  go_wp2_with fail
  refine HF.out.mono ?_
  rintro e W2 ⟨rfl, b2⟩
  have L2 := HL.out.call b2
  clear HL b2 HF
  obtain ⟨p0, p1⟩ := L2.cells (e := (g1, s, n)) (by simp)
  dsimp only at p0 p1
  have HL2 := Lib.hid L2
  clear L2
  by_cases hR : Rt s n
  case' neg =>
    have HC := Lib.hid (fun W => text_no s n hR W)
    have HRr := Lib.hid (fun W => rright_any s n W)
    simp only [show decide (Rt s n) = false from decide_eq_false hR] at HRr
    have HPe := Lib.hid (fun W h => parse_pv [] (by decide) 0 0 false (by decide +kernel) (by decide +kernel) (by decide +kernel) W h)
    clear hR
    go_wp2_with fail
    refine (HC.out _).mono ?_
    rintro e W3 ⟨rfl, b3⟩
    have L3 := HL2.out.call b3
    clear HL2 b3 p0 p1 HC
    obtain ⟨p0, p1⟩ := L3.cells (e := (g1, s, n)) (by simp)
    dsimp only at p0 p1
    have HL3 := Lib.hid L3
    clear L3
    go_wp2_with fail
    refine (HRr.out _).mono ?_
    rintro e W4 ⟨rfl, b4⟩
    have L4 := HL3.out.call b4
    clear HL3 b4 p0 p1 HRr
    have HC := Lib.hid (HPe.out W4 (HTM.out.2.below L4.B (Nat.le_refl _)))
    have HL4 := Lib.hid L4
    clear L4 HPe
    go_wp2_with fail
    refine HC.out.mono ?_
    rintro e W5 ⟨rfl, b5⟩
    have L5 := (HL4.out.call b5).box 0 0
    clear HL4 b5 HC
    go_upto_region 9 with fail
    generalize W5.alloc (.cells #[.int .i64 0, .int .i64 0] 23) = W6 at L5 ⊢
    have HL6 := Lib.hid (show SB w W6 [] from ⟨L5.B, fun e he => by cases he⟩)
    have HC := Lib.hid (HP1.out W6 (HTM.out.2.below L5.B (Nat.le_refl _)))
    clear L5
    go_wp2_with fail
  case' pos =>
    have HC := Lib.hid (text_yes s n hs.2 hR W2 (HTM.out.1.below HL2.out.B (Nat.le_refl _)))
    have HRr := Lib.hid (fun W => rright_any s n W)
    simp only [show decide (Rt s n) = true from decide_eq_true hR] at HRr
    have HRt := Lib.hid (fun W => rtext_yes s n hs.2 hR W)
    have hTl := textS_len hR hs.2
    obtain ⟨X1, hX1⟩ : ∃ X : Int, X = ((parseS (textS s n)).getD (0, 0)).1 := ⟨_, rfl⟩
    obtain ⟨Y1, hY1⟩ : ∃ X : Int, X = ((parseS (textS s n)).getD (0, 0)).2 := ⟨_, rfl⟩
    obtain ⟨I1, hI1⟩ : ∃ X : Bool, X = (parseS (textS s n)).isSome := ⟨_, rfl⟩
    have hlt : (s < 1000000000000000000 ∧ X1 = s ∧ Y1 = n ∧ I1 = true) ∨ ¬ s < 1000000000000000000 := by
      by_cases h : s < 1000000000000000000
      · left
        have hbk := parse_back hR h
        rw [hbk] at hX1 hY1 hI1
        unfold Rt at hR
        refine ⟨h, ?_, ?_, hI1⟩
        · rw [hX1]; show ((s.toNat : Nat) : Int) = s; omega
        · rw [hY1]; show ((n.toNat : Nat) : Int) = n; omega
      · exact .inr h
    have HPe := Lib.hid (fun W h => parse_pv (textS s n) (by omega) X1 Y1 I1 hX1 hY1 hI1 W h)
    have htt : ∀ Z : ByteArray, (Z.toList == Z.toList) = true := fun Z => by simp
    generalize ByteArray.mk (textS s n).toArray = Z at HC HRt HPe
    clear hX1 hY1 hI1 hR hTl
    go_wp2_with fail
    refine HC.out.mono ?_
    rintro e W3 ⟨rfl, b3⟩
    have L3 := HL2.out.call b3
    clear HL2 b3 p0 p1 HC
    obtain ⟨p0, p1⟩ := L3.cells (e := (g1, s, n)) (by simp)
    dsimp only at p0 p1
    have HL3 := Lib.hid L3
    clear L3
    go_wp2_with fail
    refine (HRr.out _).mono ?_
    rintro e W4 ⟨rfl, b4⟩
    have L4 := HL3.out.call b4
    clear HL3 b4 p0 p1 HRr
    obtain ⟨p0, p1⟩ := L4.cells (e := (g1, s, n)) (by simp)
    dsimp only at p0 p1
    have HL4 := Lib.hid L4
    clear L4
    go_wp2_with fail
    refine (HRt.out _).mono ?_
    rintro e W5 ⟨rfl, b5⟩
    have L5 := HL4.out.call b5
    clear HL4 b5 p0 p1 HRt
    have HC := Lib.hid (HPe.out W5 (HTM.out.2.below L5.B (Nat.le_refl _)))
    have HL5 := Lib.hid L5
    clear L5 HPe
    go_wp2_with fail
    refine HC.out.mono ?_
    rintro e W6 ⟨rfl, b6⟩
    have L6 := (HL5.out.call b6).box X1 Y1
    clear HL5 b6 HC
    go_upto_region 9 with fail
    generalize W6.alloc (.cells #[.int .i64 X1, .int .i64 Y1] 23) = W7 at L6 ⊢
    generalize W6.heap.size = g7 at L6 ⊢
    obtain ⟨p0, p1⟩ := L6.cells (e := (g1, s, n)) (by simp)
    obtain ⟨p2, p3⟩ := L6.cells (e := (g7, X1, Y1)) (by simp)
    dsimp only at p0 p1 p2 p3
    have HL6 := Lib.hid (show SB w W7 [] from ⟨L6.B, fun e he => by cases he⟩)
    have HC := Lib.hid (HP1.out W7 (HTM.out.2.below L6.B (Nat.le_refl _)))
    clear L6
    rcases hlt with ⟨h1, rfl, rfl, rfl⟩ | h1
    case' inr => have h2 : decide (s < 1000000000000000000) = false := decide_eq_false (by omega)
    all_goals
      go_wp2_with fail
  all_goals
    refine HC.out.mono ?_
    rintro e W8 ⟨rfl, b8⟩
    have L8 := (HL6.out.call b8).box X Y
    clear HL6 b8 HC HP1
    go_upto_region 12 with fail
    generalize W8.alloc (.cells #[.int .i64 X, .int .i64 Y] 23) = V8 at L8 ⊢
    generalize W8.heap.size = g8 at L8 ⊢
    have HL8 := Lib.hid L8
    clear L8
    go_wp2_with fail
    refine (HP2.out _).mono ?_
    rintro e W9 ⟨rfl, b9⟩
    have L9 := (HL8.out.call b9).box X Y
    clear HL8 b9 HP2
    go_upto_region 13 with fail
    generalize W9.alloc (.cells #[.int .i64 X, .int .i64 Y] 23) = V9 at L9 ⊢
    generalize W9.heap.size = g9 at L9 ⊢
    have q0 := L9.cells (e := (g8, X, Y)) (by simp)
    have q1 := L9.cells (e := (g9, X, Y)) (by simp)
    obtain ⟨q2, q3⟩ := q0
    obtain ⟨q4, q5⟩ := q1
    dsimp only at q2 q3 q4 q5
    have HBB := Lib.hid L9.B
    clear L9
    go_wp2_with fail
    go_ret
    exact ⟨ret_bool (by first | rfl | simp), HBB.out⟩
theorem specTexts_row (cs : Array Value) (f : Leaf.Fits [.int .i64, .int .i64] cs.toList) (S : ByteArray) (hS : S.size ≤ maxLen) (w : World) (ht : Tab w) (hm : Mx w) : Calls Tryd.prog 4 #[.agg cs, .string S] w fun e w' => e = .returned (.bool true) ∧ Below w.heap.size w w' := by
  obtain ⟨k0, r0, e0, w0, f0⟩ := f.int
  obtain ⟨k1, r1, rfl, w1, f1⟩ := f0.int
  obtain rfl := f1.done
  obtain rfl : cs = #[.int .i64 k0, .int .i64 k1] := by cases cs; simp_all
  by_cases h : 100 < S.size
  · exact specTexts_big k0 k1 S h w ht hm
  · have hz : S.data.toList.length ≤ 100 := by have := Lib.size_eq S; omega
    have := specTexts_walk k0 k1 (bounds_i64 w0) S.data.toList hz w ht hm
    rw [Lib.mk_data S] at this
    exact this
end Go.Proofs.YtemellkcbbhlcaaDoor.Sp
