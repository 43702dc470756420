/- The contract of spec's Text. No condition but that the library's table of powers is as it was laid. -/
import Derived.Test.YtemellkcbbhlcaaDoorSq
import Derived.Test.YtemellkcbbhlcaaDoorShelf
import Derived.Lib.SmallJoins
import Derived.Lib.AppendIntMem
set_option linter.unusedVariables false
set_option linter.unusedSimpArgs false
namespace Go.Proofs.YtemellkcbbhlcaaDoor.Sp
open Go.RowKit Go.Proofs.YtemellkcbbhlcaaDoor.Aid Go.Proofs.YtemellkcbbhlcaaDoor.Kt Go.Proofs.YtemellkcbbhlcaaDoor.Tr
/-- the table of powers is as it was laid -/
def Tab (w : World) : Prop := Lib.TabIs Tryd.prog w "internal/strconv.uint64pow10" .u64 Lib.pow10Tab
theorem Tab.below {B : Nat} {w w' : World} (h : Tab w) (b : Below B w w') (hB : w.heap.size ≤ B) : Tab w' := by
  cases e : Tryd.prog.globalNamed "internal/strconv.uint64pow10" with
  | none => unfold Tab Lib.TabIs World.var? at h; rw [e] at h; cases h
  | some g => exact Joins.tab_stays e h b hB
theorem Tab.drewN {w : World} (h : Tab w) (n : Nat) : Tab (w.drewN n) := h.below (below_drewN (Below.refl _ _) n) (Nat.le_refl _)
theorem Tab.alloc {w : World} (h : Tab w) (o : Obj) : Tab (w.alloc o) := h.below ((Below.refl _ _).alloc (Nat.le_refl _) o) (Nat.le_refl _)
def bs (l : List UInt8) : Value := .string ⟨l.toArray⟩
def textS (s n : Int) : List UInt8 := Lib.itoa s ++ [46] ++ Lib.repeatL [48] (9 - (Lib.itoa n).length) ++ Lib.itoa n
theorem dec_len : ∀ (k u : Nat), u < 10 ^ (k + 1) → (Lib.decDigits u).length ≤ k + 1
  | 0, u, h => by rw [Lib.decDigits, dif_pos (by simpa using h)]; simp
  | k + 1, u, h => by
    rw [Lib.decDigits]
    by_cases h1 : u < 10
    · rw [dif_pos h1]; simp
    · rw [dif_neg h1, List.length_append]
      have := dec_len k (u / 10) (by rw [Nat.pow_succ] at h; omega)
      simp only [List.length_cons, List.length_nil]
      omega
theorem itoa_len {n : Int} (h0 : 0 ≤ n) (h : n ≤ 9223372036854775807) : (Lib.itoa n).length ≤ 19 := by
  unfold Lib.itoa
  rw [if_neg (by omega)]
  exact dec_len 18 n.toNat (by omega)
theorem itoa_len9 {n : Int} (h0 : 0 ≤ n) (h : n ≤ 999999999) : (Lib.itoa n).length ≤ 9 := by
  unfold Lib.itoa
  rw [if_neg (by omega)]
  exact dec_len 8 n.toNat (by omega)
theorem itoa_any (n : Int) (h0 : -9223372036854775808 ≤ n) (h1 : n ≤ 9223372036854775807) (w : World) (ht : Tab w) :
    Calls Tryd.prog 52 #[.int .i64 n] w fun e w' => e = .returned (.string ⟨(Lib.itoa n).toArray⟩) ∧ Below w.heap.size w w' :=
  (Tryd.strconv_Itoa n h0 h1 w ht).mono fun e w' ⟨h, k, os, hw⟩ => ⟨h, by rw [hw]; exact Go.Lib.below_grow _ w (Nat.le_refl _) k os⟩
set_option maxHeartbeats 1000000 in
theorem text_no (s n : Int) (h : ¬ Rt s n) (w : World) : Calls Tryd.prog 18 #[.agg #[.int .i64 s, .int .i64 n]] w fun e w' => e = .returned (.tuple #[.string ⟨#[]⟩, .bool false]) ∧ Below w.heap.size w w' := by
  have H := Lib.hid h
  clear h
  go_enter Tryd.func18, Tryd.ntmps18
  go_wp2_with fail
  refine (right_no s n H.out _).mono ?_
  rintro e W1 ⟨rfl, b1⟩
  have B1 : Below w.heap.size w W1 := ((Below.refl w.heap.size w).alloc (Nat.le_refl _) _).trans (b1.mono (by simp))
  go_wp2_with fail
  go_ret2
  exact ⟨rfl, B1⟩
set_option maxHeartbeats 1000000 in
theorem text_yes (s n : Int) (hs : s ≤ 9223372036854775807) (h : Rt s n) (w : World) (ht : Tab w) : Calls Tryd.prog 18 #[.agg #[.int .i64 s, .int .i64 n]] w fun e w' => e = .returned (.tuple #[.string ⟨(textS s n).toArray⟩, .bool true]) ∧ Below w.heap.size w w' := by
  have H := Lib.hid h
  have h1 := h
  unfold Rt at h1
  have l1 := itoa_len h1.1 hs
  have l2 := itoa_len9 h1.2.1 h1.2.2
  clear h
  have hb0 := Blk.new w 23 #[.int .i64 s, .int .i64 n]
  have HT := Lib.hid (ht.alloc (.cells #[.int .i64 s, .int .i64 n] 23))
  obtain ⟨A, hA⟩ : ∃ A, Lib.itoa s = A := ⟨_, rfl⟩
  obtain ⟨C, hC⟩ : ∃ A, Lib.itoa n = A := ⟨_, rfl⟩
  have HAC := Lib.hid (And.intro hA hC)
  rw [hA] at l1
  rw [hC] at l2
  clear hA hC
  go_enter Tryd.func18, Tryd.ntmps18
  go_wp2_with fail
  refine (right_yes s n H.out _).mono ?_
  rintro e W1 ⟨rfl, b1⟩
  have hb1 := hb0.below b1 hb0.lt
  have B1 : Below w.heap.size w W1 := ((Below.refl w.heap.size w).alloc (Nat.le_refl _) _).trans (b1.mono (by simp))
  have T1 := HT.out.below b1 (Nat.le_refl _)
  clear hb0 b1 HT
  obtain ⟨P, hP⟩ : ∃ P, w.heap.size = P := ⟨_, rfl⟩
  rw [hP] at hb1 ⊢
  have q0 : W1.cell? ⟨P, 0, none⟩ = some (.int .i64 s) := hb1.cell 0
  have q1 : W1.cell? ⟨P, 1, none⟩ = some (.int .i64 n) := hb1.cell 1
  have HI := Lib.hid (itoa_any n (by omega) (by omega) W1 T1)
  rw [HAC.out.2] at HI
  have HB := Lib.hid (And.intro hb1 (And.intro B1 T1))
  clear hb1 B1 T1
  go_wp2_with fail
  refine HI.out.mono ?_
  rintro e W2 ⟨rfl, b2⟩
  have hb2 := HB.out.1.below b2 HB.out.1.lt
  have B2 := HB.out.2.1.trans (b2.mono HB.out.2.1.size)
  have T2 := HB.out.2.2.below b2 (Nat.le_refl _)
  clear q0 q1 HI HB b2
  have q0 : W2.cell? ⟨P, 0, none⟩ = some (.int .i64 s) := hb2.cell 0
  have HI := Lib.hid (itoa_any s (by omega) (by omega) W2 T2)
  rw [HAC.out.1] at HI
  have HB := Lib.hid B2
  clear hb2 B2 T2
  go_wp2_with fail
  refine HI.out.mono ?_
  rintro e W3 ⟨rfl, b3⟩
  have HB3 := Lib.hid (HB.out.trans (b3.mono HB.out.size))
  clear q0 HI HB b3
  have HR := Tryd.strings_Repeat ⟨#[48]⟩ (9 - C.length) W3 (by omega) (by show 1 * _ ≤ _; omega)
  rw [show ((9 - C.length : Nat) : Int) = 9 - (C.length : Int) by omega, show (⟨#[48]⟩ : ByteArray).data.toList = [48] from rfl] at HR
  have hz : (Lib.repeatL [48] (9 - C.length)).length ≤ 9 := by rw [Lib.repeatL_length]; simp only [List.length_cons, List.length_nil]; omega
  obtain ⟨Z, hZ⟩ : ∃ Z, Lib.repeatL [48] (9 - C.length) = Z := ⟨_, rfl⟩
  rw [hZ] at HR hz
  have HHR := Lib.hid HR
  have HE := Lib.hid (show textS s n = A ++ [46] ++ Z ++ C by unfold textS; rw [HAC.out.1, HAC.out.2, hZ])
  clear HR hZ
  go_wp2_with fail
  refine HHR.out.mono ?_
  rintro e W4 ⟨rfl, b4⟩
  have HB4 := Lib.hid (HB3.out.trans (b4.mono HB3.out.size))
  clear HHR HB3 b4
  go_wp2_with fail
  go_ret2
  refine ⟨?_, HB4.out⟩
  rw [HE.out]
  simp only [show (⟨#[46]⟩ : ByteArray) = ⟨([46] : List UInt8).toArray⟩ from rfl, ByteArray.mk_append_mk]
  rfl
end Go.Proofs.YtemellkcbbhlcaaDoor.Sp
