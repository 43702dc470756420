/- The contracts of spec's reference: a spec's text, and which spec a text tells. No condition but on sizes. -/
import Derived.Test.YtemellkcbbhlcaaDoorSf
import Derived.Test.YtemellkcbbhlcaaDoorSg
import Derived.StillTailTactics
set_option linter.unusedVariables false
set_option linter.unusedSimpArgs false
namespace Go.Proofs.YtemellkcbbhlcaaDoor.Sp
open Go.RowKit Go.Proofs.YtemellkcbbhlcaaDoor.Aid Go.Proofs.YtemellkcbbhlcaaDoor.Kt Go.Proofs.YtemellkcbbhlcaaDoor.Tr Go.Proofs.YtemellkcbbhlcaaDoor.Str
theorem itoa_nat {n : Int} (h : 0 ≤ n) : Lib.itoa n = Lib.decDigits n.toNat := by unfold Lib.itoa; rw [if_neg (by omega)]
theorem rdig (n : Int) (h : 0 ≤ n) (hm : n ≤ 9223372036854775807) (w : World) : Calls Tryd.prog 54 #[.int .i64 n] w fun e w' => e = .returned (.string ⟨(Lib.itoa n).toArray⟩) ∧ Below w.heap.size w w' := by
  rw [itoa_nat h]
  exact rdigits_any 19 n h (by omega) (by omega) hm w
def TRel (w0 : World) (g : Nat) (s n : Int) (D : List UInt8) (m : Nat) (s3 : Value) (wr : World) : Prop :=
  ∃ j : Nat, j + D.length ≤ 9 ∧ m = 9 - (j + D.length) ∧ s3 = .string ⟨(Lib.repeatL [48] j ++ D).toArray⟩ ∧ Blk wr g 23 #[.int .i64 s, .int .i64 n] ∧ Below w0.heap.size w0 wr
set_option maxHeartbeats 1000000 in
set_option maxRecDepth 100000 in
theorem rtext_yes (s n : Int) (hs : s ≤ 9223372036854775807) (h : Rt s n) (w : World) : Calls Tryd.prog 19 #[.agg #[.int .i64 s, .int .i64 n]] w fun e w' => e = .returned (.string ⟨(textS s n).toArray⟩) ∧ Below w.heap.size w w' := by
  have h1 := h
  unfold Rt at h1
  have l1 := itoa_len h1.1 hs
  have l2 := itoa_len9 h1.2.1 h1.2.2
  have hb0 := Blk.new w 23 #[.int .i64 s, .int .i64 n]
  have B0 := (Below.refl w.heap.size w).alloc (Nat.le_refl _) (.cells #[.int .i64 s, .int .i64 n] 23)
  have HD1 := Lib.hid (fun W => rdig n h1.2.1 (by omega) W)
  have HD2 := Lib.hid (fun W => rdig s h1.1 hs W)
  obtain ⟨A, hA⟩ : ∃ A, Lib.itoa s = A := ⟨_, rfl⟩
  obtain ⟨C, hC⟩ : ∃ A, Lib.itoa n = A := ⟨_, rfl⟩
  have HT := Lib.hid (show textS s n = A ++ [46] ++ (Lib.repeatL [48] (9 - C.length) ++ C) by unfold textS; rw [hA, hC]; simp)
  rw [hA] at l1
  rw [hC] at l2
  simp only [hA] at HD2
  simp only [hC] at HD1
  clear hA hC h
  go_enter Tryd.func19, Tryd.ntmps19
  go_upto_region 1 with fail
  generalize w.alloc (.cells #[.int .i64 s, .int .i64 n] 23) = W at hb0 B0 ⊢
  obtain ⟨g, hg⟩ : ∃ g, w.heap.size = g := ⟨_, rfl⟩
  rw [hg] at hb0 ⊢
  have q1 : W.cell? ⟨g, 1, none⟩ = some (.int .i64 n) := hb0.cell 1
  have HB := Lib.hid (And.intro hb0 B0)
  clear hb0 B0
  go_wp2_with fail
  refine (HD1.out _).mono ?_
  rintro e W2 ⟨rfl, b2⟩
  have S := Lib.hid (show TRel w g s n C (9 - C.length) (.string ⟨C.toArray⟩) W2 from ⟨0, by omega, by omega, rfl, HB.out.1.below b2 HB.out.1.lt, HB.out.2.trans (b2.mono HB.out.2.size)⟩)
  clear HB b2 q1
  go_wp2_with fail
  go_loopg [3] (9 - C.length) (fun m s3 wr => TRel w g s n C m s3 wr)
  case atStart => exact S.out
  case round =>
    obtain ⟨j, hj, rfl, rfl, hb, hB⟩ := hrel
    clear S
    have hlen : (Lib.repeatL [48] j ++ C).length = j + C.length := by rw [List.length_append, Lib.repeatL_length]; simp
    have hz : (ByteArray.mk (Lib.repeatL [48] j ++ C).toArray).size = j + C.length := by rw [sz_mk, hlen]
    by_cases hlt : j + C.length < 9
    · have HH := Lib.hid (And.intro hb hB)
      have e2 : Lib.repeatL [48] (j + 1) ++ C = [48] ++ (Lib.repeatL [48] j ++ C) := by simp [Lib.repeatL]
      have HE := Lib.hid (show ByteArray.mk (Lib.repeatL [48] (j + 1) ++ C).toArray = ⟨#[48]⟩ ++ ⟨(Lib.repeatL [48] j ++ C).toArray⟩ by rw [e2, show (⟨#[48]⟩ : ByteArray) = ⟨([48] : List UInt8).toArray⟩ from rfl, ByteArray.mk_append_mk])
      have hlt2 : ((j + C.length : Nat) : Int) < 9 := by omega
      clear hb hB hlen e2
      generalize hS : ByteArray.mk (Lib.repeatL [48] j ++ C).toArray = S at *
      generalize hL : j + C.length = L at *
      go_wp2_with fail
      go_roundg (9 - (j + 1 + C.length))
      case measure => omega
      case rel => exact ⟨j + 1, by omega, by omega, by rw [HE.out], HH.out.1, HH.out.2⟩
    · have he : j = 9 - C.length := by omega
      have h9 : ¬ ((j + C.length : Nat) : Int) < 9 := by omega
      have h9' : decide (((j + C.length : Nat) : Int) < 9) = false := decide_eq_false h9
      have q0 : wr.cell? ⟨g, 0, none⟩ = some (.int .i64 s) := hb.cell 0
      have HE := Lib.hid (show textS s n = A ++ [46] ++ (Lib.repeatL [48] j ++ C) by rw [HT.out, he])
      have HBB := Lib.hid hB
      have hl9 : j + C.length ≤ 9 := hj
      clear hb hB hlen he
      generalize hS : Lib.repeatL [48] j ++ C = S at *
      generalize hL : j + C.length = L at *
      go_wp2_with fail
      refine (HD2.out _).mono ?_
      rintro e W3 ⟨rfl, b3⟩
      have HB3 := Lib.hid (HBB.out.trans (b3.mono HBB.out.size))
      clear HBB b3 q0
      go_wp2_with fail
      go_ret
      refine ⟨?_, HB3.out⟩
      rw [HE.out]
      simp only [show (⟨#[46]⟩ : ByteArray) = ⟨([46] : List UInt8).toArray⟩ from rfl, ByteArray.mk_append_mk]
      rfl
end Go.Proofs.YtemellkcbbhlcaaDoor.Sp
