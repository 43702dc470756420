/- The contracts of spec's reference: digits of a number, a spec's text. No condition but on sizes. -/
import Derived.Test.YtemellkcbbhlcaaDoorSe
import Derived.Laws.BytesString
import Derived.Laws.Cells
set_option linter.unusedVariables false
set_option linter.unusedSimpArgs false
namespace Go.Proofs.YtemellkcbbhlcaaDoor.Sp
open Go.RowKit Go.Proofs.YtemellkcbbhlcaaDoor.Aid Go.Proofs.YtemellkcbbhlcaaDoor.Kt Go.Proofs.YtemellkcbbhlcaaDoor.Tr Go.Proofs.YtemellkcbbhlcaaDoor.Str
/-- string([]byte{b}) -/
theorem conv_one (W : World) (g : Nat) (v : Int) (h : W.cell? ⟨g, 0, none⟩ = some (.int .u8 v)) :
    (convert 76 9 (.slice (some ⟨g, 0, none⟩) 1 1)).run Tryd.prog W = .ok (.string ⟨#[UInt8.ofNat v.toNat]⟩) W := by
  rw [run_convert_bytes_string W 76 9 5 _ 1 1 Tryd.underlying76 Tryd.underlying5 Tryd.underlying9]
  have hl : (loadCells ⟨g, 0, none⟩ 1).run Tryd.prog W = .ok ([v].map (Value.int .u8)).toArray W := by
    refine run_loadCells_list (P := Tryd.prog) (w := W) ⟨g, 0, none⟩ [.int .u8 v] fun j u hj => ?_
    cases j with
    | zero => simp only [List.getElem?_cons_zero, Option.some.injEq] at hj; rw [← hj, ← h]; rfl
    | succ j => simp at hj
  rw [run_bytesToString W _ 1 1 [v] hl]
  rfl
set_option maxHeartbeats 1000000 in
set_option maxRecDepth 100000 in
theorem rdigits_small (n : Int) (h0 : 0 ≤ n) (h : n < 10) (w : World) : Calls Tryd.prog 54 #[.int .i64 n] w fun e w' => e = .returned (.string ⟨(Lib.decDigits n.toNat).toArray⟩) ∧ Below w.heap.size w w' := by
  have hw : wrap64 (48 + n) = 48 + n := by unfold wrap64; omega
  have hw2 : IntKind.u8.wrap (48 + n) = 48 + n := by rw [IntKind.wrap_u8]; omega
  have hcv := conv_one
  go_enter Tryd.func54, Tryd.ntmps54
  go_wp2_with fail
  go_ret
  refine ⟨?_, (Below.refl _ _).alloc (Nat.le_refl _) _⟩
  have e : Lib.decDigits n.toNat = [UInt8.ofNat (48 + n).toNat] := by
    rw [Lib.decDigits_one (by omega)]
    congr 2
    omega
  rw [e]
  rfl
theorem below_new {w W1 : World} {v : Value} {t : TypeId} (b : Below ((w.alloc (.cells #[v] t)).drew).heap.size ((w.alloc (.cells #[v] t)).drew) W1) : W1.cell? ⟨w.heap.size, 0, none⟩ = some v :=
  (b.cell (p := ⟨w.heap.size, 0, none⟩) (by show w.heap.size < (w.alloc (.cells #[v] t)).heap.size; simp)).trans ((Blk.new w t #[v]).cell 0)
theorem below_a {w W1 : World} {o : Obj} (b : Below w.drew.heap.size w.drew W1) : Below w.heap.size w (W1.alloc o) := (((below_drewN (Below.refl w.heap.size w) 1).trans (b.mono (Nat.le_refl _))).alloc b.size o)
theorem below_b {w W1 : World} {o : Obj} (b : Below ((w.alloc o).drew).heap.size ((w.alloc o).drew) W1) : Below w.heap.size w W1 := (below_drewN ((Below.refl w.heap.size w).alloc (Nat.le_refl _) o) 1).trans (b.mono (by show w.heap.size ≤ (w.alloc o).heap.size; simp))
set_option maxHeartbeats 1000000 in
set_option maxRecDepth 100000 in
theorem rdigits_any : ∀ (k : Nat) (n : Int), 0 ≤ n → n < 10 ^ k → k ≤ 20 → n ≤ 9223372036854775807 → ∀ w : World, Calls Tryd.prog 54 #[.int .i64 n] w fun e w' => e = .returned (.string ⟨(Lib.decDigits n.toNat).toArray⟩) ∧ Below w.heap.size w w'
  | 0, n, h0, h, _, _, w => rdigits_small n h0 (by simp at h; omega) w
  | k + 1, n, h0, h, hk, hm, w => by
    by_cases h1 : n < 10
    · exact rdigits_small n h0 h1 w
    · have ih := rdigits_any k (n / 10) (by omega) (by rw [Int.pow_succ] at h; omega) (by omega) (by omega)
      have h1' : decide (n < 10) = false := decide_eq_false h1
      have el := dec_len 18 (n / 10).toNat (by omega)
      obtain ⟨D, hD⟩ : ∃ D, Lib.decDigits (n / 10).toNat = D := ⟨_, rfl⟩
      rw [hD] at ih el
      obtain ⟨q, hq⟩ : ∃ q, n / 10 = q := ⟨_, rfl⟩
      obtain ⟨r, hr⟩ : ∃ q, n % 10 = q := ⟨_, rfl⟩
      have et1 : n.tdiv 10 = q := by rw [Int.tdiv_eq_ediv_of_nonneg h0]; exact hq
      have et2 : n.tmod 10 = r := by rw [Int.tmod_eq_emod_of_nonneg h0]; exact hr
      have e0 : Lib.decDigits n.toNat = D ++ [UInt8.ofNat (48 + r).toNat] := by
        rw [Lib.decDigits, dif_neg (by omega), ← hD]
        have e1 : n.toNat / 10 = (n / 10).toNat := by omega
        have e2 : 48 + n.toNat % 10 = (48 + r).toNat := by omega
        rw [e1, e2]
      rw [e0]
      rw [hq] at ih
      have hw : wrap64 (48 + r) = 48 + r := by unfold wrap64; omega
      have hw2 : IntKind.u8.wrap (48 + r) = 48 + r := by rw [IntKind.wrap_u8]; omega
      have hw3 : wrap64 q = q := by unfold wrap64; omega
      have hw4 : IntKind.i64.wrap q = q := by rw [IntKind.wrap_i64]; omega
      have hw5 : IntKind.i64.wrap (48 + r) = 48 + r := by rw [IntKind.wrap_i64]; omega
      have hcv := conv_one
      have HI := Lib.hid ih
      have hrb : 0 ≤ r ∧ r < 10 := by omega
      have hDl : ¬ 9223372036854775807 < D.length + 1 := by omega
      clear ih h hD e0 hq hr
      go_enter Tryd.func54, Tryd.ntmps54
      go_upto_region 3 with fail
      go_region_with (go_at_call 54; refine (HI.out _).mono ?_; rintro e W1 ⟨rfl, b1⟩; first | (have cc := below_new b1) | skip)
      all_goals
        go_wp2_with fail
        go_ret
        refine ⟨?_, by first | exact below_a b1 | exact below_b b1⟩
        rw [show (⟨#[UInt8.ofNat (48 + r).toNat]⟩ : ByteArray) = ⟨([UInt8.ofNat (48 + r).toNat] : List UInt8).toArray⟩ from rfl, ByteArray.mk_append_mk]
        rfl
end Go.Proofs.YtemellkcbbhlcaaDoor.Sp
