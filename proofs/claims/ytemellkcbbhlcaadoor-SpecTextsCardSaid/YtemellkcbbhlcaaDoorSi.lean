/- The contract of spec's reference's Parse. No condition but on the text's length. -/
import Derived.Test.YtemellkcbbhlcaaDoorSh
import Derived.Test.YtemellkcbbhlcaaDoorSl2
set_option linter.unusedVariables false
set_option linter.unusedSimpArgs false
namespace Go.Proofs.YtemellkcbbhlcaaDoor.Sp
open Go.RowKit Go.Proofs.YtemellkcbbhlcaaDoor.Aid Go.Proofs.YtemellkcbbhlcaaDoor.Kt Go.Proofs.YtemellkcbbhlcaaDoor.Tr Go.Proofs.YtemellkcbbhlcaaDoor.Str
def refV (o : Option (Int × Int)) : Value := .tuple #[.agg #[.int .i64 (o.getD (0, 0)).1, .int .i64 (o.getD (0, 0)).2], .bool o.isSome]
def QRel (w0 : World) (g : Nat) (l : List UInt8) (m : Nat) (s4 : Value) (wr : World) : Prop :=
  ∃ k : Nat, k ≤ l.length ∧ m = l.length - k ∧ s4 = .int .i64 k ∧ (∀ i, i < k → ¬ hitP l i) ∧ Blk wr g 23 #[.int .i64 0, .int .i64 0] ∧ Below w0.heap.size w0 wr
theorem ext_take (l : List UInt8) (k : Nat) : (ByteArray.mk l.toArray).extract 0 k = ⟨(l.take k).toArray⟩ := by rw [Lib.extract_eq]; simp
theorem ext_drop (l : List UInt8) (k n : Nat) (h : l.length ≤ n) : (ByteArray.mk l.toArray).extract k n = ⟨(l.drop k).toArray⟩ := by
  rw [Lib.extract_eq]
  congr 2
  exact List.take_of_length_le (by simp; omega)
set_option maxHeartbeats 4000000 in
set_option maxRecDepth 100000 in
theorem rparse_any (l : List UInt8) (hl : l.length ≤ 1000000) (w : World) : Calls Tryd.prog 21 #[.string ⟨l.toArray⟩] w fun e w' => ∃ o, RefP l o ∧ e = .returned (refV o) ∧ Below w.heap.size w w' := by
  have hb0 := Blk.new w 23 #[.int .i64 0, .int .i64 0]
  have B0 := (Below.refl w.heap.size w).alloc (Nat.le_refl _) (.cells #[.int .i64 0, .int .i64 0] 23)
  obtain ⟨g, hg⟩ : ∃ g, w.heap.size = g := ⟨_, rfl⟩
  have S := Lib.hid (show QRel w w.heap.size l l.length (.int .i64 (0 : Nat)) (w.alloc (.cells #[.int .i64 0, .int .i64 0] 23)) from ⟨0, by omega, rfl, rfl, fun i hi => absurd hi (Nat.not_lt_zero _), hb0, B0⟩)
  rw [hg] at S
  obtain ⟨S1, hS1⟩ : ∃ S, ByteArray.mk l.toArray = S := ⟨_, rfl⟩
  have hsz : S1.size = l.length := by rw [← hS1]; exact sz_mk l
  have htl : S1.toList = l := by rw [← hS1]; exact ByteArray.toList_mk l
  have HG := Lib.hid (show ∀ k (h : k < S1.size) c, l[k]? = some c → S1[k]'h = c by subst hS1; exact fun k h c hc => get_mk l k h c hc)
  have HX := Lib.hid (fun k => (hS1 ▸ ext_take l k : S1.extract 0 k = ⟨(l.take k).toArray⟩))
  have HY := Lib.hid (fun k => (hS1 ▸ ext_drop l k l.length (Nat.le_refl _) : S1.extract k l.length = ⟨(l.drop k).toArray⟩))
  rw [hS1]
  clear hb0 B0 hS1
  go_enter Tryd.func21, Tryd.ntmps21
  go_upto_region 1 with fail
  generalize w.alloc (.cells #[.int .i64 0, .int .i64 0] 23) = W at S ⊢
  go_wp2_with fail
  go_loopg [4] l.length (fun m s4 wr => QRel w g l m s4 wr)
  case atStart => exact S.out
  case round =>
    obtain ⟨k, hk, rfl, rfl, hno, hb, hB⟩ := hrel
    clear S
    have HN := Lib.hid hno
    have HBB := Lib.hid (And.intro hb hB)
    by_cases hlt : k < l.length
    · obtain ⟨c, hc⟩ : ∃ c, l[k]? = some c := ⟨l[k], List.getElem?_eq_getElem hlt⟩
      have hgi : ∀ h, S1[k]'h = c := fun h => HG.out k h c hc
      have hlt64 : (k : Int) < (l.length : Int) := by omega
      by_cases hc46 : c = 46
      · subst hc46
        have hx1 := HX.out k
        have hx2 := HY.out (k + 1)
        have hw : IntKind.i64.wrap ((k : Int) + 1) = ((k + 1 : Nat) : Int) := by rw [IntKind.wrap_i64]; omega
        have hw2 : wrap64 ((k : Int) + 1) = ((k + 1 : Nat) : Int) := by unfold wrap64; omega
        have hk1 : ((k : Int) + 1) ≤ (l.length : Int) := by omega
        have HC := Lib.hid hc
        obtain ⟨x, hx⟩ : ∃ x, numR (l.take k) = x := ⟨_, rfl⟩
        obtain ⟨y, hy⟩ : ∃ x, numR (l.drop (k + 1)) = x := ⟨_, rfl⟩
        have HN1 := Lib.hid (fun W => rnumber_any (l.take k) (by rw [List.length_take]; omega) W)
        have HN2 := Lib.hid (fun W => rnumber_any (l.drop (k + 1)) (by rw [List.length_drop]; omega) W)
        simp only [hx] at HN1
        simp only [hy] at HN2
        have hxb : x ≤ 9223372036854775807 := by
          rw [← hx]
          by_cases h0 : 0 ≤ numR (l.take k)
          · obtain ⟨h1, h2, v, h3, h4⟩ := numR_pos h0
            have := digN_bd _ 0 0 v (by decide) h3
            have h5 : v < 10 ^ 18 := Nat.lt_of_lt_of_le this (by rw [Nat.zero_add]; exact Nat.pow_le_pow_right (by omega) h2)
            have h6 : (10 : Nat) ^ 18 = 1000000000000000000 := by decide
            omega
          · omega
        obtain ⟨ta, hta⟩ : ∃ a, ByteArray.mk (l.take k).toArray = a := ⟨_, rfl⟩
        obtain ⟨tb, htb⟩ : ∃ a, ByteArray.mk (l.drop (k + 1)).toArray = a := ⟨_, rfl⟩
        rw [hta] at hx1 HN1
        rw [htb] at hx2 HN2
        have HXY := Lib.hid (And.intro hx hy)
        have hB5 := hB.alloc hB.size (.cells #[.int .i64 x, .int .i64 y] 23)
        have hb5 := hb.alloc (.cells #[.int .i64 x, .int .i64 y] 23)
        have hy5 := Blk.new wr 23 #[.int .i64 x, .int .i64 y]
        have H5 := Lib.hid (And.intro hB5 (And.intro hb5 hy5))
        clear hno hb hB hc hx hy hB5 hb5 hy5 hta htb
        go_upto_region 5 with fail
        go_region_with (first
          | (go_at_call 57; with_reducible refine (HN1.out _).mono ?_; rintro e wz ⟨rfl, rfl⟩)
          | (go_at_call 57; with_reducible refine (HN2.out _).mono ?_; rintro e wz ⟨rfl, rfl⟩))
        all_goals
          have hB5 : Below w.heap.size w ((wr.alloc (.cells #[.int .i64 x, .int .i64 y] 23)).drew) := below_drewN H5.out.1 1
          have hb5 : Blk ((wr.alloc (.cells #[.int .i64 x, .int .i64 y] 23)).drew) g 23 #[.int .i64 0, .int .i64 0] := H5.out.2.1.drew
          have hy5 : Blk ((wr.alloc (.cells #[.int .i64 x, .int .i64 y] 23)).drew) wr.heap.size 23 #[.int .i64 x, .int .i64 y] := H5.out.2.2.drew
          clear H5
          generalize (wr.alloc (.cells #[.int .i64 x, .int .i64 y] 23)).drew = W5 at hB5 hb5 hy5 ⊢
          generalize wr.heap.size = h5 at hy5 ⊢
          have c50 : W5.cell? ⟨h5, 0, none⟩ = some (.int .i64 x) := hy5.cell 0
          have c51 : W5.cell? ⟨h5, 1, none⟩ = some (.int .i64 y) := hy5.cell 1
          have HRt := Lib.hid (fun W => rright_any x y W)
          have H5 := Lib.hid (And.intro hB5 (And.intro hb5 hy5))
          clear hB5 hb5 hy5
          by_cases hR : Rt x y
          · have hRt : decide (Rt x y) = true := decide_eq_true hR
            simp only [hRt] at HRt
            have HTx := Lib.hid (fun W => rtext_yes x y hxb hR W)
            have HRR := Lib.hid hR
            clear hR hRt
            go_wp2_with fail
            refine (HRt.out _).mono ?_
            rintro e W6 ⟨rfl, b6⟩
            have hB6 := H5.out.1.trans (b6.mono H5.out.1.size)
            have hb6 := H5.out.2.1.below b6 H5.out.2.1.lt
            have hy6 := H5.out.2.2.below b6 H5.out.2.2.lt
            have H6 := Lib.hid (And.intro hB6 (And.intro hb6 hy6))
            clear c50 c51 H5 b6 HRt
            have c50 : W6.cell? ⟨h5, 0, none⟩ = some (.int .i64 x) := hy6.cell 0
            have c51 : W6.cell? ⟨h5, 1, none⟩ = some (.int .i64 y) := hy6.cell 1
            clear hB6 hb6 hy6
            go_wp2_with fail
            refine (HTx.out _).mono ?_
            rintro e W7 ⟨rfl, b7⟩
            have hB7 := H6.out.1.trans (b7.mono H6.out.1.size)
            have hb7 := H6.out.2.1.below b7 H6.out.2.1.lt
            have hy7 := H6.out.2.2.below b7 H6.out.2.2.lt
            have H7 := Lib.hid (And.intro hB7 (And.intro hb7 hy7))
            clear c50 c51 H6 b7 HTx
            by_cases ht : textS x y = l
            · have heq : ((ByteArray.mk (textS x y).toArray).toList == l) = true := by rw [ByteArray.toList_mk, ht]; simp
              have HH := Lib.hid (show RefP l (some (x, y)) from .inr ⟨k, ⟨HC.out, by rw [HXY.out.1, HXY.out.2]; exact HRR.out, by rw [HXY.out.1, HXY.out.2]; exact ht⟩, by rw [HXY.out.1, HXY.out.2]⟩)
              have c50 : W7.cell? ⟨h5, 0, none⟩ = some (.int .i64 x) := hy7.cell 0
              have c51 : W7.cell? ⟨h5, 1, none⟩ = some (.int .i64 y) := hy7.cell 1
              have c0 : W7.cell? ⟨g, 0, none⟩ = some (.int .i64 0) := hb7.cell 0
              have c1 : W7.cell? ⟨g, 1, none⟩ = some (.int .i64 0) := hb7.cell 1
              have f4 := hb7.frozen
              have hgl : g < W7.heap.size := hb7.lt
              generalize (ByteArray.mk (textS x y).toArray) = Z at heq ⊢
              clear hB7 hb7 hy7 ht
              go_wp2_with fail
              obtain ⟨p0, p1, p2⟩ := spec_put H7.out.2.1 H7.out.1 (Nat.le_of_eq hg) x y
              exact bodyPost_ret (v := .tuple #[.agg #[.int .i64 x, .int .i64 y], .bool true]) (by simp [results, Tryd.results21, go_sem, p0, p1]) rfl ⟨some (x, y), HH.out, rfl, p2⟩
            · have heq : ((ByteArray.mk (textS x y).toArray).toList == l) = false := by rw [ByteArray.toList_mk]; simpa using ht
              have HH := Lib.hid (show ¬ hitP l k from fun h => ht (by have := h.2.2; rw [HXY.out.1, HXY.out.2] at this; exact this))
              generalize (ByteArray.mk (textS x y).toArray) = Z at heq ⊢
              clear hB7 hb7 hy7 ht
              go_wp2_with fail
              go_roundg (l.length - (k + 1))
              case measure => omega
              case rel => exact ⟨k + 1, by omega, rfl, by go_num, fun i hi => if e : i = k then e ▸ HH.out else HN.out i (by omega), H7.out.2.1, H7.out.1⟩
          · have hRt : decide (Rt x y) = false := decide_eq_false hR
            simp only [hRt] at HRt
            have HH := Lib.hid (show ¬ hitP l k from fun h => hR (by have := h.2.1; rw [HXY.out.1, HXY.out.2] at this; exact this))
            clear hR hRt
            go_wp2_with fail
            refine (HRt.out _).mono ?_
            rintro e W6 ⟨rfl, b6⟩
            have hB6 := H5.out.1.trans (b6.mono H5.out.1.size)
            have hb6 := H5.out.2.1.below b6 H5.out.2.1.lt
            have H6 := Lib.hid (And.intro hB6 hb6)
            clear c50 c51 H5 b6 HRt hB6 hb6
            go_wp2_with fail
            go_roundg (l.length - (k + 1))
            case measure => omega
            case rel => exact ⟨k + 1, by omega, rfl, by go_num, fun i hi => if e : i = k then e ▸ HH.out else HN.out i (by omega), H6.out.2, H6.out.1⟩
      · have n1 : ¬ c.toNat = 46 := fun h => hc46 (UInt8.toNat_inj.1 (by rw [h]; rfl))
        have n2 : ¬ ((c.toNat : Nat) : Int) = 46 := by omega
        have n3 : (((c.toNat : Nat) : Int) == 46) = false := by simpa using n2
        have HH := Lib.hid (show ¬ hitP l k from fun h => hc46 (by have := h.1; rw [hc] at this; injection this))
        clear hno hb hB hc
        go_wp2_with fail
        go_roundg (l.length - (k + 1))
        case measure => omega
        case rel => exact ⟨k + 1, by omega, rfl, by go_num, fun i hi => if e : i = k then e ▸ HH.out else HN.out i (by omega), HBB.out.1, HBB.out.2⟩
    · have hke : k = l.length := by omega
      have HR := Lib.hid (show RefP l none from .inl ⟨rfl, fun i hi => by
        by_cases h : i < k
        · exact HN.out i h hi
        · have := (List.getElem?_eq_some_iff.1 hi.1).1; omega⟩)
      have c0 : wr.cell? ⟨g, 0, none⟩ = some (.int .i64 0) := hb.cell 0
      have c1 : wr.cell? ⟨g, 1, none⟩ = some (.int .i64 0) := hb.cell 1
      have f4 := hb.frozen
      have hgl : g < wr.heap.size := hb.lt
      subst hke
      clear hno hb hB HN
      go_wp2_with fail
      obtain ⟨p0, p1, p2⟩ := spec_put HBB.out.1 HBB.out.2 (Nat.le_of_eq hg) 0 0
      exact bodyPost_ret (v := .tuple #[.agg #[.int .i64 0, .int .i64 0], .bool false]) (by simp [results, Tryd.results21, go_sem, p0, p1]) rfl ⟨none, HR.out, rfl, p2⟩
end Go.Proofs.YtemellkcbbhlcaaDoor.Sp
