/- The contract of spec's Parse. No condition but on the text's length, and what the library's search reads. -/
import Derived.Test.YtemellkcbbhlcaaDoorSd
set_option linter.unusedVariables false
set_option linter.unusedSimpArgs false
namespace Go.Proofs.YtemellkcbbhlcaaDoor.Sp
open Go.RowKit Go.Proofs.YtemellkcbbhlcaaDoor.Aid Go.Proofs.YtemellkcbbhlcaaDoor.Kt Go.Proofs.YtemellkcbbhlcaaDoor.Tr Go.Proofs.YtemellkcbbhlcaaDoor.Str
/-- the library's variable that its search reads -/
def Mx (w : World) : Prop := ∃ m, w.cell? ⟨0, 0, none⟩ = some (.int .i64 m)
theorem Mx.below {B : Nat} {w w' : World} (h : Mx w) (b : Below B w w') (hB : w.heap.size ≤ B) : Mx w' := by
  obtain ⟨m, h⟩ := h
  have hlt : 0 < w.heap.size := by
    cases e : w.heap.size with
    | zero =>
      have h0 : w.heap = #[] := Array.eq_empty_of_size_eq_zero e
      simp [World.cell?, h0] at h
    | succ n => omega
  exact ⟨m, (b.cell (p := ⟨0, 0, none⟩) (by show 0 < B; omega)).trans h⟩
def cutA (l : List UInt8) : List UInt8 := (Lib.cut l [46]).1
def cutB (l : List UInt8) : List UInt8 := (Lib.cut l [46]).2.1
/-- may the parts be read? -/
def okP (a b : List UInt8) : Prop := a.length ≤ 18 ∧ b.length = 9 ∧ a ≠ [] ∧ (digN a 0).isSome = true ∧ (digN b 0).isSome = true ∧ ¬ (1 < a.length ∧ a.head? = some 48)
instance (a b : List UInt8) : Decidable (okP a b) := by unfold okP; exact inferInstance
def parseS (l : List UInt8) : Option (Nat × Nat) := if okP (cutA l) (cutB l) then some ((digN (cutA l) 0).getD 0, (digN (cutB l) 0).getD 0) else none
def parseV (o : Option (Nat × Nat)) : Value := .tuple #[.agg #[.int .i64 ((o.getD (0, 0)).1 : Nat), .int .i64 ((o.getD (0, 0)).2 : Nat)], .bool o.isSome]
theorem spec_put {w W : World} {g : Nat} {x y : Int} (h4 : Blk W g 23 #[.int .i64 x, .int .i64 y]) (B : Below w.heap.size w W) (n : w.heap.size ≤ g) (u v : Int) :
    ((W.setCell ⟨g, 0, none⟩ (.int .i64 u)).setCell ⟨g, 1, none⟩ (.int .i64 v)).cell? ⟨g, 0, none⟩ = some (.int .i64 u) ∧ ((W.setCell ⟨g, 0, none⟩ (.int .i64 u)).setCell ⟨g, 1, none⟩ (.int .i64 v)).cell? ⟨g, 1, none⟩ = some (.int .i64 v) ∧ Below w.heap.size w ((W.setCell ⟨g, 0, none⟩ (.int .i64 u)).setCell ⟨g, 1, none⟩ (.int .i64 v)) := by
  have hb := (h4.set_ 0 (.int .i64 u)).set_ 1 (.int .i64 v)
  exact ⟨by simpa using hb.cell 0, by simpa using hb.cell 1, (B.setCell (p := ⟨g, 0, none⟩) n _).setCell (p := ⟨g, 1, none⟩) n _⟩
set_option maxHeartbeats 1000000 in
set_option maxRecDepth 100000 in
theorem parse_any (l : List UInt8) (hl : l.length < 4294967281) (w : World) (hm : Mx w) : Calls Tryd.prog 20 #[.string ⟨l.toArray⟩] w fun e w' => e = .returned (parseV (parseS l)) ∧ Below w.heap.size w w' := by
  have h4 := Blk.new w 23 #[.int .i64 0, .int .i64 0]
  have B0 := (Below.refl w.heap.size w).alloc (Nat.le_refl _) (.cells #[.int .i64 0, .int .i64 0] 23)
  obtain ⟨m, M0⟩ := hm.below B0 (Nat.le_refl _)
  have HC := Lib.hid (Tryd.strings_Cut ⟨l.toArray⟩ ⟨#[46]⟩ m (w.alloc (.cells #[.int .i64 0, .int .i64 0] 23)) (by rw [sz_mk]; exact hl) M0)
  obtain ⟨a, ha⟩ : ∃ a, cutA l = a := ⟨_, rfl⟩
  obtain ⟨b, hb⟩ : ∃ b, cutB l = b := ⟨_, rfl⟩
  obtain ⟨f, hf⟩ : ∃ b, (Lib.cut l [46]).2.2 = b := ⟨_, rfl⟩
  obtain ⟨R, hR⟩ : ∃ R, parseS l = R := ⟨_, rfl⟩
  have HE := Lib.hid (show R = if okP a b then some ((digN a 0).getD 0, (digN b 0).getD 0) else none by rw [← hR, ← ha, ← hb]; rfl)
  have e1 : (Lib.cut (ByteArray.mk l.toArray).data.toList (ByteArray.mk #[46]).data.toList) = (a, b, f) := by rw [← ha, ← hb, ← hf]; rfl
  rw [e1] at HC
  rw [hR]
  clear ha hb hf hR M0 e1
  go_enter Tryd.func20, Tryd.ntmps20
  go_wp2_with fail
  refine HC.out.mono ?_
  rintro e W1 ⟨rfl, nd, hw⟩
  have h5 : Blk W1 w.heap.size 23 #[.int .i64 0, .int .i64 0] := by rw [hw]; exact h4.drewN nd
  have B1 : Below w.heap.size w W1 := by rw [hw]; exact below_drewN B0 nd
  clear HC hw h4 B0
  obtain ⟨g, hg⟩ : ∃ g, w.heap.size = g := ⟨_, rfl⟩
  rw [hg] at h5 ⊢
  have sa : (ByteArray.mk a.toArray).size = a.length := sz_mk a
  have sb : (ByteArray.mk b.toArray).size = b.length := sz_mk b
  have HB := Lib.hid (And.intro h5 B1)
  have c0 : W1.cell? ⟨g, 0, none⟩ = some (.int .i64 0) := h5.cell 0
  have c1 : W1.cell? ⟨g, 1, none⟩ = some (.int .i64 0) := h5.cell 1
  have f4 := h5.frozen
  have hgl : g < W1.heap.size := h5.lt
  clear h5 B1
  by_cases k1 : a.length ≤ 18 ∧ b.length = 9
  · have HD1 := Lib.hid (fun W => digits_any a k1.1 W)
    have HD2 := Lib.hid (fun W => digits_any b (by rw [k1.2]; omega) W)
    obtain ⟨pa, hpa⟩ : ∃ p, ((digN a 0).isSome && !a.isEmpty) = p := ⟨_, rfl⟩
    have hb0 : b.isEmpty = false := by cases b with
      | nil => simp at k1
      | cons => rfl
    obtain ⟨pb, hpb⟩ : ∃ p, (digN b 0).isSome = p := ⟨_, rfl⟩
    obtain ⟨xa, hxa⟩ : ∃ p, (digN a 0).getD 0 = p := ⟨_, rfl⟩
    obtain ⟨xb, hxb⟩ : ∃ p, (digN b 0).getD 0 = p := ⟨_, rfl⟩
    simp only [hpa, hxa] at HD1
    simp only [hb0, hpb, hxb, Bool.not_false, Bool.and_true] at HD2
    have HPP := Lib.hid (And.intro hpa (And.intro hpb (And.intro hxa hxb)))
    clear hpa hpb hxa hxb hb0
    have n1 : decide (((a.length : Nat) : Int) > 18) = false := decide_eq_false (by omega)
    have n2 : ((b.length : Nat) : Int) = 9 := by omega
    clear c0 c1 f4 hgl
    go_wp2_with fail
    refine (HD1.out _).mono ?_
    rintro e W2 ⟨rfl, b2⟩
    have h6 := HB.out.1.below b2 HB.out.1.lt
    have B6 := HB.out.2.trans (b2.mono HB.out.2.size)
    have HB6 := Lib.hid (And.intro h6 B6)
    clear HB b2 h6 B6 HD1
    go_wp2_with fail
    refine (HD2.out _).mono ?_
    rintro e W3 ⟨rfl, b3⟩
    have h7 := HB6.out.1.below b3 HB6.out.1.lt
    have B7 := HB6.out.2.trans (b3.mono HB6.out.2.size)
    have HB := Lib.hid (And.intro h7 B7)
    have c0 : W3.cell? ⟨g, 0, none⟩ = some (.int .i64 0) := h7.cell 0
    have c1 : W3.cell? ⟨g, 1, none⟩ = some (.int .i64 0) := h7.cell 1
    have f4 := h7.frozen
    have hgl : g < W3.heap.size := h7.lt
    clear HB6 b3 h7 B7 HD2
    cases pa with
    | false =>
      have eR : R = none := by rw [HE.out, if_neg (fun h => by have := HPP.out.1; rw [h.2.2.2.1] at this; have h3 := h.2.2.1; cases a with
        | nil => exact h3 rfl
        | cons => cases this)]
      subst eR
      go_wp2_with fail
      obtain ⟨p0, p1, p2⟩ := spec_put HB.out.1 HB.out.2 (Nat.le_of_eq hg) (0) (0)
      exact bodyPost_ret (v := .tuple #[.agg #[.int .i64 (0), .int .i64 (0)], .bool false]) (by simp [results, Tryd.results20, go_sem, p0, p1]) rfl ⟨rfl, p2⟩
    | true =>
      cases pb with
      | false =>
        have eR : R = none := by rw [HE.out, if_neg (fun h => by have := HPP.out.2.1; rw [h.2.2.2.2.1] at this; cases this)]
        subst eR
        go_wp2_with fail
        obtain ⟨p0, p1, p2⟩ := spec_put HB.out.1 HB.out.2 (Nat.le_of_eq hg) (0) (0)
        exact bodyPost_ret (v := .tuple #[.agg #[.int .i64 (0), .int .i64 (0)], .bool false]) (by simp [results, Tryd.results20, go_sem, p0, p1]) rfl ⟨rfl, p2⟩
      | true =>
        have hna : a ≠ [] := fun e => by have := HPP.out.1; rw [e] at this; simp at this
        have hsa : (digN a 0).isSome = true := by have := HPP.out.1; cases h : (digN a 0).isSome with
          | true => rfl
          | false => rw [h] at this; cases this
        have HOK := Lib.hid (show ¬ (1 < a.length ∧ a.head? = some 48) → okP a b from fun h => ⟨k1.1, k1.2, hna, hsa, HPP.out.2.1, h⟩)
        by_cases ka : 1 < a.length
        · cases a with
          | nil => exact absurd rfl hna
          | cons c r =>
            by_cases kc : c = 48
            · have eR : R = none := by rw [HE.out, if_neg (fun h => h.2.2.2.2.2 ⟨ka, by rw [kc]; rfl⟩)]
              subst eR
              clear hna hsa HOK HPP HE
              have kaI : (1 : Int) < (r.length : Int) + 1 := by simp only [List.length_cons] at ka; omega
              go_wp2_with fail
              obtain ⟨p0, p1, p2⟩ := spec_put HB.out.1 HB.out.2 (Nat.le_of_eq hg) (0) (0)
              exact bodyPost_ret (v := .tuple #[.agg #[.int .i64 (0), .int .i64 (0)], .bool false]) (by simp [results, Tryd.results20, go_sem, p0, p1]) rfl ⟨rfl, p2⟩
            · have eR : R = some (xa, xb) := by rw [HE.out, if_pos (HOK.out (fun h => kc (by have := h.2; simpa using this))), HPP.out.2.2.1, HPP.out.2.2.2]
              subst eR
              have kaI : (1 : Int) < (r.length : Int) + 1 := by simp only [List.length_cons] at ka; omega
              have kc1 : ¬ c.toNat = 48 := fun h => kc (UInt8.toNat_inj.1 (by rw [h]; rfl))
              have kc2 : ¬ ((c.toNat : Nat) : Int) = 48 := by omega
              have kc3 : (((c.toNat : Nat) : Int) == 48) = false := by simpa using kc2
              have hgi : ∀ h : 0 < (ByteArray.mk (c :: r).toArray).size, (ByteArray.mk (c :: r).toArray)[0]'h = c := fun h => get_mk _ 0 h c rfl
              clear hna hsa HOK HPP HE
              go_wp2_with fail
              obtain ⟨p0, p1, p2⟩ := spec_put HB.out.1 HB.out.2 (Nat.le_of_eq hg) ((xa : Int)) ((xb : Int))
              exact bodyPost_ret (v := .tuple #[.agg #[.int .i64 ((xa : Int)), .int .i64 ((xb : Int))], .bool true]) (by simp [results, Tryd.results20, go_sem, p0, p1]) rfl ⟨rfl, p2⟩
        · have eR : R = some (xa, xb) := by rw [HE.out, if_pos (HOK.out (fun h => ka h.1)), HPP.out.2.2.1, HPP.out.2.2.2]
          subst eR
          have ka' : decide (((a.length : Nat) : Int) > 1) = false := decide_eq_false (by omega)
          clear hna hsa HOK HPP HE
          go_wp2_with fail
          obtain ⟨p0, p1, p2⟩ := spec_put HB.out.1 HB.out.2 (Nat.le_of_eq hg) ((xa : Int)) ((xb : Int))
          exact bodyPost_ret (v := .tuple #[.agg #[.int .i64 ((xa : Int)), .int .i64 ((xb : Int))], .bool true]) (by simp [results, Tryd.results20, go_sem, p0, p1]) rfl ⟨rfl, p2⟩
  · have eR : R = none := by rw [HE.out, if_neg (fun h => k1 ⟨h.1, h.2.1⟩)]
    subst eR
    have hn : (¬ a.length ≤ 18) ∨ (a.length ≤ 18 ∧ ¬ b.length = 9) := by omega
    clear HE k1
    rcases hn with hn | ⟨hn, hn2⟩
    · have n1 : decide (((a.length : Nat) : Int) > 18) = true := decide_eq_true (by omega)
      go_wp2_with fail
      obtain ⟨p0, p1, p2⟩ := spec_put HB.out.1 HB.out.2 (Nat.le_of_eq hg) (0) (0)
      exact bodyPost_ret (v := .tuple #[.agg #[.int .i64 (0), .int .i64 (0)], .bool false]) (by simp [results, Tryd.results20, go_sem, p0, p1]) rfl ⟨rfl, p2⟩
    · have n1 : decide (((a.length : Nat) : Int) > 18) = false := decide_eq_false (by omega)
      have n2 : ¬ ((b.length : Nat) : Int) = 9 := by omega
      have n3 : (((b.length : Nat) : Int) == 9) = false := by simpa using n2
      go_wp2_with fail
      obtain ⟨p0, p1, p2⟩ := spec_put HB.out.1 HB.out.2 (Nat.le_of_eq hg) (0) (0)
      exact bodyPost_ret (v := .tuple #[.agg #[.int .i64 (0), .int .i64 (0)], .bool false]) (by simp [results, Tryd.results20, go_sem, p0, p1]) rfl ⟨rfl, p2⟩
end Go.Proofs.YtemellkcbbhlcaaDoor.Sp
