/- Which spec a text tells: the program's reading and the reference's are one. No condition. -/
import Derived.Test.YtemellkcbbhlcaaDoorSk
set_option linter.unusedVariables false
set_option linter.unusedSimpArgs false
namespace Go.Proofs.YtemellkcbbhlcaaDoor.Sp
open Go.RowKit Go.Proofs.YtemellkcbbhlcaaDoor.Aid Go.Proofs.YtemellkcbbhlcaaDoor.Kt Go.Proofs.YtemellkcbbhlcaaDoor.Tr Go.Proofs.YtemellkcbbhlcaaDoor.Str
theorem occ_one (l : List UInt8) (i : Nat) (c : UInt8) : Lib.occAt l [c] i = true ↔ l[i]? = some c := by
  unfold Lib.occAt
  have h : l[i]? = (l.drop i)[0]? := by rw [List.getElem?_drop, Nat.add_zero]
  rw [h]
  cases l.drop i with
  | nil => simp [List.isPrefixOf]
  | cons d r =>
    simp only [List.isPrefixOf, List.getElem?_cons_zero, Option.some.injEq, Bool.and_true, beq_iff_eq]
    exact ⟨fun h => h.symm, fun h => h.symm⟩
theorem cut_spec (l : List UInt8) (c : UInt8) : (c ∉ l ∧ Lib.cut l [c] = (l, [], false)) ∨ ∃ a b, l = a ++ c :: b ∧ c ∉ a ∧ Lib.cut l [c] = (a, b, true) := by
  rcases Lib.index_spec l [c] with ⟨h1, h2⟩ | ⟨i, h1, h2, h3, h4⟩
  · left
    refine ⟨fun hm => ?_, ?_⟩
    · obtain ⟨j, hj, e⟩ := List.getElem_of_mem hm
      have := h2 j (by omega)
      rw [Bool.eq_false_iff] at this
      exact this ((occ_one l j c).2 (by rw [List.getElem?_eq_getElem hj, e]))
    · unfold Lib.cut; rw [h1, if_neg (by omega)]
  · right
    have h5 := (occ_one l i c).1 h3
    have hi : i < l.length := (List.getElem?_eq_some_iff.1 h5).1
    refine ⟨l.take i, l.drop (i + 1), ?_, fun hm => ?_, ?_⟩
    · have h6 := (List.take_append_drop i l).symm
      rw [List.drop_eq_getElem_cons hi] at h6
      have h7 : l[i] = c := by rw [List.getElem?_eq_getElem hi] at h5; injection h5
      rw [h7] at h6
      exact h6
    · obtain ⟨j, hj, e⟩ := List.getElem_of_mem hm
      have hj' : j < i := by rw [List.length_take] at hj; omega
      have := h4 j hj'
      rw [Bool.eq_false_iff] at this
      refine this ((occ_one l j c).2 ?_)
      rw [List.getElem_take] at e
      rw [List.getElem?_eq_getElem (by omega), e]
    · unfold Lib.cut
      rw [h1, if_pos (by omega)]
      simp
theorem app_inj {a b a' b' : List UInt8} {c : UInt8} (h : a ++ c :: b = a' ++ c :: b') (ha : c ∉ a) (ha' : c ∉ a') : a = a' ∧ b = b' := by
  induction a generalizing a' with
  | nil =>
    cases a' with
    | nil => simpa using h
    | cons x a' => simp only [List.nil_append, List.cons_append, List.cons.injEq] at h; exact absurd (by simp [h.1]) ha'
  | cons x a ih =>
    cases a' with
    | nil => simp only [List.nil_append, List.cons_append, List.cons.injEq] at h; exact absurd (by simp [h.1]) ha
    | cons y a' =>
      simp only [List.cons_append, List.cons.injEq] at h
      have := ih h.2 (fun h => ha (by simp [h])) (fun h => ha' (by simp [h]))
      exact ⟨by rw [h.1, this.1], this.2⟩
def hitP (l : List UInt8) (i : Nat) : Prop := l[i]? = some 46 ∧ Rt (numR (l.take i)) (numR (l.drop (i + 1))) ∧ textS (numR (l.take i)) (numR (l.drop (i + 1))) = l
def RefP (l : List UInt8) (o : Option (Int × Int)) : Prop := (o = none ∧ ∀ i, ¬ hitP l i) ∨ ∃ i, hitP l i ∧ o = some (numR (l.take i), numR (l.drop (i + 1)))
theorem numR_of {l : List UInt8} {v : Nat} (h0 : l ≠ []) (hl : l.length ≤ 18) (h : digN l 0 = some v) : numR l = v := by
  unfold numR; rw [if_neg (by rw [not_or]; exact ⟨h0, by omega⟩), h]
theorem numR_pos {l : List UInt8} (h : 0 ≤ numR l) : l ≠ [] ∧ l.length ≤ 18 ∧ ∃ v : Nat, digN l 0 = some v ∧ numR l = v := by
  by_cases h1 : l = [] ∨ 18 < l.length
  · unfold numR at h; rw [if_pos h1] at h; omega
  · rw [not_or] at h1
    refine ⟨h1.1, by omega, ?_⟩
    cases e : digN l 0 with
    | none => unfold numR at h; rw [if_neg (by rw [not_or]; exact h1), e] at h; simp at h
    | some v => exact ⟨v, rfl, numR_of h1.1 (by omega) e⟩
theorem no_dot {l : List UInt8} {v : Nat} (h : digN l 0 = some v) : (46 : UInt8) ∉ l := fun hm => by
  have := digs_all l 0 v h 46 hm
  unfold isD at this
  exact absurd this.1 (by decide)
theorem textS_eq {s n : Int} (h : Rt s n) : textS s n = Lib.decDigits s.toNat ++ 46 :: pad 9 n.toNat := by
  unfold Rt at h
  unfold textS Lib.itoa pad
  rw [if_neg (by omega), if_neg (by omega)]
  simp
theorem pad_len {v : Nat} (h : v ≤ 999999999) : (pad 9 v).length = 9 := by
  have := dec_len 8 v (by omega)
  unfold pad
  rw [List.length_append, Lib.repeatL_length]
  simp only [List.length_cons, List.length_nil]
  omega
theorem parse_same {l : List UInt8} {o : Option (Int × Int)} (h : RefP l o) : o = (parseS l).map fun p => ((p.1 : Int), (p.2 : Int)) := by
  have hit_parse : ∀ i, hitP l i → parseS l = some ((numR (l.take i)).toNat, (numR (l.drop (i + 1))).toNat) := by
    rintro i ⟨h1, h2, h3⟩
    have h2' := h2
    unfold Rt at h2'
    obtain ⟨x, hx⟩ : ∃ x, numR (l.take i) = x := ⟨_, rfl⟩
    obtain ⟨y, hy⟩ : ∃ y, numR (l.drop (i + 1)) = y := ⟨_, rfl⟩
    rw [hx, hy] at h2 h3 h2' ⊢
    obtain ⟨a1, a2, v, a3, a4⟩ := numR_pos (l := l.take i) (by omega)
    have hsp : l = l.take i ++ 46 :: l.drop (i + 1) := by
      have hi : i < l.length := (List.getElem?_eq_some_iff.1 h1).1
      have h6 := (List.take_append_drop i l).symm
      rw [List.drop_eq_getElem_cons hi] at h6
      have h7 : l[i] = 46 := by rw [List.getElem?_eq_getElem hi] at h1; injection h1
      rw [h7] at h6
      exact h6
    rw [textS_eq h2] at h3
    have hin := app_inj (h3.trans hsp) (no_dot (read_dec _)) (no_dot a3)
    rcases cut_spec l 46 with ⟨c1, _⟩ | ⟨a, b, c1, c2, c3⟩
    · exact absurd (by rw [hsp]; simp) c1
    · have hab := app_inj (c1.symm.trans h3.symm) c2 (no_dot (read_dec _))
      have eA : cutA l = Lib.decDigits x.toNat := by unfold cutA; rw [c3]; exact hab.1
      have eB : cutB l = pad 9 y.toNat := by unfold cutB; rw [c3]; exact hab.2
      have ok : okP (cutA l) (cutB l) := by
        rw [eA, eB]
        refine ⟨by rw [hin.1]; exact a2, pad_len (by omega), (dec_head _).1, by rw [read_dec]; rfl, by rw [read_pad]; rfl, (dec_head _).2⟩
      unfold parseS
      rw [if_pos ok, eA, eB, read_dec, read_pad]
      rfl
  rcases h with ⟨rfl, hn⟩ | ⟨i, hi, rfl⟩
  · cases e : parseS l with
    | none => rfl
    | some p =>
      exfalso
      unfold parseS at e
      split at e
      · rename_i ok
        obtain ⟨o1, o2, o3, o4, o5, o6⟩ := ok
        rcases cut_spec l 46 with ⟨c1, c2⟩ | ⟨a, b, c1, c2, c3⟩
        · unfold cutB at o2; rw [c2] at o2; simp at o2
        · have eA : cutA l = a := by unfold cutA; rw [c3]
          have eB : cutB l = b := by unfold cutB; rw [c3]
          rw [eA] at o1 o3 o4 o6
          rw [eB] at o2 o5
          obtain ⟨x, hx⟩ := Option.isSome_iff_exists.1 o4
          obtain ⟨y, hy⟩ := Option.isSome_iff_exists.1 o5
          have nb : b ≠ [] := by intro h; rw [h] at o2; simp at o2
          have ta : l.take a.length = a := by rw [c1]; simp
          have tb : l.drop (a.length + 1) = b := by rw [c1, ← List.drop_drop]; simp
          have na : numR (l.take a.length) = x := by rw [ta]; exact numR_of o3 o1 hx
          have nb' : numR (l.drop (a.length + 1)) = y := by rw [tb]; exact numR_of nb (by omega) hy
          have yb := digN_bd b 0 0 y (by decide) hy
          rw [o2] at yb
          refine hn a.length ⟨by rw [c1]; simp, ?_, ?_⟩
          · rw [na, nb']; unfold Rt; omega
          · rw [na, nb', textS_eq (by unfold Rt; omega)]
            have e1 : Lib.decDigits x = a := dec_read a.length a x rfl o3 hx o6
            have e2 : pad 9 y = b := pad_read 8 b y o2 hy
            rw [Int.toNat_natCast, Int.toNat_natCast, e1, e2, ← c1]
      · cases e
  · rw [hit_parse i hi]
    have h2 := hi.2.1
    unfold Rt at h2
    simp only [Option.map_some, Option.some.injEq, Prod.mk.injEq]
    omega
/-- a spec's text is read as it was -/
theorem parse_back {s n : Int} (h : Rt s n) (hs : s < 1000000000000000000) : parseS (textS s n) = some (s.toNat, n.toNat) := by
  rw [textS_eq h]
  unfold Rt at h
  have nd := no_dot (read_dec s.toNat)
  rcases cut_spec (Lib.decDigits s.toNat ++ 46 :: pad 9 n.toNat) 46 with ⟨c1, _⟩ | ⟨a, b, c1, c2, c3⟩
  · exact absurd (by simp) c1
  · have hab := app_inj c1.symm c2 nd
    have eA : cutA (Lib.decDigits s.toNat ++ 46 :: pad 9 n.toNat) = Lib.decDigits s.toNat := by unfold cutA; rw [c3]; exact hab.1
    have eB : cutB (Lib.decDigits s.toNat ++ 46 :: pad 9 n.toNat) = pad 9 n.toNat := by unfold cutB; rw [c3]; exact hab.2
    have ok : okP (Lib.decDigits s.toNat) (pad 9 n.toNat) := ⟨dec_len 17 _ (by omega), pad_len (by omega), (dec_head _).1, by rw [read_dec]; rfl, by rw [read_pad]; rfl, (dec_head _).2⟩
    unfold parseS
    rw [eA, eB, if_pos ok, read_dec, read_pad]
    rfl
end Go.Proofs.YtemellkcbbhlcaaDoor.Sp
