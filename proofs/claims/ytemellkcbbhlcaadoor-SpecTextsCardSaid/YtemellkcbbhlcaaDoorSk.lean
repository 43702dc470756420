/- Decimal numerals, read and written: plain laws. No condition. -/
import Derived.Test.YtemellkcbbhlcaaDoorSg
set_option linter.unusedVariables false
set_option linter.unusedSimpArgs false
namespace Go.Proofs.YtemellkcbbhlcaaDoor.Sp
open Go.RowKit Go.Proofs.YtemellkcbbhlcaaDoor.Aid Go.Proofs.YtemellkcbbhlcaaDoor.Kt Go.Proofs.YtemellkcbbhlcaaDoor.Tr Go.Proofs.YtemellkcbbhlcaaDoor.Str
theorem digN_snoc : ∀ (l : List UInt8) (c : UInt8) (n : Nat), digN (l ++ [c]) n = (digN l n).bind fun v => if isD c then some (v * 10 + (c.toNat - 48)) else none := by
  intro l
  induction l with
  | nil => intro c n; rfl
  | cons d l ih =>
    intro c n
    rw [List.cons_append, digN_cons, digN_cons]
    split
    · exact ih c _
    · rfl
theorem dec_step (v d : Nat) (hd : d ≤ 9) (hv : 0 < v) : Lib.decDigits (v * 10 + d) = Lib.decDigits v ++ [UInt8.ofNat (48 + d)] := by
  rw [Lib.decDigits, dif_neg (by omega)]
  have e1 : (v * 10 + d) / 10 = v := by omega
  have e2 : (v * 10 + d) % 10 = d := by omega
  rw [e1, e2]
theorem byte_of (c : UInt8) (h : isD c) : UInt8.ofNat (48 + (c.toNat - 48)) = c := by
  unfold isD at h
  rw [show 48 + (c.toNat - 48) = c.toNat by omega]
  exact UInt8.ofNat_toNat
theorem ofNat_nat {d : Nat} (h : d ≤ 9) : (UInt8.ofNat (48 + d)).toNat = 48 + d := by
  rw [UInt8.toNat_ofNat']; omega
/-- digits read, and written again: of those without a nought ahead -/
theorem dec_read : ∀ (k : Nat) (l : List UInt8) (v : Nat), l.length = k → l ≠ [] → digN l 0 = some v → ¬ (1 < l.length ∧ l.head? = some 48) → Lib.decDigits v = l := by
  intro k
  induction k with
  | zero => intro l v hk h0; exact absurd (List.length_eq_zero_iff.1 hk) h0
  | succ k ih =>
    intro l v hk h0 hd hz
    obtain ⟨r, c, rfl⟩ : ∃ r c, l = r ++ [c] := ⟨l.dropLast, l.getLast h0, (List.dropLast_concat_getLast h0).symm⟩
    have hr : r.length = k := by simpa using hk
    rw [digN_snoc] at hd
    cases e : digN r 0 with
    | none => rw [e] at hd; cases hd
    | some u =>
      rw [e, Option.bind_some] at hd
      split at hd
      · rename_i hc
        injection hd with hd
        have hc' := hc
        unfold isD at hc'
        cases r with
        | nil =>
          simp only [digN, Option.some.injEq] at e
          subst e
          rw [← hd, Lib.decDigits_one (by omega), Nat.zero_mul, Nat.zero_add, byte_of c hc]
          rfl
        | cons a r =>
          have ha : a ≠ 48 := fun e => hz ⟨by simp, by rw [e]; rfl⟩
          have h1 := ih (a :: r) u hr (by simp) e (fun h => ha (by have := h.2; simpa using this))
          have hu : 0 < u := by
            apply Nat.pos_of_ne_zero
            intro hu
            rw [hu, Lib.decDigits_one (by omega)] at h1
            injection h1 with h1 _
            exact ha h1.symm
          rw [← hd, dec_step u _ (by omega) hu, h1, byte_of c hc]
      · cases hd
/-- written with noughts ahead -/
def pad (k v : Nat) : List UInt8 := Lib.repeatL [48] (k - (Lib.decDigits v).length) ++ Lib.decDigits v
theorem rep_snoc (k : Nat) : Lib.repeatL [48] (k + 1) = Lib.repeatL [48] k ++ [48] := by
  rw [Lib.repeatL_add]; rfl
theorem pad_step (k v d : Nat) (hd : d ≤ 9) (hk : 1 ≤ k) : pad (k + 1) (v * 10 + d) = pad k v ++ [UInt8.ofNat (48 + d)] := by
  unfold pad
  by_cases hv : 0 < v
  · rw [dec_step v d hd hv, List.length_append, List.length_cons, List.length_nil, Nat.add_sub_add_right, List.append_assoc]
  · have : v = 0 := by omega
    subst this
    rw [Nat.zero_mul, Nat.zero_add, Lib.decDigits_one (by omega), Lib.decDigits_one (by omega)]
    simp only [List.length_cons, List.length_nil]
    have : k = (k - 1) + 1 := by omega
    rw [this, show k - 1 + 1 + 1 - (0 + 1) = (k - 1) + 1 by omega, show k - 1 + 1 - (0 + 1) = k - 1 by omega, rep_snoc]
    rfl
theorem pad_read : ∀ (k : Nat) (l : List UInt8) (v : Nat), l.length = k + 1 → digN l 0 = some v → pad (k + 1) v = l := by
  intro k
  induction k with
  | zero =>
    intro l v hk hd
    match l, hk with
    | [c], _ =>
      rw [digN_cons] at hd
      split at hd
      · rename_i hc
        injection hd with hd
        have hc' := hc
        unfold isD at hc'
        have hv : v = c.toNat - 48 := by omega
        unfold pad
        rw [hv, Lib.decDigits_one (by omega), byte_of c hc]
        rfl
      · cases hd
  | succ k ih =>
    intro l v hk hd
    have h0 : l ≠ [] := by intro e; rw [e] at hk; simp at hk
    obtain ⟨r, c, rfl⟩ : ∃ r c, l = r ++ [c] := ⟨l.dropLast, l.getLast h0, (List.dropLast_concat_getLast h0).symm⟩
    have hr : r.length = k + 1 := by simpa using hk
    rw [digN_snoc] at hd
    cases e : digN r 0 with
    | none => rw [e] at hd; cases hd
    | some u =>
      rw [e, Option.bind_some] at hd
      split at hd
      · rename_i hc
        injection hd with hd
        have hc' := hc
        unfold isD at hc'
        rw [← hd, pad_step _ _ _ (by omega) (by omega), ih r u hr e, byte_of c hc]
      · cases hd
/-- a numeral is read as its number -/
theorem read_dec : ∀ (v : Nat), digN (Lib.decDigits v) 0 = some v := by
  intro v
  induction v using Nat.strongRecOn with
  | _ v ih =>
    rw [Lib.decDigits]
    split
    · rename_i h
      show (if isD (UInt8.ofNat (48 + v)) then _ else _) = _
      rw [if_pos (by unfold isD; rw [ofNat_nat (by omega)]; omega), digN_nil, ofNat_nat (by omega)]
      congr 1; omega
    · rename_i h
      rw [digN_snoc, ih (v / 10) (by omega), Option.bind_some, if_pos (by unfold isD; rw [ofNat_nat (by omega)]; omega), ofNat_nat (by omega)]
      congr 1; omega
theorem read_zeros : ∀ (k : Nat) (l : List UInt8), digN (Lib.repeatL [48] k ++ l) 0 = digN l 0 := by
  intro k
  induction k with
  | zero => intro l; rfl
  | succ k ih =>
    intro l
    show digN (48 :: (Lib.repeatL [48] k ++ l)) 0 = _
    rw [digN_cons, if_pos (by unfold isD; decide)]
    exact ih l
theorem read_pad (k v : Nat) : digN (pad k v) 0 = some v := by unfold pad; rw [read_zeros, read_dec]
theorem digs_all : ∀ (l : List UInt8) (n v : Nat), digN l n = some v → ∀ c, c ∈ l → isD c := by
  intro l
  induction l with
  | nil => intro n v _ c hc; cases hc
  | cons d l ih =>
    intro n v h c hc
    rw [digN_cons] at h
    split at h
    · rename_i hd
      rcases List.mem_cons.1 hc with rfl | hc
      · exact hd
      · exact ih _ _ h c hc
    · cases h
theorem dec_head (v : Nat) : (Lib.decDigits v) ≠ [] ∧ ¬ (1 < (Lib.decDigits v).length ∧ (Lib.decDigits v).head? = some 48) := by
  induction v using Nat.strongRecOn with
  | _ v ih =>
    rw [Lib.decDigits]
    split
    · exact ⟨by simp, fun h => by have := h.1; simp at this⟩
    · rename_i h
      have hi := ih (v / 10) (by omega)
      refine ⟨by simp, fun h1 => ?_⟩
      cases e : Lib.decDigits (v / 10) with
      | nil => exact hi.1 e
      | cons a r =>
        have h2 := h1.2
        rw [e] at h2
        have ha : a = 48 := by simpa using h2
        by_cases hr : r = []
        · rw [hr, ha] at e
          have := read_dec (v / 10)
          rw [e] at this
          have h3 : digN [48] 0 = some 0 := by decide
          rw [h3] at this
          injection this with this
          omega
        · exact hi.2 ⟨by rw [e]; simp only [List.length_cons]; have := List.length_pos_iff.2 hr; omega, by rw [e, ha]; rfl⟩
end Go.Proofs.YtemellkcbbhlcaaDoor.Sp
