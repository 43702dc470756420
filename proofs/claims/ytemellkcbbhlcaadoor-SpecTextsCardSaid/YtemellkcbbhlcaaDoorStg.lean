/- Strings: ranging over one, and reading digits: plain laws. No condition. -/
import Derived.Test.YtemellkcbbhlcaaDoorAid
import Derived.Laws.RangeAny
import Derived.Laws.Strings
import Derived.Laws.Strings2
import Derived.Laws.Strings3
import Derived.Laws.Concat
set_option linter.unusedVariables false
set_option linter.unusedSimpArgs false
namespace Go.Proofs.YtemellkcbbhlcaaDoor.Str
open Go.RowKit Go.Proofs.YtemellkcbbhlcaaDoor.Aid
/-- is a byte a digit? -/
def isD (c : UInt8) : Prop := 48 ≤ c.toNat ∧ c.toNat ≤ 57
instance (c : UInt8) : Decidable (isD c) := by unfold isD; exact inferInstance
/-- digits read on from n -/
def digN : List UInt8 → Nat → Option Nat
  | [], n => some n
  | c :: l, n => if isD c then digN l (n * 10 + (c.toNat - 48)) else none
theorem digN_cons (c : UInt8) (l : List UInt8) (n : Nat) : digN (c :: l) n = if isD c then digN l (n * 10 + (c.toNat - 48)) else none := rfl
theorem digN_nil (n : Nat) : digN [] n = some n := rfl
theorem sz_mk (l : List UInt8) : (ByteArray.mk l.toArray).size = l.length := by simp [ByteArray.size]
theorem get_mk (l : List UInt8) (k : Nat) (h : k < (ByteArray.mk l.toArray).size) (c : UInt8) (hc : l[k]? = some c) : (ByteArray.mk l.toArray)[k]'h = c := by
  have h' : k < l.length := by rw [← sz_mk l]; exact h
  have : l[k] = c := by rw [List.getElem?_eq_getElem h'] at hc; injection hc
  rw [← this]
  show (l.toArray)[k]'_ = _
  simp
/-- the rune at a byte that is no digit is none -/
theorem rune_bad (l : List UInt8) (k : Nat) (c : UInt8) (hc : l[k]? = some c) (hd : ¬ isD c) : ((Utf8.decode ⟨l.toArray⟩ k).1 : Int) < 48 ∨ 57 < ((Utf8.decode ⟨l.toArray⟩ k).1 : Int) := by
  have h : k < (ByteArray.mk l.toArray).size := by rw [sz_mk]; exact (List.getElem?_eq_some_iff.1 hc).1
  have hg := get_mk l k h c hc
  by_cases ha : c.toNat < 128
  · rw [decode_ascii _ k h (by rw [hg]; exact ha), hg]
    unfold isD at hd
    show ((c.toNat : Nat) : Int) < 48 ∨ 57 < ((c.toNat : Nat) : Int)
    omega
  · have := (decode_high _ k h (by rw [hg]; omega)).1
    omega
theorem rune_dig (l : List UInt8) (k : Nat) (c : UInt8) (hc : l[k]? = some c) (hd : isD c) : Utf8.decode ⟨l.toArray⟩ k = (c.toNat, 1) := by
  have h : k < (ByteArray.mk l.toArray).size := by rw [sz_mk]; exact (List.getElem?_eq_some_iff.1 hc).1
  have hg := get_mk l k h c hc
  unfold isD at hd
  rw [decode_ascii _ k h (by rw [hg]; omega), hg]
theorem digN_bd : ∀ (l : List UInt8) (k n v : Nat), n < 10 ^ k → digN l n = some v → v < 10 ^ (k + l.length) := by
  intro l
  induction l with
  | nil => intro k n v h e; simp only [digN, Option.some.injEq] at e; subst e; simpa using h
  | cons c l ih =>
    intro k n v h e
    unfold digN at e
    split at e
    · rename_i hd
      unfold isD at hd
      have := ih (k + 1) _ v (by rw [Nat.pow_succ]; omega) e
      simp only [List.length_cons]
      rw [show k + (l.length + 1) = k + 1 + l.length by omega]
      exact this
    · cases e
theorem pow_bd {k n : Nat} (h : n < 10 ^ k) (hk : k ≤ 17) : n < 100000000000000000 := Nat.lt_of_lt_of_le h (by
  have := Nat.pow_le_pow_right (show 0 < 10 by omega) hk
  simpa using this)
end Go.Proofs.YtemellkcbbhlcaaDoor.Str
