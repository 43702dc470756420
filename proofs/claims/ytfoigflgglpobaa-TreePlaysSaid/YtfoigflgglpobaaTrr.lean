/- Red and black, in plain Lean: how black ways are, and that no red place hangs on a red one; how long ways are. No program in sight; no condition. -/
import Derived.Test.YtfoigflgglpobaaTrq
set_option linter.unusedVariables false
namespace Go.Proofs.Ytfoigflgglpobaa.Tr
/-- all ways down a tree pass n black places -/
def Bal : Sh → Nat → Prop
  | .nil, n => n = 0
  | .node c _ k, n => if c then ∀ s, Bal (k s) n else ∃ m, n = m + 1 ∧ ∀ s, Bal (k s) m
/-- no red place hangs on a red one -/
def Nrr : Sh → Prop
  | .nil => True
  | .node c _ k => (c = true → ∀ s, (k s).red = false) ∧ ∀ s, Nrr (k s)
/-- a way down at whose end a tree of n black places hangs: all ways pass b black places -/
def CBal : Cx → Nat → Nat → Prop
  | .top, n, b => n = b
  | .fr c _ _ sib k, n, b => Bal sib n ∧ CBal k (if c then n else n + 1) b
/-- no red place hangs on a red one along a way down; the topmost place is black -/
def CNrr : Cx → Prop
  | .top => True
  | .fr c _ _ sib k => (c = true → sib.red = false) ∧ Nrr sib ∧ CNrr k ∧ (match k with | .top => c = false | .fr c' _ _ _ _ => c = true → c' = false)
/-- the colour of the place at whose side the hole is; black above the top -/
def Cx.red : Cx → Bool
  | .top => false
  | .fr c _ _ _ _ => c
theorem plug_bal (k : Cx) : ∀ {t : Sh} {n b : Nat}, Bal t n → CBal k n b → Bal (k.plug t) b := by
  induction k with
  | top => intro t n b h hc; have : n = b := hc; subst this; exact h
  | fr c x s sib k ih =>
    intro t n b h hc
    obtain ⟨h1, h2⟩ := hc
    unfold Cx.plug
    refine ih ?_ h2
    have hs : ∀ s', Bal (two s t sib s') n := fun s' => by unfold two; split; exact h; exact h1
    cases c
    · exact ⟨n, rfl, hs⟩
    · exact hs
theorem plug_nrr (k : Cx) : ∀ {t : Sh}, Nrr t → CNrr k → (k.red = true → t.red = false) → Nrr (k.plug t) := by
  induction k with
  | top => intro t h _ _; exact h
  | fr c x s sib k ih =>
    intro t h hc hr
    obtain ⟨h1, h2, h3, h4⟩ := hc
    unfold Cx.plug
    refine ih ⟨fun e s' => ?_, fun s' => ?_⟩ h3 (fun e => ?_)
    · unfold two; split
      · exact hr e
      · exact h1 e
    · unfold two; split
      · exact h
      · exact h2
    · cases k with
      | top => cases e
      | fr c' x' s'' sib' k' =>
        show c = false
        cases c with
        | false => rfl
        | true =>
          have h5 : c' = false := h4 rfl
          have e2 : c' = true := e
          rw [h5] at e2; cases e2
/-- the colour at the top of a whole tree -/
theorem plug_red (k : Cx) : ∀ {t : Sh}, CNrr k → (k = .top → t.red = false) → (k.plug t).red = false := by
  induction k with
  | top => intro t _ h; exact h rfl
  | fr c x s sib k ih =>
    intro t hc _
    obtain ⟨h1, h2, h3, h4⟩ := hc
    unfold Cx.plug
    refine ih h3 fun e => ?_
    subst e
    exact h4
/-- the shortest and the longest way -/
def Sh.least : Sh → Nat
  | .nil => 0
  | .node _ _ k => min (k false).least (k true).least + 1
def Sh.most : Sh → Nat
  | .nil => 0
  | .node _ _ k => max (k false).most (k true).most + 1
theorem least_bal (t : Sh) : ∀ {n : Nat}, Bal t n → n ≤ t.least := by
  induction t with
  | nil => intro n h; have : n = 0 := h; omega
  | node c x k ih =>
    intro n h
    cases c
    · obtain ⟨m, rfl, h⟩ := h
      have h1 := ih false (h false)
      have h2 := ih true (h true)
      unfold Sh.least; omega
    · have h1 := ih false (show Bal (k false) n from (show ∀ s, Bal (k s) n from h) false)
      have h2 := ih true (show Bal (k true) n from (show ∀ s, Bal (k s) n from h) true)
      unfold Sh.least; omega
theorem most_bal (t : Sh) : ∀ {n : Nat}, Bal t n → Nrr t → t.most ≤ 2 * n + (if t.red then 1 else 0) := by
  induction t with
  | nil => intro n h _; unfold Sh.most; omega
  | node c x k ih =>
    intro n h hr
    obtain ⟨r1, r2⟩ := hr
    cases c
    · obtain ⟨m, rfl, h⟩ := h
      have h1 := ih false (h false) (r2 false)
      have h2 := ih true (h true) (r2 true)
      have e1 : (if (k false).red then 1 else 0) ≤ 1 := by split <;> omega
      have e2 : (if (k true).red then 1 else 0) ≤ 1 := by split <;> omega
      unfold Sh.most; simp only [Sh.red]; omega
    · have hh : ∀ s, Bal (k s) n := h
      have h1 := ih false (hh false) (r2 false)
      have h2 := ih true (hh true) (r2 true)
      rw [r1 rfl false] at h1
      rw [r1 rfl true] at h2
      unfold Sh.most; simp only [Sh.red, if_true] at h1 h2 ⊢
      simp at h1 h2
      omega
theorem ways {t : Sh} {n : Nat} (h : Bal t n) (hr : Nrr t) (hc : t.red = false) : t.most ≤ 2 * t.least + 1 := by
  have h1 := least_bal t h
  have h2 := most_bal t h hr
  rw [hc] at h2
  simp at h2
  omega
end Go.Proofs.Ytfoigflgglpobaa.Tr
