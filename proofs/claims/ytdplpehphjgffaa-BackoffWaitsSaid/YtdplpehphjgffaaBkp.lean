/- Waits that rise by a factor, up to a greatest one, in plain numbers. No program in sight; the plan's own bounds are the only condition. -/
import Derived.Test.YtdplpehphjgffaaAid
import Derived.Test.YtdplpehphjgffaaKt
set_option linter.unusedVariables false
namespace Go.Proofs.Ytdplpehphjgffaa.Bk
open Go.RowKit Go.Proofs.Ytdplpehphjgffaa.Kt
structure Pl where
  first : Int
  factor : Int
  great : Int
structure Pl.ok (p : Pl) : Prop where
  a : 1 ≤ p.first ∧ p.first ≤ 1099511627776
  b : 16 ≤ p.factor ∧ p.factor ≤ 256
  c : p.first ≤ p.great ∧ p.great ≤ 1125899906842624
def Pl.val (p : Pl) : Value := .agg #[.int .i64 p.first, .int .i64 p.factor, .int .i64 p.great]
def Pl.cells (p : Pl) : Array Value := #[.int .i64 p.first, .int .i64 p.factor, .int .i64 p.great]
/-- the wait behind one -/
def nx (p : Pl) (w : Int) : Int := if p.great < (w * p.factor + 15) / 16 then p.great else (w * p.factor + 15) / 16
def wt (p : Pl) : Nat → Int
  | 0 => p.first
  | n + 1 => nx p (wt p n)
theorem mul_bd (p : Pl) (ok : p.ok) (w : Int) (h : 1 ≤ w ∧ w ≤ p.great) : 16 * w ≤ w * p.factor ∧ w * p.factor ≤ 288230376151711744 := by
  have h1 : w * 16 ≤ w * p.factor := Int.mul_le_mul_of_nonneg_left ok.b.1 (by omega)
  have h2 : w * p.factor ≤ w * 256 := Int.mul_le_mul_of_nonneg_left ok.b.2 (by omega)
  have := ok.c
  omega
theorem nx_bd (p : Pl) (ok : p.ok) (w : Int) (h : 1 ≤ w ∧ w ≤ p.great) : w ≤ nx p w ∧ nx p w ≤ p.great ∧ 1 ≤ nx p w := by
  have := mul_bd p ok w h
  unfold nx
  generalize w * p.factor = y at *
  omega
theorem wt_bd (p : Pl) (ok : p.ok) (n : Nat) : 1 ≤ wt p n ∧ wt p n ≤ p.great := by
  induction n with
  | zero => have := ok.a; have := ok.c; unfold wt; omega
  | succ n ih => have := nx_bd p ok _ ih; unfold wt; omega
theorem wt_mono (p : Pl) (ok : p.ok) (n : Nat) : wt p n ≤ wt p (n + 1) := (nx_bd p ok _ (wt_bd p ok n)).1
theorem wt_ge (p : Pl) (ok : p.ok) (n : Nat) : p.first ≤ wt p n := by
  induction n with
  | zero => exact Int.le_refl _
  | succ n ih => have := wt_mono p ok n; omega
/-- where one is no less than the next one, all that follow are the same -/
theorem wt_still (p : Pl) (ok : p.ok) (n : Nat) (h : wt p (n + 1) = wt p n) (d : Nat) : wt p (n + d) = wt p n := by
  induction d with
  | zero => rfl
  | succ d ih => rw [Nat.add_succ, wt, ih]; exact h
theorem wt_top (p : Pl) (ok : p.ok) (n : Nat) (h : p.great ≤ wt p n) : wt p (n + 1) = wt p n := by
  have h1 := wt_bd p ok n
  have h2 := wt_bd p ok (n + 1)
  have h3 := wt_mono p ok n
  omega
theorem wt_far (p : Pl) (ok : p.ok) (n m : Nat) (hm : n ≤ m) (h : wt p (n + 1) = wt p n) : wt p m = wt p n := by
  have := wt_still p ok n h (m - n)
  rwa [Nat.add_sub_cancel' hm] at this
/-- the n-th wait; 0 below the first one -/
def wait (p : Pl) (n : Int) : Int := if n < 0 then 0 else wt p n.toNat
end Go.Proofs.Ytdplpehphjgffaa.Bk
