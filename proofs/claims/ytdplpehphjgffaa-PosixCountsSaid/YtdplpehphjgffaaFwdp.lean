/- Series, in plain numbers: how many aren't later than a time, and which one is the n-th. No program in sight; no condition. -/
import Derived.Test.YtdplpehphjgffaaKt
set_option linter.unusedVariables false
namespace Go.Proofs.Ytdplpehphjgffaa.Fw
open Go.RowKit Go.Proofs.Ytdplpehphjgffaa.Kt
/-- a period as it counts -/
def per (p : Int) : Int := if cl p < 0 then 0 else cl p
theorem per_bd (p : Int) : 0 ≤ per p ∧ per p ≤ 4611686018427387903 := by unfold per cl; omega
def lim (now : Int) : Int := if cl now < 4611686018427387902 then cl now else 4611686018427387902
/-- how many aren't later -/
def cnt (F P now : Int) : Int := if F > lim now then 0 else if P = 0 then 1 else (lim now - F) / P + 1
theorem lim_bd (n : Int) : -4611686018427387903 ≤ lim n ∧ lim n ≤ 4611686018427387902 := by unfold lim cl; omega
theorem ediv_bd {a b : Int} (h : 0 ≤ a) (k : 0 < b) : 0 ≤ a / b ∧ a / b ≤ a := ⟨Int.ediv_nonneg h (by omega), Int.ediv_le_self b h⟩
/-- the n-th one -/
def nthv (F P n : Int) : Int := if n < 0 ∨ (n > 0 ∧ P = 0) then 4611686018427387903 else if P > 0 ∧ n > (4611686018427387903 - F) / P then 4611686018427387903 else F + n * P
theorem mul_le_of_div {n P G : Int} (hP : 0 < P) (hn : 0 ≤ n) (h : n ≤ G / P) : 0 ≤ n * P ∧ n * P ≤ G :=
  ⟨Int.mul_nonneg hn (by omega), Int.le_trans (Int.mul_le_mul_of_nonneg_right h (by omega)) (Int.ediv_mul_le G (by omega))⟩
theorem div_sandwich {G P : Int} (hP : 0 < P) : G / P * P ≤ G ∧ G < G / P * P + P := by
  refine ⟨Int.ediv_mul_le G (by omega), ?_⟩
  have := Int.lt_ediv_add_one_mul_self G hP
  rwa [Int.add_mul, Int.one_mul] at this
theorem le_div {n P G : Int} (hP : 0 < P) : n ≤ G / P ↔ n * P ≤ G := Int.le_ediv_iff_mul_le hP
theorem cnt_bd (F P now : Int) (hF : -4611686018427387903 ≤ F ∧ F ≤ 4611686018427387903) (hP : 0 ≤ P ∧ P ≤ 4611686018427387903) : 0 ≤ cnt F P now ∧ cnt F P now ≤ 9223372036854775806 := by
  unfold cnt
  have hl := lim_bd now
  split
  · omega
  · split
    · omega
    · have := ediv_bd (a := lim now - F) (b := P) (by omega) (by omega)
      omega
def ovr (n : Int) : Int := if n < 0 then 0 else if n > 2147483647 then 2147483647 else n
/-- the last one that isn't later is not later, the next one is, or never comes -/
theorem last_le (F P now : Int) (hF : -4611686018427387903 ≤ F ∧ F ≤ 4611686018427387903) (hP : 0 ≤ P ∧ P ≤ 4611686018427387903) (h : cnt F P now ≠ 0) :
    nthv F P (cnt F P now - 1) = F + (cnt F P now - 1) * P ∧ nthv F P (cnt F P now - 1) ≤ lim now ∧ F ≤ nthv F P (cnt F P now - 1) := by
  have hl := lim_bd now
  unfold cnt at h ⊢
  by_cases g : F > lim now
  · rw [if_pos g] at h; omega
  rw [if_neg g] at h ⊢
  by_cases g2 : P = 0
  · subst g2
    simp only [if_true]
    unfold nthv
    rw [if_neg (by omega), if_neg (by omega)]
    simp; omega
  · rw [if_neg g2] at h ⊢
    have hs := div_sandwich (G := lim now - F) (P := P) (by omega)
    have hb := ediv_bd (a := lim now - F) (b := P) (by omega) (by omega)
    have hle : (lim now - F) / P ≤ (4611686018427387903 - F) / P := Int.ediv_le_ediv (by omega) (by omega)
    rw [Int.add_sub_cancel]
    unfold nthv
    rw [if_neg (by omega), if_neg (by omega)]
    have := Int.mul_nonneg hb.1 hP.1
    omega
theorem next_gt (F P now : Int) (hF : -4611686018427387903 ≤ F ∧ F ≤ 4611686018427387903) (hP : 0 ≤ P ∧ P ≤ 4611686018427387903) :
    nthv F P (cnt F P now) = 4611686018427387903 ∨ cl now < nthv F P (cnt F P now) := by
  have hl := lim_bd now
  have hl2 : cl now = lim now ∨ cl now = 4611686018427387903 := by unfold lim cl; omega
  unfold cnt
  by_cases g : F > lim now
  · rw [if_pos g]
    unfold nthv
    rw [if_neg (by omega)]
    have : P > 0 → 0 ≤ (4611686018427387903 - F) / P := fun h => (ediv_bd (by omega) h).1
    rw [if_neg (by omega)]
    rw [Int.zero_mul]
    have : lim now = cl now ∨ lim now = 4611686018427387902 := by unfold lim; omega
    omega
  rw [if_neg g]
  by_cases g2 : P = 0
  · subst g2
    left
    simp [nthv]
  · rw [if_neg g2]
    have hs := div_sandwich (G := lim now - F) (P := P) (by omega)
    have hb := ediv_bd (a := lim now - F) (b := P) (by omega) (by omega)
    unfold nthv
    rw [if_neg (by omega)]
    by_cases g3 : P > 0 ∧ (lim now - F) / P + 1 > (4611686018427387903 - F) / P
    · left; rw [if_pos g3]
    · rw [if_neg g3]
      have h3 := (le_div (n := (lim now - F) / P + 1) (G := 4611686018427387903 - F) (P := P) (by omega)).1 (by omega)
      rw [Int.add_mul, Int.one_mul] at h3 ⊢
      rcases hl2 with e | e
      · right; omega
      · left
        have : lim now = 4611686018427387902 := by unfold lim; omega
        omega
theorem nthv_bd (F P n : Int) (hF : -4611686018427387903 ≤ F ∧ F ≤ 4611686018427387903) (hP : 0 ≤ P) : -4611686018427387903 ≤ nthv F P n ∧ nthv F P n ≤ 4611686018427387903 := by
  unfold nthv
  by_cases g : n < 0 ∨ (n > 0 ∧ P = 0)
  · rw [if_pos g]; omega
  rw [if_neg g]
  by_cases g2 : P > 0 ∧ n > (4611686018427387903 - F) / P
  · rw [if_pos g2]; omega
  rw [if_neg g2]
  by_cases g3 : P = 0
  · subst g3; simp; omega
  · have := mul_le_of_div (n := n) (P := P) (G := 4611686018427387903 - F) (by omega) (by omega) (by omega)
    omega
end Go.Proofs.Ytdplpehphjgffaa.Fw
