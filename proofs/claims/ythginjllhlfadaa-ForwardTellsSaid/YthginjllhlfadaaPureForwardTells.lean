/- Of any series what is next, how many aren't later than now, and how long it is since the last one, is what goes time by time tells: no condition. -/
import Derived.Test.YthginjllhlfadaaPForwardTellsx2
import Derived.Laws.BitsAllLaws
import Derived.OpenShut
namespace Go.Proofs.Ythginjllhlfadaa.Pure
open Go.RowKit Go.Proofs.Ythginjllhlfadaa.PForwardTells Go.Proofs.YthginjllhlfadaaW.PrintWords Go.Proofs.YthginjllhlfadaaW.PrintLast

set_option linter.unusedVariables false
set_option linter.unusedSimpArgs false
/-- the time that a number counts as -/
def cl (x : Int) : Int := if x > 4611686018427387903 then 4611686018427387903 else if x < -4611686018427387903 then -4611686018427387903 else x
theorem cl_bd (x : Int) : -4611686018427387903 ≤ cl x ∧ cl x ≤ 4611686018427387903 := by unfold cl; omega
theorem cl_mono {x y : Int} (h : x ≤ y) : cl x ≤ cl y := by unfold cl; omega
theorem cl_in {x : Int} (h : -4611686018427387903 ≤ x) (k : x ≤ 4611686018427387903) : cl x = x := by unfold cl; omega
theorem wr_in {x : Int} (h : -9223372036854775808 ≤ x) (k : x ≤ 9223372036854775807) : wrap64 x = x := by unfold wrap64; omega
theorem wf64 {x : Int} (h : (Lit.int .i64 x).wf = true) : -9223372036854775808 ≤ x ∧ x ≤ 9223372036854775807 := bounds_i64 h
def ad (a b : Int) : Int := if a ≥ 4611686018427387903 then 4611686018427387903 else cl (cl a + cl b)
def sb (a b : Int) : Int := if a ≥ 4611686018427387903 then 4611686018427387903 else cl (cl a - cl b)

theorem clampK (x : Int) : ktime_Clamp.f x = some (cl x) := by
  unfold ktime_Clamp.f cl mn mx; congr 1; omega

theorem clampR (x : Int) : fuseeref01_Clamp.f x = some (cl x) := by
  unfold fuseeref01_Clamp.f cl; split <;> try rfl
  split <;> simp_all

theorem addR (a b : Int) : fuseeref01_Add.f a b = some (ad a b) := by
  unfold fuseeref01_Add.f ad
  simp only [Option.bind_some, clampR]
  have h1 := cl_bd a
  have h2 := cl_bd b
  rw [wr_in (by omega) (by omega)]
  split <;> rfl

/-- a period as it counts -/
def per (p : Int) : Int := if cl p < 0 then 0 else cl p
theorem per_bd (p : Int) : 0 ≤ per p ∧ per p ≤ 4611686018427387903 := by unfold per cl; omega
theorem ofK (a p : Int) : forward_of.f a p = some (cl a, per p) := by
  unfold forward_of.f
  simp only [clampK, Option.bind_some]
  have : mx (cl p) 0 = per p := by unfold mx per; omega
  rw [this]
theorem gapK (a b : Int) (h : 0 ≤ b - a) (k : b - a < 18446744073709551616) : forward_gap.f a b = some (b - a) := by
  unfold forward_gap.f; simp only [IntKind.wrap_u64]; congr 1; omega
def lim (now : Int) : Int := if cl now < 4611686018427387902 then cl now else 4611686018427387902
/-- how many aren't later -/
def cnt (F P now : Int) : Int := if F > lim now then 0 else if P = 0 then 1 else (lim now - F) / P + 1
theorem lim_bd (n : Int) : -4611686018427387903 ≤ lim n ∧ lim n ≤ 4611686018427387902 := by unfold lim cl; omega
theorem ediv_bd {a b : Int} (h : 0 ≤ a) (k : 0 < b) : 0 ≤ a / b ∧ a / b ≤ a := ⟨Int.ediv_nonneg h (by omega), Int.ediv_le_self b h⟩
theorem countS (F P now : Int) (hF : -4611686018427387903 ≤ F ∧ F ≤ 4611686018427387903) (hP : 0 ≤ P ∧ P ≤ 4611686018427387903) : forward_series_count.f F P now = some (cnt F P now) := by
  unfold forward_series_count.f cnt
  rw [clampK, Option.bind_some]
  have e : mn (cl now) 4611686018427387902 = lim now := by unfold mn lim; omega
  rw [e]
  have hl := lim_bd now
  by_cases g : F > lim now
  · rw [if_pos g, if_pos g]
  · rw [if_neg g, if_neg g]
    by_cases g2 : P = 0
    · rw [if_pos g2, if_pos g2]
    · rw [if_neg g2, if_neg g2, gapK F (lim now) (by omega) (by omega), Option.bind_some]
      have hP' : IntKind.u64.wrap P = P := by rw [IntKind.wrap_u64]; omega
      rw [hP', if_neg g2, Int.tdiv_eq_ediv_of_nonneg (by omega)]
      have hd := ediv_bd (a := lim now - F) (b := P) (by omega) (by omega)
      have hd' : IntKind.u64.wrap ((lim now - F) / P) = (lim now - F) / P := by rw [IntKind.wrap_u64]; omega
      rw [hd', wr_in (x := (lim now - F) / P) (by omega) (by omega), wr_in (by omega) (by omega)]
/-- the n-th one -/
def nthv (F P n : Int) : Int := if n < 0 ∨ (n > 0 ∧ P = 0) then 4611686018427387903 else if P > 0 ∧ n > (4611686018427387903 - F) / P then 4611686018427387903 else F + n * P
theorem mul_le_of_div {n P G : Int} (hP : 0 < P) (hn : 0 ≤ n) (h : n ≤ G / P) : 0 ≤ n * P ∧ n * P ≤ G :=
  ⟨Int.mul_nonneg hn (by omega), Int.le_trans (Int.mul_le_mul_of_nonneg_right h (by omega)) (Int.ediv_mul_le G (by omega))⟩
theorem nthS (F P n : Int) (hF : -4611686018427387903 ≤ F ∧ F ≤ 4611686018427387903) (hP : 0 ≤ P ∧ P ≤ 4611686018427387903) (hn : -9223372036854775808 ≤ n ∧ n ≤ 9223372036854775807) (k : Nat) :
    forward_series_nth.f (k + 1) F P n = some (nthv F P n) := by
  unfold forward_series_nth.f nthv
  simp only [forward_series_nth.j0, if_true, Bool.false_eq_true, if_false]
  by_cases g : n < 0
  · rw [if_pos g, if_pos (.inl g)]
  rw [if_neg g]
  have hPw : IntKind.u64.wrap P = P := by rw [IntKind.wrap_u64]; omega
  have hnw : IntKind.u64.wrap n = n := by rw [IntKind.wrap_u64]; omega
  have hd : 0 < P → 0 ≤ (4611686018427387903 - F) / P ∧ (4611686018427387903 - F) / P ≤ 4611686018427387903 - F := fun h => ediv_bd (by omega) h
  have hwd : 0 < P → IntKind.u64.wrap ((4611686018427387903 - F) / P) = (4611686018427387903 - F) / P := fun h => by
    have := hd h
    rw [IntKind.wrap_u64]; omega
  rw [gapK F _ (by omega) (by omega)]
  simp only [Option.bind_some, hPw, hnw]
  rw [Int.tdiv_eq_ediv_of_nonneg (by omega)]
  have fin : (P > 0 → n ≤ (4611686018427387903 - F) / P) → (P = 0 → n = 0) → wrap64 (IntKind.u64.wrap (IntKind.u64.wrap F + IntKind.u64.wrap (n * P))) = F + n * P := by
    intro h h'
    have hb : 0 ≤ n * P ∧ n * P ≤ 4611686018427387903 - F := by
      by_cases g3 : P > 0
      · exact mul_le_of_div g3 (by omega) (h g3)
      · have : P = 0 := by omega
        subst this
        simp; omega
    simp only [IntKind.wrap_u64]
    unfold wrap64
    generalize n * P = y at *
    omega
  by_cases g2 : n > 0
  · rw [if_pos g2]
    by_cases g3 : P = 0
    · subst g3; simp [g2]
    · have hbe : (P == 0) = false := by simp [g3]
      have gP : P > 0 := by omega
      have hB : ¬ (n < 0 ∨ (n > 0 ∧ P = 0)) := by omega
      rw [hbe]
      simp only [Bool.false_eq_true, if_false]
      rw [if_pos gP, if_neg g3, hwd gP, if_neg hB]
      by_cases g4 : n > (4611686018427387903 - F) / P
      · rw [if_pos g4, if_pos ⟨gP, g4⟩]
      · have hC : ¬ (P > 0 ∧ n > (4611686018427387903 - F) / P) := by omega
        rw [if_neg g4, if_neg hC, fin (fun _ => by omega) (fun h => absurd h g3)]
  · have hB : ¬ (n < 0 ∨ (n > 0 ∧ P = 0)) := by omega
    have hn0 : n = 0 := by omega
    rw [if_neg g2, if_neg hB]
    by_cases gP : P > 0
    · have := hd gP
      have g3 : ¬ P = 0 := by omega
      have g4 : ¬ n > (4611686018427387903 - F) / P := by omega
      have hC : ¬ (P > 0 ∧ n > (4611686018427387903 - F) / P) := by omega
      rw [if_pos gP, if_neg g3, hwd gP, if_neg g4, if_neg hC, fin (fun _ => by omega) (fun h => by omega)]
    · have hC : ¬ (P > 0 ∧ n > (4611686018427387903 - F) / P) := by omega
      rw [if_neg gP, if_neg hC, fin (fun h => absurd h gP) (fun _ => hn0)]
theorem div_sandwich {G P : Int} (hP : 0 < P) : G / P * P ≤ G ∧ G < G / P * P + P := by
  refine ⟨Int.ediv_mul_le G (by omega), ?_⟩
  have := Int.lt_ediv_add_one_mul_self G hP
  rwa [Int.add_mul, Int.one_mul] at this
theorem le_div {n P G : Int} (hP : 0 < P) : n ≤ G / P ↔ n * P ≤ G := Int.le_ediv_iff_mul_le hP
theorem cnt_bd (F P now : Int) (hF : -4611686018427387903 ≤ F ∧ F ≤ 4611686018427387903) (hP : 0 ≤ P ∧ P ≤ 4611686018427387903) : 0 ≤ cnt F P now ∧ cnt F P now ≤ 9223372036854775806 := by
  unfold cnt
  have hl := lim_bd now
  split
  · omega
  · split
    · omega
    · have := ediv_bd (a := lim now - F) (b := P) (by omega) (by omega)
      omega
theorem countK (a p now : Int) : forward_Count.f a p now = some (cnt (cl a) (per p) now) := by
  unfold forward_Count.f
  rw [ofK]; simp only [Option.bind_some]
  rw [countS _ _ _ (cl_bd a) (per_bd p)]; rfl
theorem nthK (a p n : Int) (hn : -9223372036854775808 ≤ n ∧ n ≤ 9223372036854775807) (k : Nat) : forward_Nth.f (k + 1) a p n = some (nthv (cl a) (per p) n) := by
  unfold forward_Nth.f
  rw [ofK]; simp only [Option.bind_some]
  rw [nthS _ _ _ (cl_bd a) (per_bd p) hn]; rfl
theorem nextK (a p now : Int) (k : Nat) : forward_Next.f (k + 1) a p now = some (nthv (cl a) (per p) (cnt (cl a) (per p) now), cnt (cl a) (per p) now) := by
  unfold forward_Next.f
  rw [ofK]; simp only [Option.bind_some]
  have := cnt_bd (cl a) (per p) now (cl_bd a) (per_bd p)
  rw [countS _ _ _ (cl_bd a) (per_bd p)]; simp only [Option.bind_some]
  rw [nthS _ _ _ (cl_bd a) (per_bd p) (by omega)]; rfl
def ovr (n : Int) : Int := if n < 0 then 0 else if n > 2147483647 then 2147483647 else n
theorem overK (n : Int) : forward_Over.f n = some (ovr n) := by unfold forward_Over.f ovr mn mx; congr 1; omega
/-- the last one that isn't later is not later, the next one is, or never comes -/
theorem last_le (F P now : Int) (hF : -4611686018427387903 ≤ F ∧ F ≤ 4611686018427387903) (hP : 0 ≤ P ∧ P ≤ 4611686018427387903) (h : cnt F P now ≠ 0) :
    nthv F P (cnt F P now - 1) = F + (cnt F P now - 1) * P ∧ nthv F P (cnt F P now - 1) ≤ lim now ∧ F ≤ nthv F P (cnt F P now - 1) := by
  have hl := lim_bd now
  unfold cnt at h ⊢
  by_cases g : F > lim now
  · rw [if_pos g] at h; omega
  rw [if_neg g] at h ⊢
  by_cases g2 : P = 0
  · subst g2
    simp only [if_true]
    unfold nthv
    rw [if_neg (by omega), if_neg (by omega)]
    simp; omega
  · rw [if_neg g2] at h ⊢
    have hs := div_sandwich (G := lim now - F) (P := P) (by omega)
    have hb := ediv_bd (a := lim now - F) (b := P) (by omega) (by omega)
    have hle : (lim now - F) / P ≤ (4611686018427387903 - F) / P := Int.ediv_le_ediv (by omega) (by omega)
    rw [Int.add_sub_cancel]
    unfold nthv
    rw [if_neg (by omega), if_neg (by omega)]
    have := Int.mul_nonneg hb.1 hP.1
    omega
theorem next_gt (F P now : Int) (hF : -4611686018427387903 ≤ F ∧ F ≤ 4611686018427387903) (hP : 0 ≤ P ∧ P ≤ 4611686018427387903) :
    nthv F P (cnt F P now) = 4611686018427387903 ∨ cl now < nthv F P (cnt F P now) := by
  have hl := lim_bd now
  have hl2 : cl now = lim now ∨ cl now = 4611686018427387903 := by unfold lim cl; omega
  unfold cnt
  by_cases g : F > lim now
  · rw [if_pos g]
    unfold nthv
    rw [if_neg (by omega)]
    have : P > 0 → 0 ≤ (4611686018427387903 - F) / P := fun h => (ediv_bd (by omega) h).1
    rw [if_neg (by omega)]
    rw [Int.zero_mul]
    have : lim now = cl now ∨ lim now = 4611686018427387902 := by unfold lim; omega
    omega
  rw [if_neg g]
  by_cases g2 : P = 0
  · subst g2
    left
    simp [nthv]
  · rw [if_neg g2]
    have hs := div_sandwich (G := lim now - F) (P := P) (by omega)
    have hb := ediv_bd (a := lim now - F) (b := P) (by omega) (by omega)
    unfold nthv
    rw [if_neg (by omega)]
    by_cases g3 : P > 0 ∧ (lim now - F) / P + 1 > (4611686018427387903 - F) / P
    · left; rw [if_pos g3]
    · rw [if_neg g3]
      have h3 := (le_div (n := (lim now - F) / P + 1) (G := 4611686018427387903 - F) (P := P) (by omega)).1 (by omega)
      rw [Int.add_mul, Int.one_mul] at h3 ⊢
      rcases hl2 with e | e
      · right; omega
      · left
        have : lim now = 4611686018427387902 := by unfold lim; omega
        omega

theorem phaseK (a p now : Int) (k : Nat) : forward_Phase.f (k + 1) a p now = some (if cnt (cl a) (per p) now = 0 then (0, false) else (mn (cl now - nthv (cl a) (per p) (cnt (cl a) (per p) now - 1)) 9223372036854775807, true)) := by
  unfold forward_Phase.f
  rw [ofK]; simp only [Option.bind_some]
  have hc := cnt_bd (cl a) (per p) now (cl_bd a) (per_bd p)
  rw [countS _ _ _ (cl_bd a) (per_bd p)]; simp only [Option.bind_some]
  by_cases g : cnt (cl a) (per p) now = 0
  · rw [if_pos g, if_pos g]
  · rw [if_neg g, if_neg g, wr_in (x := cnt (cl a) (per p) now - 1) (by omega) (by omega), nthS _ _ _ (cl_bd a) (per_bd p) (by omega), Option.bind_some, clampK, Option.bind_some]
    have hl := last_le (cl a) (per p) now (cl_bd a) (per_bd p) g
    have h2 : lim now ≤ cl now := by unfold lim; omega
    have h3 := cl_bd a
    have h4 := cl_bd now
    rw [gapK _ _ (by omega) (by omega), Option.bind_some, wr_in (by unfold mn; omega) (by unfold mn; omega)]
theorem fixed03 (k : Nat) (hk : 1 ≤ k) : fuseelaw03_fixed.f k = some true := by
  obtain ⟨k, rfl⟩ : ∃ m, k = m + 1 := ⟨k - 1, by omega⟩
  unfold fuseelaw03_fixed.f
  simp only [nextK, phaseK, countK, overK, Option.bind_some]
  rw [nthK 10 5 3 (by omega), nthK 10 5 (-1) (by omega)]
  have e1 : cl 10 = 10 := by unfold cl; omega
  have e2 : per 5 = 5 := by unfold per cl; omega
  have e3 : per 0 = 0 := by unfold per cl; omega
  have l1 : lim 20 = 20 := by unfold lim cl; omega
  have l2 : lim 9 = 9 := by unfold lim cl; omega
  have l3 : lim 22 = 22 := by unfold lim cl; omega
  have l4 : cl 22 = 22 := by unfold cl; omega
  rw [e1, e2, e3]
  have c1 : cnt 10 5 20 = 3 := by unfold cnt; rw [l1]; decide
  have c2 : cnt 10 5 22 = 3 := by unfold cnt; rw [l3]; decide
  have c3 : cnt 10 5 9 = 0 := by unfold cnt; rw [l2]; decide
  have c4 : cnt 10 0 20 = 1 := by unfold cnt; rw [l1]; decide
  rw [c1, c2, c3, c4, l4]
  have n1 : nthv 10 5 3 = 25 := by unfold nthv; decide
  have n2 : nthv 10 5 (3 - 1) = 20 := by unfold nthv; decide
  have n3 : nthv 10 0 1 = 4611686018427387903 := by unfold nthv; decide
  have n4 : nthv 10 5 (-1) = 4611686018427387903 := by unfold nthv; decide
  rw [n1, n2, n3, n4]
  simp [ovr, mn]

theorem cnt_step (F P now : Int) (hF : -4611686018427387903 ≤ F ∧ F ≤ 4611686018427387903) (hP : 0 < P ∧ P ≤ 4611686018427387903) (h : F ≤ lim now) :
    cnt F P now = 1 + cnt (cl (F + P)) P now ∧ nthv F P (cnt F P now) = nthv (cl (F + P)) P (cnt (cl (F + P)) P now) := by
  have hl := lim_bd now
  have hs := div_sandwich (G := lim now - F) (P := P) hP.1
  have hb := ediv_bd (a := lim now - F) (b := P) (by omega) hP.1
  have hc : cnt F P now = (lim now - F) / P + 1 := by unfold cnt; rw [if_neg (by omega), if_neg (by omega)]
  by_cases g : F + P ≤ 4611686018427387903
  · have e : cl (F + P) = F + P := by unfold cl; omega
    rw [e]
    have e1 : (lim now - (F + P)) / P = (lim now - F) / P - 1 := by
      rw [show lim now - (F + P) = lim now - F - P by omega, Int.sub_ediv_of_dvd _ (Int.dvd_refl P), Int.ediv_self (by omega)]
    have e2 : (4611686018427387903 - (F + P)) / P = (4611686018427387903 - F) / P - 1 := by
      rw [show 4611686018427387903 - (F + P) = 4611686018427387903 - F - P by omega, Int.sub_ediv_of_dvd _ (Int.dvd_refl P), Int.ediv_self (by omega)]
    have hc' : cnt (F + P) P now = (lim now - F) / P := by
      unfold cnt
      by_cases g2 : F + P > lim now
      · rw [if_pos g2]
        exact (Int.ediv_eq_zero_of_lt (by omega) (by omega)).symm
      · rw [if_neg g2, if_neg (by omega), e1]; omega
    rw [hc, hc']
    refine ⟨by omega, ?_⟩
    unfold nthv
    have hA : ¬ ((lim now - F) / P + 1 < 0 ∨ ((lim now - F) / P + 1 > 0 ∧ P = 0)) := by omega
    have hA' : ¬ ((lim now - F) / P < 0 ∨ ((lim now - F) / P > 0 ∧ P = 0)) := by omega
    rw [if_neg hA, if_neg hA', e2]
    by_cases g3 : P > 0 ∧ (lim now - F) / P + 1 > (4611686018427387903 - F) / P
    · have g4 : P > 0 ∧ (lim now - F) / P > (4611686018427387903 - F) / P - 1 := by omega
      rw [if_pos g3, if_pos g4]
    · have g4 : ¬ (P > 0 ∧ (lim now - F) / P > (4611686018427387903 - F) / P - 1) := by omega
      rw [if_neg g3, if_neg g4, Int.add_mul]; omega
  · have e : cl (F + P) = 4611686018427387903 := by unfold cl; omega
    rw [e]
    have hz : (lim now - F) / P = 0 := Int.ediv_eq_zero_of_lt (by omega) (by omega)
    have hz2 : (4611686018427387903 - F) / P = 0 := Int.ediv_eq_zero_of_lt (by omega) (by omega)
    have hc' : cnt 4611686018427387903 P now = 0 := by unfold cnt; rw [if_pos (by omega)]
    rw [hc, hc', hz]
    refine ⟨by omega, ?_⟩
    unfold nthv
    have hA : ¬ ((0 : Int) + 1 < 0 ∨ ((0 : Int) + 1 > 0 ∧ P = 0)) := by omega
    have hC : P > 0 ∧ (0 : Int) + 1 > 0 := by omega
    rw [if_neg hA, hz2, if_pos hC]
    simp
theorem refCount_l (P now : Int) (hP : 0 < P ∧ P ≤ 4611686018427387903) (d : Nat) : ∀ (k : Nat) (F n : Int), -4611686018427387903 ≤ F → F ≤ 4611686018427387903 → 0 ≤ n → cnt F P now = d → n + d ≤ 9223372036854775806 → 2 * d + 2 ≤ k →
    fuseeref03_Count.l0 k F P (cl now) n = some (n + cnt F P now, nthv F P (cnt F P now)) := by
  induction d with
  | zero =>
    intro k F n f0 f1 hn hd hnd hk
    obtain ⟨k, rfl⟩ : ∃ m, k = m + 2 := ⟨k - 2, by omega⟩
    have hl := lim_bd now
    have hgt : F > lim now := by
      apply Decidable.byContradiction
      intro g
      have hb := ediv_bd (a := lim now - F) (b := P) (by omega) hP.1
      unfold cnt at hd
      rw [if_neg g, if_neg (by omega)] at hd
      omega
    have : nthv F P 0 = F := by
      unfold nthv
      have := (ediv_bd (a := 4611686018427387903 - F) (b := P) (by omega) hP.1).1
      rw [if_neg (by omega), if_neg (by omega)]; simp
    rw [hd]
    simp only [fuseeref03_Count.l0, fuseeref03_Count.j1]
    have hb : (if F ≤ cl now then decide (F < 4611686018427387903) else false) = false := by
      have : lim now = cl now ∨ lim now = 4611686018427387902 := by unfold lim; omega
      by_cases g : F ≤ cl now
      · rw [if_pos g]; exact decide_eq_false (by omega)
      · rw [if_neg g]
    by_cases g : F ≤ cl now
    · rw [if_pos g] at hb ⊢
      rw [hb]; simp [this]
    · rw [if_neg g]; simp [this]
  | succ d ih =>
    intro k F n f0 f1 hn hd hnd hk
    obtain ⟨k, rfl⟩ : ∃ m, k = m + 2 := ⟨k - 2, by omega⟩
    have hl := lim_bd now
    have hle : F ≤ lim now := by
      apply Decidable.byContradiction
      intro g
      unfold cnt at hd
      rw [if_pos (by omega)] at hd
      omega
    have hst := cnt_step F P now ⟨f0, f1⟩ hP hle
    have hc := cl_bd (F + P)
    simp only [fuseeref03_Count.l0, fuseeref03_Count.j1]
    have h2 : lim now ≤ cl now := by unfold lim; omega
    rw [if_pos (by omega)]
    have : decide (F < 4611686018427387903) = true := decide_eq_true (by omega)
    rw [this, if_pos rfl, if_neg (by omega), addR, Option.bind_some, wr_in (by omega) (by omega)]
    have e : ad F P = cl (F + P) := by
      unfold ad; rw [if_neg (by omega), cl_in f0 f1, cl_in (x := P) (by omega) (by omega)]
    rw [e, ih k (cl (F + P)) (n + 1) hc.1 hc.2 (by omega) (by omega) (by omega) (by omega), hst.2]
    congr 2; omega
theorem refCount (a p now : Int) (k : Nat) (hk : 2 * (cnt (cl a) (per p) now).toNat + 2 ≤ k) : fuseeref03_Count.f k a p now = some (cnt (cl a) (per p) now, nthv (cl a) (per p) (cnt (cl a) (per p) now)) := by
  unfold fuseeref03_Count.f
  simp only [clampR, Option.bind_some]
  have hF := cl_bd a
  have hp := cl_bd p
  have hc := cnt_bd (cl a) (per p) now hF (per_bd p)
  by_cases g : 0 < cl p
  · have hper : per p = cl p := by unfold per; omega
    rw [hper] at hc hk ⊢
    rw [refCount_l (cl p) now ⟨g, hp.2⟩ (cnt (cl a) (cl p) now).toNat k (cl a) 0 hF.1 hF.2 (by omega) (by omega) (by omega) (by omega)]
    simp
  · have hper : per p = 0 := by unfold per; omega
    rw [hper]
    obtain ⟨k, rfl⟩ : ∃ m, k = m + 2 := ⟨k - 2, by omega⟩
    simp only [fuseeref03_Count.l0, fuseeref03_Count.j1]
    have hl := lim_bd now
    by_cases g2 : cl a > lim now
    · have hc0 : cnt (cl a) 0 now = 0 := by unfold cnt; rw [if_pos g2]
      have hn0 : nthv (cl a) 0 0 = cl a := by unfold nthv; simp
      rw [hc0, hn0]
      by_cases g3 : cl a ≤ cl now
      · rw [if_pos g3]
        have : decide (cl a < 4611686018427387903) = false := decide_eq_false (by unfold lim at g2 hl; omega)
        rw [this]; simp
      · rw [if_neg g3]; simp
    · have hc0 : cnt (cl a) 0 now = 1 := by unfold cnt; rw [if_neg g2, if_pos rfl]
      have hn0 : nthv (cl a) 0 1 = 4611686018427387903 := by unfold nthv; simp
      rw [hc0, hn0]
      have h2 : lim now ≤ cl now := by unfold lim; omega
      rw [if_pos (by omega)]
      have : decide (cl a < 4611686018427387903) = true := decide_eq_true (by omega)
      rw [this, if_pos rfl, if_pos (by omega), wr_in (by omega) (by omega)]
      simp
theorem few_some (a p now : Int) : ∃ b, fuseeref03_Few.f a p now = some b := by
  unfold fuseeref03_Few.f
  simp only [clampR, Option.bind_some]
  by_cases g : cl p ≤ 0
  · exact ⟨true, if_pos g⟩
  rw [if_neg g]
  by_cases g2 : cl a > cl now
  · exact ⟨true, if_pos g2⟩
  rw [if_neg g2, if_neg (by omega)]
  exact ⟨_, rfl⟩
theorem last_l (a p now ph : Int) (c : Int) (hc0 : 1 ≤ c) (hc1 : c ≤ 9223372036854775806) (hb : ∀ i : Int, 0 ≤ i → i ≤ c - 1 → -4611686018427387903 ≤ cl a + i * cl p ∧ cl a + i * cl p ≤ 4611686018427387903) (hp : ph = cl now - (cl a + (c - 1) * cl p)) (d : Nat) :
    ∀ (k : Nat) (i : Int), 0 ≤ i → i ≤ c - 1 → c - 1 - i = d → d < k → fuseelaw03_ForwardTells.l0 k p now ph true (cl a + i * cl p) (c - 1) i = some true := by
  induction d with
  | zero =>
    intro k i h0 h1 hd hk
    obtain ⟨k, rfl⟩ : ∃ m, k = m + 1 := ⟨k - 1, by omega⟩
    have hi : i = c - 1 := by omega
    subst hi
    have := hb (c - 1) (by omega) (by omega)
    have h2 := cl_bd now
    simp only [fuseelaw03_ForwardTells.l0, clampR, Option.bind_some, if_true]
    rw [if_neg (by omega), wr_in (by omega) (by omega), hp]
    simp
  | succ d ih =>
    intro k i h0 h1 hd hk
    obtain ⟨k, rfl⟩ : ∃ m, k = m + 1 := ⟨k - 1, by omega⟩
    have h2 := hb (i + 1) (by omega) (by omega)
    have e : cl a + i * cl p + cl p = cl a + (i + 1) * cl p := by rw [Int.add_mul, Int.one_mul]; omega
    simp only [fuseelaw03_ForwardTells.l0, clampR, Option.bind_some]
    rw [if_pos (by omega), e, wr_in (by omega) (by omega), wr_in (x := i + 1) (by omega) (by omega)]
    exact ih k (i + 1) (by omega) (by omega) (by omega) (by omega)
theorem ForwardTells : fuseelaw03_ForwardTells.Pure := by
  intro a p now ha hp hn
  have hF := cl_bd a
  have hP := per_bd p
  have hc := cnt_bd (cl a) (per p) now hF hP
  refine ⟨2 * (cnt (cl a) (per p) now).toNat + 10, ?_⟩
  generalize hk : 2 * (cnt (cl a) (per p) now).toNat + 10 = k
  obtain ⟨k, rfl⟩ : ∃ m, k = m + 2 := ⟨k - 2, by omega⟩
  unfold fuseelaw03_ForwardTells.f
  rw [fixed03 _ (by omega)]
  obtain ⟨b, hb⟩ := few_some a p now
  rw [hb]
  simp only [Option.bind_some, if_true]
  cases b with
  | false => simp
  | true =>
    simp only [if_true]
    rw [refCount a p now _ (by omega), nextK]
    simp only [Option.bind_some, if_true, countK]
    simp only [fuseelaw03_ForwardTells.j0, bne_self_eq_false, Bool.false_eq_true, if_false, phaseK, clampR]
    by_cases g : cnt (cl a) (per p) now = 0
    · rw [if_pos g]
      simp [g]
    · rw [if_neg g]
      simp only [Option.bind_some]
      rw [if_neg g, wr_in (by omega) (by omega)]
      have hl := last_le (cl a) (per p) now hF hP g
      have hlim := lim_bd now
      have h2 : lim now ≤ cl now := by unfold lim; omega
      have h3 := cl_bd now
      have hmul : ∀ i : Int, 0 ≤ i → i ≤ cnt (cl a) (per p) now - 1 → i * cl p = i * per p := by
        intro i h0 h1
        by_cases g2 : 0 < cl p
        · have : per p = cl p := by unfold per; omega
          rw [this]
        · have hper : per p = 0 := by unfold per; omega
          have : cnt (cl a) (per p) now ≤ 1 := by unfold cnt; rw [hper]; simp only [if_true]; split <;> omega
          have : i = 0 := by omega
          subst this; simp
      have := last_l a p now (mn (cl now - nthv (cl a) (per p) (cnt (cl a) (per p) now - 1)) 9223372036854775807) (cnt (cl a) (per p) now) (by omega) (by omega)
        (fun i h0 h1 => by
          rw [hmul i h0 h1]
          have m1 := Int.mul_nonneg h0 hP.1
          have m2 := Int.mul_le_mul_of_nonneg_right h1 hP.1
          omega)
        (by rw [hmul _ (by omega) (by omega), ← hl.1]; unfold mn; omega)
        (cnt (cl a) (per p) now - 1).toNat (k + 1) 0 (by omega) (by omega) (by omega) (by omega)
      simpa using this

end Go.Proofs.Ythginjllhlfadaa.Pure
