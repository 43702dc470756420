/- Of any series what is next is later than now, and one period ahead of it isn't, if something was skipped; overruns that are told are within bounds: no condition. -/
import Derived.Test.YthginjllhlfadaaPForwardLaterx2
import Derived.Laws.BitsAllLaws
import Derived.OpenShut
namespace Go.Proofs.Ythginjllhlfadaa.Pure
open Go.RowKit Go.Proofs.Ythginjllhlfadaa.PForwardLater Go.Proofs.YthginjllhlfadaaW.PrintWords Go.Proofs.YthginjllhlfadaaW.PrintLast

set_option linter.unusedVariables false
set_option linter.unusedSimpArgs false
/-- the time that a number counts as -/
def cl (x : Int) : Int := if x > 4611686018427387903 then 4611686018427387903 else if x < -4611686018427387903 then -4611686018427387903 else x
theorem cl_bd (x : Int) : -4611686018427387903 ≤ cl x ∧ cl x ≤ 4611686018427387903 := by unfold cl; omega
theorem cl_mono {x y : Int} (h : x ≤ y) : cl x ≤ cl y := by unfold cl; omega
theorem cl_in {x : Int} (h : -4611686018427387903 ≤ x) (k : x ≤ 4611686018427387903) : cl x = x := by unfold cl; omega
theorem wr_in {x : Int} (h : -9223372036854775808 ≤ x) (k : x ≤ 9223372036854775807) : wrap64 x = x := by unfold wrap64; omega
theorem wf64 {x : Int} (h : (Lit.int .i64 x).wf = true) : -9223372036854775808 ≤ x ∧ x ≤ 9223372036854775807 := bounds_i64 h
def ad (a b : Int) : Int := if a ≥ 4611686018427387903 then 4611686018427387903 else cl (cl a + cl b)
def sb (a b : Int) : Int := if a ≥ 4611686018427387903 then 4611686018427387903 else cl (cl a - cl b)

theorem clampK (x : Int) : ktime_Clamp.f x = some (cl x) := by
  unfold ktime_Clamp.f cl mn mx; congr 1; omega

theorem clampR (x : Int) : fuseeref01_Clamp.f x = some (cl x) := by
  unfold fuseeref01_Clamp.f cl; split <;> try rfl
  split <;> simp_all

/-- a period as it counts -/
def per (p : Int) : Int := if cl p < 0 then 0 else cl p
theorem per_bd (p : Int) : 0 ≤ per p ∧ per p ≤ 4611686018427387903 := by unfold per cl; omega
theorem ofK (a p : Int) : forward_of.f a p = some (cl a, per p) := by
  unfold forward_of.f
  simp only [clampK, Option.bind_some]
  have : mx (cl p) 0 = per p := by unfold mx per; omega
  rw [this]
theorem gapK (a b : Int) (h : 0 ≤ b - a) (k : b - a < 18446744073709551616) : forward_gap.f a b = some (b - a) := by
  unfold forward_gap.f; simp only [IntKind.wrap_u64]; congr 1; omega
def lim (now : Int) : Int := if cl now < 4611686018427387902 then cl now else 4611686018427387902
/-- how many aren't later -/
def cnt (F P now : Int) : Int := if F > lim now then 0 else if P = 0 then 1 else (lim now - F) / P + 1
theorem lim_bd (n : Int) : -4611686018427387903 ≤ lim n ∧ lim n ≤ 4611686018427387902 := by unfold lim cl; omega
theorem ediv_bd {a b : Int} (h : 0 ≤ a) (k : 0 < b) : 0 ≤ a / b ∧ a / b ≤ a := ⟨Int.ediv_nonneg h (by omega), Int.ediv_le_self b h⟩
theorem countS (F P now : Int) (hF : -4611686018427387903 ≤ F ∧ F ≤ 4611686018427387903) (hP : 0 ≤ P ∧ P ≤ 4611686018427387903) : forward_series_count.f F P now = some (cnt F P now) := by
  unfold forward_series_count.f cnt
  rw [clampK, Option.bind_some]
  have e : mn (cl now) 4611686018427387902 = lim now := by unfold mn lim; omega
  rw [e]
  have hl := lim_bd now
  by_cases g : F > lim now
  · rw [if_pos g, if_pos g]
  · rw [if_neg g, if_neg g]
    by_cases g2 : P = 0
    · rw [if_pos g2, if_pos g2]
    · rw [if_neg g2, if_neg g2, gapK F (lim now) (by omega) (by omega), Option.bind_some]
      have hP' : IntKind.u64.wrap P = P := by rw [IntKind.wrap_u64]; omega
      rw [hP', if_neg g2, Int.tdiv_eq_ediv_of_nonneg (by omega)]
      have hd := ediv_bd (a := lim now - F) (b := P) (by omega) (by omega)
      have hd' : IntKind.u64.wrap ((lim now - F) / P) = (lim now - F) / P := by rw [IntKind.wrap_u64]; omega
      rw [hd', wr_in (x := (lim now - F) / P) (by omega) (by omega), wr_in (by omega) (by omega)]
/-- the n-th one -/
def nthv (F P n : Int) : Int := if n < 0 ∨ (n > 0 ∧ P = 0) then 4611686018427387903 else if P > 0 ∧ n > (4611686018427387903 - F) / P then 4611686018427387903 else F + n * P
theorem mul_le_of_div {n P G : Int} (hP : 0 < P) (hn : 0 ≤ n) (h : n ≤ G / P) : 0 ≤ n * P ∧ n * P ≤ G :=
  ⟨Int.mul_nonneg hn (by omega), Int.le_trans (Int.mul_le_mul_of_nonneg_right h (by omega)) (Int.ediv_mul_le G (by omega))⟩
theorem nthS (F P n : Int) (hF : -4611686018427387903 ≤ F ∧ F ≤ 4611686018427387903) (hP : 0 ≤ P ∧ P ≤ 4611686018427387903) (hn : -9223372036854775808 ≤ n ∧ n ≤ 9223372036854775807) (k : Nat) :
    forward_series_nth.f (k + 1) F P n = some (nthv F P n) := by
  unfold forward_series_nth.f nthv
  simp only [forward_series_nth.j0, if_true, Bool.false_eq_true, if_false]
  by_cases g : n < 0
  · rw [if_pos g, if_pos (.inl g)]
  rw [if_neg g]
  have hPw : IntKind.u64.wrap P = P := by rw [IntKind.wrap_u64]; omega
  have hnw : IntKind.u64.wrap n = n := by rw [IntKind.wrap_u64]; omega
  have hd : 0 < P → 0 ≤ (4611686018427387903 - F) / P ∧ (4611686018427387903 - F) / P ≤ 4611686018427387903 - F := fun h => ediv_bd (by omega) h
  have hwd : 0 < P → IntKind.u64.wrap ((4611686018427387903 - F) / P) = (4611686018427387903 - F) / P := fun h => by
    have := hd h
    rw [IntKind.wrap_u64]; omega
  rw [gapK F _ (by omega) (by omega)]
  simp only [Option.bind_some, hPw, hnw]
  rw [Int.tdiv_eq_ediv_of_nonneg (by omega)]
  have fin : (P > 0 → n ≤ (4611686018427387903 - F) / P) → (P = 0 → n = 0) → wrap64 (IntKind.u64.wrap (IntKind.u64.wrap F + IntKind.u64.wrap (n * P))) = F + n * P := by
    intro h h'
    have hb : 0 ≤ n * P ∧ n * P ≤ 4611686018427387903 - F := by
      by_cases g3 : P > 0
      · exact mul_le_of_div g3 (by omega) (h g3)
      · have : P = 0 := by omega
        subst this
        simp; omega
    simp only [IntKind.wrap_u64]
    unfold wrap64
    generalize n * P = y at *
    omega
  by_cases g2 : n > 0
  · rw [if_pos g2]
    by_cases g3 : P = 0
    · subst g3; simp [g2]
    · have hbe : (P == 0) = false := by simp [g3]
      have gP : P > 0 := by omega
      have hB : ¬ (n < 0 ∨ (n > 0 ∧ P = 0)) := by omega
      rw [hbe]
      simp only [Bool.false_eq_true, if_false]
      rw [if_pos gP, if_neg g3, hwd gP, if_neg hB]
      by_cases g4 : n > (4611686018427387903 - F) / P
      · rw [if_pos g4, if_pos ⟨gP, g4⟩]
      · have hC : ¬ (P > 0 ∧ n > (4611686018427387903 - F) / P) := by omega
        rw [if_neg g4, if_neg hC, fin (fun _ => by omega) (fun h => absurd h g3)]
  · have hB : ¬ (n < 0 ∨ (n > 0 ∧ P = 0)) := by omega
    have hn0 : n = 0 := by omega
    rw [if_neg g2, if_neg hB]
    by_cases gP : P > 0
    · have := hd gP
      have g3 : ¬ P = 0 := by omega
      have g4 : ¬ n > (4611686018427387903 - F) / P := by omega
      have hC : ¬ (P > 0 ∧ n > (4611686018427387903 - F) / P) := by omega
      rw [if_pos gP, if_neg g3, hwd gP, if_neg g4, if_neg hC, fin (fun _ => by omega) (fun h => by omega)]
    · have hC : ¬ (P > 0 ∧ n > (4611686018427387903 - F) / P) := by omega
      rw [if_neg gP, if_neg hC, fin (fun h => absurd h gP) (fun _ => hn0)]
theorem div_sandwich {G P : Int} (hP : 0 < P) : G / P * P ≤ G ∧ G < G / P * P + P := by
  refine ⟨Int.ediv_mul_le G (by omega), ?_⟩
  have := Int.lt_ediv_add_one_mul_self G hP
  rwa [Int.add_mul, Int.one_mul] at this
theorem le_div {n P G : Int} (hP : 0 < P) : n ≤ G / P ↔ n * P ≤ G := Int.le_ediv_iff_mul_le hP
theorem cnt_bd (F P now : Int) (hF : -4611686018427387903 ≤ F ∧ F ≤ 4611686018427387903) (hP : 0 ≤ P ∧ P ≤ 4611686018427387903) : 0 ≤ cnt F P now ∧ cnt F P now ≤ 9223372036854775806 := by
  unfold cnt
  have hl := lim_bd now
  split
  · omega
  · split
    · omega
    · have := ediv_bd (a := lim now - F) (b := P) (by omega) (by omega)
      omega
theorem countK (a p now : Int) : forward_Count.f a p now = some (cnt (cl a) (per p) now) := by
  unfold forward_Count.f
  rw [ofK]; simp only [Option.bind_some]
  rw [countS _ _ _ (cl_bd a) (per_bd p)]; rfl
theorem nthK (a p n : Int) (hn : -9223372036854775808 ≤ n ∧ n ≤ 9223372036854775807) (k : Nat) : forward_Nth.f (k + 1) a p n = some (nthv (cl a) (per p) n) := by
  unfold forward_Nth.f
  rw [ofK]; simp only [Option.bind_some]
  rw [nthS _ _ _ (cl_bd a) (per_bd p) hn]; rfl
theorem nextK (a p now : Int) (k : Nat) : forward_Next.f (k + 1) a p now = some (nthv (cl a) (per p) (cnt (cl a) (per p) now), cnt (cl a) (per p) now) := by
  unfold forward_Next.f
  rw [ofK]; simp only [Option.bind_some]
  have := cnt_bd (cl a) (per p) now (cl_bd a) (per_bd p)
  rw [countS _ _ _ (cl_bd a) (per_bd p)]; simp only [Option.bind_some]
  rw [nthS _ _ _ (cl_bd a) (per_bd p) (by omega)]; rfl
def ovr (n : Int) : Int := if n < 0 then 0 else if n > 2147483647 then 2147483647 else n
theorem overK (n : Int) : forward_Over.f n = some (ovr n) := by unfold forward_Over.f ovr mn mx; congr 1; omega
/-- the last one that isn't later is not later, the next one is, or never comes -/
theorem last_le (F P now : Int) (hF : -4611686018427387903 ≤ F ∧ F ≤ 4611686018427387903) (hP : 0 ≤ P ∧ P ≤ 4611686018427387903) (h : cnt F P now ≠ 0) :
    nthv F P (cnt F P now - 1) = F + (cnt F P now - 1) * P ∧ nthv F P (cnt F P now - 1) ≤ lim now ∧ F ≤ nthv F P (cnt F P now - 1) := by
  have hl := lim_bd now
  unfold cnt at h ⊢
  by_cases g : F > lim now
  · rw [if_pos g] at h; omega
  rw [if_neg g] at h ⊢
  by_cases g2 : P = 0
  · subst g2
    simp only [if_true]
    unfold nthv
    rw [if_neg (by omega), if_neg (by omega)]
    simp; omega
  · rw [if_neg g2] at h ⊢
    have hs := div_sandwich (G := lim now - F) (P := P) (by omega)
    have hb := ediv_bd (a := lim now - F) (b := P) (by omega) (by omega)
    have hle : (lim now - F) / P ≤ (4611686018427387903 - F) / P := Int.ediv_le_ediv (by omega) (by omega)
    rw [Int.add_sub_cancel]
    unfold nthv
    rw [if_neg (by omega), if_neg (by omega)]
    have := Int.mul_nonneg hb.1 hP.1
    omega
theorem next_gt (F P now : Int) (hF : -4611686018427387903 ≤ F ∧ F ≤ 4611686018427387903) (hP : 0 ≤ P ∧ P ≤ 4611686018427387903) :
    nthv F P (cnt F P now) = 4611686018427387903 ∨ cl now < nthv F P (cnt F P now) := by
  have hl := lim_bd now
  have hl2 : cl now = lim now ∨ cl now = 4611686018427387903 := by unfold lim cl; omega
  unfold cnt
  by_cases g : F > lim now
  · rw [if_pos g]
    unfold nthv
    rw [if_neg (by omega)]
    have : P > 0 → 0 ≤ (4611686018427387903 - F) / P := fun h => (ediv_bd (by omega) h).1
    rw [if_neg (by omega)]
    rw [Int.zero_mul]
    have : lim now = cl now ∨ lim now = 4611686018427387902 := by unfold lim; omega
    omega
  rw [if_neg g]
  by_cases g2 : P = 0
  · subst g2
    left
    simp [nthv]
  · rw [if_neg g2]
    have hs := div_sandwich (G := lim now - F) (P := P) (by omega)
    have hb := ediv_bd (a := lim now - F) (b := P) (by omega) (by omega)
    unfold nthv
    rw [if_neg (by omega)]
    by_cases g3 : P > 0 ∧ (lim now - F) / P + 1 > (4611686018427387903 - F) / P
    · left; rw [if_pos g3]
    · rw [if_neg g3]
      have h3 := (le_div (n := (lim now - F) / P + 1) (G := 4611686018427387903 - F) (P := P) (by omega)).1 (by omega)
      rw [Int.add_mul, Int.one_mul] at h3 ⊢
      rcases hl2 with e | e
      · right; omega
      · left
        have : lim now = 4611686018427387902 := by unfold lim; omega
        omega

theorem phaseK (a p now : Int) (k : Nat) : forward_Phase.f (k + 1) a p now = some (if cnt (cl a) (per p) now = 0 then (0, false) else (mn (cl now - nthv (cl a) (per p) (cnt (cl a) (per p) now - 1)) 9223372036854775807, true)) := by
  unfold forward_Phase.f
  rw [ofK]; simp only [Option.bind_some]
  have hc := cnt_bd (cl a) (per p) now (cl_bd a) (per_bd p)
  rw [countS _ _ _ (cl_bd a) (per_bd p)]; simp only [Option.bind_some]
  by_cases g : cnt (cl a) (per p) now = 0
  · rw [if_pos g, if_pos g]
  · rw [if_neg g, if_neg g, wr_in (x := cnt (cl a) (per p) now - 1) (by omega) (by omega), nthS _ _ _ (cl_bd a) (per_bd p) (by omega), Option.bind_some, clampK, Option.bind_some]
    have hl := last_le (cl a) (per p) now (cl_bd a) (per_bd p) g
    have h2 : lim now ≤ cl now := by unfold lim; omega
    have h3 := cl_bd a
    have h4 := cl_bd now
    rw [gapK _ _ (by omega) (by omega), Option.bind_some, wr_in (by unfold mn; omega) (by unfold mn; omega)]
theorem fixed03 (k : Nat) (hk : 1 ≤ k) : fuseelaw03_fixed.f k = some true := by
  obtain ⟨k, rfl⟩ : ∃ m, k = m + 1 := ⟨k - 1, by omega⟩
  unfold fuseelaw03_fixed.f
  simp only [nextK, phaseK, countK, overK, Option.bind_some]
  rw [nthK 10 5 3 (by omega), nthK 10 5 (-1) (by omega)]
  have e1 : cl 10 = 10 := by unfold cl; omega
  have e2 : per 5 = 5 := by unfold per cl; omega
  have e3 : per 0 = 0 := by unfold per cl; omega
  have l1 : lim 20 = 20 := by unfold lim cl; omega
  have l2 : lim 9 = 9 := by unfold lim cl; omega
  have l3 : lim 22 = 22 := by unfold lim cl; omega
  have l4 : cl 22 = 22 := by unfold cl; omega
  rw [e1, e2, e3]
  have c1 : cnt 10 5 20 = 3 := by unfold cnt; rw [l1]; decide
  have c2 : cnt 10 5 22 = 3 := by unfold cnt; rw [l3]; decide
  have c3 : cnt 10 5 9 = 0 := by unfold cnt; rw [l2]; decide
  have c4 : cnt 10 0 20 = 1 := by unfold cnt; rw [l1]; decide
  rw [c1, c2, c3, c4, l4]
  have n1 : nthv 10 5 3 = 25 := by unfold nthv; decide
  have n2 : nthv 10 5 (3 - 1) = 20 := by unfold nthv; decide
  have n3 : nthv 10 0 1 = 4611686018427387903 := by unfold nthv; decide
  have n4 : nthv 10 5 (-1) = 4611686018427387903 := by unfold nthv; decide
  rw [n1, n2, n3, n4]
  simp [ovr, mn]

theorem ForwardLater : fuseelaw03_ForwardLater.Pure := by
  intro a p now ha hp hn
  refine ⟨9, ?_⟩
  unfold fuseelaw03_ForwardLater.f
  rw [fixed03 _ (by omega)]
  simp only [Option.bind_some, if_true, clampR, nextK, overK]
  have hF := cl_bd a
  have hP := per_bd p
  have hc := cnt_bd (cl a) (per p) now hF hP
  have hg := next_gt (cl a) (per p) now hF hP
  have j0 : ∀ b, b = false → fuseelaw03_ForwardLater.j0 9 a p now (nthv (cl a) (per p) (cnt (cl a) (per p) now)) (cnt (cl a) (per p) now) b = some true := by
    intro b hb
    subst hb
    simp only [fuseelaw03_ForwardLater.j0, clampR, Option.bind_some, Bool.false_eq_true, if_false]
    by_cases g : cnt (cl a) (per p) now = 0
    · rw [if_pos g, g]
      have : per p > 0 → 0 ≤ (4611686018427387903 - cl a) / per p := fun h => (ediv_bd (by omega) h).1
      have : nthv (cl a) (per p) 0 = cl a := by
        unfold nthv
        rw [if_neg (by omega), if_neg (by omega)]
        simp
      rw [this]; simp
    · have hl := last_le (cl a) (per p) now hF hP g
      rw [if_neg g, nthK _ _ _ (by omega), Option.bind_some, if_pos rfl, wr_in (by omega) (by omega), nthK _ _ _ (by omega), Option.bind_some]
      have h2 : lim now ≤ cl now := by unfold lim; omega
      congr 1
      exact decide_eq_true (by omega)
  have ho : 0 ≤ ovr (cnt (cl a) (per p) now) ∧ ovr (cnt (cl a) (per p) now) ≤ 2147483647 ∧ ovr (cnt (cl a) (per p) now) ≤ cnt (cl a) (per p) now := by unfold ovr; omega
  have hd : decide (ovr (cnt (cl a) (per p) now) > cnt (cl a) (per p) now) = false := decide_eq_false (by omega)
  rw [if_neg (by omega)]
  by_cases g1 : nthv (cl a) (per p) (cnt (cl a) (per p) now) ≤ cl now
  · rw [if_pos g1, if_neg (by omega), if_neg (by omega), if_neg (by omega)]
    exact j0 _ hd
  · rw [if_neg g1, if_neg (by omega), if_neg (by omega)]
    exact j0 _ hd

end Go.Proofs.Ythginjllhlfadaa.Pure
