/- The contracts of ktime.Mul and of the reference's Mul: both are the clamped product, for any numbers that an int holds. No other condition. -/
import Derived.Test.YtemellkcbbhlcaaDoorKt
set_option linter.unusedVariables false
set_option linter.unusedSimpArgs false
namespace Go.Proofs.YtemellkcbbhlcaaDoor.Kt
open Go.RowKit Go.Proofs.YtemellkcbbhlcaaDoor.Aid
theorem and_low (a : Int) (h1 : 0 ≤ a) (h2 : a < 18446744073709551616) : Go.bits .and .u64 a 4294967295 = a % 4294967296 := by
  rw [u64_and a 4294967295 h1 h2 (by omega) (by omega)]
  have e : (4294967295 : Int).toNat = 2 ^ 32 - 1 := by decide
  rw [e, Nat.and_two_pow_sub_one_eq_mod]
  omega
theorem mul_bd {a b : Int} (h1 : 0 ≤ a) (h2 : a ≤ 4294967295) (h3 : 0 ≤ b) (h4 : b ≤ 4294967295) : 0 ≤ a * b ∧ a * b ≤ 18446744065119617025 := by
  refine ⟨Int.mul_nonneg h1 h3, ?_⟩
  have := Int.mul_le_mul h2 h4 h3 (by omega)
  omega
theorem mul_parts (ah al bh bl : Int) : (ah * 4294967296 + al) * (bh * 4294967296 + bl) = (ah * bh) * 18446744073709551616 + ((ah * bl) + (al * bh)) * 4294967296 + al * bl := by
  have e : (18446744073709551616 : Int) = 4294967296 * 4294967296 := by decide
  rw [e]
  generalize (4294967296 : Int) = K
  simp only [Int.add_mul, Int.mul_add]
  have h1 : ah * K * (bh * K) = ah * bh * (K * K) := by
    rw [Int.mul_assoc, Int.mul_assoc]; congr 1; rw [← Int.mul_assoc, Int.mul_comm K bh, Int.mul_assoc]
  have h2 : ah * K * bl = ah * bl * K := by rw [Int.mul_assoc, Int.mul_comm K bl, ← Int.mul_assoc]
  have h3 : al * (bh * K) = al * bh * K := by rw [← Int.mul_assoc]
  rw [h1, h2, h3]
  omega
/-- what the library's text reckons -/
def m64 (a0 a1 : Int) : Int × Int := (IntKind.u64.wrap ((IntKind.u64.wrap ((IntKind.u64.wrap ((a0 / 4294967296) * (a1 / 4294967296))) + ((IntKind.u64.wrap ((IntKind.u64.wrap ((a0 / 4294967296) * (Go.bits .and .u64 a1 4294967295))) + ((IntKind.u64.wrap ((Go.bits .and .u64 a0 4294967295) * (Go.bits .and .u64 a1 4294967295))) / 4294967296))) / 4294967296))) + ((IntKind.u64.wrap ((Go.bits .and .u64 (IntKind.u64.wrap ((IntKind.u64.wrap ((a0 / 4294967296) * (Go.bits .and .u64 a1 4294967295))) + ((IntKind.u64.wrap ((Go.bits .and .u64 a0 4294967295) * (Go.bits .and .u64 a1 4294967295))) / 4294967296))) 4294967295) + (IntKind.u64.wrap ((Go.bits .and .u64 a0 4294967295) * (a1 / 4294967296))))) / 4294967296)), IntKind.u64.wrap (a0 * a1))
theorem m64_eq (a b : Int) (a0 : 0 ≤ a) (a1 : a < 18446744073709551616) (b0 : 0 ≤ b) (b1 : b < 18446744073709551616) :
    m64 a b = (a * b / 18446744073709551616, a * b % 18446744073709551616) := by
  unfold m64
  simp only [IntKind.wrap_u64]
  rw [and_low a a0 a1, and_low b b0 b1]
  have hal : 0 ≤ a % 4294967296 ∧ a % 4294967296 ≤ 4294967295 := by omega
  have hbl : 0 ≤ b % 4294967296 ∧ b % 4294967296 ≤ 4294967295 := by omega
  have hah : 0 ≤ a / 4294967296 ∧ a / 4294967296 ≤ 4294967295 := by omega
  have hbh : 0 ≤ b / 4294967296 ∧ b / 4294967296 ≤ 4294967295 := by omega
  have hab := mul_parts (a / 4294967296) (a % 4294967296) (b / 4294967296) (b % 4294967296)
  rw [show a / 4294967296 * 4294967296 + a % 4294967296 = a by omega, show b / 4294967296 * 4294967296 + b % 4294967296 = b by omega] at hab
  have p1 := mul_bd hah.1 hah.2 hbh.1 hbh.2
  have p2 := mul_bd hah.1 hah.2 hbl.1 hbl.2
  have p3 := mul_bd hal.1 hal.2 hbl.1 hbl.2
  have p4 := mul_bd hal.1 hal.2 hbh.1 hbh.2
  rw [hab]
  clear hab
  generalize a / 4294967296 * (b / 4294967296) = x1 at *
  generalize a / 4294967296 * (b % 4294967296) = x2 at *
  generalize a % 4294967296 * (b % 4294967296) = x3 at *
  generalize a % 4294967296 * (b / 4294967296) = x4 at *
  rw [and_low _ (by omega) (by omega)]
  refine Prod.ext ?_ ?_ <;> simp only <;> omega
def siz (x : Int) : Int := if x < 0 then -x else x
def hi64 (p : Int) : Int := p / 18446744073709551616
def lo64 (p : Int) : Int := p % 18446744073709551616
theorem lo64_bd (p : Int) : 0 ≤ lo64 p ∧ lo64 p ≤ 18446744073709551615 := by unfold lo64; omega
set_option maxHeartbeats 1000000 in
set_option maxRecDepth 100000 in
theorem mul64_any (a b : Int) (w : World) (a0 : 0 ≤ a) (a1 : a < 18446744073709551616) (b0 : 0 ≤ b) (b1 : b < 18446744073709551616) :
    Calls Tryd.prog 73 #[.int .u64 a, .int .u64 b] w fun e w' => e = .returned (.tuple #[.int .u64 (hi64 (a * b)), .int .u64 (lo64 (a * b))]) ∧ w = w' := by
  have h := m64_eq a b a0 a1 b0 b1
  have h1 : (m64 a b).1 = hi64 (a * b) := congrArg Prod.fst h
  have h2 : (m64 a b).2 = lo64 (a * b) := congrArg Prod.snd h
  rw [← h1, ← h2]
  clear h h1 h2 a0 a1 b0 b1
  go_enter Tryd.func73, Tryd.ntmps73
  go_wp2
  go_ret2
  exact ⟨rfl, rfl⟩
set_option maxHeartbeats 400000 in
theorem size_any (a : Int) (w : World) (h0 : -9223372036854775808 ≤ a) (h1 : a ≤ 9223372036854775807) :
    Calls Tryd.prog 74 #[.int .i64 a] w fun e w' => e = .returned (.int .u64 (siz a)) ∧ w = w' := by
  by_cases h : a < 0
  all_goals
    go_enter Tryd.func74, Tryd.ntmps74
    go_wp2
    go_ret
    exact ⟨ret_int (by unfold siz; first | omega | (simp only [IntKind.wrap_u64]; omega)), rfl⟩
/-- the product -/
def mul (a n : Int) : Int := cl (cl a * n)
theorem siz_bd (x : Int) (h0 : -9223372036854775808 ≤ x) (h1 : x ≤ 9223372036854775807) : 0 ≤ siz x ∧ siz x < 18446744073709551616 := by unfold siz; omega
theorem siz_mul (x n : Int) : x * n = if (decide (x < 0) != decide (n < 0)) = true then -(siz x * siz n) else siz x * siz n := by
  unfold siz
  by_cases g1 : x < 0 <;> by_cases g2 : n < 0 <;> simp [g1, g2, Int.neg_mul, Int.mul_neg]
theorem siz_mul0 (x n : Int) : 0 ≤ siz x * siz n := Int.mul_nonneg (by unfold siz; omega) (by unfold siz; omega)
theorem mul_fin (a n : Int) (t : Int) (h : t = if hi64 (siz (cl a) * siz n) = 0 ∧ lo64 (siz (cl a) * siz n) < 4611686018427387903 then lo64 (siz (cl a) * siz n) else 4611686018427387903) :
    mul a n = if (decide (cl a < 0) != decide (n < 0)) = true then -t else t := by
  unfold mul
  rw [siz_mul (cl a) n]
  have h0 := siz_mul0 (cl a) n
  generalize siz (cl a) * siz n = p at *
  have ht : t = if p < 4611686018427387903 then p else 4611686018427387903 := by
    rw [h]; unfold hi64 lo64
    by_cases g : p < 4611686018427387903
    · rw [if_pos g, if_pos (by omega)]; omega
    · rw [if_neg g, if_neg (by omega)]
  split
  · unfold cl; omega
  · unfold cl; omega
set_option maxHeartbeats 1000000 in
set_option maxRecDepth 100000 in
theorem mul_any (a n : Int) (w : World) (h0 : -9223372036854775808 ≤ n) (h1 : n ≤ 9223372036854775807) :
    Calls Tryd.prog 48 #[.int .i64 a, .int .i64 n] w fun e w' => e = .returned (.int .i64 (mul a n)) ∧ w = w' := by
  have ha := cl_bd a
  have b1 := siz_bd (cl a) (by omega) (by omega)
  have b2 := siz_bd n h0 h1
  have b3 := lo64_bd (siz (cl a) * siz n)
  have HF := Lib.hid (mul_fin a n)
  by_cases gz : hi64 (siz (cl a) * siz n) = 0
  · have k1 : ((hi64 (siz (cl a) * siz n) : Int) == 0) = true := by simpa using gz
    have GZ := Lib.hid gz
    clear gz
    by_cases gl : lo64 (siz (cl a) * siz n) < 4611686018427387903 <;> rcases Bool.eq_false_or_eq_true (decide (cl a < 0)) with gs | gs <;> rcases Bool.eq_false_or_eq_true (decide (n < 0)) with gn | gn
    all_goals
      have HS := Lib.hid gs
      have HN := Lib.hid gn
      go_enter Tryd.func48, Tryd.ntmps48
      go_wp2_with (first
        | (go_at_call 51; refine (clamp_any _ _).mono ?_; rintro e w' ⟨rfl, rfl⟩)
        | (go_at_call 74; refine (size_any _ _ (by omega) (by omega)).mono ?_; rintro e w' ⟨rfl, rfl⟩)
        | (go_at_call 73; refine (mul64_any _ _ _ b1.1 b1.2 b2.1 b2.2).mono ?_; rintro e w' ⟨rfl, rfl⟩))
      go_ret
      refine ⟨ret_int ?_, rfl⟩
      rw [HF.out _ rfl, HS.out, HN.out]
      first | (simp [GZ.out, gl]; done) | (simp [GZ.out]; intros; omega)
  · have k1 : ((hi64 (siz (cl a) * siz n) : Int) == 0) = false := by simpa using gz
    have GZ := Lib.hid gz
    clear gz
    rcases Bool.eq_false_or_eq_true (decide (cl a < 0)) with gs | gs <;> rcases Bool.eq_false_or_eq_true (decide (n < 0)) with gn | gn
    all_goals
      have HS := Lib.hid gs
      have HN := Lib.hid gn
      go_enter Tryd.func48, Tryd.ntmps48
      go_wp2_with (first
        | (go_at_call 51; refine (clamp_any _ _).mono ?_; rintro e w' ⟨rfl, rfl⟩)
        | (go_at_call 74; refine (size_any _ _ (by omega) (by omega)).mono ?_; rintro e w' ⟨rfl, rfl⟩)
        | (go_at_call 73; refine (mul64_any _ _ _ b1.1 b1.2 b2.1 b2.2).mono ?_; rintro e w' ⟨rfl, rfl⟩))
      go_ret
      refine ⟨ret_int ?_, rfl⟩
      rw [HF.out _ rfl, HS.out, HN.out]
      simp [GZ.out]
end Go.Proofs.YtemellkcbbhlcaaDoor.Kt
