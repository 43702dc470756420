/- Two arrays of three ints are held against each other. No condition. -/
import Derived.Test.YtdplpehphjgffaaAid
import Derived.Test.YtdplpehphjgffaaProg
import Derived.ChangeKeysEq
import Derived.Laws.StructEq
set_option linter.unusedVariables false
set_option linter.unusedSimpArgs false
namespace Go.Proofs.Ytdplpehphjgffaa.Arr3
open Go.RowKit Go.Proofs.Ytdplpehphjgffaa.Aid
theorem infoInt : (Try.prog.info? 3).map (fun i => (i.zero, i.size, i.bytes)) = some (some (.int .i64 0), 1, 8) := by kernel_rfl
theorem cellsInt : Try.prog.cellsOf 3 = 1 := by kernel_rfl
theorem eq3 (a b c x y z : Int) (W : World) : (Op.equalIn 10000 68 (.agg #[.int .i64 a, .int .i64 b, .int .i64 c]) (.agg #[.int .i64 x, .int .i64 y, .int .i64 z])).run Try.prog W = .ok (a == x && (b == y && c == z)) W := by
  obtain ⟨i0, hi, _, _, _⟩ := info_parts infoInt
  rw [run_equalIn_array W 9999 _ _ Try.underlying68 hi, cellsInt]
  have hu := Try.underlying3
  rw [show List.range 3 = [0, 1, 2] from rfl]
  cases h1 : (a == x) <;> cases h2 : (b == y) <;> cases h3 : (c == z) <;> simp [Op.eqItems, part, go_sem, sizeOf, typeInfo, hi, hu, h1, h2, h3]
theorem neq3 (a b c x y z : Int) (W : World) : (binOp .neq 68 (.agg #[.int .i64 a, .int .i64 b, .int .i64 c]) (.agg #[.int .i64 x, .int .i64 y, .int .i64 z])).run Try.prog W = .ok (.bool (!(a == x && (b == y && c == z)))) W := by
  rw [run_neq_struct, eq3]
  rfl
theorem neq3_same (a b c : Int) (W : World) : (binOp .neq 68 (.agg #[.int .i64 a, .int .i64 b, .int .i64 c]) (.agg #[.int .i64 a, .int .i64 b, .int .i64 c])).run Try.prog W = .ok (.bool false) W := by
  rw [neq3]; simp
theorem neq3_other (a b c x y z : Int) (h : ¬ (a = x ∧ b = y ∧ c = z)) (W : World) : (binOp .neq 68 (.agg #[.int .i64 a, .int .i64 b, .int .i64 c]) (.agg #[.int .i64 x, .int .i64 y, .int .i64 z])).run Try.prog W = .ok (.bool true) W := by
  rw [neq3]
  congr 2
  by_cases h1 : a = x
  · by_cases h2 : b = y
    · by_cases h3 : c = z
      · exact absurd ⟨h1, h2, h3⟩ h
      · simp [h3]
    · simp [h2]
  · simp [h1]
end Go.Proofs.Ytdplpehphjgffaa.Arr3
