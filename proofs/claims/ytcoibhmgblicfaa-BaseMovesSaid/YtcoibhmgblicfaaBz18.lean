/- Lemmas and contracts for RowBaseMoves, merged by program out of Bv. No condition. -/
import Derived.Test.YtcoibhmgblicfaaBz17
set_option linter.unusedVariables false
set_option linter.unusedSimpArgs false
/- BaseMoves over what comes in. No condition. -/
set_option linter.unusedVariables false
namespace Go.Proofs.Ytcoibhmgblicfaa.Ba
open Go.RowKit Go.Proofs.Ytcoibhmgblicfaa.Aid Go.Proofs.Ytcoibhmgblicfaa.Tr Go.Proofs.Ytcoibhmgblicfaa.Kt Go.Proofs.Ytcoibhmgblicfaa.Q
theorem baseMoves_row (A : Option Addr) (N cap : Nat) {w : World} (hr : Leaf.Row w [.int .i64, .int .i64, .int .i64, .int .i64, .bool] A N) (cs : Array Value) (hf : Leaf.Fits [.int .i64, .int .i64, .int .i64] cs.toList) :
    Calls Try.prog 4 #[.slice A N cap, .agg cs] w fun e w' => e = .returned (.bool true) ∧ Below w.heap.size w w' := by
  obtain ⟨k0, r0, e0, _, f0⟩ := hf.int
  obtain ⟨k1, r1, rfl, _, f1⟩ := f0.int
  obtain ⟨k2, r2, rfl, _, f2⟩ := f1.int
  obtain rfl := f2.done
  have hc : cs = three (fun i => if i = 0 then k0 else if i = 1 then k1 else k2) := by
    cases cs with
    | mk l => simp only at e0; subst e0; rfl
  rw [hc]
  by_cases h : 50 < N
  · exact baseMoves_big A N cap _ h (Leaf.len_in' hr) w
  · exact baseMoves_any A N cap _ (by omega) w (tmsB_of hr)
end Go.Proofs.Ytcoibhmgblicfaa.Ba
