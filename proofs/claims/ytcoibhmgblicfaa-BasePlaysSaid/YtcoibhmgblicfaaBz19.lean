/- Lemmas and contracts for RowBasePlays, merged by program out of Lfa, Bt. No condition. -/
import Derived.Test.YtcoibhmgblicfaaBz16
import Derived.Test.YtcoibhmgblicfaaBz18
set_option linter.unusedVariables false
set_option linter.unusedSimpArgs false
/- An array of plain leaves that came in by value. No condition. -/
set_option linter.unusedVariables false
namespace Go.Proofs.Ytcoibhmgblicfaa.Leaf
open Go.RowKit Go.ChangeShapes Go.WideShapes Go.Deep
theorem okWide_arr {P : Program} {w : World} {r : Reach} {base : Nat} {t e : TypeId} {n : Nat} {v : Value} (ht : P.underlying t = some (.array n e)) (h : Value.okWide P w r base t v) : ∃ cs, v = .agg cs := by
  simp only [Value.okWide, ht] at h
  obtain ⟨cs, h1, _⟩ := h
  exact ⟨cs, h1⟩
theorem open_arr {H : Type} {enc : TypeId × Value → H} {P : Program} {w : World} {base b0 : Nat} {spare : Nat → Bool} {held : Bool} {r : Reach} {t e : TypeId} {n : Nat} {v : Value} {d : DataW H} {p : List MemPlace} {ls : List Lf} (k : Nat)
    (hs : P.underlying t = some (.array n e)) (hl : leaves P k t = some ls) (hv : Value.okWide P w r b0 t v) (h : DataW.Trod enc P w base spare held t v d p) : ∃ cs, v = .agg cs ∧ Fits ls cs.toList := by
  obtain ⟨cs, rfl⟩ := okWide_arr hs hv
  obtain ⟨fuel, h⟩ := h
  exact ⟨cs, rfl, leaves_fit k hl h⟩
theorem len_in' {w : World} {A : Option Addr} {n : Nat} {ls : List Leaf.Lf} (h : Leaf.Row w ls A n) : n ≤ maxLen := by
  rcases h with rfl | ⟨_, _, _, _, h, _⟩
  · exact Nat.zero_le _
  · exact h
end Go.Proofs.Ytcoibhmgblicfaa.Leaf
/- BasePlays over what comes in. No condition. -/
set_option linter.unusedVariables false
namespace Go.Proofs.Ytcoibhmgblicfaa.Ba
open Go.RowKit Go.Proofs.Ytcoibhmgblicfaa.Aid Go.Proofs.Ytcoibhmgblicfaa.Tr Go.Proofs.Ytcoibhmgblicfaa.Kt Go.Proofs.Ytcoibhmgblicfaa.Q
theorem basePlays_walk (A : Option Addr) (N cap : Nat) (off : Nat → Int) (w : World) (hr : Leaf.Row w [.int .u8, .int .i64, .int .i64, .int .i64, .int .i64, .bool, .int .i64, .int .i64, .int .i64] A N) :
    Calls Try.prog 3 #[.slice A N cap, .agg (three off)] w fun e w' => e = .returned (.bool true) ∧ Below w.heap.size w w' := by
  by_cases h : 60 < N
  · exact basePlays_big A N cap off h (Leaf.len_in' hr) w
  · exact basePlays_any A N cap off (by omega) w (actsB_of hr)
theorem basePlays_row (A : Option Addr) (N cap : Nat) {w : World} (hr : Leaf.Row w [.int .u8, .int .i64, .int .i64, .int .i64, .int .i64, .bool, .int .i64, .int .i64, .int .i64] A N) (cs : Array Value) (hf : Leaf.Fits [.int .i64, .int .i64, .int .i64] cs.toList) :
    Calls Try.prog 3 #[.slice A N cap, .agg cs] w fun e w' => e = .returned (.bool true) ∧ Below w.heap.size w w' := by
  obtain ⟨k0, r0, e0, _, f0⟩ := hf.int
  obtain ⟨k1, r1, rfl, _, f1⟩ := f0.int
  obtain ⟨k2, r2, rfl, _, f2⟩ := f1.int
  obtain rfl := f2.done
  have hc : cs = three (fun i => if i = 0 then k0 else if i = 1 then k1 else k2) := by
    cases cs with
    | mk l => simp only at e0; subst e0; rfl
  rw [hc]
  exact basePlays_walk A N cap _ w hr
end Go.Proofs.Ytcoibhmgblicfaa.Ba
