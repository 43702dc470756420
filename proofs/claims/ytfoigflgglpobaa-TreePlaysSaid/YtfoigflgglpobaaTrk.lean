/- The contract of a new tree. No condition. -/
import Derived.Test.YtfoigflgglpobaaTri
import Derived.Laws.MakeOwn
set_option linter.unusedVariables false
set_option linter.unusedSimpArgs false
namespace Go.Proofs.Ytfoigflgglpobaa.Tr
open Go.RowKit Go.Proofs.Ytfoigflgglpobaa.Aid
def zeroN : Nd := ⟨0, 0, 0, 0, 0, false, false, 0⟩
theorem infoNd : (Try.prog.info? 104).map (fun i => (i.zero.map (·.cells), i.size, i.bytes)) = some (some zeroN.cells, 8, 56) := by kernel_rfl
def newS (p : Int) : TS := ⟨fun _ => zeroN, 1, p.toNat + 1, 0, 0, 0, p.toNat⟩
theorem made_cell (c : Nat) (k : Nat) (hk : k < c) : (madeCells zeroN.cells c)[k]? = zeroN.cells[k % 8]? := by
  unfold madeCells
  have hs : zeroN.cells.size = 8 := rfl
  have h8 : k % 8 < zeroN.cells.size := by rw [hs]; exact Nat.mod_lt _ (by omega)
  rw [Array.getElem?_map, Array.getElem?_range, if_pos hk]
  simp only [Option.map_some]
  rw [hs]
  rw [getElem!_pos zeroN.cells (k % 8) h8, Array.getElem?_eq_getElem h8]
set_option maxHeartbeats 1000000 in
set_option maxRecDepth 100000 in
theorem New_some (p : Int) (w : World) (hp : 1 ≤ p ∧ p ≤ 4096) :
    Calls Try.prog 12 #[.int .i64 p] w fun e w' => ∃ g gl, e = .returned (.pointer (some ⟨g, 0, none⟩)) ∧ IsT w' g gl (newS p) ∧ w.heap.size ≤ g ∧ w.heap.size ≤ gl ∧ Below w.heap.size w w' := by
  obtain ⟨i, hi, hz⟩ : ∃ i, Try.prog.info? 104 = some i ∧ (i.zero.map (·.cells), i.size, i.bytes) = (some zeroN.cells, 8, 56) := by
    have h := infoNd
    cases e : Try.prog.info? 104 with
    | none => rw [e] at h; cases h
    | some i => rw [e] at h; exact ⟨i, rfl, by simpa using h⟩
  obtain ⟨z, hz0, hzc⟩ : ∃ z, i.zero = some z ∧ z.cells = zeroN.cells := by
    cases e : i.zero with
    | none => rw [e] at hz; simp at hz
    | some z => rw [e] at hz; simp only [Option.map_some, Prod.mk.injEq, Option.some.injEq] at hz; exact ⟨z, rfl, hz.1⟩
  have h8 : i.size = 8 := by simp only [Prod.mk.injEq] at hz; exact hz.2.1
  have h56 : i.bytes = 56 := by simp only [Prod.mk.injEq] at hz; exact hz.2.2
  have hmk : ∀ W : World, (Instr.makeSlice 100 (.int .i64 1) (.int .i64 (p + 1))).run Try.prog W = .ok (.slice (some ⟨W.heap.size, 0, none⟩) 1 (p + 1).toNat) (W.alloc (.cells (madeCells zeroN.cells ((p + 1).toNat * 8)) 104)) := fun W => by
    have := run_make (P := Try.prog) W 100 104 i z Try.underlying100 hi hz0 .i64 .i64 1 (p + 1) (by omega) (by omega) (by rw [h56]; omega) (by omega)
    rw [hzc, h8] at this
    exact this
  have hsz : (madeCells zeroN.cells ((p + 1).toNat * 8)).size = (p + 1).toNat * 8 := size_madeCells _ _
  have hcc := Lib.hid (made_cell ((p + 1).toNat * 8))
  have hsz' := Lib.hid hsz
  have hpp := Lib.hid hp
  clear hz hz0 hzc h8 h56 hi hsz i z
  generalize madeCells zeroN.cells ((p + 1).toNat * 8) = cs at hmk hcc hsz'
  have d1 : decide (p < 1) = false := decide_eq_false (by omega)
  have d2 : decide (p > 4096) = false := decide_eq_false (by omega)
  go_enter Try.func12, Try.ntmps12
  go_upto_region 3 with fail
  have hw : IntKind.i64.wrap (p + 1) = p + 1 := by rw [IntKind.wrap_i64]; omega
  go_wp2_with fail
  go_ret
  have hp := hpp.out
  have e1 : (p + 1).toNat = p.toNat + 1 := by omega
  have e2 : ((p.toNat : Nat) : Int) = p := by omega
  have s1 : (w.alloc (.cells cs 104)).heap.size = w.heap.size + 1 := by simp
  have hb := Blk.new (w.alloc (.cells cs 104)) 102 #[.slice (some ⟨w.heap.size, 0, none⟩) 1 (p + 1).toNat, .int .i64 0, .int .i64 0, .int .i64 0, .int .i64 p]
  rw [s1] at hb
  have hn := (Blk.new w 104 cs).alloc (.cells #[.slice (some ⟨w.heap.size, 0, none⟩) 1 (p + 1).toNat, .int .i64 0, .int .i64 0, .int .i64 0, .int .i64 p] 102)
  refine ⟨w.heap.size + 1, w.heap.size, rfl, ⟨?_, ⟨cs, hn, ?_, ?_⟩, by omega, ?_, ⟨cs, hn, ?_⟩⟩, by omega, by omega, ((Below.refl w.heap.size w).alloc (Nat.le_refl _) _).alloc (by rw [s1]; omega) _⟩
  · unfold newS
    dsimp only
    rw [e2, ← e1]
    exact hb
  · have := hsz'.out; unfold newS; dsimp only; omega
  · intro x hx k hk
    have hx0 : x = 0 := by unfold newS at hx; dsimp only at hx; omega
    subst hx0
    have := hcc.out (0 * 8 + k) (by omega)
    rw [this]
    have e3 : (0 * 8 + k) % 8 = k := by omega
    rw [e3]; rfl
  · unfold newS; dsimp only; omega
  · have := hsz'.out; unfold newS; dsimp only; omega
end Go.Proofs.Ytfoigflgglpobaa.Tr
