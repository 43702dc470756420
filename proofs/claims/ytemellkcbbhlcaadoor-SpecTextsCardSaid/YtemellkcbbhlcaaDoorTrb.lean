/- The contracts of what orders a tree's keys. No condition. -/
import Derived.Test.YtemellkcbbhlcaaDoorAid
import Derived.Test.YtemellkcbbhlcaaDoorProg
import Derived.StillTailTactics
set_option linter.unusedVariables false
set_option linter.unusedSimpArgs false
namespace Go.Proofs.YtemellkcbbhlcaaDoor.Tr
open Go.RowKit Go.Proofs.YtemellkcbbhlcaaDoor.Aid
def cmpI (x y : Int) : Int := if x < y then -1 else if y < x then 1 else 0
theorem cmpI_bd (x y : Int) : -1 ≤ cmpI x y ∧ cmpI x y ≤ 1 := by unfold cmpI; omega
def orI (a b : Int) : Int := if a = 0 then b else a
def ordK (t1 s1 t2 s2 : Int) : Int := orI (cmpI t1 t2) (cmpI s1 s2)
theorem ordK_ge {t1 s1 t2 s2 : Int} : 0 ≤ ordK t1 s1 t2 s2 ↔ (t2 < t1 ∨ t2 = t1 ∧ s2 ≤ s1) := by unfold ordK orI cmpI; omega
theorem ordK_bd (t1 s1 t2 s2 : Int) : -1 ≤ ordK t1 s1 t2 s2 ∧ ordK t1 s1 t2 s2 ≤ 1 := by unfold ordK orI cmpI; omega
set_option maxHeartbeats 1000000 in
theorem isNaN_any (x : Int) (w : World) : Calls Tryd.prog 82 #[.int .i64 x] w fun e w' => e = .returned (.bool false) ∧ w = w' := by
  go_enter Tryd.func82, Tryd.ntmps82
  go_wp2
  go_ret
  exact ⟨ret_bool (by simp), rfl⟩
set_option maxHeartbeats 1000000 in
theorem Compare_any (x y : Int) (w : World) : Calls Tryd.prog 59 #[.int .i64 x, .int .i64 y] w fun e w' => e = .returned (.int .i64 (cmpI x y)) ∧ w = w' := by
  go_enter Tryd.func59, Tryd.ntmps59
  go_wp2_with (go_at_call 82; refine (isNaN_any _ _).mono ?_; rintro e w1 ⟨rfl, rfl⟩)
  all_goals
    go_ret
    exact ⟨ret_int (by unfold cmpI; omega), rfl⟩
set_option maxHeartbeats 1000000 in
theorem Or_any (b : Nat) (cap : Nat) (x y : Int) (w : World) (h0 : w.cell? ⟨b, 0, none⟩ = some (.int .i64 x)) (h1 : w.cell? ⟨b, 1, none⟩ = some (.int .i64 y)) :
    Calls Tryd.prog 58 #[.slice (some ⟨b, 0, none⟩) 2 cap] w fun e w' => e = .returned (.int .i64 (orI x y)) ∧ w = w' := by
  go_enter Tryd.func58, Tryd.ntmps58
  go_wp2
  go_loop [5, 8] (fun v i => ∃ k : Nat, k ≤ 2 ∧ i = .int .i64 k ∧ (0 < k → x = 0) ∧ (1 < k → y = 0)) (fun _ i => 2 - (intOf i).toNat)
  case atStart => exact ⟨0, by omega, rfl, by omega, by omega⟩
  case round =>
    obtain ⟨k, hk, rfl, hx, hy⟩ := hrel
    by_cases k0 : k = 0
    · subst k0
      clear hx hy
      by_cases e : x = 0
      · have e' := Lib.hid e
        subst e
        go_wp2
        all_goals
          go_round
          case rel => exact ⟨1, by omega, by go_num, by simp, by simp⟩
          case measure => simp [intOf]
      · go_wp2
        go_ret
        exact ⟨ret_int (by unfold orI; omega), rfl⟩
    · have hx0 := hx (by omega)
      subst hx0
      by_cases k1 : k = 1
      · subst k1
        clear hx hy
        by_cases e : y = 0
        · subst e
          go_wp2
          all_goals
            go_round
            case rel => exact ⟨2, by omega, by go_num, by simp, by simp⟩
            case measure => simp [intOf]
        · go_wp2
          go_ret
          exact ⟨ret_int (by unfold orI; omega), rfl⟩
      · have hk2 : k = 2 := by omega
        subst hk2
        have hy0 := hy (by omega)
        subst hy0
        clear hx hy
        go_wp2
        go_ret
        exact ⟨ret_int (by unfold orI; omega), rfl⟩
theorem Or_new (W : World) (x y : Int) : Calls Tryd.prog 58 #[.slice (some ⟨W.heap.size, 0, none⟩) 2 2] ((W.alloc (.cells #[.int .i64 x, .int .i64 y] 3)).drew) fun e w' => e = .returned (.int .i64 (orI x y)) ∧ (W.alloc (.cells #[.int .i64 x, .int .i64 y] 3)).drew = w' := by
  have h : Blk (W.alloc (.cells #[.int .i64 x, .int .i64 y] 3)).drew W.heap.size 3 #[.int .i64 x, .int .i64 y] := (Blk.new W _ _).drew
  have h0 := h.cell 0
  have h1 := h.cell 1
  simp only [List.getElem?_toArray, List.getElem?_cons_zero, List.getElem?_cons_succ] at h0 h1
  exact Or_any _ _ _ _ _ h0 h1
theorem Or_new' (W : World) (x y : Int) : Calls Tryd.prog 58 #[.slice (some ⟨W.heap.size, 0, none⟩) 2 2] (W.alloc (.cells #[.int .i64 x, .int .i64 y] 3)) fun e w' => e = .returned (.int .i64 (orI x y)) ∧ (W.alloc (.cells #[.int .i64 x, .int .i64 y] 3)) = w' := by
  have h : Blk (W.alloc (.cells #[.int .i64 x, .int .i64 y] 3)) W.heap.size 3 #[.int .i64 x, .int .i64 y] := (Blk.new W _ _)
  have h0 := h.cell 0
  have h1 := h.cell 1
  simp only [List.getElem?_toArray, List.getElem?_cons_zero, List.getElem?_cons_succ] at h0 h1
  exact Or_any _ _ _ _ _ h0 h1
end Go.Proofs.YtemellkcbbhlcaaDoor.Tr
