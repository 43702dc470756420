/- The contracts of what orders a tree's keys. No condition. -/
import Derived.Test.YtfoigflgglpobaaAid
import Derived.Test.YtfoigflgglpobaaProg
import Derived.StillTailTactics
set_option linter.unusedVariables false
set_option linter.unusedSimpArgs false
namespace Go.Proofs.Ytfoigflgglpobaa.Tr
open Go.RowKit Go.Proofs.Ytfoigflgglpobaa.Aid
def cmpI (x y : Int) : Int := if x < y then -1 else if y < x then 1 else 0
theorem cmpI_bd (x y : Int) : -1 ≤ cmpI x y ∧ cmpI x y ≤ 1 := by unfold cmpI; omega
def orI (a b : Int) : Int := if a = 0 then b else a
def ordK (t1 s1 t2 s2 : Int) : Int := orI (cmpI t1 t2) (cmpI s1 s2)
theorem ordK_ge {t1 s1 t2 s2 : Int} : 0 ≤ ordK t1 s1 t2 s2 ↔ (t2 < t1 ∨ t2 = t1 ∧ s2 ≤ s1) := by unfold ordK orI cmpI; omega
theorem ordK_bd (t1 s1 t2 s2 : Int) : -1 ≤ ordK t1 s1 t2 s2 ∧ ordK t1 s1 t2 s2 ≤ 1 := by unfold ordK orI cmpI; omega
set_option maxHeartbeats 1000000 in
theorem isNaN_any (x : Int) (w : World) : Calls Try.prog 77 #[.int .i64 x] w fun e w' => e = .returned (.bool false) ∧ w = w' := by
  go_enter Try.func77, Try.ntmps77
  go_wp2
  go_ret
  exact ⟨ret_bool (by simp), rfl⟩
set_option maxHeartbeats 1000000 in
theorem Compare_any (x y : Int) (w : World) : Calls Try.prog 71 #[.int .i64 x, .int .i64 y] w fun e w' => e = .returned (.int .i64 (cmpI x y)) ∧ w = w' := by
  go_enter Try.func71, Try.ntmps71
  go_wp2_with (go_at_call 77; refine (isNaN_any _ _).mono ?_; rintro e w1 ⟨rfl, rfl⟩)
  all_goals
    go_ret
    exact ⟨ret_int (by unfold cmpI; omega), rfl⟩
set_option maxHeartbeats 1000000 in
theorem Or_any (b : Nat) (cap : Nat) (x y : Int) (w : World) (h0 : w.cell? ⟨b, 0, none⟩ = some (.int .i64 x)) (h1 : w.cell? ⟨b, 1, none⟩ = some (.int .i64 y)) :
    Calls Try.prog 70 #[.slice (some ⟨b, 0, none⟩) 2 cap] w fun e w' => e = .returned (.int .i64 (orI x y)) ∧ w = w' := by
  go_enter Try.func70, Try.ntmps70
  go_wp2
  go_loop [5, 8] (fun v i => ∃ k : Nat, k ≤ 2 ∧ i = .int .i64 k ∧ (0 < k → x = 0) ∧ (1 < k → y = 0)) (fun _ i => 2 - (intOf i).toNat)
  case atStart => exact ⟨0, by omega, rfl, by omega, by omega⟩
  case round =>
    obtain ⟨k, hk, rfl, hx, hy⟩ := hrel
    by_cases k0 : k = 0
    · subst k0
      clear hx hy
      by_cases e : x = 0
      · have e' := Lib.hid e
        subst e
        go_wp2
        all_goals
          go_round
          case rel => exact ⟨1, by omega, by go_num, by simp, by simp⟩
          case measure => simp [intOf]
      · go_wp2
        go_ret
        exact ⟨ret_int (by unfold orI; omega), rfl⟩
    · have hx0 := hx (by omega)
      subst hx0
      by_cases k1 : k = 1
      · subst k1
        clear hx hy
        by_cases e : y = 0
        · subst e
          go_wp2
          all_goals
            go_round
            case rel => exact ⟨2, by omega, by go_num, by simp, by simp⟩
            case measure => simp [intOf]
        · go_wp2
          go_ret
          exact ⟨ret_int (by unfold orI; omega), rfl⟩
      · have hk2 : k = 2 := by omega
        subst hk2
        have hy0 := hy (by omega)
        subst hy0
        clear hx hy
        go_wp2
        go_ret
        exact ⟨ret_int (by unfold orI; omega), rfl⟩
theorem Or_new (W : World) (x y : Int) : Calls Try.prog 70 #[.slice (some ⟨W.heap.size, 0, none⟩) 2 2] ((W.alloc (.cells #[.int .i64 x, .int .i64 y] 3)).drew) fun e w' => e = .returned (.int .i64 (orI x y)) ∧ (W.alloc (.cells #[.int .i64 x, .int .i64 y] 3)).drew = w' := by
  have h : Blk (W.alloc (.cells #[.int .i64 x, .int .i64 y] 3)).drew W.heap.size 3 #[.int .i64 x, .int .i64 y] := (Blk.new W _ _).drew
  have h0 := h.cell 0
  have h1 := h.cell 1
  simp only [List.getElem?_toArray, List.getElem?_cons_zero, List.getElem?_cons_succ] at h0 h1
  exact Or_any _ _ _ _ _ h0 h1
theorem Or_new' (W : World) (x y : Int) : Calls Try.prog 70 #[.slice (some ⟨W.heap.size, 0, none⟩) 2 2] (W.alloc (.cells #[.int .i64 x, .int .i64 y] 3)) fun e w' => e = .returned (.int .i64 (orI x y)) ∧ (W.alloc (.cells #[.int .i64 x, .int .i64 y] 3)) = w' := by
  have h : Blk (W.alloc (.cells #[.int .i64 x, .int .i64 y] 3)) W.heap.size 3 #[.int .i64 x, .int .i64 y] := (Blk.new W _ _)
  have h0 := h.cell 0
  have h1 := h.cell 1
  simp only [List.getElem?_toArray, List.getElem?_cons_zero, List.getElem?_cons_succ] at h0 h1
  exact Or_any _ _ _ _ _ h0 h1
set_option maxRecDepth 100000 in
set_option maxHeartbeats 400000 in
theorem order_any (t1 s1 t2 s2 : Int) (w : World) :
    Calls Try.prog 53 #[.agg #[.int .i64 t1, .int .i64 s1], .agg #[.int .i64 t2, .int .i64 s2]] w fun e w' => e = .returned (.int .i64 (ordK t1 s1 t2 s2)) ∧ Below w.heap.size w w' := by
  go_enter Try.func53, Try.ntmps53
  go_upto_region 1 with fail
  have e1 : (w.alloc (.cells #[.int .i64 t1, .int .i64 s1] 27)).heap.size = w.heap.size + 1 := by simp
  have h1 := (Blk.new w 27 #[.int .i64 t1, .int .i64 s1]).alloc (.cells #[.int .i64 t2, .int .i64 s2] 27)
  have h2 := Blk.new (w.alloc (.cells #[.int .i64 t1, .int .i64 s1] 27)) 27 #[.int .i64 t2, .int .i64 s2]
  rw [e1] at h2
  have B : Below w.heap.size w ((w.alloc (.cells #[.int .i64 t1, .int .i64 s1] 27)).alloc (.cells #[.int .i64 t2, .int .i64 s2] 27)) := ((Below.refl w.heap.size w).alloc (Nat.le_refl _) _).alloc (by simp) _
  have R0 : w.heap.size ≤ w.heap.size + 1 := by omega
  generalize w.heap.size + 1 = g2 at h2 R0 ⊢
  generalize (w.alloc (.cells #[.int .i64 t1, .int .i64 s1] 27)).alloc (.cells #[.int .i64 t2, .int .i64 s2] 27) = W at h1 h2 B ⊢
  have c0 := h1.cell 0
  have c1 := h1.cell 1
  have c2 := h2.cell 0
  have c3 := h2.cell 1
  simp only [List.getElem?_toArray, List.getElem?_cons_zero, List.getElem?_cons_succ] at c0 c1 c2 c3
  have l1 := h1.lt
  have l2 := h2.lt
  have BF : Hid (Below w.heap.size w ((W.alloc (.cells #[.int .i64 (cmpI t1 t2), .int .i64 (cmpI s1 s2)] 3)).drew)) := Lib.hid (below_drewN (B.alloc B.size _) 1)
  clear e1
  refine wp_region_still_tail 10 (by kernel_rfl) (by kernel_rfl) ?_
  change wpStill _ _ W.drew _ _ _
  have c0' : W.drew.cell? ⟨w.heap.size, 0, none⟩ = some (.int .i64 t1) := c0
  have c1' : W.drew.cell? ⟨w.heap.size, 1, none⟩ = some (.int .i64 s1) := c1
  have c2' : W.drew.cell? ⟨g2, 0, none⟩ = some (.int .i64 t2) := c2
  have c3' : W.drew.cell? ⟨g2, 1, none⟩ = some (.int .i64 s2) := c3
  have b1 : Below w.heap.size w W.drew := below_drewN B 1
  clear c0 c1 c2 c3 B h1 h2 l1 l2
  generalize W.drew = W1 at c0' c1' c2' c3' b1 ⊢
  simp only [List.take_succ_cons, List.take_zero, List.drop_succ_cons, List.drop_zero]
  still_step
  still_step
  still_step
  still_step
  still_call ((Compare_any t1 t2 W1).mono fun e w' h => ⟨h.1, h.2.symm⟩)
  still_step
  still_step
  still_step
  still_step
  still_call ((Compare_any s1 s2 W1).mono fun e w' h => ⟨h.1, h.2.symm⟩)
  refine wpStill_nil ?_
  clear c0' c1' c2' c3' b1
  go_wp2_with fail
  refine (Or_new W _ _).mono ?_
  rintro e w1 ⟨rfl, rfl⟩
  go_wp2_with fail
  go_ret
  exact ⟨rfl, BF.out⟩
end Go.Proofs.Ytfoigflgglpobaa.Tr
