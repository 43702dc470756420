/- The contracts of what asks a tree of a handle. No condition but that memory holds one. -/
import Derived.Test.YtfoigflgglpobaaTrd
set_option linter.unusedVariables false
set_option linter.unusedSimpArgs false
namespace Go.Proofs.Ytfoigflgglpobaa.Tr
open Go.RowKit Go.Proofs.Ytfoigflgglpobaa.Aid
/-- is a handle a node's? -/
def isH (s : TS) (p t : Int) : Bool := decide (0 < p) && decide (p < s.sz) && (s.f p.toNat).tak && decide ((s.f p.toNat).turn = t)
set_option maxHeartbeats 1000000 in
set_option maxRecDepth 100000 in
theorem is_out (g gl : Nat) (s : TS) (w : World) (h : IsT w g gl s) (p t : Int) (hp : p ≤ 0 ∨ (s.sz : Int) ≤ p) :
    Calls Try.prog 57 #[.pointer (some ⟨g, 0, none⟩), .agg #[.int .i64 p, .int .i64 t]] w fun e w' => e = .returned (.bool false) ∧ Below w.heap.size w w' := by
  have h2 := Blk.new w 29 (two_ p t)
  have B : Below w.heap.size w (w.alloc (.cells (two_ p t) 29)) := (Below.refl w.heap.size w).alloc (Nat.le_refl _) _
  have HA := Lib.hid (h.alloc (.cells (two_ p t) 29))
  have hs := h.sz
  clear h
  rcases hp with hp | hp
  · have d1 : decide (p > 0) = false := decide_eq_false (by omega)
    go_enter Try.func57, Try.ntmps57
    go_upto_region 1 with fail
    change Blk (w.alloc (.cells #[.int .i64 p, .int .i64 t] 29)) _ _ _ at h2
    change Below _ _ (w.alloc (.cells #[.int .i64 p, .int .i64 t] 29)) at B
    change Hid (IsT (w.alloc (.cells #[.int .i64 p, .int .i64 t] 29)) _ _ _) at HA
    generalize w.alloc (.cells #[.int .i64 p, .int .i64 t] 29) = W at h2 B HA ⊢
    obtain ⟨r0, r1⟩ := two_cells h2
    have q0 := HA.out.hc.1
    go_quiet (fail)
    go_wp2
    go_ret
    exact ⟨rfl, below_drewN B _⟩
  · have d1 : decide (p > 0) = true := decide_eq_true (by omega)
    have d2 : decide (p < (s.sz : Int)) = false := decide_eq_false (by omega)
    go_enter Try.func57, Try.ntmps57
    go_upto_region 1 with fail
    change Blk (w.alloc (.cells #[.int .i64 p, .int .i64 t] 29)) _ _ _ at h2
    change Below _ _ (w.alloc (.cells #[.int .i64 p, .int .i64 t] 29)) at B
    change Hid (IsT (w.alloc (.cells #[.int .i64 p, .int .i64 t] 29)) _ _ _) at HA
    generalize w.alloc (.cells #[.int .i64 p, .int .i64 t] 29) = W at h2 B HA ⊢
    obtain ⟨r0, r1⟩ := two_cells h2
    have q0 := HA.out.hc.1
    go_quiet (fail)
    go_wp2
    go_ret
    exact ⟨rfl, below_drewN B _⟩
set_option maxHeartbeats 1000000 in
set_option maxRecDepth 100000 in
theorem is_in (g gl : Nat) (s : TS) (w : World) (h : IsT w g gl s) (p t : Int) (hp0 : 0 < p) (hp1 : p < s.sz) :
    Calls Try.prog 57 #[.pointer (some ⟨g, 0, none⟩), .agg #[.int .i64 p, .int .i64 t]] w fun e w' => e = .returned (.bool ((s.f p.toNat).tak && decide ((s.f p.toNat).turn = t))) ∧ Below w.heap.size w w' := by
  have h2 := Blk.new w 29 (two_ p t)
  have B : Below w.heap.size w (w.alloc (.cells (two_ p t) 29)) := (Below.refl w.heap.size w).alloc (Nat.le_refl _) _
  have HA := Lib.hid (h.alloc (.cells (two_ p t) 29))
  have hs := h.sz
  have hx : p.toNat < s.sz := by omega
  have d1 : decide (p > 0) = true := decide_eq_true (by omega)
  have d2 : decide (p < (s.sz : Int)) = true := decide_eq_true (by omega)
  obtain ⟨k, hk⟩ : ∃ k, (s.f p.toNat).tak = k := ⟨_, rfl⟩
  obtain ⟨tn, htn⟩ : ∃ tn, (s.f p.toNat).turn = tn := ⟨_, rfl⟩
  rw [hk, htn]
  have HK := Lib.hid hk
  have HT := Lib.hid htn
  clear h hk htn
  cases k with
  | false =>
    go_enter Try.func57, Try.ntmps57
    go_upto_region 1 with fail
    change Blk (w.alloc (.cells #[.int .i64 p, .int .i64 t] 29)) _ _ _ at h2
    change Below _ _ (w.alloc (.cells #[.int .i64 p, .int .i64 t] 29)) at B
    change Hid (IsT (w.alloc (.cells #[.int .i64 p, .int .i64 t] 29)) _ _ _) at HA
    generalize w.alloc (.cells #[.int .i64 p, .int .i64 t] 29) = W at h2 B HA ⊢
    obtain ⟨r0, r1⟩ := two_cells h2
    have q0 := HA.out.hc.1
    have ck := HA.out.k hx
    rw [HK.out] at ck
    go_quiet (fail)
    go_wp2
    go_ret
    exact ⟨rfl, below_drewN B _⟩
  | true =>
    go_enter Try.func57, Try.ntmps57
    go_upto_region 1 with fail
    change Blk (w.alloc (.cells #[.int .i64 p, .int .i64 t] 29)) _ _ _ at h2
    change Below _ _ (w.alloc (.cells #[.int .i64 p, .int .i64 t] 29)) at B
    change Hid (IsT (w.alloc (.cells #[.int .i64 p, .int .i64 t] 29)) _ _ _) at HA
    generalize w.alloc (.cells #[.int .i64 p, .int .i64 t] 29) = W at h2 B HA ⊢
    obtain ⟨r0, r1⟩ := two_cells h2
    have q0 := HA.out.hc.1
    have ck := HA.out.k hx
    rw [HK.out] at ck
    have ct := HA.out.t hx
    rw [HT.out] at ct
    go_quiet (fail)
    go_wp2
    go_ret
    refine ⟨?_, below_drewN B _⟩
    by_cases e : tn = t <;> simp [e]
theorem is_any (g gl : Nat) (s : TS) (w : World) (h : IsT w g gl s) (p t : Int) :
    Calls Try.prog 57 #[.pointer (some ⟨g, 0, none⟩), .agg #[.int .i64 p, .int .i64 t]] w fun e w' => e = .returned (.bool (isH s p t)) ∧ Below w.heap.size w w' := by
  by_cases hp : p ≤ 0 ∨ (s.sz : Int) ≤ p
  · have e : isH s p t = false := by
      unfold isH
      rcases hp with hp | hp
      · rw [decide_eq_false (by omega)]; simp
      · rw [decide_eq_false (p := p < (s.sz : Int)) (by omega)]; simp
    rw [e]
    exact is_out g gl s w h p t hp
  · have e : isH s p t = ((s.f p.toNat).tak && decide ((s.f p.toNat).turn = t)) := by
      unfold isH
      rw [decide_eq_true (p := (0 : Int) < p) (by omega), decide_eq_true (p := p < (s.sz : Int)) (by omega)]
      simp
    rw [e]
    exact is_in g gl s w h p t (by omega) (by omega)
end Go.Proofs.Ytfoigflgglpobaa.Tr
