/- The contracts of a tree's heights, and of a place that is taken. No condition but that memory holds a tree. -/
import Derived.Test.YtfoigflgglpobaaTrd
set_option linter.unusedVariables false
set_option linter.unusedSimpArgs false
namespace Go.Proofs.Ytfoigflgglpobaa.Tr
open Go.RowKit Go.Proofs.Ytfoigflgglpobaa.Aid
attribute [local go_sem] max2_int min2_int max_two min_two
theorem most_len (t : Sh) : t.most ≤ t.ino.length ∧ t.least ≤ t.ino.length := by
  induction t with
  | nil => exact ⟨Nat.le_refl _, Nat.le_refl _⟩
  | node c x k ih =>
    have a := ih false
    have b := ih true
    unfold Sh.most Sh.least
    simp only [Sh.ino, List.length_append, List.length_cons]
    omega
theorem ret_two {a b c d : Int} (h1 : a = c) (h2 : b = d) : Ending.returned (.tuple #[.int .i64 a, .int .i64 b]) = .returned (.tuple #[.int .i64 c, .int .i64 d]) := by rw [h1, h2]
set_option maxHeartbeats 1000000 in
set_option maxRecDepth 100000 in
theorem heights_any (g gl : Nat) (s : TS) (w : World) (h : IsT w g gl s) (t : Sh) : ∀ (u : Nat), Rep s.f t u → (∀ z, z ∈ t.ino → z < s.sz) → t.ino.length ≤ 100000 →
    Calls Try.prog 60 #[.pointer (some ⟨g, 0, none⟩), .int .i64 t.root] w fun e w' => e = .returned (.tuple #[.int .i64 t.least, .int .i64 t.most]) ∧ w = w' := by
  induction t with
  | nil =>
    intro u _ _ _
    simp only [Sh.root, Sh.least, Sh.most]
    go_enter Try.func60, Try.ntmps60
    go_wp2
    go_ret2
    exact ⟨rfl, rfl⟩
  | node c x k ih =>
    intro u ht hz hl
    obtain ⟨h0, h1, h2, h3, h4⟩ := ht
    have hx : x < s.sz := hz x (by simp [Sh.ino])
    have hl2 : (k false).ino.length + (k true).ino.length ≤ 100000 := by
      simp only [Sh.ino, List.length_append, List.length_cons] at hl; omega
    have HA := Lib.hid (ih false x (h4 false) (fun z hz' => hz z (mem_ino_side false hz')) (by omega))
    have HB := Lib.hid (ih true x (h4 true) (fun z hz' => hz z (mem_ino_side true hz')) (by omega))
    have ma := most_len (k false)
    have mb := most_len (k true)
    have cl : w.cell? ⟨gl, x * 8 + 2, none⟩ = some (.int .i64 (k false).root) := by rw [← h3 false]; exact h.l hx
    have cr : w.cell? ⟨gl, x * 8 + 3, none⟩ = some (.int .i64 (k true).root) := by rw [← h3 true]; exact h.r hx
    have q0 := h.hc.1
    have hs := h.sz
    have c0 : ¬ ((x : Nat) : Int) = 0 := by omega
    have hroot : (Sh.node c x k).root = x := rfl
    obtain ⟨L, hL⟩ : ∃ L, (Sh.node c x k).least = L := ⟨_, rfl⟩
    obtain ⟨M, hM⟩ : ∃ M, (Sh.node c x k).most = M := ⟨_, rfl⟩
    have e1 : L = min (k false).least (k true).least + 1 := by rw [← hL]; rfl
    have e2 : M = max (k false).most (k true).most + 1 := by rw [← hM]; rfl
    rw [hroot, hL, hM]
    have HE := Lib.hid (And.intro e1 e2)
    clear ih h0 h1 h2 h3 h4 hz hl hroot e1 e2 h hL hM
    have b1 : (k false).most ≤ 100000 := by omega
    have b2 : (k true).most ≤ 100000 := by omega
    have b3 : (k false).least ≤ 100000 := by omega
    have b4 : (k true).least ≤ 100000 := by omega
    clear ma mb hl2
    generalize (k false).root = lr at HA cl
    generalize (k true).root = rr at HB cr
    generalize (k false).most = a1 at *
    generalize (k true).most = a2 at *
    generalize (k false).least = a3 at *
    generalize (k true).least = a4 at *
    go_enter Try.func60, Try.ntmps60
    go_wp2_with fail
    refine HA.out.mono ?_
    rintro e w1 ⟨rfl, rfl⟩
    go_wp2_with fail
    refine HB.out.mono ?_
    rintro e w1 ⟨rfl, rfl⟩
    go_wp2_with fail
    all_goals
      go_ret2
      exact ⟨ret_two (by have := HE.out; omega) (by have := HE.out; omega), rfl⟩
set_option maxHeartbeats 1000000 in
theorem Heights_any (g gl : Nat) (s : TS) (T : Sh) (w : World) (h : Rd w g gl s T) (hl : T.ino.length ≤ 100000) :
    Calls Try.prog 21 #[.pointer (some ⟨g, 0, none⟩)] w fun e w' => e = .returned (.tuple #[.int .i64 T.least, .int .i64 T.most]) ∧ w = w' := by
  have H := Lib.hid (heights_any g gl s w h.m T 0 h.rep h.lt hl)
  have q1 := h.m.hc.2.1
  rw [h.root] at q1
  clear h hl
  generalize T.root = R at q1 H
  generalize T.least = a at H ⊢
  generalize T.most = b at H ⊢
  go_enter Try.func21, Try.ntmps21
  go_wp2_with fail
  refine H.out.mono ?_
  rintro e w1 ⟨rfl, rfl⟩
  go_wp2_with fail
  go_ret2
  exact ⟨rfl, rfl⟩
theorem IsT.setFree {w : World} {g gl : Nat} {s : TS} (h : IsT w g gl s) (v : Nat) : IsT (w.setCell ⟨g, 3, none⟩ (.int .i64 v)) g gl { s with free := v } := ⟨by simpa using h.b.set_ 3 (.int .i64 v), h.n.same (Below.heap_setCell w _ _ gl h.ne.symm), h.ne, h.sz, h.room.same (Below.heap_setCell w _ _ gl h.ne.symm)⟩
theorem IsT.setN {w : World} {g gl : Nat} {s : TS} (h : IsT w g gl s) (v : Nat) : IsT (w.setCell ⟨g, 2, none⟩ (.int .i64 v)) g gl { s with n := v } := ⟨by simpa using h.b.set_ 2 (.int .i64 v), h.n.same (Below.heap_setCell w _ _ gl h.ne.symm), h.ne, h.sz, h.room.same (Below.heap_setCell w _ _ gl h.ne.symm)⟩
set_option maxHeartbeats 1000000 in
theorem place_free (g gl : Nat) (s : TS) (w : World) (h : IsT w g gl s) (x : Nat) (hf : s.free = x) (h0 : x ≠ 0) (hx : x < s.sz) :
    Calls Try.prog 51 #[.pointer (some ⟨g, 0, none⟩)] w fun e w' => e = .returned (.int .i64 x) ∧ IsT w' g gl { s with free := (s.f x).l } ∧ Only (TF g gl) w w' := by
  obtain ⟨q0, _, _, q3, _⟩ := h.hc
  rw [hf] at q3
  have hs := h.sz
  have cl := h.l hx
  have f0 := h.b.frozen
  have c0 : ¬ ((x : Nat) : Int) = 0 := by omega
  have F := Lib.hid (h.setFree (s.f x).l)
  have O := Lib.hid ((Only.refl (TF g gl) w).setCell (p := ⟨g, 3, none⟩) (.inl (.inl rfl)) (.int .i64 (s.f x).l))
  clear h hf h0
  generalize (s.f x).l = l at cl F O ⊢
  go_enter Try.func51, Try.ntmps51
  go_wp2
  go_ret
  exact ⟨rfl, F.out, O.out⟩
set_option maxHeartbeats 1000000 in
theorem place_full (g gl : Nat) (s : TS) (w : World) (h : IsT w g gl s) (hf : s.free = 0) (hm : s.most < s.sz) :
    Calls Try.prog 51 #[.pointer (some ⟨g, 0, none⟩)] w fun e w' => e = .returned (.int .i64 0) ∧ IsT w' g gl s ∧ Only (TF g gl) w w' := by
  obtain ⟨q0, _, _, q3, q4⟩ := h.hc
  rw [hf] at q3
  have hs := h.sz
  have H := Lib.hid h
  have d : decide (((s.sz : Nat) : Int) > ((s.most : Nat) : Int)) = true := decide_eq_true (by omega)
  clear h hf
  go_enter Try.func51, Try.ntmps51
  go_wp2
  go_quiet (fail)
  go_wp2
  go_ret
  exact ⟨rfl, H.out.drewN _, (Only.refl _ _).drewN _⟩
set_option maxHeartbeats 1000000 in
theorem New_none (p : Int) (w : World) (hp : p < 1 ∨ 4096 < p) :
    Calls Try.prog 12 #[.int .i64 p] w fun e w' => e = .returned (.pointer none) ∧ w = w' := by
  go_enter Try.func12, Try.ntmps12
  rcases hp with hp | hp
  all_goals
    go_wp2
    all_goals first
      | (go_ret; exact ⟨rfl, rfl⟩)
      | (exfalso; simp_all; omega)
end Go.Proofs.Ytfoigflgglpobaa.Tr
