/- Lemmas and contracts for RowTtlPlays, merged by program out of Tre, Trf, Trn, Tdc, Tdd. No condition. -/
import Derived.Test.YtfoigflgglpobaaBW0
import Derived.Test.YtfoigflgglpobaaBW2
set_option linter.unusedVariables false
set_option linter.unusedSimpArgs false
/- The contracts of what asks a tree of a handle. No condition but that memory holds one. -/
set_option linter.unusedVariables false
set_option linter.unusedSimpArgs false
namespace Go.Proofs.Ytfoigflgglpobaa.Tr
open Go.RowKit Go.Proofs.Ytfoigflgglpobaa.Aid
/-- is a handle a node's? -/
def isH (s : TS) (p t : Int) : Bool := decide (0 < p) && decide (p < s.sz) && (s.f p.toNat).tak && decide ((s.f p.toNat).turn = t)
set_option maxHeartbeats 1000000 in
set_option maxRecDepth 100000 in
theorem is_out (g gl : Nat) (s : TS) (w : World) (h : IsT w g gl s) (p t : Int) (hp : p ≤ 0 ∨ (s.sz : Int) ≤ p) :
    Calls Try.prog 57 #[.pointer (some ⟨g, 0, none⟩), .agg #[.int .i64 p, .int .i64 t]] w fun e w' => e = .returned (.bool false) ∧ Below w.heap.size w w' := by
  have h2 := Blk.new w 29 (two_ p t)
  have B : Below w.heap.size w (w.alloc (.cells (two_ p t) 29)) := (Below.refl w.heap.size w).alloc (Nat.le_refl _) _
  have HA := Lib.hid (h.alloc (.cells (two_ p t) 29))
  have hs := h.sz
  clear h
  rcases hp with hp | hp
  · have d1 : decide (p > 0) = false := decide_eq_false (by omega)
    go_enter Try.func57, Try.ntmps57
    go_upto_region 1 with fail
    change Blk (w.alloc (.cells #[.int .i64 p, .int .i64 t] 29)) _ _ _ at h2
    change Below _ _ (w.alloc (.cells #[.int .i64 p, .int .i64 t] 29)) at B
    change Hid (IsT (w.alloc (.cells #[.int .i64 p, .int .i64 t] 29)) _ _ _) at HA
    generalize w.alloc (.cells #[.int .i64 p, .int .i64 t] 29) = W at h2 B HA ⊢
    obtain ⟨r0, r1⟩ := two_cells h2
    have q0 := HA.out.hc.1
    go_quiet (fail)
    go_wp2
    go_ret
    exact ⟨rfl, below_drewN B _⟩
  · have d1 : decide (p > 0) = true := decide_eq_true (by omega)
    have d2 : decide (p < (s.sz : Int)) = false := decide_eq_false (by omega)
    go_enter Try.func57, Try.ntmps57
    go_upto_region 1 with fail
    change Blk (w.alloc (.cells #[.int .i64 p, .int .i64 t] 29)) _ _ _ at h2
    change Below _ _ (w.alloc (.cells #[.int .i64 p, .int .i64 t] 29)) at B
    change Hid (IsT (w.alloc (.cells #[.int .i64 p, .int .i64 t] 29)) _ _ _) at HA
    generalize w.alloc (.cells #[.int .i64 p, .int .i64 t] 29) = W at h2 B HA ⊢
    obtain ⟨r0, r1⟩ := two_cells h2
    have q0 := HA.out.hc.1
    go_quiet (fail)
    go_wp2
    go_ret
    exact ⟨rfl, below_drewN B _⟩
set_option maxHeartbeats 1000000 in
set_option maxRecDepth 100000 in
theorem is_in (g gl : Nat) (s : TS) (w : World) (h : IsT w g gl s) (p t : Int) (hp0 : 0 < p) (hp1 : p < s.sz) :
    Calls Try.prog 57 #[.pointer (some ⟨g, 0, none⟩), .agg #[.int .i64 p, .int .i64 t]] w fun e w' => e = .returned (.bool ((s.f p.toNat).tak && decide ((s.f p.toNat).turn = t))) ∧ Below w.heap.size w w' := by
  have h2 := Blk.new w 29 (two_ p t)
  have B : Below w.heap.size w (w.alloc (.cells (two_ p t) 29)) := (Below.refl w.heap.size w).alloc (Nat.le_refl _) _
  have HA := Lib.hid (h.alloc (.cells (two_ p t) 29))
  have hs := h.sz
  have hx : p.toNat < s.sz := by omega
  have d1 : decide (p > 0) = true := decide_eq_true (by omega)
  have d2 : decide (p < (s.sz : Int)) = true := decide_eq_true (by omega)
  obtain ⟨k, hk⟩ : ∃ k, (s.f p.toNat).tak = k := ⟨_, rfl⟩
  obtain ⟨tn, htn⟩ : ∃ tn, (s.f p.toNat).turn = tn := ⟨_, rfl⟩
  rw [hk, htn]
  have HK := Lib.hid hk
  have HT := Lib.hid htn
  clear h hk htn
  cases k with
  | false =>
    go_enter Try.func57, Try.ntmps57
    go_upto_region 1 with fail
    change Blk (w.alloc (.cells #[.int .i64 p, .int .i64 t] 29)) _ _ _ at h2
    change Below _ _ (w.alloc (.cells #[.int .i64 p, .int .i64 t] 29)) at B
    change Hid (IsT (w.alloc (.cells #[.int .i64 p, .int .i64 t] 29)) _ _ _) at HA
    generalize w.alloc (.cells #[.int .i64 p, .int .i64 t] 29) = W at h2 B HA ⊢
    obtain ⟨r0, r1⟩ := two_cells h2
    have q0 := HA.out.hc.1
    have ck := HA.out.k hx
    rw [HK.out] at ck
    go_quiet (fail)
    go_wp2
    go_ret
    exact ⟨rfl, below_drewN B _⟩
  | true =>
    go_enter Try.func57, Try.ntmps57
    go_upto_region 1 with fail
    change Blk (w.alloc (.cells #[.int .i64 p, .int .i64 t] 29)) _ _ _ at h2
    change Below _ _ (w.alloc (.cells #[.int .i64 p, .int .i64 t] 29)) at B
    change Hid (IsT (w.alloc (.cells #[.int .i64 p, .int .i64 t] 29)) _ _ _) at HA
    generalize w.alloc (.cells #[.int .i64 p, .int .i64 t] 29) = W at h2 B HA ⊢
    obtain ⟨r0, r1⟩ := two_cells h2
    have q0 := HA.out.hc.1
    have ck := HA.out.k hx
    rw [HK.out] at ck
    have ct := HA.out.t hx
    rw [HT.out] at ct
    go_quiet (fail)
    go_wp2
    go_ret
    refine ⟨?_, below_drewN B _⟩
    by_cases e : tn = t <;> simp [e]
theorem is_any (g gl : Nat) (s : TS) (w : World) (h : IsT w g gl s) (p t : Int) :
    Calls Try.prog 57 #[.pointer (some ⟨g, 0, none⟩), .agg #[.int .i64 p, .int .i64 t]] w fun e w' => e = .returned (.bool (isH s p t)) ∧ Below w.heap.size w w' := by
  by_cases hp : p ≤ 0 ∨ (s.sz : Int) ≤ p
  · have e : isH s p t = false := by
      unfold isH
      rcases hp with hp | hp
      · rw [decide_eq_false (by omega)]; simp
      · rw [decide_eq_false (p := p < (s.sz : Int)) (by omega)]; simp
    rw [e]
    exact is_out g gl s w h p t hp
  · have e : isH s p t = ((s.f p.toNat).tak && decide ((s.f p.toNat).turn = t)) := by
      unfold isH
      rw [decide_eq_true (p := (0 : Int) < p) (by omega), decide_eq_true (p := p < (s.sz : Int)) (by omega)]
      simp
    rw [e]
    exact is_in g gl s w h p t (by omega) (by omega)
end Go.Proofs.Ytfoigflgglpobaa.Tr
/- The contracts of a node's key, and of the next node. No condition but that memory holds a tree. -/
set_option linter.unusedVariables false
set_option linter.unusedSimpArgs false
namespace Go.Proofs.Ytfoigflgglpobaa.Tr
open Go.RowKit Go.Proofs.Ytfoigflgglpobaa.Aid
theorem isH_at {s : TS} {p t : Int} (h : isH s p t = true) : 0 < p ∧ p < s.sz ∧ (s.f p.toNat).tak = true ∧ (s.f p.toNat).turn = t := by
  unfold isH at h
  simp only [Bool.and_eq_true, decide_eq_true_eq] at h
  exact ⟨h.1.1.1, h.1.1.2, h.1.2, h.2⟩
/-- two blocks that a handle's function makes -/
structure KMid (g gl : Nat) (s : TS) (T : Sh) (t4 : TypeId) (p t : Int) (w W : World) : Prop where
  m : Rd W g gl s T
  h : Blk W w.heap.size 29 (two_ p t)
  r : Blk W (w.heap.size + 1) t4 (two_ 0 0)
  b : Below w.heap.size w W
theorem KMid.new {g gl : Nat} {s : TS} {T : Sh} {t4 : TypeId} {p t : Int} {w : World} (h : Rd w g gl s T) : KMid g gl s T t4 p t w ((w.alloc (.cells #[.int .i64 p, .int .i64 t] 29)).alloc (.cells #[.int .i64 0, .int .i64 0] t4)) := by
  have e1 : (w.alloc (.cells #[.int .i64 p, .int .i64 t] 29)).heap.size = w.heap.size + 1 := by simp
  have h2 := Blk.new (w.alloc (.cells #[.int .i64 p, .int .i64 t] 29)) t4 (two_ 0 0)
  rw [e1] at h2
  exact ⟨(h.alloc _).alloc _, (Blk.new w _ _).alloc _, h2, ((Below.refl w.heap.size w).alloc (Nat.le_refl _) _).alloc (by simp) _⟩
theorem KMid.call {g gl : Nat} {s : TS} {T : Sh} {t4 : TypeId} {p t : Int} {w W W' : World} (h : KMid g gl s T t4 p t w W) (b : Below W.heap.size W W') : KMid g gl s T t4 p t w W' := ⟨h.m.below b, h.h.below b h.h.lt, h.r.below b h.r.lt, h.b.trans (b.mono h.b.size)⟩
set_option maxHeartbeats 1000000 in
set_option maxRecDepth 100000 in
theorem Key_no (g gl : Nat) (s : TS) (T : Sh) (w : World) (h : Rd w g gl s T) (p t : Int) (hi : isH s p t = false) :
    Calls Try.prog 15 #[.pointer (some ⟨g, 0, none⟩), .agg #[.int .i64 p, .int .i64 t]] w fun e w' => e = .returned (.tuple #[.agg #[.int .i64 0, .int .i64 0], .bool false]) ∧ Below w.heap.size w w' := by
  have M := KMid.new (t4 := 27) (p := p) (t := t) h
  have HI := Lib.hid (fun (W : World) (hW : Rd W g gl s T) => is_any g gl s W hW.m p t)
  rw [hi] at HI
  have HR : Hid (w.heap.size ≤ w.heap.size + 1) := Lib.hid (by omega)
  clear h hi
  go_enter Try.func15, Try.ntmps15
  go_upto_region 1 with fail
  generalize (w.alloc (.cells #[.int .i64 p, .int .i64 t] 29)).alloc (.cells #[.int .i64 0, .int .i64 0] 27) = W at M ⊢
  have HM := Lib.hid M
  obtain ⟨c0, c1⟩ := two_cells M.h
  clear M
  go_wp2_with fail
  refine (HI.out W HM.out.m).mono ?_
  rintro e W1 ⟨rfl, b1⟩
  have M1 := HM.out.call b1
  clear c0 c1
  obtain ⟨r0, r1⟩ := two_cells M1.r
  have f0 := M1.r.frozen
  have HM1 := Lib.hid M1
  clear M1
  go_wp2_with fail
  clear r0 r1
  obtain ⟨r0, r1⟩ := two_cells (two_set HM1.out.r 0 0)
  exact bodyPost_ret (v := .tuple #[.agg #[.int .i64 0, .int .i64 0], .bool false]) (by simp [results, Try.results15, go_sem, r0, r1]) rfl ⟨rfl, two_below HM1.out.b HR.out _ _⟩
set_option maxHeartbeats 1000000 in
set_option maxRecDepth 100000 in
theorem Key_yes (g gl : Nat) (s : TS) (T : Sh) (w : World) (h : Rd w g gl s T) (p t : Int) (hi : isH s p t = true) :
    Calls Try.prog 15 #[.pointer (some ⟨g, 0, none⟩), .agg #[.int .i64 p, .int .i64 t]] w fun e w' => e = .returned (.tuple #[.agg #[.int .i64 (s.f p.toNat).t, .int .i64 (s.f p.toNat).s], .bool true]) ∧ Below w.heap.size w w' := by
  have M := KMid.new (t4 := 27) (p := p) (t := t) h
  have HI := Lib.hid (fun (W : World) (hW : Rd W g gl s T) => is_any g gl s W hW.m p t)
  rw [hi] at HI
  obtain ⟨hp0, hp1, _, _⟩ := isH_at hi
  have hx : p.toNat < s.sz := by omega
  have HR : Hid (w.heap.size ≤ w.heap.size + 1) := Lib.hid (by omega)
  obtain ⟨kt, hkt⟩ : ∃ k, (s.f p.toNat).t = k := ⟨_, rfl⟩
  obtain ⟨ks, hks⟩ : ∃ k, (s.f p.toNat).s = k := ⟨_, rfl⟩
  rw [hkt, hks]
  have HKT := Lib.hid hkt
  have HKS := Lib.hid hks
  clear h hi hkt hks
  go_enter Try.func15, Try.ntmps15
  go_upto_region 1 with fail
  generalize (w.alloc (.cells #[.int .i64 p, .int .i64 t] 29)).alloc (.cells #[.int .i64 0, .int .i64 0] 27) = W at M ⊢
  have HM := Lib.hid M
  obtain ⟨c0, c1⟩ := two_cells M.h
  clear M
  go_wp2_with fail
  refine (HI.out W HM.out.m).mono ?_
  rintro e W1 ⟨rfl, b1⟩
  have M1 := HM.out.call b1
  clear c0 c1
  obtain ⟨c0, c1⟩ := two_cells M1.h
  obtain ⟨r0, r1⟩ := two_cells M1.r
  have f0 := M1.r.frozen
  have q0 := M1.m.m.hc.1
  have hs := M1.m.m.sz
  have k0 : W1.cell? ⟨gl, p.toNat * 8, none⟩ = some (.int .i64 kt) := by rw [← HKT.out]; exact M1.m.m.n.cell p.toNat hx 0 (by omega)
  have k1 : W1.cell? ⟨gl, p.toNat * 8 + 1, none⟩ = some (.int .i64 ks) := by rw [← HKS.out]; exact M1.m.m.n.cell p.toNat hx 1 (by omega)
  have HM1 := Lib.hid M1
  clear M1
  go_upto_region 3 with fail
  go_region
  all_goals
    go_wp2_with fail
    clear r0 r1
    obtain ⟨r0, r1⟩ := two_cells (two_set HM1.out.r kt ks)
    exact bodyPost_ret (v := .tuple #[.agg #[.int .i64 kt, .int .i64 ks], .bool true]) (by simp [results, Try.results15, go_sem, r0, r1]) rfl ⟨rfl, below_drewN (two_below HM1.out.b HR.out _ _) 1⟩
set_option maxHeartbeats 1000000 in
set_option maxRecDepth 100000 in
theorem Next_any (g gl : Nat) (s : TS) (T : Sh) (w : World) (h : Rd w g gl s T) (p t : Int) (hi : isH s p t = true) (C : Cx) (c : Bool) (x : Nat) (kx : Bool → Sh) (hx : p = x) (ht : Rep s.f (.node c x kx) C.up) (hc : RepC s.f s.root C x) (hT : C.plug (.node c x kx) = T) :
    Calls Try.prog 20 #[.pointer (some ⟨g, 0, none⟩), .agg #[.int .i64 p, .int .i64 t]] w fun e w' => e = .returned (.tuple #[hnd s (nextOf C kx), .bool (decide (nextOf C kx ≠ 0))]) ∧ Below w.heap.size w w' := by
  subst hx
  have M := KMid.new (t4 := 29) (p := x) (t := t) h
  have HI := Lib.hid (fun (W : World) (hW : Rd W g gl s T) => is_any g gl s W hW.m x t)
  rw [hi] at HI
  have HR : Hid (w.heap.size ≤ w.heap.size + 1) := Lib.hid (by omega)
  have HA := Lib.hid (fun (W : World) (hW : Rd W g gl s T) => after_any g gl s W hW.m C c x kx ht hc (hT ▸ h.nd) (hT ▸ h.lt))
  have hF : nextOf C kx < s.sz := by
    rw [nextOf_list ht]
    cases hk : (kx true).ino ++ C.post with
    | nil => exact h.m.sz.1
    | cons y l => exact h.lt y (by rw [← hT, plug_list, hk]; simp)
  have HH := Lib.hid (fun (W : World) (hW : Rd W g gl s T) => handle_any g gl s W hW.m (nextOf C kx) hF)
  obtain ⟨tn, htn⟩ : ∃ tn, hturn s (nextOf C kx) = tn := ⟨_, rfl⟩
  obtain ⟨F, hFF⟩ : ∃ F, nextOf C kx = F := ⟨_, rfl⟩
  rw [hFF] at htn hF HA HH ⊢
  have hn : hnd s F = .agg #[.int .i64 F, .int .i64 tn] := by unfold hnd; rw [htn]
  rw [hn] at HH ⊢
  obtain ⟨b, hb⟩ : ∃ b, decide (F ≠ 0) = b := ⟨_, rfl⟩
  rw [hb] at HH ⊢
  clear h hi hn htn hFF hF hb ht hc hT
  go_enter Try.func20, Try.ntmps20
  go_upto_region 1 with fail
  generalize (w.alloc (.cells #[.int .i64 x, .int .i64 t] 29)).alloc (.cells #[.int .i64 0, .int .i64 0] 29) = W at M ⊢
  have HM := Lib.hid M
  obtain ⟨c0, c1⟩ := two_cells M.h
  clear M
  go_wp2_with fail
  refine (HI.out W HM.out.m).mono ?_
  rintro e W1 ⟨rfl, b1⟩
  have HM1 := Lib.hid (HM.out.call b1)
  clear c0 c1
  obtain ⟨c0, c1⟩ := two_cells HM1.out.h
  go_wp2_with fail
  refine (HA.out W1 HM1.out.m).mono ?_
  rintro e w1 ⟨rfl, rfl⟩
  go_wp2_with fail
  refine (HH.out W1 HM1.out.m).mono ?_
  rintro e W2 ⟨rfl, b2⟩
  have HM2 := Lib.hid (HM1.out.call b2)
  clear c0 c1
  obtain ⟨r0, r1⟩ := two_cells HM2.out.r
  have f0 := HM2.out.r.frozen
  go_wp2_with fail
  clear r0 r1
  obtain ⟨r0, r1⟩ := two_cells (two_set HM2.out.r F tn)
  exact bodyPost_ret (v := .tuple #[.agg #[.int .i64 F, .int .i64 tn], .bool b]) (by simp [results, Try.results20, go_sem, r0, r1]) rfl ⟨rfl, two_below HM2.out.b HR.out _ _⟩
end Go.Proofs.Ytfoigflgglpobaa.Tr
/- A place's follower in a tree's row of places, in plain Lean; the keys of places. No condition. -/
set_option linter.unusedVariables false
namespace Go.Proofs.Ytfoigflgglpobaa.Tr
open Go.RowKit Go.Proofs.Ytfoigflgglpobaa.Aid
theorem split_eq {x : Nat} : ∀ {A B A' B' : List Nat}, A ++ x :: B = A' ++ x :: B' → (A ++ x :: B).Nodup → A = A' ∧ B = B' := by
  intro A
  induction A with
  | nil =>
    intro B A' B' h hn
    cases A' with
    | nil => simp only [List.nil_append, List.cons.injEq] at h; exact ⟨rfl, h.2⟩
    | cons a A' =>
      simp only [List.nil_append, List.cons_append, List.cons.injEq] at h
      obtain ⟨rfl, h2⟩ := h
      exact absurd (show x ∈ B by rw [h2]; simp) (List.nodup_cons.1 hn).1
  | cons a A ih =>
    intro B A' B' h hn
    cases A' with
    | nil =>
      simp only [List.nil_append, List.cons_append, List.cons.injEq] at h
      obtain ⟨rfl, h2⟩ := h
      exact absurd (show a ∈ A ++ a :: B by simp) (List.nodup_cons.1 hn).1
    | cons a' A' =>
      simp only [List.cons_append, List.cons.injEq] at h
      obtain ⟨rfl, h2⟩ := h
      obtain ⟨rfl, e⟩ := ih h2 (List.nodup_cons.1 hn).2
      exact ⟨rfl, e⟩
/-- the way to a place in the row, and what comes behind it -/
theorem way_split {w : World} {g gl : Nat} {s : TS} {T : Sh} (h : Rd w g gl s T) {pre post : List Nat} {x : Nat} (e : T.ino = pre ++ x :: post) :
    ∃ C c kx, Rep s.f (.node c x kx) C.up ∧ RepC s.f s.root C x ∧ C.plug (.node c x kx) = T ∧ nextOf C kx = post.head?.getD 0 := by
  obtain ⟨C, c, kx, a1, a2, a3⟩ := way_to (root := s.root) T .top h.rep h.root (show x ∈ T.ino by rw [e]; simp)
  have a3' : C.plug (.node c x kx) = T := a3
  refine ⟨C, c, kx, a1, a2, a3', ?_⟩
  have hl := plug_list C c x kx
  rw [a3', e] at hl
  obtain ⟨_, h2⟩ := split_eq hl (by rw [← e]; exact h.nd)
  rw [nextOf_list a1, ← h2]
def keysOf (f : Nat → Nd) (l : List Nat) : List Value := l.flatMap fun z => [.int .i64 (f z).t, .int .i64 (f z).s]
theorem keysOf_snoc (f : Nat → Nd) (l : List Nat) (x : Nat) : keysOf f (l ++ [x]) = keysOf f l ++ [.int .i64 (f x).t, .int .i64 (f x).s] := by simp [keysOf]
theorem keysOf_len (f : Nat → Nd) (l : List Nat) : (keysOf f l).length = l.length * 2 := by
  induction l with
  | nil => rfl
  | cons a l ih => simp only [keysOf, List.flatMap_cons, List.length_append, List.length_cons] at ih ⊢; simp only [List.length_nil]; omega
end Go.Proofs.Ytfoigflgglpobaa.Tr
/- What cutting a place out of a tree does, in plain Lean. No program in sight; no condition. -/
set_option linter.unusedVariables false
namespace Go.Proofs.Ytfoigflgglpobaa.Tr
open Go.RowKit Go.Proofs.Ytfoigflgglpobaa.Aid
theorem rep_no0 {f : Nat → Nd} (t : Sh) : ∀ {up : Nat}, Rep f t up → 0 ∉ t.ino := by
  induction t with
  | nil => intro up _ h; cases h
  | node c x k ih =>
    intro up h hm
    rcases (mem_node false).1 hm with e | e | e
    · exact h.1 e.symm
    · exact ih false (h.2.2.2.2 false) e
    · exact ih true (h.2.2.2.2 true) e
theorem repC_no0 {f : Nat → Nd} {root : Nat} (k : Cx) : ∀ {h : Nat}, RepC f root k h → 0 ∉ k.all := by
  induction k with
  | top => intro h _ hm; cases hm
  | fr c x s sib k ih =>
    intro h hr hm
    obtain ⟨h0, h1, h2, h3, h4, h5, h6⟩ := hr
    simp only [Cx.all, List.mem_cons, List.mem_append] at hm
    rcases hm with e | e | e
    · exact h0 e.symm
    · exact rep_no0 sib h5 e
    · exact ih h6 e
/-- one child hangs where its parent did -/
theorem hang_sub {f : Nat → Nd} {root z : Nat} {C : Cx} {c : Bool} {kz : Bool → Sh} (hR : Rep f (.node c z kz) C.up) (hC : RepC f root C z) (hnd : (C.plug (.node c z kz)).ino.Nodup) (r : Bool) :
    Rep (hangF f root z (kz r).root).1 (kz r) C.up ∧ RepC (hangF f root z (kz r).root).1 (hangF f root z (kz r).root).2 C (kz r).root ∧ ((hangF f root z (kz r).root).1 (kz r).root).u = C.up ∧
    (∀ w, w ∉ (C.plug (.node c z kz)).ino → w ≠ 0 → (hangF f root z (kz r).root).1 w = f w) := by
  obtain ⟨n1, n2, n3⟩ := List.nodup_append.1 ((plug_perm C (.node c z kz)).nodup_iff.1 hnd)
  have mz : z ∈ (Sh.node c z kz).ino := (mem_node false).2 (.inl rfl)
  have hx : (kz r).root ≠ 0 → (kz r).root ∈ (Sh.node c z kz).ino := fun e => mem_ino_side r (root_mem e)
  have hxC : (kz r).root ∉ C.all := by
    by_cases e : (kz r).root = 0
    · rw [e]; exact repC_no0 C hC
    · exact fun e2 => n3 _ (hx e) _ e2 rfl
  have hR' := hR
  obtain ⟨r0, r1, r2, r3, r4⟩ := hR
  obtain ⟨a1, a2, a3, a4, a5⟩ := hang_rep n2 hC r2 r0 (fun e => n3 z mz z e rfl) hxC
  have dis := nodup_node n1 r
  have hup : ∀ w, w ∈ (Sh.node c z kz).ino → C.up = 0 ∨ w ≠ C.up := fun w hw => by
    by_cases e : C.up = 0
    · exact .inl e
    · exact .inr fun e2 => n3 w hw w (e2 ▸ RepC.up_mem hC e) rfl
  refine ⟨Rep.rebase dis.2.1 (r4 r) (fun w hw hwr => same_eq (a2 w hwr (hup w (mem_ino_side r hw)))) (fun e => ⟨a3 false (hup _ (hx e)), a3 true (hup _ (hx e)), a5, a4⟩), a1, a4, fun w hw h0 => a2 w (fun e => ?_) ?_⟩
  · by_cases e2 : (kz r).root = 0
    · rw [e2] at e; exact h0 e
    · exact hw ((plug_perm C _).mem_iff.2 (List.mem_append_left _ (e ▸ hx e2)))
  · by_cases e : C.up = 0
    · exact .inl e
    · exact .inr fun e2 => hw ((plug_perm C _).mem_iff.2 (List.mem_append_right _ (e2 ▸ RepC.up_mem hC e)))
theorem app_top (d : Cx) : d.app .top = d := by
  induction d with
  | top => rfl
  | fr c x s sib d ih => show Cx.fr c x s sib (d.app .top) = _; rw [ih]
theorem app_pre (d k : Cx) : (d.app k).pre = k.pre ++ d.pre := by
  induction d with
  | top => simp [Cx.app, Cx.pre]
  | fr c x s sib d ih => simp only [Cx.app, Cx.pre]; rw [ih, List.append_assoc]
theorem app_mem {d k : Cx} {z : Nat} (h : z ∈ k.all) : z ∈ (d.app k).all := by
  induction d with
  | top => exact h
  | fr c x s sib d ih => simp only [Cx.app, Cx.all, List.mem_cons, List.mem_append]; exact .inr (.inr ih)
/-- the way to the first place -/
theorem fst_way {f : Nat → Nd} (t : Sh) : ∀ {up : Nat}, Rep f t up → t.root ≠ 0 → ∃ D cy y ky, t = Cx.plug D (.node cy y ky) ∧ ky false = .nil ∧ t.fst = y ∧ D.pre = [] := by
  induction t with
  | nil => intro up _ h; exact absurd rfl h
  | node c x k ih =>
    intro up h _
    by_cases e : (k false).root = 0
    · exact ⟨.top, c, x, k, rfl, rep_root (h.2.2.2.2 false) e, by unfold Sh.fst; rw [if_pos e], rfl⟩
    · obtain ⟨D, cy, y, ky, h1, h2, h3, h4⟩ := ih false (h.2.2.2.2 false) e
      refine ⟨D.app (.fr c x false (k true) .top), cy, y, ky, ?_, h2, by unfold Sh.fst; rw [if_neg e]; exact h3, by rw [app_pre, h4]; rfl⟩
      rw [app_plug, ← h1]
      show _ = Sh.node c x (two false (k false) (k true))
      rw [show two false (k false) (k true) = k from two_eta k false]
/-- all that cutting does, if the place that goes is another one's -/
def cutF (f : Nat → Nd) (root z y x : Nat) : (Nat → Nd) × Nat :=
  let h := hangF f root y x
  let k := takeF h.1 h.2 z y
  (setU k.1 x (if (h.1 x).u = z then y else (h.1 x).u), k.2)
theorem setU_id {f : Nat → Nd} {z v : Nat} (h : (f z).u = v) : setU f z v = f := by
  funext y
  unfold setU
  split
  · rename_i e; subst e; rw [← h]
  · rfl
theorem cutB_rep {f : Nat → Nd} {root z y : Nat} {C D : Cx} {c cy : Bool} {sz : Sh} {ky : Bool → Sh} (hR : Rep f (.node cy y ky) (D.app (.fr c z true sz C)).up) (hC : RepC f root (D.app (.fr c z true sz C)) y)
    (hnd : ((D.app (.fr c z true sz C)).plug (.node cy y ky)).ino.Nodup) :
    Rep (cutF f root z y (ky true).root).1 (ky true) (D.app (.fr c y true sz C)).up ∧ RepC (cutF f root z y (ky true).root).1 (cutF f root z y (ky true).root).2 (D.app (.fr c y true sz C)) (ky true).root ∧
    ((cutF f root z y (ky true).root).1 (ky true).root).u = (D.app (.fr c y true sz C)).up ∧ (∀ w, w ∉ ((D.app (.fr c z true sz C)).plug (.node cy y ky)).ino → w ≠ 0 → (cutF f root z y (ky true).root).1 w = f w) := by
  obtain ⟨n1, n2, n3⟩ := List.nodup_append.1 ((plug_perm (D.app (.fr c z true sz C)) (.node cy y ky)).nodup_iff.1 hnd)
  obtain ⟨s1, s2, s3, s4⟩ := hang_sub hR hC hnd true
  have y0 : y ≠ 0 := hR.1
  have my : y ∈ (Sh.node cy y ky).ino := (mem_node false).2 (.inl rfl)
  obtain ⟨d1, d2, d3⟩ := nodup_node n1 true
  obtain ⟨p1, p2⟩ := replug D s1 s2
  obtain ⟨q1, q2⟩ := RepC.down (x := z) p1 p2
  have hpl : ((D.app (.fr c z true sz C)).plug (ky true)).ino.Perm ((ky true).ino ++ (D.app (.fr c z true sz C)).all) := plug_perm _ _
  have e1 : (D.app (.fr c z true sz C)).plug (ky true) = C.plug (.node c z (two true (D.plug (ky true)) sz)) := app_plug _ _ _
  rw [e1] at hpl
  have hnd2 : (C.plug (.node c z (two true (D.plug (ky true)) sz))).ino.Nodup := hpl.nodup_iff.2 (List.nodup_append.2 ⟨d2, n2, fun a ha b hb => n3 a (mem_ino_side true ha) b hb⟩)
  have hy2 : y ∉ (C.plug (.node c z (two true (D.plug (ky true)) sz))).ino := fun e => by
    rcases List.mem_append.1 (hpl.mem_iff.1 e) with e | e
    · exact d1 e
    · exact n3 y my y e rfl
  have h02 : 0 ∉ (C.plug (.node c z (two true (D.plug (ky true)) sz))).ino := fun e => by
    rcases List.mem_append.1 (hpl.mem_iff.1 e) with e | e
    · exact rep_no0 _ s1 e
    · exact repC_no0 _ hC e
  obtain ⟨t1, t2, t3⟩ := take_rep q1 q2 hnd2 hy2 y0 h02
  obtain ⟨u1, u2⟩ := unbig t1 t2
  obtain ⟨v1, v2⟩ := unplug D (k := .fr c y true sz C) u1 u2
  have hat : (if ((hangF f root y (ky true).root).1 (ky true).root).u = z then y else ((hangF f root y (ky true).root).1 (ky true).root).u) = (D.app (.fr c y true sz C)).up := by
    rw [s3]
    cases D with
    | top => exact if_pos rfl
    | fr c' x' s' sib' d =>
      have hne : x' ≠ z := fun e => by
        have h1 := (List.nodup_cons.1 n2).1
        refine h1 (List.mem_append_right _ (app_mem ?_))
        rw [e]; simp [Cx.all]
      exact if_neg hne
  obtain ⟨E, hE⟩ : ∃ E, D.app (.fr c y true sz C) = E := ⟨_, rfl⟩
  have ef : cutF f root z y (ky true).root = (setU (takeF (hangF f root y (ky true).root).1 (hangF f root y (ky true).root).2 z y).1 (ky true).root E.up, (takeF (hangF f root y (ky true).root).1 (hangF f root y (ky true).root).2 z y).2) := by
    unfold cutF; dsimp only; rw [hat, hE]
  rw [hE] at v1 v2 ⊢
  rw [ef]
  refine ⟨?_, ?_, setU_u _ _ _, fun w h1 h2 => ?_⟩
  · by_cases e : (ky true).root = 0
    · have e2 := rep_root v1 e
      rw [e2]; trivial
    · have h5 : ((takeF (hangF f root y (ky true).root).1 (hangF f root y (ky true).root).2 z y).1 (ky true).root).u = E.up := by
        cases hk : ky true with
        | nil => rw [hk] at e; exact absurd rfl e
        | node c' x' k' => rw [hk] at v1; exact v1.2.2.1
      show Rep (setU _ _ _) _ _
      rw [setU_id h5]; exact v1
  · by_cases e : (ky true).root = 0
    · refine v2.frame _ fun w hw => same_eq (setU_ne ?_)
      rw [e]
      exact fun e2 => repC_no0 _ v2 (e2 ▸ hw)
    · have h5 : ((takeF (hangF f root y (ky true).root).1 (hangF f root y (ky true).root).2 z y).1 (ky true).root).u = E.up := by
        cases hk : ky true with
        | nil => rw [hk] at e; exact absurd rfl e
        | node c' x' k' => rw [hk] at v1; exact v1.2.2.1
      show RepC (setU _ _ _) _ _ _
      rw [setU_id h5]; exact v2
  · have hw : ∀ v, v ∈ (Sh.node cy y ky).ino ∨ v ∈ (D.app (.fr c z true sz C)).all → w ≠ v := fun v hv e => h1 ((plug_perm _ _).mem_iff.2 (List.mem_append.2 (e ▸ hv)))
    show setU _ _ _ w = _
    have a1 : w ≠ (ky true).root := by
      by_cases e : (ky true).root = 0
      · rw [e]; exact h2
      · exact hw _ (.inl (mem_ino_side true (root_mem e)))
    have a2 : w ∉ (C.plug (.node c z (two true (D.plug (ky true)) sz))).ino := fun e => by
      rcases List.mem_append.1 (hpl.mem_iff.1 e) with e | e
      · exact hw w (.inl (mem_ino_side true e)) rfl
      · exact hw w (.inr e) rfl
    rw [setU_ne a1, t3 w a2 (hw y (.inl my)), s4 w h1 h2]
theorem hang_red (f : Nat → Nd) (root old x w : Nat) : ((hangF f root old x).1 w).red = (f w).red := by
  unfold hangF
  dsimp only
  rw [setU_red]
  split
  · rfl
  · split <;> rw [setCh_red]
theorem take_red {f : Nat → Nd} {root z y w : Nat} (h : w ≠ y) : ((takeF f root z y).1 w).red = (f w).red := by
  have h1 : (repN (hangF f root z y).1 y { (hangF f root z y).1 y with l := ((hangF f root z y).1 z).l, r := ((hangF f root z y).1 z).r, red := ((hangF f root z y).1 z).red } w).red = (f w).red := by rw [repN_ne h]; exact hang_red _ _ _ _ _
  unfold takeF
  dsimp only
  split
  · split
    · exact h1
    · rw [setU_red]; exact h1
  · split
    · rw [setU_red]; exact h1
    · rw [setU_red, setU_red]; exact h1
theorem Lk.take {f : Nat → Nd} {sz root : Nat} (h : Lk f sz) (hr : root < sz) {z y : Nat} (hz : z < sz) (hy : y < sz) : Lk (takeF f root z y).1 sz ∧ (takeF f root z y).2 < sz := by
  obtain ⟨h1, h2⟩ := h.hang hr hz hy
  have h3 : Lk (repN (hangF f root z y).1 y { (hangF f root z y).1 y with l := ((hangF f root z y).1 z).l, r := ((hangF f root z y).1 z).r, red := ((hangF f root z y).1 z).red }) sz := fun w hw => by
    by_cases e : w = y
    · subst e; rw [repN_same]
      exact ⟨(h1 z hz).1, (h1 z hz).2.1, (h1 w hw).2.2⟩
    · rw [repN_ne e]; exact h1 w hw
  refine ⟨?_, h2⟩
  unfold takeF
  dsimp only
  split
  · split
    · exact h3
    · exact h3.setU _ hy
  · split
    · exact h3.setU _ hy
    · exact (h3.setU _ hy).setU _ hy
/-- what cutting has done to a tree's numbers -/
structure CutMid (s : TS) (T : Sh) (p : (Nat → Nd) × Nat) : Prop where
  keep : Keep s.f p.1
  away : ∀ w, w ∉ T.ino → w ≠ 0 → p.1 w = s.f w
  red0 : (p.1 0).red = false
  lk : Lk p.1 s.sz
  root : p.2 < s.sz
theorem CutMid.stay {s : TS} {T : Sh} {p : (Nat → Nd) × Nat} (h : CutMid s T p) {I : List Nat} (z0 : 0 ∉ I) (lt : ∀ z, z ∈ I → z < s.sz) : Stay (s.with p) I p := ⟨z0, lt, Keep.refl _, fun _ _ => rfl, h.lk, h.root⟩
theorem CutMid.end {s : TS} {T : Sh} {p q : (Nat → Nd) × Nat} (h : CutMid s T p) {I : List Nat} (hI : ∀ z, z ∈ I → z ∈ T.ino) (e : MdEnd (s.with p) I q) : CutMid s T q ∧ ∃ T', RB q.1 q.2 T' ∧ T'.ino = I := by
  obtain ⟨st, e⟩ := e
  refine ⟨⟨h.keep.trans st.keep, fun w h1 h2 => (st.away w fun e => h1 (hI w e)).trans (h.away w h1 h2), ?_, st.lk, st.root⟩, e⟩
  rw [st.away 0 st.z0]; exact h.red0
section
variable {w : World} {g gl : Nat} {s : TS} {T : Sh} {fl : List Nat} {z : Nat} {pre post : List Nat}
theorem Full.rootlt (h : Full w g gl s T fl) : s.root < s.sz := by
  rw [h.rb.root]
  by_cases e : T.root = 0
  · rw [e]; exact hz_pos (Nat.lt_of_lt_of_le h.m.sz.1 (Nat.le_refl _))
  · exact h.lt _ (root_mem e)
theorem sub_nodup {pre post : List Nat} {z : Nat} (h : (pre ++ z :: post).Nodup) : (pre ++ post).Nodup ∧ z ∉ pre ++ post := by
  have := (List.perm_middle.nodup_iff).1 h
  obtain ⟨a, b⟩ := List.nodup_cons.1 this
  exact ⟨b, a⟩
/-- the place itself goes -/
theorem cutA (h : Full w g gl s T fl) (hT : T.ino = pre ++ z :: post) {C : Cx} {c : Bool} {kz : Bool → Sh} (hR : Rep s.f (.node c z kz) C.up) (hC : RepC s.f s.root C z) (hpl : C.plug (.node c z kz) = T) (r : Bool) (hr : kz (!r) = .nil) :
    CutMid s T (hangF s.f s.root z (kz r).root) ∧ (c = false → FSt (s.with (hangF s.f s.root z (kz r).root)) (pre ++ post) (hangF s.f s.root z (kz r).root) C (kz r)) ∧
    (c = true → MdEnd (s.with (hangF s.f s.root z (kz r).root)) (pre ++ post) (hangF s.f s.root z (kz r).root)) := by
  have hnd := h.rb.nd
  rw [← hpl] at hnd
  obtain ⟨s1, s2, s3, s4⟩ := hang_sub hR hC hnd r
  have hzT : z ∈ T.ino := by rw [hT]; simp
  have hz := h.lt z hzT
  have hlx := h.lk.ch hz r
  rw [hR.2.2.2.1 r] at hlx
  have hl := h.lk.hang h.rootlt hz hlx
  have M : CutMid s T (hangF s.f s.root z (kz r).root) := by
    refine ⟨keep_hang _ _ _ _, fun w h1 h2 => s4 w (by rw [hpl]; exact h1) h2, ?_, hl.1, hl.2⟩
    rw [hang_red, h.z0]; rfl
  have hI : (C.plug (kz r)).ino = pre ++ post := by
    have h1 := plug_list C c z kz
    rw [hpl, hT] at h1
    obtain ⟨rfl, rfl⟩ := split_eq h1 (by rw [← hT]; exact h.rb.nd)
    rw [plug_ino]
    cases r with
    | false => rw [show kz true = .nil from hr]; simp [Sh.ino]
    | true => rw [show kz false = .nil from hr]; simp [Sh.ino]
  have hsub := sub_nodup (by rw [← hT]; exact h.rb.nd)
  have hin : ∀ v, v ∈ pre ++ post → v ∈ T.ino := fun v hv => by rw [hT]; simp only [List.mem_append, List.mem_cons] at hv ⊢; exact hv.elim .inl fun e => .inr (.inr e)
  have st := M.stay (I := pre ++ post) (fun e => h.rd.ne0 (hin 0 e) rfl) (fun v hv => h.lt v (hin v hv))
  obtain ⟨b, hb⟩ := h.rb.bal
  have hnr := h.rb.nrr
  have hrd := h.rb.red
  rw [← hpl] at hb hnr hrd
  obtain ⟨n, hbn, hcb⟩ := bal_split C hb
  obtain ⟨nz, nr⟩ := nrr_split C hnr
  have cn := cnrr_of C hnr hrd
  refine ⟨M, fun hc => ?_, fun hc => ?_⟩
  · subst hc
    obtain ⟨m, rfl, hm⟩ := hbn
    exact ⟨st, M.red0, s1, s2, s3, hI, hsub.1, ⟨m, b, hm r, hcb⟩, nrrK_of (nz.2 r), cn⟩
  · subst hc
    obtain ⟨q1, q2⟩ := plug_rep C s1 s2
    have hblk := nz.1 rfl r
    exact ⟨st, _, ⟨q1, q2, plug_nrr C (nz.2 r) cn (fun _ => hblk), plug_red C cn (fun _ => hblk), ⟨b, plug_bal C (hbn r) hcb⟩, by rw [hI]; exact hsub.1⟩, hI⟩
/-- another place goes, and comes in its place -/
theorem cutB (h : Full w g gl s T fl) (hT : T.ino = pre ++ z :: post) {C D : Cx} {c cy : Bool} {y : Nat} {kz ky : Bool → Sh} (hpl : C.plug (.node c z kz) = T) (hD : kz true = D.plug (.node cy y ky)) (hk : ky false = .nil) (hpre : D.pre = []) :
    CutMid s T (cutF s.f s.root z y (ky true).root) ∧ (s.f y).red = cy ∧ (s.f y).l = 0 ∧ (s.f y).r = (ky true).root ∧ y ≠ z ∧ y ∈ T.ino ∧ z ∈ T.ino ∧ (cy = false → FSt (s.with (cutF s.f s.root z y (ky true).root)) (pre ++ post) (cutF s.f s.root z y (ky true).root) (D.app (.fr c y true (kz false) C)) (ky true)) ∧
    (cy = true → MdEnd (s.with (cutF s.f s.root z y (ky true).root)) (pre ++ post) (cutF s.f s.root z y (ky true).root)) := by
  have hK : (D.app (.fr c z true (kz false) C)).plug (.node cy y ky) = T := by
    rw [app_plug]
    show C.plug (.node c z (two true (D.plug (.node cy y ky)) (kz false))) = T
    rw [← hD, show two true (kz true) (kz false) = kz from two_eta kz true]; exact hpl
  have hnd := h.rb.nd
  rw [← hK] at hnd
  have hrep := h.rb.rep
  have hroot := h.rb.root
  rw [← hK] at hrep hroot
  obtain ⟨r1, r2⟩ := unplug (k := .top) (D.app (.fr c z true (kz false) C)) hrep hroot
  rw [app_top] at r1 r2
  obtain ⟨s1, s2, s3, s4⟩ := cutB_rep r1 r2 hnd
  have hzT : z ∈ T.ino := by rw [hT]; simp
  have hz := h.lt z hzT
  have hyT : y ∈ T.ino := by rw [← hK, (plug_perm _ _).mem_iff]; exact List.mem_append_left _ ((mem_node false).2 (.inl rfl))
  have hy := h.lt y hyT
  have hyz : y ≠ z := fun e => by
    obtain ⟨_, _, n3⟩ := List.nodup_append.1 ((plug_perm _ _).nodup_iff.1 hnd)
    exact n3 y ((mem_node false).2 (.inl rfl)) z (app_mem (by simp [Cx.all])) e
  have hlx := h.lk.ch hy true
  rw [r1.2.2.2.1 true] at hlx
  have hl := h.lk.hang h.rootlt hy hlx
  have hl2 := hl.1.take hl.2 hz hy
  have hin : ∀ v, v ∈ pre ++ post → v ∈ T.ino := fun v hv => by rw [hT]; simp only [List.mem_append, List.mem_cons] at hv ⊢; exact hv.elim .inl fun e => .inr (.inr e)
  have M : CutMid s T (cutF s.f s.root z y (ky true).root) := by
    refine ⟨((keep_hang _ _ _ _).trans (keep_take _ _ _ _)).trans (keep_u _ _ _), fun w h1 h2 => s4 w (by rw [hK]; exact h1) h2, ?_, ?_, hl2.2⟩
    · show (setU _ _ _ 0).red = false
      rw [setU_red, take_red (fun e => h.rd.ne0 hyT e.symm), hang_red, h.z0]; rfl
    · refine hl2.1.setU _ ?_
      split
      · exact hy
      · exact (hl.1 _ hlx).2.2
  have hI : ((D.app (.fr c y true (kz false) C)).plug (ky true)).ino = pre ++ post := by
    have h1 := plug_list C c z kz
    rw [hpl, hT] at h1
    obtain ⟨rfl, rfl⟩ := split_eq h1 (by rw [← hT]; exact h.rb.nd)
    rw [app_plug]
    show (C.plug (.node c y (two true (D.plug (ky true)) (kz false)))).ino = _
    have e1 : (two true (D.plug (ky true)) (kz false) true) = D.plug (ky true) := rfl
    have e2 : (two true (D.plug (ky true)) (kz false) false) = kz false := rfl
    rw [plug_list, hD, e1, e2, plug_ino D, plug_ino D, hpre]
    simp [Sh.ino, hk]
  have hsub := sub_nodup (by rw [← hT]; exact h.rb.nd)
  have st := M.stay (I := pre ++ post) (fun e => h.rd.ne0 (hin 0 e) rfl) (fun v hv => h.lt v (hin v hv))
  obtain ⟨b, hb⟩ := h.rb.bal
  have hnr := h.rb.nrr
  have hrd := h.rb.red
  rw [← hK] at hb hnr hrd
  obtain ⟨n, hbn, hcb⟩ := bal_split _ hb
  obtain ⟨nz, nr⟩ := nrr_split _ hnr
  have cn := cnrr_name (y := y) D (cnrr_of _ hnr hrd)
  have hcb2 := cbal_name (y := y) D hcb
  refine ⟨M, r1.2.1, ?_, r1.2.2.2.1 true, hyz, hyT, hzT, fun hc => ?_, fun hc => ?_⟩
  · have := r1.2.2.2.1 false
    rw [hk] at this; exact this
  · subst hc
    obtain ⟨m, rfl, hm⟩ := hbn
    exact ⟨st, M.red0, s1, s2, s3, hI, hsub.1, ⟨m, b, hm true, hcb2⟩, nrrK_of (nz.2 true), cn⟩
  · subst hc
    obtain ⟨q1, q2⟩ := plug_rep _ s1 s2
    have hblk := nz.1 rfl true
    exact ⟨st, _, ⟨q1, q2, plug_nrr _ (nz.2 true) cn (fun _ => hblk), plug_red _ cn (fun _ => hblk), ⟨b, plug_bal _ (hbn true) hcb2⟩, by rw [hI]; exact hsub.1⟩, hI⟩
end
end Go.Proofs.Ytfoigflgglpobaa.Tr
/- What Drop leaves, and what filling reads, in plain Lean. No program in sight; no condition. -/
set_option linter.unusedVariables false
namespace Go.Proofs.Ytfoigflgglpobaa.Tr
open Go.RowKit Go.Proofs.Ytfoigflgglpobaa.Aid
def freeNd (l : Nat) (tn : Int) : Nd := ⟨0, 0, l, 0, 0, false, false, tn⟩
/-- numbers behind a Drop -/
def TS.dropped (s : TS) (p : (Nat → Nd) × Nat) (z : Nat) : TS := { s with f := repN (repN p.1 z (freeNd s.free (s.f z).turn)) 0 zeroN, root := p.2, free := z, n := s.n - 1 }
structure DropRes (s : TS) (T : Sh) (z : Nat) (s' : TS) (T' : Sh) (pre post : List Nat) : Prop where
  ino : T.ino = pre ++ z :: post
  ino' : T'.ino = pre ++ post
  old : ∀ w, w ≠ z → (s'.f w).t = (s.f w).t ∧ (s'.f w).s = (s.f w).s
  turn : ∀ w, (s'.f w).turn = (s.f w).turn
  sz : s'.sz = s.sz
  most : s'.most = s.most
section
variable {w W : World} {g gl : Nat} {s : TS} {T : Sh} {fl : List Nat} {z : Nat} {pre post : List Nat} {p : (Nat → Nd) × Nat}
theorem drop_full (h : Full w g gl s T fl) (hT : T.ino = pre ++ z :: post) (M : CutMid s T p) {T' : Sh} (rb : RB p.1 p.2 T') (hT' : T'.ino = pre ++ post) (hm : IsT W g gl (s.dropped p z)) :
    Full W g gl (s.dropped p z) T' (z :: fl) ∧ DropRes s T z (s.dropped p z) T' pre post := by
  have hzT : z ∈ T.ino := by rw [hT]; simp
  have hz := h.lt z hzT
  have z0 := h.rd.ne0 hzT
  have hsub := sub_nodup (by rw [← hT]; exact h.rb.nd)
  have hin : ∀ v, v ∈ T'.ino → v ∈ T.ino := fun v hv => by rw [hT'] at hv; rw [hT]; simp only [List.mem_append, List.mem_cons] at hv ⊢; exact hv.elim .inl fun e => .inr (.inr e)
  have hout : ∀ v, v ∈ T.ino → v ≠ z → v ∈ T'.ino := fun v hv hne => by rw [hT] at hv; rw [hT']; simp only [List.mem_append, List.mem_cons] at hv ⊢; exact hv.elim .inl fun e => .inr (e.resolve_left hne)
  have hzT' : z ∉ T'.ino := by rw [hT']; exact hsub.2
  have h0T' : 0 ∉ T'.ino := fun e => h.rd.ne0 (hin 0 e) rfl
  have fo : ∀ v, v ≠ 0 → v ≠ z → (s.dropped p z).f v = p.1 v := fun v h1 h2 => by show repN (repN p.1 z (freeNd s.free (s.f z).turn)) 0 zeroN v = _; rw [repN_ne h1, repN_ne h2]
  have f0 : (s.dropped p z).f 0 = zeroN := by show repN (repN p.1 z (freeNd s.free (s.f z).turn)) 0 zeroN 0 = _; rw [repN_same]
  have fz : (s.dropped p z).f z = freeNd s.free (s.f z).turn := by show repN (repN p.1 z (freeNd s.free (s.f z).turn)) 0 zeroN z = _; rw [repN_ne z0, repN_same]
  have fin : ∀ v, v ∈ T'.ino → (s.dropped p z).f v = p.1 v := fun v hv => fo v (fun e => h0T' (e ▸ hv)) (fun e => hzT' (e ▸ hv))
  have hs1 := h.m.sz.1
  have hfree : s.free < s.sz := by
    have h1 := h.free
    have h2 := h.fpl
    cases fl with
    | nil => have h3 : s.free = 0 := h1; omega
    | cons a l => rw [h1.1]; exact (h2 a (by simp)).2.1
  have hzf : z ∉ fl := fun e => (h.fpl z e).2.2 hzT
  have hkeep : ∀ v, v ≠ 0 → v ≠ z → ((s.dropped p z).f v).t = (s.f v).t ∧ ((s.dropped p z).f v).s = (s.f v).s ∧ ((s.dropped p z).f v).tak = (s.f v).tak ∧ ((s.dropped p z).f v).turn = (s.f v).turn := fun v h1 h2 => by rw [fo v h1 h2]; exact M.keep v
  refine ⟨⟨hm, ⟨rb.rep.frame _ fun v hv => same_eq (fin v hv), rb.root, rb.nrr, rb.red, rb.bal, rb.nd⟩, fun v hv => h.lt v (hin v hv), fun v hv => ?_, ?_, fun v hv => ?_, f0, ⟨rfl, ?_⟩, fun v hv => ?_, List.nodup_cons.2 ⟨hzf, h.fnd⟩, ?_, ?_, h.cap⟩, ⟨hT, hT', fun v hv => ?_, fun v => ?_, rfl, rfl⟩⟩
  · have hv' : v < s.sz := hv
    show _ < s.sz ∧ _ < s.sz ∧ _ < s.sz
    by_cases e0 : v = 0
    · subst e0; rw [f0]; exact ⟨hs1, hs1, hs1⟩
    · by_cases ez : v = z
      · subst ez; rw [fz]; exact ⟨hfree, hs1, hs1⟩
      · rw [fo v e0 ez]; exact M.lk v hv'
  · have h1 : Srt s.f T'.ino := by
      rw [hT']
      refine List.Pairwise.sublist ?_ (hT ▸ h.srt)
      exact List.Sublist.append (List.Sublist.refl _) (List.sublist_cons_self _ _)
    refine srt_keep h1 fun v hv => ?_
    have := hkeep v (fun e => h0T' (e ▸ hv)) (fun e => hzT' (e ▸ hv))
    exact ⟨this.1, this.2.1⟩
  · have hv' : v < s.sz := hv
    by_cases e0 : v = 0
    · subst e0; rw [f0]; exact ⟨fun e => (by cases e), fun e => absurd e h0T'⟩
    · by_cases ez : v = z
      · subst ez; rw [fz]; exact ⟨fun e => (by cases e), fun e => absurd e hzT'⟩
      · rw [(hkeep v e0 ez).2.2.1, h.tak v hv']
        exact ⟨fun e => hout v e ez, hin v⟩
  · show Chain (s.dropped p z).f ((s.dropped p z).f z).l fl
    rw [fz]
    refine chain_keep _ _ h.free fun v hv => ?_
    have h1 := h.fpl v hv
    rw [fo v h1.1 (fun e => hzf (e ▸ hv)), M.away v h1.2.2 h1.1]
  · rcases List.mem_cons.1 hv with rfl | hv
    · exact ⟨z0, hz, hzT'⟩
    · exact ⟨(h.fpl v hv).1, (h.fpl v hv).2.1, fun e => (h.fpl v hv).2.2 (hin v e)⟩
  · have := h.cnt
    rw [hT] at this
    rw [hT']
    simp only [List.length_append, List.length_cons] at this ⊢
    show _ = s.sz
    omega
  · have := h.n
    rw [hT] at this
    rw [hT']
    simp only [List.length_append, List.length_cons] at this ⊢
    show s.n - 1 = _
    omega
  · by_cases e0 : v = 0
    · subst e0; rw [f0, h.z0]; exact ⟨rfl, rfl⟩
    · exact ⟨(hkeep v e0 hv).1, (hkeep v e0 hv).2.1⟩
  · by_cases e0 : v = 0
    · subst e0; rw [f0, h.z0]
    · by_cases ez : v = z
      · subst ez; rw [fz]; rfl
      · exact (hkeep v e0 ez).2.2.2
end
section
variable {s0 : TS} {I : List Nat} {p : (Nat → Nd) × Nat} {c s : Bool} {q w : Nat} {cw : Bool} {kw : Bool → Sh} {k : Cx} {t sib : Sh} {E : Cx}
theorem plug_root_mem (K : Cx) : ∀ (u : Sh), K ≠ .top → (K.plug u).root ∈ K.all := by
  induction K with
  | top => intro u e; exact absurd rfl e
  | fr c3 x3 s3 sib3 K3 ih3 =>
    intro u _
    cases K3 with
    | top => simp [Cx.plug, Sh.root, Cx.all]
    | fr c4 x4 s4 sib4 K4 =>
      have := ih3 (.node c3 x3 (two s3 u sib3)) (by simp)
      simp only [Cx.all, List.mem_cons, List.mem_append] at this ⊢
      exact .inr (.inr this)
/-- filling stops, or there is a place above and one on the other side -/
theorem FSt.split (h : FSt s0 I p E t) : (E = .top ∧ t.root = p.2) ∨ (t.red = true ∧ (p.1 t.root).red = true) ∨ (t.red = false ∧ ∃ c q s cw w kw k, E = .fr c q s (.node cw w kw) k) := by
  cases E with
  | top => exact .inl ⟨rfl, h.rc.symm⟩
  | fr c q s sib k =>
    cases hr : t.red with
    | true =>
      refine .inr (.inl ⟨rfl, ?_⟩)
      cases t with
      | nil => cases hr
      | node c' x k' => exact h.rt.2.1.trans hr
    | false =>
      refine .inr (.inr ⟨rfl, ?_⟩)
      obtain ⟨n, b, _, h1, _⟩ := h.bal
      cases sib with
      | nil => exact absurd (show n + 1 = 0 from h1) (by omega)
      | node cw w kw => exact ⟨c, q, s, cw, w, kw, k, rfl⟩
structure FFacts (s0 : TS) (p : (Nat → Nd) × Nat) (x q : Nat) (s : Bool) (cw : Bool) (w : Nat) (near far : Nat) (cn cf : Bool) (c : Bool) : Prop where
  xr : x ≠ p.2
  xc : (p.1 x).red = false
  xu : (p.1 x).u = q
  side : decide ((p.1 q).r = x) = s
  qw : ch p.1 q (!s) = w
  wc : (p.1 w).red = cw
  wn : ch p.1 w s = near
  wf : ch p.1 w (!s) = far
  nc : (p.1 near).red = cn
  fc : (p.1 far).red = cf
  qc : (p.1 q).red = c
  x_lt : x < s0.sz
  q_lt : q < s0.sz
  w_lt : w < s0.sz
  n_lt : near < s0.sz
  f_lt : far < s0.sz
  wq : w ≠ q
  nw : near ≠ w
  fw : far ≠ w
  nq : near ≠ q
  fq : far ≠ q
theorem FSt.facts (h : FSt s0 I p (.fr c q s (.node cw w kw) k) t) (ht : t.red = false) : FFacts s0 p t.root q s cw w (kw s).root (kw (!s)).root (kw s).red (kw (!s)).red c := by
  obtain ⟨b1, b2, b3, b4⟩ := h.big
  obtain ⟨n1, n2, n3⟩ := List.nodup_append.1 ((plug_perm k _).nodup_iff.1 b4)
  obtain ⟨g1, g2, g3⟩ := nodup_node n1 s
  obtain ⟨v1, v2, v3⟩ := nodup_node n1 (!s)
  rw [Bool.not_not] at v3
  rw [two_same] at g1 g2 g3 v3
  rw [two_other] at g3 v1 v2 v3
  have mI : ∀ z, z ∈ (Sh.node c q (two s t (.node cw w kw))).ino → z ∈ I := fun z hz => by rw [← b3, (plug_perm k _).mem_iff]; exact List.mem_append_left _ hz
  have hw : w ∈ (Sh.node cw w kw).ino := (mem_node s).2 (.inl rfl)
  have mw : w ∈ I := mI w (mem_big (.inl hw))
  have mq : q ∈ I := mI q (mem_big (.inr (.inl rfl)))
  obtain ⟨a0, a1, a2, a3, a4⟩ := b1
  have qs := a3 s
  have qo := a3 (!s)
  rw [two_same] at qs
  rw [two_other] at qo
  have rw_ := a4 (!s)
  rw [two_other] at rw_
  obtain ⟨w0, w1, w2, w3, w4⟩ := rw_
  have hsz : 0 < s0.sz := hz_pos (h.st.lt q mq)
  have hx : t.root = 0 ∨ t.root ∈ I := by
    by_cases e : t.root = 0
    · exact .inl e
    · exact .inr (h.rt0 e)
  have hkid : ∀ σ, (kw σ).root ≠ 0 → (kw σ).root ∈ (Sh.node cw w kw).ino := fun σ e => mem_ino_side σ (root_mem e)
  have kidlt : ∀ σ, (kw σ).root < s0.sz := fun σ => by
    by_cases e : (kw σ).root = 0
    · rw [e]; exact hsz
    · exact h.st.lt _ (mI _ (mem_big (.inl (hkid σ e))))
  have kidred : ∀ σ, (p.1 (kw σ).root).red = (kw σ).red := fun σ => by
    have r := w4 σ
    cases hk : kw σ with
    | nil => exact h.c0
    | node c' x' k' => rw [hk] at r; exact r.2.1
  have kidw : ∀ σ, (kw σ).root ≠ w := fun σ => by
    by_cases e : (kw σ).root = 0
    · rw [e]; exact Ne.symm w0
    · exact fun e2 => (nodup_node v2 σ).1 (by rw [← e2]; exact root_mem e)
  have kidq : ∀ σ, (kw σ).root ≠ q := fun σ => by
    by_cases e : (kw σ).root = 0
    · rw [e]; exact Ne.symm a0
    · exact fun e2 => v1 (by rw [← e2]; exact hkid σ e)
  refine ⟨?_, ?_, h.up, ?_, qo, w1, w3 s, w3 (!s), kidred s, kidred (!s), a1, ?_, h.st.lt q mq, h.st.lt w mw, kidlt s, kidlt (!s), fun e => v1 (e ▸ hw), kidw s, kidw (!s), kidq s, kidq (!s)⟩
  · intro e
    obtain ⟨z1, z2⟩ := plug_rep _ h.rt h.rc
    have hroot : p.2 ∈ (Cx.fr c q s (.node cw w kw) k).all := by rw [z2]; exact plug_root_mem _ t (by simp)
    have n0 := repC_no0 _ h.rc
    have nd := h.nd
    rw [← h.ino] at nd
    obtain ⟨_, _, m3⟩ := List.nodup_append.1 ((plug_perm _ t).nodup_iff.1 nd)
    by_cases e2 : t.root = 0
    · exact n0 (by rw [← e2, e]; exact hroot)
    · exact m3 _ (root_mem e2) _ hroot e
  · cases t with
    | nil => exact h.c0
    | node c' x' k' => exact h.rt.2.1.trans ht
  · cases s with
    | true => rw [show (p.1 q).r = t.root from qs]; simp
    | false =>
      rw [show (p.1 q).r = w from qo]
      refine decide_eq_false fun e => ?_
      by_cases e2 : t.root = 0
      · exact w0 (e.trans e2)
      · exact v3 w hw (by rw [e]; exact root_mem e2)
  · rcases hx with e | e
    · rw [e]; exact hsz
    · exact h.st.lt _ e
end
end Go.Proofs.Ytfoigflgglpobaa.Tr
