/- Lemmas and contracts for RowQueuePlays, merged by program out of Qm, Qt, Qv. No condition. -/
import Derived.Test.YtfoigflgglpobaaBQ10
import Derived.Test.YtfoigflgglpobaaBQ11
import Derived.Test.YtfoigflgglpobaaBQ13
set_option linter.unusedVariables false
set_option linter.unusedSimpArgs false
/- The contracts of queue's functions for a queue that is none. No condition. -/
set_option linter.unusedVariables false
set_option linter.unusedSimpArgs false
namespace Go.Proofs.Ytfoigflgglpobaa.Q
open Go.RowKit Go.Proofs.Ytfoigflgglpobaa.Aid Go.Proofs.Ytfoigflgglpobaa.Tr Go.Proofs.Ytfoigflgglpobaa.Kt
set_option maxHeartbeats 400000 in
set_option maxRecDepth 100000 in
theorem All_nil (w : World) : Calls Try.prog 34 #[.pointer none] w fun e w' => e = .returned (.slice none 0 0) ∧ w = w' := by
  go_enter Try.func34, Try.ntmps34
  go_wp2
  go_ret
  exact ⟨rfl, rfl⟩
set_option maxHeartbeats 1000000 in
set_option maxRecDepth 100000 in
theorem QDrop_nil (id : Int) (w : World) :
    Calls Try.prog 31 #[.pointer none, .int .i64 id] w fun e w' => e = .returned (.tuple #[zeroT.agg', .bool false]) ∧ Below w.heap.size w w' := by
  unfold Tm.agg' zeroT
  have hb := Blk.new w 65 zeroT.cells
  have B0 : Below w.heap.size w (w.alloc (.cells zeroT.cells 65)) := (Below.refl w.heap.size w).alloc (Nat.le_refl _) _
  unfold Tm.cells zeroT at hb B0
  go_enter Try.func31, Try.ntmps31
  go_upto_region 1 with fail
  generalize w.alloc (.cells #[.int .i64 0, .int .i64 0, .int .i64 0, .int .i64 0, .bool false] 65) = W2 at hb B0 ⊢
  obtain ⟨R, hR⟩ : ∃ R, w.heap.size = R := ⟨_, rfl⟩
  rw [hR] at hb ⊢
  have HR := Lib.hid (show w.heap.size ≤ R by omega)
  clear hR
  have HB2 := Lib.hid (And.intro hb B0)
  have c0 : W2.cell? ⟨R, 0, none⟩ = some (.int .i64 0) := hb.cell 0
  have c1 : W2.cell? ⟨R, 1, none⟩ = some (.int .i64 0) := hb.cell 1
  have c2 : W2.cell? ⟨R, 2, none⟩ = some (.int .i64 0) := hb.cell 2
  have c3 : W2.cell? ⟨R, 3, none⟩ = some (.int .i64 0) := hb.cell 3
  have c4 : W2.cell? ⟨R, 4, none⟩ = some (.bool false) := hb.cell 4
  have fz := hb.frozen
  clear hb B0
  go_wp2_with fail
  refine (Has_nil _ _).mono ?_
  rintro e wz ⟨rfl, rfl⟩
  go_wp2_with fail
  clear c0 c1 c2 c3 c4
  have hb5 : Blk (set5 W2 R zeroT) R 65 zeroT.cells := set5_blk (a := zeroT) HB2.out.1
  obtain ⟨r0, r1, r2, r3, r4⟩ := bx5_cells hb5
  have B5 := set5_below (a := zeroT) HB2.out.2 HR.out
  unfold set5 zeroT at r0 r1 r2 r3 r4 B5
  exact bodyPost_ret (v := .tuple #[.agg #[.int .i64 0, .int .i64 0, .int .i64 0, .int .i64 0, .bool false], .bool false]) (by simp [results, Try.results31, go_sem, r0, r1, r2, r3, r4]) rfl ⟨rfl, B5⟩
end Go.Proofs.Ytfoigflgglpobaa.Q
/- A queue that its caller made, and timers' boxes beside it; queue's calls whose answers the document fixes. No condition. -/
set_option linter.unusedVariables false
set_option linter.unusedSimpArgs false
namespace Go.Proofs.Ytfoigflgglpobaa.Q
open Go.RowKit Go.Proofs.Ytfoigflgglpobaa.Aid Go.Proofs.Ytfoigflgglpobaa.Tr Go.Proofs.Ytfoigflgglpobaa.Kt
structure QSt (w0 W : World) (P : QP) (row : List Tm) (M : Int) : Prop where
  q : QHas W P row M
  b : Below w0.heap.size w0 W
  f : ∀ b, P.F b → w0.heap.size ≤ b
structure FSt (w0 W : World) (P : QP) (row : List Tm) (M : Int) (bx : List (Nat × Tm)) : Prop where
  s : QSt w0 W P row M
  x : ∀ e, e ∈ bx → Blk W e.1 65 e.2.cells ∧ ¬ P.F e.1
section
variable {w0 W W' : World} {P : QP} {row row' : List Tm} {M M' : Int} {bx : List (Nat × Tm)}
theorem QSt.call (h : QSt w0 W P row M) (b : Below W.heap.size W W') : QSt w0 W' P row M := ⟨h.q.below b, h.b.trans (b.mono h.b.size), h.f⟩
theorem QSt.alloc (h : QSt w0 W P row M) (o : Obj) : QSt w0 (W.alloc o) P row M := h.call ((Below.refl _ _).alloc (Nat.le_refl _) o)
theorem QSt.drewN (h : QSt w0 W P row M) (n : Nat) : QSt w0 (W.drewN n) P row M := ⟨h.q.drewN n, below_drewN h.b n, h.f⟩
theorem QSt.drew (h : QSt w0 W P row M) : QSt w0 W.drew P row M := h.drewN 1
theorem QSt.goes (h : QSt w0 W P row M) (k : QHas W' P row' M') (o : Only P.F W W') : QSt w0 W' P row' M' := ⟨k, Only.under h.b o h.f h.b.size, h.f⟩
theorem FSt.call (h : FSt w0 W P row M bx) (b : Below W.heap.size W W') : FSt w0 W' P row M bx := ⟨h.s.call b, fun e he => ⟨(h.x e he).1.below b (h.x e he).1.lt, (h.x e he).2⟩⟩
theorem FSt.goes (h : FSt w0 W P row M bx) (k : QHas W' P row' M') (o : Only P.F W W') : FSt w0 W' P row' M' bx := ⟨h.s.goes k o, fun e he => ⟨o.blk (h.x e he).1 (h.x e he).2, (h.x e he).2⟩⟩
theorem FSt.box (h : FSt w0 W P row M bx) (a : Tm) : FSt w0 (W.alloc (.cells #[.int .i64 a.id, .int .i64 a.clock, .int .i64 a.soft, .int .i64 a.hard, .bool a.lazy] 65)) P row M ((W.heap.size, a) :: bx) :=
  ⟨h.s.alloc _, fun e he => by
    rcases List.mem_cons.1 he with rfl | he
    · exact ⟨Blk.new _ _ _, fun e => Nat.lt_irrefl _ (h.s.q.foot_lt e)⟩
    · exact ⟨(h.x e he).1.alloc _, (h.x e he).2⟩⟩
theorem FSt.cells (h : FSt w0 W P row M bx) {e : Nat × Tm} (he : e ∈ bx) : W.cell? ⟨e.1, 0, none⟩ = some (.int .i64 e.2.id) ∧ W.cell? ⟨e.1, 1, none⟩ = some (.int .i64 e.2.clock) ∧ W.cell? ⟨e.1, 2, none⟩ = some (.int .i64 e.2.soft) ∧ W.cell? ⟨e.1, 3, none⟩ = some (.int .i64 e.2.hard) ∧ W.cell? ⟨e.1, 4, none⟩ = some (.bool e.2.lazy) := bx5_cells (h.x e he).1
end
def ta : Tm := ⟨1, 0, 5, 9, false⟩
def tb : Tm := ⟨2, 0, 3, 3, false⟩
def tc : Tm := ⟨0, 0, 2, 1, false⟩
theorem r1 : addR [] ta = [ta] ∧ addE [] ta = 0 := ⟨by kernel_rfl, by kernel_rfl⟩
theorem r2 : addR [ta] tb = [tb, ta] ∧ addE [ta] tb = 0 := ⟨by kernel_rfl, by kernel_rfl⟩
theorem r3 : dueB [tb, ta] 2 = false ∧ dueB [tb, ta] 3 = true := ⟨by kernel_rfl, by kernel_rfl⟩
theorem r4 : hasT [ta] 1 = true ∧ getT [ta] 1 = ta ∧ delT [ta] 1 = [] := ⟨by kernel_rfl, by kernel_rfl, by kernel_rfl⟩
theorem r5 : addR [] tc = [] ∧ addE [] tc = 2 := ⟨by kernel_rfl, by kernel_rfl⟩
theorem ga : ta.agg = .agg #[.int .i64 1, .int .i64 0, .int .i64 5, .int .i64 9, .bool false] := rfl
theorem gb : tb.agg = .agg #[.int .i64 2, .int .i64 0, .int .i64 3, .int .i64 3, .bool false] := rfl
theorem gc : tc.agg = .agg #[.int .i64 0, .int .i64 0, .int .i64 2, .int .i64 1, .bool false] := rfl
theorem gz : zeroT.agg = .agg #[.int .i64 0, .int .i64 0, .int .i64 0, .int .i64 0, .bool false] := rfl
theorem i64s (n : Int) (h : 0 ≤ n ∧ n ≤ 10) : I64 n := by unfold I64; omega
set_option maxHeartbeats 4000000 in
set_option maxRecDepth 100000 in
theorem qfixed_any (w : World) : Calls Try.prog 26 #[] w fun e w' => e = .returned (.bool true) ∧ Below w.heap.size w w' := by
  go_enter Try.func26, Try.ntmps26
  go_wp2_with fail
  refine (QHas_new w).mono ?_
  rintro e W0 ⟨P, rfl, h0, f0, b0⟩
  have L0 := Lib.hid (show FSt w W0 P [] 0 [] from ⟨⟨h0, b0, f0⟩, fun e he => by cases he⟩)
  clear h0 f0 b0
  have HC1 := Lib.hid (QHas_add L0.out.s.q ta (i64s _ (by decide)) (by omega))
  rw [r1.2, r1.1, ga] at HC1
  go_wp2_with fail
  refine HC1.out.mono ?_
  rintro e W1 ⟨rfl, h1, o1⟩
  have L1 := Lib.hid (L0.out.goes h1 o1)
  clear L0 HC1 h1 o1
  have HC1 := Lib.hid (QHas_add L1.out.s.q tb (i64s _ (by decide)) (by omega))
  rw [r2.2, r2.1, gb] at HC1
  go_wp2_with fail
  refine HC1.out.mono ?_
  rintro e W2 ⟨rfl, h1, o1⟩
  have L2 := Lib.hid (L1.out.goes h1 o1)
  clear L1 HC1 h1 o1
  have HC1 := Lib.hid (show Calls Try.prog 35 #[P.v] W2 fun e w' => e = .returned (.tuple #[.agg #[.int .i64 2, .int .i64 0, .int .i64 3, .int .i64 3, .bool false], .bool true]) ∧ Below W2.heap.size W2 w' from QHas_first L2.out.s.q)
  go_wp2_with fail
  refine HC1.out.mono ?_
  rintro e W3 ⟨rfl, b3⟩
  have L3 := Lib.hid (show FSt w (W3.alloc (.cells #[.int .i64 2, .int .i64 0, .int .i64 3, .int .i64 3, .bool false] 65)) P [tb, ta] (0 + 1 + 1) [(W3.heap.size, tb)] from (L2.out.call b3).box tb)
  clear L2 HC1 b3
  go_upto_region 5 with fail
  generalize W3.alloc (.cells #[.int .i64 2, .int .i64 0, .int .i64 3, .int .i64 3, .bool false] 65) = V3 at L3 ⊢
  generalize W3.heap.size = a3 at L3 ⊢
  have HC1 := Lib.hid (show Calls Try.prog 32 #[P.v, .int .i64 2] V3 fun e w' => e = .returned (.tuple #[.agg #[.int .i64 0, .int .i64 0, .int .i64 0, .int .i64 0, .bool false], .bool false]) ∧ QHas w' P [tb, ta] (0 + 1 + 1) ∧ Only P.F V3 w' from by
    have C1 := QHas_due L3.out.s.q 2
    rw [r3.1] at C1
    exact C1)
  go_wp2_with fail
  refine HC1.out.mono ?_
  rintro e W4 ⟨rfl, h1, o1⟩
  have L4 := Lib.hid (show FSt w (W4.alloc (.cells #[.int .i64 0, .int .i64 0, .int .i64 0, .int .i64 0, .bool false] 65)) P [tb, ta] (0 + 1 + 1) [(W4.heap.size, zeroT), (a3, tb)] from (L3.out.goes h1 o1).box zeroT)
  clear L3 HC1 h1 o1
  go_upto_region 6 with fail
  generalize W4.alloc (.cells #[.int .i64 0, .int .i64 0, .int .i64 0, .int .i64 0, .bool false] 65) = V4 at L4 ⊢
  generalize W4.heap.size = a4 at L4 ⊢
  have HC1 := Lib.hid (show Calls Try.prog 32 #[P.v, .int .i64 3] V4 fun e w' => e = .returned (.tuple #[.agg #[.int .i64 2, .int .i64 0, .int .i64 3, .int .i64 3, .bool false], .bool true]) ∧ QHas w' P [ta] (0 + 1 + 1) ∧ Only P.F V4 w' from by
    have C1 := QHas_due L4.out.s.q 3
    rw [r3.2] at C1
    exact C1)
  go_wp2_with fail
  refine HC1.out.mono ?_
  rintro e W5 ⟨rfl, h1, o1⟩
  have L5 := Lib.hid (show FSt w (W5.alloc (.cells #[.int .i64 2, .int .i64 0, .int .i64 3, .int .i64 3, .bool false] 65)) P [ta] (0 + 1 + 1) [(W5.heap.size, tb), (a4, zeroT), (a3, tb)] from (L4.out.goes h1 o1).box tb)
  clear L4 HC1 h1 o1
  go_upto_region 7 with fail
  generalize W5.alloc (.cells #[.int .i64 2, .int .i64 0, .int .i64 3, .int .i64 3, .bool false] 65) = V5 at L5 ⊢
  generalize W5.heap.size = a5 at L5 ⊢
  have HC1 := Lib.hid (QHas_drop L5.out.s.q 1 (i64s _ (by decide)))
  rw [r4.1, r4.2.1, r4.2.2, ga] at HC1
  go_wp2_with fail
  refine HC1.out.mono ?_
  rintro e W6 ⟨rfl, h1, o1⟩
  have L6 := Lib.hid (show FSt w (W6.alloc (.cells #[.int .i64 1, .int .i64 0, .int .i64 5, .int .i64 9, .bool false] 65)) P [] (0 + 1 + 1) [(W6.heap.size, ta), (a5, tb), (a4, zeroT), (a3, tb)] from (L5.out.goes h1 o1).box ta)
  clear L5 HC1 h1 o1
  go_upto_region 8 with fail
  generalize W6.alloc (.cells #[.int .i64 1, .int .i64 0, .int .i64 5, .int .i64 9, .bool false] 65) = V6 at L6 ⊢
  generalize W6.heap.size = a6 at L6 ⊢
  obtain ⟨p30, p31, p32, p33, p34⟩ := L6.out.cells (e := (a3, tb)) (by simp)
  obtain ⟨p50, p51, p52, p53, p54⟩ := L6.out.cells (e := (a5, tb)) (by simp)
  obtain ⟨p60, p61, p62, p63, p64⟩ := L6.out.cells (e := (a6, ta)) (by simp)
  dsimp only [ta, tb] at p30 p31 p32 p33 p34 p50 p51 p52 p53 p54 p60 p61 p62 p63 p64
  have HN := Lib.hid (QHas_len L6.out.s.q)
  have HA := Lib.hid (QHas_add L6.out.s.q tc (i64s _ (by decide)) (by omega))
  rw [r5.1, r5.2, gc] at HA
  go_wp2_with fail
  refine HN.out.mono ?_
  rintro e W7 ⟨rfl, rfl⟩
  clear HN
  go_wp2_with fail
  refine HA.out.mono ?_
  rintro e W7 ⟨rfl, h1, o1⟩
  have L7 := Lib.hid (L6.out.goes h1 o1)
  clear L6 HA h1 o1 p30 p31 p32 p33 p34
  obtain ⟨p30, p31, p32, p33, p34⟩ := L7.out.cells (e := (a3, tb)) (by simp)
  dsimp only [tb] at p30 p31 p32 p33 p34
  have HA := Lib.hid (Add_nil tb W7)
  rw [gb] at HA
  go_wp2_with fail
  refine HA.out.mono ?_
  rintro e W8 ⟨rfl, b8⟩
  have L8 := Lib.hid (L7.out.call b8)
  clear L7 HA b8 p30 p31 p32 p33 p34
  go_wp2_with (first
    | (refine (Has_nil 1 _).mono ?_; rintro e W9 ⟨rfl, rfl⟩)
    | (refine (QLen_nil _).mono ?_; rintro e W9 ⟨rfl, rfl⟩))
  go_ret
  exact ⟨rfl, L8.out.s.b⟩
end Go.Proofs.Ytfoigflgglpobaa.Q
/- QueuePlays: what stands from round to round, in plain Lean. No condition. -/
set_option linter.unusedVariables false
set_option linter.unusedSimpArgs false
namespace Go.Proofs.Ytfoigflgglpobaa.Q
open Go.RowKit Go.Proofs.Ytfoigflgglpobaa.Aid Go.Proofs.Ytfoigflgglpobaa.Tr Go.Proofs.Ytfoigflgglpobaa.Kt
/-- an act: its kind, a timer, a time -/
structure QA where
  kind : Int
  t : Tm
  now : Int
def QA.cells (a : QA) : Array Value := #[.int .u8 a.kind, .int .i64 a.t.id, .int .i64 a.t.clock, .int .i64 a.t.soft, .int .i64 a.t.hard, .bool a.t.lazy, .int .i64 a.now]
def ActQ (w : World) (x : Addr) (a : QA) : Prop := w.cell? x = some (.int .u8 a.kind) ∧ w.cell? ⟨x.block, x.off + 1, none⟩ = some (.int .i64 a.t.id) ∧ w.cell? ⟨x.block, x.off + 2, none⟩ = some (.int .i64 a.t.clock) ∧ w.cell? ⟨x.block, x.off + 3, none⟩ = some (.int .i64 a.t.soft) ∧ w.cell? ⟨x.block, x.off + 4, none⟩ = some (.int .i64 a.t.hard) ∧ w.cell? ⟨x.block, x.off + 5, none⟩ = some (.bool a.t.lazy) ∧ w.cell? ⟨x.block, x.off + 6, none⟩ = some (.int .i64 a.now)
/-- the acts that came in, as they read whenever nothing old has changed -/
def ActsQ (w : World) (B : Nat) (A : Option Addr) (n : Nat) : Prop := ∀ k, k < n → ∃ x, A = some x ∧ ∃ a : QA, (0 ≤ a.kind ∧ a.kind ≤ 255) ∧ I64 a.t.id ∧ ∀ w', Below B w w' → ActQ w' (x.add (k * 7)) a
theorem i64_of {n : Int} (h : -9223372036854775808 ≤ n ∧ n ≤ 9223372036854775807) : I64 n := h
theorem actsQ_of {w : World} {A : Option Addr} {n : Nat} (h : Leaf.Row w [.int .u8, .int .i64, .int .i64, .int .i64, .int .i64, .bool, .int .i64] A n) : ActsQ w w.heap.size A n := by
  intro k hk
  rcases h with rfl | ⟨x, E, rfl, hx, _, hE⟩
  · omega
  obtain ⟨hf, hc⟩ := hE k hk
  obtain ⟨k0, r0, e0, w0, f0⟩ := hf.int
  obtain ⟨k1, r1, rfl, w1, f1⟩ := f0.int
  obtain ⟨k2, r2, rfl, w2, f2⟩ := f1.int
  obtain ⟨k3, r3, rfl, w3, f3⟩ := f2.int
  obtain ⟨k4, r4, rfl, w4, f4⟩ := f3.int
  obtain ⟨k5, r5, rfl, f5⟩ := f4.bool
  obtain ⟨k6, r6, rfl, w6, f6⟩ := f5.int
  obtain rfl := f6.done
  refine ⟨x, rfl, ⟨k0, ⟨k1, k2, k3, k4, k5⟩, k6⟩, bounds_u8 w0, i64_of (bounds_i64 w1), fun w' hb => ?_⟩
  have c := fun j hj v hv => Leaf.cell_of (c := 7) (j := j) (v := v) hc hj hv
  have key : ∀ q : Addr, q.block = x.block → w'.cell? q = w.cell? q := fun q hq => hb.cell (by rw [hq]; exact hx)
  exact ⟨(key _ (add_block _ _)).trans (c 0 (by decide) _ (by rw [e0]; rfl)), (key ⟨(x.add (k * 7)).block, (x.add (k * 7)).off + 1, none⟩ (add_block _ _)).trans (c 1 (by decide) _ (by rw [e0]; rfl)), (key ⟨(x.add (k * 7)).block, (x.add (k * 7)).off + 2, none⟩ (add_block _ _)).trans (c 2 (by decide) _ (by rw [e0]; rfl)), (key ⟨(x.add (k * 7)).block, (x.add (k * 7)).off + 3, none⟩ (add_block _ _)).trans (c 3 (by decide) _ (by rw [e0]; rfl)), (key ⟨(x.add (k * 7)).block, (x.add (k * 7)).off + 4, none⟩ (add_block _ _)).trans (c 4 (by decide) _ (by rw [e0]; rfl)), (key ⟨(x.add (k * 7)).block, (x.add (k * 7)).off + 5, none⟩ (add_block _ _)).trans (c 5 (by decide) _ (by rw [e0]; rfl)), (key ⟨(x.add (k * 7)).block, (x.add (k * 7)).off + 6, none⟩ (add_block _ _)).trans (c 6 (by decide) _ (by rw [e0]; rfl))⟩
/-- what stands in QueuePlays: the queue, and the law's row -/
structure LMd (w0 W : World) (P : QP) (row : List Tm) (base : Nat) (v : Value) (l : List Tm) (M : Int) : Prop where
  s : QSt w0 W P row M
  r : RSl W base v l
  d : (∀ b, P.F b → b < base) ∧ w0.heap.size ≤ base ∧ base ≤ W.heap.size
section
variable {w0 W W' : World} {P : QP} {row row' l l' : List Tm} {base : Nat} {v v' : Value} {M M' : Int}
theorem LMd.call (h : LMd w0 W P row base v l M) (b : Below W.heap.size W W') : LMd w0 W' P row base v l M := ⟨h.s.call b, rsl_below h.r b, h.d.1, h.d.2.1, Nat.le_trans h.d.2.2 b.size⟩
theorem LMd.alloc (h : LMd w0 W P row base v l M) (o : Obj) : LMd w0 (W.alloc o) P row base v l M := h.call ((Below.refl _ _).alloc (Nat.le_refl _) o)
theorem LMd.drewN (h : LMd w0 W P row base v l M) (n : Nat) : LMd w0 (W.drewN n) P row base v l M := ⟨h.s.drewN n, rsl_drewN h.r n, h.d⟩
theorem LMd.drew (h : LMd w0 W P row base v l M) : LMd w0 W.drew P row base v l M := h.drewN 1
theorem LMd.goes (h : LMd w0 W P row base v l M) (k : QHas W' P row' M') (o : Only P.F W W') : LMd w0 W' P row' base v l M' :=
  ⟨h.s.goes k o, rsl_only h.r o (fun b hb hF => by have := h.d.1 b hF; omega), h.d.1, h.d.2.1, Nat.le_trans h.d.2.2 o.size⟩
theorem LMd.rowed (h : LMd w0 W P row base v l M) (r : RSl W base v' l') : LMd w0 W P row base v' l' M := ⟨h.s, r, h.d⟩
theorem LMd.mono (h : LMd w0 W P row base v l M) (hM : M ≤ M') : LMd w0 W P row base v l M' := ⟨⟨h.s.q.mono hM, h.s.b, h.s.f⟩, h.r, h.d⟩
theorem LMd.stands (h : LMd w0 W P row base v l M) : Stands (fun W' => LMd w0 W' P row base v l M ∧ W.heap.size ≤ W'.heap.size) W.heap.size := by
  have hv : ∀ b, v.ownBlock = some b → b < W.heap.size := fun b hb => (rsl_block h.r hb).2
  have hF : ∀ b, P.F b → b < W.heap.size := fun b hb => h.s.q.foot_lt hb
  refine ⟨fun W' h' => h'.2, fun W' o h' => ⟨h'.1.alloc o, by simp; omega⟩, fun W' h' => ⟨h'.1.drew, h'.2⟩, fun W1 W2 row1 h' g' hr => ?_⟩
  have ne : ∀ b, b < W.heap.size → some b ≠ row1 := fun b hb e => by have := hr b e.symm; omega
  have d := h'.1.d
  have d0 := h.d
  have sz := g'.size
  refine ⟨⟨⟨h'.1.s.q.same fun b hb => g'.block b (h'.1.s.q.foot_lt hb) (ne b (hF b hb)), ?_, h'.1.s.f⟩, rsl_same h'.1.r fun b hb => g'.block b (rsl_block h'.1.r hb).2 (ne b (hv b hb)), d.1, d.2.1, by omega⟩, by omega⟩
  exact h'.1.s.b.grown g' h'.1.s.b.size (fun k hk => by have := hr k hk; omega)
end
/-- where it is in a row, and whether -/
theorem plc_no {row : List Tm} {id r : Int} (h : PlcIs row id r) (hn : hasT row id = false) : r = -1 := by
  rcases h with ⟨h, _⟩ | ⟨k, b, rfl, hk, hb, e⟩
  · exact h
  · have : hasT row id = true := List.any_eq_true.2 ⟨b, List.mem_of_getElem? hb, decide_eq_true e⟩
    rw [hn] at this; cases this
theorem split_at {α : Type} {l : List α} {k : Nat} {b : α} (h : l[k]? = some b) : l = l.take k ++ b :: l.drop (k + 1) := by
  have hk : k < l.length := (List.getElem?_eq_some_iff.1 h).1
  have h1 := (List.take_append_drop k l).symm
  rw [List.drop_eq_getElem_cons hk] at h1
  have h2 : l[k] = b := by rw [List.getElem?_eq_getElem hk] at h; injection h
  rw [h2] at h1
  exact h1
theorem plc_yes {row : List Tm} {id r : Int} (h : PlcIs row id r) (hd : (row.map Tm.id).Nodup) (hy : hasT row id = true) : ∃ k : Nat, r = k ∧ k < row.length ∧ row[k]? = some (getT row id) ∧ delT row id = row.take k ++ row.drop (k + 1) := by
  rcases h with ⟨_, hn⟩ | ⟨k, b, rfl, hk, hb, e⟩
  · obtain ⟨b, hb, e⟩ := List.any_eq_true.1 hy
    exact absurd (of_decide_eq_true e) (hn b hb)
  · have hs := split_at hb
    have h1 : ∀ c, c ∈ row.take k → ¬ (decide (c.id = id)) = true := fun c hc e' => by
      rw [hs, List.map_append, List.map_cons, List.nodup_append] at hd
      exact hd.2.2 c.id (List.mem_map.2 ⟨c, hc, rfl⟩) b.id (by simp) ((of_decide_eq_true e').trans e.symm)
    have h2 : getT row id = b := by
      unfold getT
      rw [hs, List.find?_append, List.find?_eq_none.2 h1, Option.none_or, List.find?_cons_of_pos (by simp [e])]
      rfl
    refine ⟨k, rfl, hk, by rw [h2]; exact hb, ?_⟩
    have h3 : delT (row.take k ++ b :: row.drop (k + 1)) id = row.take k ++ row.drop (k + 1) := by
      unfold delT
      rw [List.eraseP_append_right _ h1, List.eraseP_cons_of_pos (by simp [e])]
    rw [← hs] at h3
    exact h3
theorem hasT_mem {row : List Tm} {a : Tm} (h : a ∈ row) : hasT row a.id = true := List.any_eq_true.2 ⟨a, h, decide_eq_true rfl⟩
theorem insT_len (a : Tm) (l : List Tm) : (insT a l).length = l.length + 1 := by
  have := atT_le a l
  unfold insT
  simp only [List.length_append, List.length_take, List.length_cons, List.length_drop]
  omega
theorem delT_no {row : List Tm} {id : Int} (h : hasT row id = false) : delT row id = row := by
  refine List.eraseP_of_forall_not fun b hb e => ?_
  have : hasT row id = true := List.any_eq_true.2 ⟨b, hb, e⟩
  rw [h] at this; cases this
def QRl (w0 : World) (P : QP) (base N : Nat) (m : Nat) (s4 s27 : Value) (wr : World) : Prop :=
  ∃ (k : Nat) (row : List Tm), k ≤ N ∧ m = N - k ∧ s27 = .int .i64 k ∧ LMd w0 wr P row base s4 row k
def QCut (w0 : World) (P : QP) (base k : Nat) (s4 : Value) (wx : World) : Prop := ∃ row, LMd w0 wx P row base s4 row (k + 1 : Nat)
def QIn (w0 : World) (P : QP) (row : List Tm) (base : Nat) (v v14 : Value) (M : Int) (m : Nat) (s186 : Value) (wr : World) : Prop :=
  ∃ j : Nat, j ≤ row.length ∧ m = row.length - j ∧ s186 = .int .i64 j ∧ LMd w0 wr P row base v row M ∧ RSl wr base v14 row
end Go.Proofs.Ytfoigflgglpobaa.Q
