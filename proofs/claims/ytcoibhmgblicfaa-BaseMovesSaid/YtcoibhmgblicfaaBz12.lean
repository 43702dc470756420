/- Lemmas and contracts for RowBaseMoves, merged by program out of Qm, Qt, Ba, Bb, Bc, Bd. No condition. -/
import Derived.Test.YtcoibhmgblicfaaBz10
import Derived.Test.YtcoibhmgblicfaaBz11
import Derived.Shelf.Abstract
set_option linter.unusedVariables false
set_option linter.unusedSimpArgs false
/- The contracts of queue's functions for a queue that is none. No condition. -/
set_option linter.unusedVariables false
set_option linter.unusedSimpArgs false
namespace Go.Proofs.Ytcoibhmgblicfaa.Q
open Go.RowKit Go.Proofs.Ytcoibhmgblicfaa.Aid Go.Proofs.Ytcoibhmgblicfaa.Tr Go.Proofs.Ytcoibhmgblicfaa.Kt
set_option maxHeartbeats 400000 in
set_option maxRecDepth 100000 in
theorem All_nil (w : World) : Calls Try.prog 32 #[.pointer none] w fun e w' => e = .returned (.slice none 0 0) ∧ w = w' := by
  go_enter Try.func32, Try.ntmps32
  go_wp2
  go_ret
  exact ⟨rfl, rfl⟩
set_option maxHeartbeats 1000000 in
set_option maxRecDepth 100000 in
theorem QDrop_nil (id : Int) (w : World) :
    Calls Try.prog 24 #[.pointer none, .int .i64 id] w fun e w' => e = .returned (.tuple #[zeroT.agg', .bool false]) ∧ Below w.heap.size w w' := by
  unfold Tm.agg' zeroT
  have hb := Blk.new w 29 zeroT.cells
  have B0 : Below w.heap.size w (w.alloc (.cells zeroT.cells 29)) := (Below.refl w.heap.size w).alloc (Nat.le_refl _) _
  unfold Tm.cells zeroT at hb B0
  go_enter Try.func24, Try.ntmps24
  go_upto_region 1 with fail
  generalize w.alloc (.cells #[.int .i64 0, .int .i64 0, .int .i64 0, .int .i64 0, .bool false] 29) = W2 at hb B0 ⊢
  obtain ⟨R, hR⟩ : ∃ R, w.heap.size = R := ⟨_, rfl⟩
  rw [hR] at hb ⊢
  have HR := Lib.hid (show w.heap.size ≤ R by omega)
  clear hR
  have HB2 := Lib.hid (And.intro hb B0)
  have c0 : W2.cell? ⟨R, 0, none⟩ = some (.int .i64 0) := hb.cell 0
  have c1 : W2.cell? ⟨R, 1, none⟩ = some (.int .i64 0) := hb.cell 1
  have c2 : W2.cell? ⟨R, 2, none⟩ = some (.int .i64 0) := hb.cell 2
  have c3 : W2.cell? ⟨R, 3, none⟩ = some (.int .i64 0) := hb.cell 3
  have c4 : W2.cell? ⟨R, 4, none⟩ = some (.bool false) := hb.cell 4
  have fz := hb.frozen
  clear hb B0
  go_wp2_with fail
  refine (Has_nil _ _).mono ?_
  rintro e wz ⟨rfl, rfl⟩
  go_wp2_with fail
  clear c0 c1 c2 c3 c4
  have hb5 : Blk (set5 W2 R zeroT) R 29 zeroT.cells := set5_blk (a := zeroT) HB2.out.1
  obtain ⟨r0, r1, r2, r3, r4⟩ := bx5_cells hb5
  have B5 := set5_below (a := zeroT) HB2.out.2 HR.out
  unfold set5 zeroT at r0 r1 r2 r3 r4 B5
  exact bodyPost_ret (v := .tuple #[.agg #[.int .i64 0, .int .i64 0, .int .i64 0, .int .i64 0, .bool false], .bool false]) (by simp [results, Try.results24, go_sem, r0, r1, r2, r3, r4]) rfl ⟨rfl, B5⟩
end Go.Proofs.Ytcoibhmgblicfaa.Q
/- A queue that its caller made, and timers' boxes beside it; queue's calls whose answers the document fixes. No condition. -/
set_option linter.unusedVariables false
set_option linter.unusedSimpArgs false
namespace Go.Proofs.Ytcoibhmgblicfaa.Q
open Go.RowKit Go.Proofs.Ytcoibhmgblicfaa.Aid Go.Proofs.Ytcoibhmgblicfaa.Tr Go.Proofs.Ytcoibhmgblicfaa.Kt
structure QSt (w0 W : World) (P : QP) (row : List Tm) (M : Int) : Prop where
  q : QHas W P row M
  b : Below w0.heap.size w0 W
  f : ∀ b, P.F b → w0.heap.size ≤ b
structure FSt (w0 W : World) (P : QP) (row : List Tm) (M : Int) (bx : List (Nat × Tm)) : Prop where
  s : QSt w0 W P row M
  x : ∀ e, e ∈ bx → Blk W e.1 29 e.2.cells ∧ ¬ P.F e.1
section
variable {w0 W W' : World} {P : QP} {row row' : List Tm} {M M' : Int} {bx : List (Nat × Tm)}
theorem QSt.call (h : QSt w0 W P row M) (b : Below W.heap.size W W') : QSt w0 W' P row M := ⟨h.q.below b, h.b.trans (b.mono h.b.size), h.f⟩
theorem QSt.alloc (h : QSt w0 W P row M) (o : Obj) : QSt w0 (W.alloc o) P row M := h.call ((Below.refl _ _).alloc (Nat.le_refl _) o)
theorem QSt.drewN (h : QSt w0 W P row M) (n : Nat) : QSt w0 (W.drewN n) P row M := ⟨h.q.drewN n, below_drewN h.b n, h.f⟩
theorem QSt.drew (h : QSt w0 W P row M) : QSt w0 W.drew P row M := h.drewN 1
theorem QSt.goes (h : QSt w0 W P row M) (k : QHas W' P row' M') (o : Only P.F W W') : QSt w0 W' P row' M' := ⟨k, Only.under h.b o h.f h.b.size, h.f⟩
theorem FSt.call (h : FSt w0 W P row M bx) (b : Below W.heap.size W W') : FSt w0 W' P row M bx := ⟨h.s.call b, fun e he => ⟨(h.x e he).1.below b (h.x e he).1.lt, (h.x e he).2⟩⟩
theorem FSt.goes (h : FSt w0 W P row M bx) (k : QHas W' P row' M') (o : Only P.F W W') : FSt w0 W' P row' M' bx := ⟨h.s.goes k o, fun e he => ⟨o.blk (h.x e he).1 (h.x e he).2, (h.x e he).2⟩⟩
theorem FSt.box (h : FSt w0 W P row M bx) (a : Tm) : FSt w0 (W.alloc (.cells #[.int .i64 a.id, .int .i64 a.clock, .int .i64 a.soft, .int .i64 a.hard, .bool a.lazy] 29)) P row M ((W.heap.size, a) :: bx) :=
  ⟨h.s.alloc _, fun e he => by
    rcases List.mem_cons.1 he with rfl | he
    · exact ⟨Blk.new _ _ _, fun e => Nat.lt_irrefl _ (h.s.q.foot_lt e)⟩
    · exact ⟨(h.x e he).1.alloc _, (h.x e he).2⟩⟩
theorem FSt.cells (h : FSt w0 W P row M bx) {e : Nat × Tm} (he : e ∈ bx) : W.cell? ⟨e.1, 0, none⟩ = some (.int .i64 e.2.id) ∧ W.cell? ⟨e.1, 1, none⟩ = some (.int .i64 e.2.clock) ∧ W.cell? ⟨e.1, 2, none⟩ = some (.int .i64 e.2.soft) ∧ W.cell? ⟨e.1, 3, none⟩ = some (.int .i64 e.2.hard) ∧ W.cell? ⟨e.1, 4, none⟩ = some (.bool e.2.lazy) := bx5_cells (h.x e he).1
end
def ta : Tm := ⟨1, 0, 5, 9, false⟩
def tb : Tm := ⟨2, 0, 3, 3, false⟩
def tc : Tm := ⟨0, 0, 2, 1, false⟩
theorem r1 : addR [] ta = [ta] ∧ addE [] ta = 0 := ⟨by kernel_rfl, by kernel_rfl⟩
theorem r2 : addR [ta] tb = [tb, ta] ∧ addE [ta] tb = 0 := ⟨by kernel_rfl, by kernel_rfl⟩
theorem r3 : dueB [tb, ta] 2 = false ∧ dueB [tb, ta] 3 = true := ⟨by kernel_rfl, by kernel_rfl⟩
theorem r4 : hasT [ta] 1 = true ∧ getT [ta] 1 = ta ∧ delT [ta] 1 = [] := ⟨by kernel_rfl, by kernel_rfl, by kernel_rfl⟩
theorem r5 : addR [] tc = [] ∧ addE [] tc = 2 := ⟨by kernel_rfl, by kernel_rfl⟩
theorem ga : ta.agg = .agg #[.int .i64 1, .int .i64 0, .int .i64 5, .int .i64 9, .bool false] := rfl
theorem gb : tb.agg = .agg #[.int .i64 2, .int .i64 0, .int .i64 3, .int .i64 3, .bool false] := rfl
theorem gc : tc.agg = .agg #[.int .i64 0, .int .i64 0, .int .i64 2, .int .i64 1, .bool false] := rfl
theorem gz : zeroT.agg = .agg #[.int .i64 0, .int .i64 0, .int .i64 0, .int .i64 0, .bool false] := rfl
theorem i64s (n : Int) (h : 0 ≤ n ∧ n ≤ 10) : I64 n := by unfold I64; omega
end Go.Proofs.Ytcoibhmgblicfaa.Q
/- A base in memory: its six queues; and going through them by a call. No condition but that memory holds a base. -/
set_option linter.unusedVariables false
set_option linter.unusedSimpArgs false
namespace Go.Proofs.Ytcoibhmgblicfaa.Ba
open Go.RowKit Go.Proofs.Ytcoibhmgblicfaa.Aid Go.Proofs.Ytcoibhmgblicfaa.Tr Go.Proofs.Ytcoibhmgblicfaa.Kt Go.Proofs.Ytcoibhmgblicfaa.Q
/-- the six pointers -/
def sixv (P : Nat → QP) : Array Value := #[(P 0).v, (P 1).v, (P 2).v, (P 3).v, (P 4).v, (P 5).v]
/-- memory holds a base: of each clock two queues -/
structure BHas (w : World) (b : Nat) (P : Nat → QP) (rows : Nat → List Tm) (M : Int) : Prop where
  bb : Blk w b 52 (sixv P)
  q : ∀ i, i < 6 → QHas w (P i) (rows i) M
  d : ∀ i j, i < 6 → j < 6 → i ≠ j → ∀ x, (P i).F x → ¬ (P j).F x
  nb : ∀ i, i < 6 → ¬ (P i).F b
/-- the base's blocks -/
def BF (b : Nat) (P : Nat → QP) (x : Nat) : Prop := x = b ∨ ∃ i, i < 6 ∧ (P i).F x
section
variable {w w' : World} {b : Nat} {P : Nat → QP} {rows rows' : Nat → List Tm} {M M' : Int}
theorem BHas.foot_lt (h : BHas w b P rows M) {x : Nat} (hx : BF b P x) : x < w.heap.size := by
  rcases hx with rfl | ⟨i, hi, hx⟩
  · exact h.bb.lt
  · exact (h.q i hi).foot_lt hx
theorem BHas.same (h : BHas w b P rows M) (e : ∀ x, BF b P x → w'.heap[x]? = w.heap[x]?) : BHas w' b P rows M :=
  ⟨(e b (.inl rfl)).trans h.bb, fun i hi => (h.q i hi).same fun x hx => e x (.inr ⟨i, hi, hx⟩), h.d, h.nb⟩
theorem BHas.below (h : BHas w b P rows M) (k : Below w.heap.size w w') : BHas w' b P rows M := h.same fun i hi => k.block i (h.foot_lt hi)
theorem BHas.alloc (h : BHas w b P rows M) (o : Obj) : BHas (w.alloc o) b P rows M := h.below ((Below.refl _ _).alloc (Nat.le_refl _) o)
theorem BHas.drewN (h : BHas w b P rows M) (n : Nat) : BHas (w.drewN n) b P rows M := h.same fun _ _ => rfl
theorem BHas.mono (h : BHas w b P rows M) (hM : M ≤ M') : BHas w b P rows M' := ⟨h.bb, fun i hi => (h.q i hi).mono hM, h.d, h.nb⟩
/-- one queue goes on -/
theorem BHas.goes (h : BHas w b P rows M) {i : Nat} (hi : i < 6) {row : List Tm} (k : QHas w' (P i) row M') (o : Only (P i).F w w') (hM : M ≤ M') : BHas w' b P (fun j => if j = i then row else rows j) M' :=
  ⟨o.blk h.bb (h.nb i hi), fun j hj => by
    by_cases e : j = i
    · subst e; rw [if_pos rfl]; exact k
    · rw [if_neg e]; exact ((h.q j hj).only o (fun x hx => h.d j i hj hi e x hx)).mono hM, h.d, h.nb⟩
end
theorem six_at (P : Nat → QP) : ∀ i, i < 6 → (sixv P)[i]? = some (P i).v
  | 0, _ => rfl
  | 1, _ => rfl
  | 2, _ => rfl
  | 3, _ => rfl
  | 4, _ => rfl
  | 5, _ => rfl
theorem infoQ : (Try.prog.info? 48).map (fun i => (i.zero, i.size, i.bytes)) = some (some (.pointer none), 1, 8) := by kernel_rfl
theorem idx2 (cs : Array Value) (i : Nat) (v : Value) (hi : i < 2) (hv : cs[i]? = some v) (W : World) : (Instr.index 49 (.agg cs) (.int .i64 i)).run Try.prog W = .ok v W := by
  have h1 : (0 : Int) ≤ i ∧ (i : Int) < 2 := by omega
  obtain ⟨i0, hinf, hz0, hz1, hz2⟩ := info_parts infoQ
  simp [Instr.index, run_underlying Try.underlying49, asIntOf, h1, go_sem, part, Try.underlying48, sizeOf, typeInfo, hv, hinf, hz1, hi]
set_option maxHeartbeats 2000000 in
set_option maxRecDepth 100000 in
/-- going through all queues: J i holds ahead of the i-th call; D behind one that says no -/
theorem each_any (b : Nat) (P : Nat → QP) (fid : FuncId) (caps : Array Value) (J : Nat → World → Prop) (D : World → Prop) (w : World)
    (heg : ∀ args W, (callFunc fid args).run Try.prog W = .ok (.enter fid args) W)
    (hB : ∀ i W, J i W → Blk W b 52 (sixv P))
    (hs : ∀ i, i < 6 → ∀ W, J i W → Calls Try.prog fid (#[.int .i64 ((i / 2 : Nat) : Int), .int .i64 ((i % 2 : Nat) : Int), (P i).v] ++ caps) W fun e W' => (e = .returned (.bool true) ∧ J (i + 1) W') ∨ (e = .returned (.bool false) ∧ D W'))
    (h0 : J 0 w) : Calls Try.prog 22 #[.pointer (some ⟨b, 0, none⟩), .func (.func fid) #[] caps] w fun e w' => e = .returned (.tuple #[]) ∧ (J 6 w' ∨ D w') := by
  have HS := Lib.hid hs
  have HB := Lib.hid hB
  have H0 := Lib.hid h0
  clear hs hB h0
  go_enter Try.func22, Try.ntmps22
  go_wp2_with fail
  go_loopg [9] 3 (fun m s9 wr => ∃ k : Nat, k ≤ 3 ∧ m = 3 - k ∧ s9 = .int .i64 k ∧ J (2 * k) wr)
  case atStart => exact ⟨0, by omega, rfl, rfl, H0.out⟩
  case round =>
    obtain ⟨k, hk, rfl, rfl, hj⟩ := hrel
    clear H0
    by_cases hlt : k < 3
    · have hbb := HB.out _ _ hj
      have c0 : wr.cell? ⟨b, k * 2, none⟩ = some (P (2 * k)).v := (hbb.cell (k * 2)).trans (by rw [Nat.mul_comm]; exact six_at P _ (by omega))
      have c1 : wr.cell? ⟨b, k * 2 + 1, none⟩ = some (P (2 * k + 1)).v := (hbb.cell (k * 2 + 1)).trans (by rw [Nat.mul_comm]; exact six_at P _ (by omega))
      have HJ := Lib.hid hj
      clear hbb hj
      go_wp2_with fail
      clear c0 c1
      rw [show decide ((k : Int) < 3) = true from decide_eq_true (by omega)]
      go_loopg [18] 2 (fun m s18 wr => ∃ j : Nat, j ≤ 2 ∧ m = 2 - j ∧ s18 = .int .i64 j ∧ J (2 * k + j) wr)
      case atStart => exact ⟨0, by omega, by omega, rfl, HJ.out⟩
      case round =>
        obtain ⟨j, hj2, rfl, rfl, hj⟩ := hrel
        clear HJ
        by_cases hl2 : j < 2
        · have HJ := Lib.hid hj
          clear hj
          have cs := HS.out (2 * k + j) (by omega) _ HJ.out
          rw [show (2 * k + j) / 2 = k by omega, show (2 * k + j) % 2 = j by omega] at cs
          have ci : (#[(P (2 * k)).v, (P (2 * k + 1)).v] : Array Value)[j]? = some (P (2 * k + j)).v := by
            rcases (by omega : j = 0 ∨ j = 1) with rfl | rfl <;> rfl
          have hx := idx2 _ j _ hl2 ci
          have CS := Lib.hid cs
          clear cs ci
          go_wp2_with fail
          refine CS.out.mono ?_
          rintro e W5 (⟨rfl, h5⟩ | ⟨rfl, h5⟩)
          · go_wp2_with fail
            go_roundg (2 - (j + 1))
            case measure => omega
            case rel => exact ⟨j + 1, by omega, rfl, by go_num, h5⟩
          · go_wp2_with fail
            exact bodyPost_ret (v := .tuple #[]) (by simp [results, Try.results22, go_sem]) rfl ⟨rfl, .inr h5⟩
        · have hje : j = 2 := by omega
          subst hje
          have HJ := Lib.hid hj
          clear hj
          go_wp2_with fail
          go_roundg (3 - (k + 1))
          case measure => omega
          case rel => exact ⟨k + 1, by omega, rfl, by go_num, HJ.out⟩
    · have hke : k = 3 := by omega
      subst hke
      have HJ := Lib.hid hj
      clear hj
      go_wp2_with fail
      go_end0
      exact ⟨rfl, .inl HJ.out⟩
end Go.Proofs.Ytcoibhmgblicfaa.Ba
/- Base's Has and Len. No condition but that memory holds a base. -/
set_option linter.unusedVariables false
set_option linter.unusedSimpArgs false
namespace Go.Proofs.Ytcoibhmgblicfaa.Ba
open Go.RowKit Go.Proofs.Ytcoibhmgblicfaa.Aid Go.Proofs.Ytcoibhmgblicfaa.Tr Go.Proofs.Ytcoibhmgblicfaa.Kt Go.Proofs.Ytcoibhmgblicfaa.Q
def one (g : Nat) (x : Nat) : Prop := x = g
def hasB (rows : Nat → List Tm) (id : Int) : Bool := hasT (rows 0) id || hasT (rows 1) id || hasT (rows 2) id || hasT (rows 3) id || hasT (rows 4) id || hasT (rows 5) id
theorem hasB_no {rows : Nat → List Tm} {id : Int} (h : ∀ j, j < 6 → hasT (rows j) id = false) : hasB rows id = false := by
  unfold hasB
  rw [h 0 (by omega), h 1 (by omega), h 2 (by omega), h 3 (by omega), h 4 (by omega), h 5 (by omega)]
  rfl
theorem hasB_yes {rows : Nat → List Tm} {id : Int} {j : Nat} (hj : j < 6) (h : hasT (rows j) id = true) : hasB rows id = true := by
  unfold hasB
  rcases (by omega : j = 0 ∨ j = 1 ∨ j = 2 ∨ j = 3 ∨ j = 4 ∨ j = 5) with rfl | rfl | rfl | rfl | rfl | rfl <;> simp [h]
set_option maxHeartbeats 1000000 in
set_option maxRecDepth 100000 in
theorem has1_any (w : World) {P : QP} {row : List Tm} {M : Int} (h : QHas w P row M) (i k id : Int) (hid : I64 id) (ga gf : Nat) (x : Bool)
    (ha : Blk w ga 3 #[.int .i64 id]) (hf : Blk w gf 4 #[.bool x]) (hP : ¬ P.F gf) :
    Calls Try.prog 35 #[.int .i64 i, .int .i64 k, P.v, .pointer (some ⟨ga, 0, none⟩), .pointer (some ⟨gf, 0, none⟩)] w fun e w' => e = .returned (.bool (!hasT row id)) ∧ Blk w' gf 4 #[.bool (hasT row id)] ∧ Only (one gf) w w' := by
  have a0 : w.cell? ⟨ga, 0, none⟩ = some (.int .i64 id) := ha.cell 0
  have C := Lib.hid (QHas_has h id hid)
  have HF := Lib.hid hf
  clear hf
  go_enter Try.func35, Try.ntmps35
  go_wp2_with fail
  refine C.out.mono ?_
  rintro e w1 ⟨rfl, b1⟩
  have f1 := HF.out.below b1 HF.out.lt
  have f2 := f1.set_ 0 (.bool (hasT row id))
  have c1 := f1.cell 0
  have z1 := f1.frozen 0
  have c2 := f2.cell 0
  simp only [List.setIfInBounds_toArray, List.set_cons_zero] at f2 c2
  have O := Lib.hid (And.intro f2 (((Only.of_below b1 (one gf)).setCell (p := ⟨gf, 0, none⟩) (.inl rfl) (.bool (hasT row id)))))
  clear C HF b1 f1 f2 a0 ha h
  go_wp2_with fail
  go_ret
  exact ⟨rfl, O.out.1, O.out.2⟩
set_option maxHeartbeats 1000000 in
set_option maxRecDepth 100000 in
theorem has_any (w : World) {b : Nat} {P : Nat → QP} {rows : Nat → List Tm} {M : Int} (h : BHas w b P rows M) (id : Int) (hid : I64 id) :
    Calls Try.prog 15 #[.pointer (some ⟨b, 0, none⟩), .int .i64 id] w fun e w' => e = .returned (.bool (hasB rows id)) ∧ Below w.heap.size w w' := by
  have b1 := Blk.new w 3 #[.int .i64 id]
  have B1 := (Below.refl w.heap.size w).alloc (Nat.le_refl _) (.cells #[.int .i64 id] 3)
  have s1 : (w.alloc (.cells #[.int .i64 id] 3)).heap.size = w.heap.size + 1 := by simp
  have b2 := Blk.new (w.alloc (.cells #[.int .i64 id] 3)) 4 #[.bool false]
  rw [s1] at b2
  have b4 := b1.alloc (.cells #[.bool false] 4)
  have B2 := B1.alloc B1.size (.cells #[.bool false] 4)
  have h2 := h.below B2
  have hP : ∀ i, i < 6 → ¬ (P i).F (w.heap.size + 1) := fun i hi e => by have := (h.q i hi).foot_lt e; omega
  have hB : ∀ x, BF b P x → ¬ one (w.heap.size + 1) x := fun x hx e => by have := h.foot_lt hx; unfold one at e; omega
  have EA := each_any b P 35 #[.pointer (some ⟨w.heap.size, 0, none⟩), .pointer (some ⟨w.heap.size + 1, 0, none⟩)]
    (fun i W => BHas W b P rows M ∧ Below w.heap.size w W ∧ Blk W w.heap.size 3 #[.int .i64 id] ∧ Blk W (w.heap.size + 1) 4 #[.bool false] ∧ ∀ j, j < i → hasT (rows j) id = false)
    (fun W => Below w.heap.size w W ∧ Blk W (w.heap.size + 1) 4 #[.bool true] ∧ hasB rows id = true)
    ((w.alloc (.cells #[.int .i64 id] 3)).alloc (.cells #[.bool false] 4))
    (Go.Proofs.enters_of Try.func35 (by kernel_rfl) rfl)
    (fun i W hJ => hJ.1.bb)
    (by
      rintro i hi W ⟨j1, j2, j3, j4, j5⟩
      refine (has1_any W (j1.q i hi) _ _ id hid _ _ _ j3 j4 (hP i hi)).mono ?_
      rintro e W' ⟨rfl, k1, k2⟩
      have B' := k2.under j2 (B := w.heap.size) (fun x hx => by unfold one at hx; omega) j2.size
      cases e1 : hasT (rows i) id with
      | true => exact .inr ⟨rfl, B', by rw [← e1]; exact k1, hasB_yes hi e1⟩
      | false =>
        refine .inl ⟨rfl, j1.same fun x hx => k2.block x (j1.foot_lt hx) (hB x hx), B', k2.blk j3 (by unfold one; omega), by rw [← e1]; exact k1, fun j hj => ?_⟩
        by_cases e : j = i
        · subst e; exact e1
        · exact j5 j (by omega))
    ⟨h2, B2, b4, b2, fun j hj => by omega⟩
  have EH := Lib.hid EA
  clear EA hB hP h2 B2 b4 b2 s1 B1 b1 h
  go_enter Try.func15, Try.ntmps15
  go_wp2_with fail
  refine EH.out.mono ?_
  rintro e W3 ⟨rfl, ⟨_, k1, _, k2, k3⟩ | ⟨k1, k2, k3⟩⟩
  · have c0 := k2.cell 0
    have e1 := hasB_no k3
    clear EH k2 k3
    go_wp2_with fail
    go_ret
    exact ⟨by rw [e1]; rfl, k1⟩
  · have c0 := k2.cell 0
    clear EH k2
    go_wp2_with fail
    go_ret
    exact ⟨by rw [k3]; rfl, k1⟩
set_option maxHeartbeats 1000000 in
set_option maxRecDepth 100000 in
theorem len1_any (w : World) {P : QP} {row : List Tm} {M : Int} (h : QHas w P row M) (i k : Int) (g n : Nat) (hn : n ≤ 1000)
    (hf : Blk w g 3 #[.int .i64 (n : Nat)]) :
    Calls Try.prog 33 #[.int .i64 i, .int .i64 k, P.v, .pointer (some ⟨g, 0, none⟩)] w fun e w' => e = .returned (.bool true) ∧ Blk w' g 3 #[.int .i64 ((n + row.length : Nat) : Int)] ∧ Only (one g) w w' := by
  have hl := h.len
  have C := Lib.hid (fun W (H : QHas W P row M) => QHas_len H)
  have hw : IntKind.i64.wrap ((n : Int) + (row.length : Int)) = (n : Int) + (row.length : Int) := by rw [IntKind.wrap_i64]; omega
  have c0 := hf.drew.cell 0
  have z0 := hf.drew.frozen 0
  have O := Lib.hid (And.intro (hf.set_ 0 (.int .i64 ((n : Int) + (row.length : Int)))).drew ((((Only.refl (one g) w)).setCell (p := ⟨g, 0, none⟩) (.inl rfl) (.int .i64 ((n : Int) + (row.length : Int)))).drew))
  have H := Lib.hid h.drew
  clear hf h
  generalize row.length = L at *
  go_enter Try.func33, Try.ntmps33
  go_wp2_with fail
  go_region_with (refine (C.out _ H.out).mono ?_; rintro e W1 ⟨rfl, rfl⟩)
  all_goals
    go_wp2_with fail
    go_ret
    refine ⟨rfl, ?_, O.out.2⟩
    have O1 := O.out.1
    simp only [List.setIfInBounds_toArray, List.set_cons_zero] at O1
    rw [show ((n + L : Nat) : Int) = (n : Int) + L by omega]
    exact O1
/-- how many stand in the first queues -/
def lenU (rows : Nat → List Tm) : Nat → Nat
  | 0 => 0
  | i + 1 => lenU rows i + (rows i).length
theorem lenU_le {w : World} {b : Nat} {P : Nat → QP} {rows : Nat → List Tm} {M : Int} (h : BHas w b P rows M) : ∀ i, i ≤ 6 → lenU rows i ≤ 64 * i
  | 0, _ => Nat.le_refl _
  | i + 1, hi => by
    have h1 := lenU_le h i (by omega)
    have h2 := (h.q i (by omega)).len
    show lenU rows i + _ ≤ _
    omega
set_option maxHeartbeats 1000000 in
set_option maxRecDepth 100000 in
theorem len_any (w : World) {b : Nat} {P : Nat → QP} {rows : Nat → List Tm} {M : Int} (h : BHas w b P rows M) :
    Calls Try.prog 14 #[.pointer (some ⟨b, 0, none⟩)] w fun e w' => e = .returned (.int .i64 (lenU rows 6 : Nat)) ∧ Below w.heap.size w w' := by
  have b2 := Blk.new w 3 #[.int .i64 0]
  have B2 := (Below.refl w.heap.size w).alloc (Nat.le_refl _) (.cells #[.int .i64 0] 3)
  have h2 := h.below B2
  have hB : ∀ x, BF b P x → ¬ one w.heap.size x := fun x hx e => by have := h.foot_lt hx; unfold one at e; omega
  have EA := each_any b P 33 #[.pointer (some ⟨w.heap.size, 0, none⟩)]
    (fun i W => BHas W b P rows M ∧ Below w.heap.size w W ∧ Blk W w.heap.size 3 #[.int .i64 (lenU rows i : Nat)])
    (fun W => False)
    (w.alloc (.cells #[.int .i64 0] 3))
    (Go.Proofs.enters_of Try.func33 (by kernel_rfl) rfl)
    (fun i W hJ => hJ.1.bb)
    (by
      rintro i hi W ⟨j1, j2, j3⟩
      have hle := lenU_le h i (by omega)
      refine (len1_any W (j1.q i hi) _ _ _ _ (by omega) j3).mono ?_
      rintro e W' ⟨rfl, k1, k2⟩
      have B' := k2.under j2 (B := w.heap.size) (fun x hx => by unfold one at hx; omega) j2.size
      exact .inl ⟨rfl, j1.same fun x hx => k2.block x (j1.foot_lt hx) (hB x hx), B', k1⟩)
    ⟨h2, B2, b2⟩
  have EH := Lib.hid EA
  clear EA hB h2 B2 b2 h
  go_enter Try.func14, Try.ntmps14
  go_wp2_with fail
  refine EH.out.mono ?_
  rintro e W3 ⟨rfl, ⟨_, k1, k2⟩ | k1⟩
  · have c0 := k2.cell 0
    clear EH k2
    go_wp2_with fail
    go_ret
    exact ⟨rfl, k1⟩
  · exact absurd k1 id
def sd (l : Bool) : Nat := if l then 1 else 0
theorem side_any (l : Bool) (w : World) : Calls Try.prog 20 #[.bool l] w fun e w' => e = .returned (.int .i64 (sd l : Nat)) ∧ w = w' := by
  unfold sd
  cases l <;>
  · go_enter Try.func20, Try.ntmps20
    go_wp2_with fail
    go_ret
    exact ⟨rfl, rfl⟩
end Go.Proofs.Ytcoibhmgblicfaa.Ba
/- Base's New. No condition. -/
set_option linter.unusedVariables false
set_option linter.unusedSimpArgs false
namespace Go.Proofs.Ytcoibhmgblicfaa.Ba
open Go.RowKit Go.Proofs.Ytcoibhmgblicfaa.Aid Go.Proofs.Ytcoibhmgblicfaa.Tr Go.Proofs.Ytcoibhmgblicfaa.Kt Go.Proofs.Ytcoibhmgblicfaa.Q
/-- the pointer in place j when n are laid -/
def pn (P : Nat → QP) (n j : Nat) : Value := if j < n then (P j).v else .pointer none
def sixn (P : Nat → QP) (n : Nat) : Array Value := #[pn P n 0, pn P n 1, pn P n 2, pn P n 3, pn P n 4, pn P n 5]
/-- n of the six queues are laid -/
structure BN (w0 W : World) (b : Nat) (P : Nat → QP) (n : Nat) : Prop where
  bb : Blk W b 52 (sixn P n)
  q : ∀ i, i < n → QHas W (P i) [] 0
  d : ∀ i j, i < n → j < n → i ≠ j → ∀ x, (P i).F x → ¬ (P j).F x
  nb : ∀ i, i < n → ¬ (P i).F b
  lo : ∀ i, i < n → ∀ x, (P i).F x → w0.heap.size ≤ x
  hb : w0.heap.size ≤ b
  bl : Below w0.heap.size w0 W
theorem sixn_put (P : Nat → QP) (p : QP) : ∀ n, n < 6 → (sixn P n).setIfInBounds n p.v = sixn (fun j => if j = n then p else P j) (n + 1)
  | 0, _ => by simp [sixn, pn]
  | 1, _ => by simp [sixn, pn]
  | 2, _ => by simp [sixn, pn]
  | 3, _ => by simp [sixn, pn]
  | 4, _ => by simp [sixn, pn]
  | 5, _ => by simp [sixn, pn]
theorem sixn_at (P : Nat → QP) (m : Nat) : ∀ n, n < 6 → ∃ v, (sixn P m)[n]? = some v
  | 0, _ => ⟨_, rfl⟩
  | 1, _ => ⟨_, rfl⟩
  | 2, _ => ⟨_, rfl⟩
  | 3, _ => ⟨_, rfl⟩
  | 4, _ => ⟨_, rfl⟩
  | 5, _ => ⟨_, rfl⟩
theorem BN.call {w0 W W' : World} {b n : Nat} {P : Nat → QP} (h : BN w0 W b P n) (k : Below W.heap.size W W') : BN w0 W' b P n :=
  ⟨h.bb.below k h.bb.lt, fun i hi => (h.q i hi).below k, h.d, h.nb, h.lo, h.hb, h.bl.trans (k.mono h.bl.size)⟩
theorem BN.drewN {w0 W : World} {b n : Nat} {P : Nat → QP} (h : BN w0 W b P n) (m : Nat) : BN w0 (W.drewN m) b P n :=
  ⟨h.bb.drewN m, fun i hi => (h.q i hi).drewN m, h.d, h.nb, h.lo, h.hb, below_drewN h.bl m⟩
theorem BN.drew {w0 W : World} {b n : Nat} {P : Nat → QP} (h : BN w0 W b P n) : BN w0 W.drew b P n :=
  ⟨h.bb.drew, fun i hi => (h.q i hi).drew, h.d, h.nb, h.lo, h.hb, ⟨h.bl.os, h.bl.tape, h.bl.output, h.bl.size, h.bl.block⟩⟩
/-- one more -/
theorem BN.put {w0 W W' : World} {b n : Nat} {P : Nat → QP} (h : BN w0 W b P n) {p : QP} (hn : n < 6) (hq : QHas W' p [] 0) (hp : ∀ x, p.F x → W.heap.size ≤ x) (k : Below W.heap.size W W') :
    BN w0 (W'.setCell ⟨b, n, none⟩ p.v) b (fun j => if j = n then p else P j) (n + 1) := by
  have h' := h.call k
  have hbl := h.bb.lt
  have hpb : ¬ p.F b := fun e => by have := hp _ e; omega
  refine ⟨by rw [← sixn_put P p n hn]; exact h'.bb.set_ n p.v, fun i hi => ?_, fun i j hi hj hij x => ?_, fun i hi => ?_, fun i hi x => ?_, h.hb, h'.bl.setCell (p := ⟨b, n, none⟩) h.hb p.v⟩
  · by_cases e : i = n
    · rw [if_pos e]; exact hq.far hpb p.v
    · rw [if_neg e]; exact (h'.q i (by omega)).far (h.nb i (by omega)) p.v
  · by_cases e : i = n
    · rw [if_pos e, if_neg (show ¬ j = n by omega)]
      intro hx hx'
      have := (h.q j (by omega)).foot_lt hx'
      have := hp _ hx
      omega
    · rw [if_neg e]
      by_cases e' : j = n
      · rw [if_pos e']
        intro hx hx'
        have := (h.q i (by omega)).foot_lt hx
        have := hp _ hx'
        omega
      · rw [if_neg e']; exact h.d i j (by omega) (by omega) hij x
  · by_cases e : i = n
    · rw [if_pos e]; exact hpb
    · rw [if_neg e]; exact h.nb i (by omega)
  · by_cases e : i = n
    · rw [if_pos e]; intro hx; have := hp _ hx; have := h.bl.size; omega
    · rw [if_neg e]; exact h.lo i (by omega) x
theorem BN.done {w0 W : World} {b : Nat} {P : Nat → QP} (h : BN w0 W b P 6) : BHas W b P (fun _ => []) 0 :=
  ⟨h.bb, h.q, h.d, h.nb⟩
set_option maxHeartbeats 2000000 in
set_option maxRecDepth 100000 in
theorem new_any (w : World) : Calls Try.prog 6 #[] w fun e w' => ∃ b P, e = .returned (.pointer (some ⟨b, 0, none⟩)) ∧ BHas w' b P (fun _ => []) 0 ∧ (∀ x, BF b P x → w.heap.size ≤ x) ∧ Below w.heap.size w w' := by
  have S : BN w (w.alloc (.cells #[.pointer none, .pointer none, .pointer none, .pointer none, .pointer none, .pointer none] 52)) w.heap.size (fun _ => ⟨0, 0, 0, 0, 0⟩) 0 :=
    ⟨Blk.new w _ _, fun i hi => by omega, fun i j hi => by omega, fun i hi => by omega, fun i hi => by omega, Nat.le_refl _, (Below.refl _ _).alloc (Nat.le_refl _) _⟩
  have HS := Lib.hid S
  clear S
  go_enter Try.func6, Try.ntmps6
  go_upto_region 2 with fail
  generalize w.alloc (.cells #[.pointer none, .pointer none, .pointer none, .pointer none, .pointer none, .pointer none] 52) = W at HS ⊢
  obtain ⟨b, hb⟩ : ∃ b, w.heap.size = b := ⟨_, rfl⟩
  rw [hb] at HS ⊢
  go_wp2_with fail
  go_loopg [6] 3 (fun m s6 wr => ∃ (k : Nat) (P : Nat → QP), k ≤ 3 ∧ m = 3 - k ∧ s6 = .int .i64 k ∧ BN w wr b P (2 * k))
  case atStart => exact ⟨0, _, by omega, by omega, rfl, HS.out⟩
  case round =>
    obtain ⟨k, P, hk, rfl, rfl, hj⟩ := hrel
    clear HS
    have HJ := Lib.hid hj
    clear hj
    by_cases hlt : k < 3
    · go_wp2_with fail
      rw [show decide ((k : Int) < 3) = true from decide_eq_true (by omega)]
      go_loopg [9] 2 (fun m s9 wr => ∃ (j : Nat) (P : Nat → QP), j ≤ 2 ∧ m = 2 - j ∧ s9 = .int .i64 j ∧ BN w wr b P (2 * k + j))
      case atStart => exact ⟨0, P, by omega, by omega, rfl, HJ.out⟩
      case round =>
        obtain ⟨j, P', hj2, rfl, rfl, hj⟩ := hrel
        clear HJ
        by_cases hl2 : j < 2
        · have HJ := Lib.hid hj.drew
          have C := Lib.hid (show ∀ W, Calls Try.prog 18 #[] W fun e w' => ∃ p : QP, e = .returned (.pointer (some ⟨p.q, 0, none⟩)) ∧ QHas w' p [] 0 ∧ (∀ b, p.F b → W.heap.size ≤ b) ∧ Below W.heap.size W w' from QHas_new)
          obtain ⟨v0, hv0⟩ := sixn_at P' (2 * k + j) (k * 2 + j) (by omega)
          have c0 := (HJ.out.bb.cell (k * 2 + j)).trans hv0
          have z0 := HJ.out.bb.frozen (k * 2 + j)
          clear hj
          go_wp2_with fail
          go_region_with (refine (C.out _).mono ?_; rintro e W5 ⟨p, rfl, q1, q2, q3⟩; have N5 := Lib.hid (BN.put HJ.out (by omega) q1 q2 q3); have c5 := ((HJ.out.call q3).bb.cell (k * 2 + j)).trans hv0; have z5 := (HJ.out.call q3).bb.frozen (k * 2 + j))
          all_goals
            have N6 := N5.out
            rw [show 2 * k + j = k * 2 + j by omega] at N6
            go_wp2_with fail
            go_roundg (2 - (j + 1))
            case measure => omega
            case rel => exact ⟨j + 1, _, by omega, rfl, by go_num, by rw [show 2 * k + (j + 1) = k * 2 + j + 1 by omega]; exact N6⟩
        · have hje : j = 2 := by omega
          subst hje
          have HJ := Lib.hid hj
          clear hj
          go_wp2_with fail
          go_roundg (3 - (k + 1))
          case measure => omega
          case rel => exact ⟨k + 1, P', by omega, rfl, by go_num, HJ.out⟩
    · have hke : k = 3 := by omega
      subst hke
      go_wp2_with fail
      go_ret
      exact ⟨b, P, rfl, HJ.out.done, fun x hx => by
        rcases hx with rfl | ⟨i, hi, hx⟩
        · exact HJ.out.hb
        · exact HJ.out.lo i hi x hx, HJ.out.bl⟩
end Go.Proofs.Ytcoibhmgblicfaa.Ba
/- Base's Cancel. No condition but that memory holds a base. -/
set_option linter.unusedVariables false
set_option linter.unusedSimpArgs false
namespace Go.Proofs.Ytcoibhmgblicfaa.Ba
open Go.RowKit Go.Proofs.Ytcoibhmgblicfaa.Aid Go.Proofs.Ytcoibhmgblicfaa.Tr Go.Proofs.Ytcoibhmgblicfaa.Kt Go.Proofs.Ytcoibhmgblicfaa.Q
/-- the queue's blocks, and two more -/
def qtwo (P : QP) (g g' : Nat) (x : Nat) : Prop := P.F x ∨ x = g ∨ x = g'
set_option maxHeartbeats 1000000 in
set_option maxRecDepth 100000 in
theorem cancel1_any (w : World) {P : QP} {row : List Tm} {M : Int} (h : QHas w P row M) (i k id : Int) (hid : I64 id) (ga gt gf : Nat) (x : Bool) (t : Tm)
    (ha : Blk w ga 3 #[.int .i64 id]) (ht : Blk w gt 29 t.cells) (hf : Blk w gf 4 #[.bool x]) (hP : ¬ P.F gf) (hP' : ¬ P.F gt) (hne : gt ≠ gf) :
    Calls Try.prog 23 #[.int .i64 i, .int .i64 k, P.v, .pointer (some ⟨ga, 0, none⟩), .pointer (some ⟨gt, 0, none⟩), .pointer (some ⟨gf, 0, none⟩)] w fun e w' =>
      e = .returned (.bool (!hasT row id)) ∧ QHas w' P (delT row id) M ∧ Blk w' gt 29 (getT row id).cells ∧ Blk w' gf 4 #[.bool (hasT row id)] ∧ Only (qtwo P gt gf) w w' := by
  have a0 : w.cell? ⟨ga, 0, none⟩ = some (.int .i64 id) := ha.cell 0
  have C := Lib.hid (QHas_drop h id hid)
  have HF := Lib.hid (And.intro ht hf)
  clear hf ht h ha
  generalize getT row id = T at C ⊢
  generalize hasT row id = B at C ⊢
  generalize delT row id = R at C ⊢
  unfold Tm.agg at C
  go_enter Try.func23, Try.ntmps23
  go_wp2_with fail
  refine C.out.mono ?_
  rintro e w1 ⟨rfl, h1, o1⟩
  have t1 := o1.blk HF.out.1 hP'
  have f1 := o1.blk HF.out.2 hP
  have t2 := set5_blk (a' := T) t1
  have f2 : Blk (set5 w1 gt T) gf 4 #[.bool x] := ((((f1.far (p := ⟨gt, 0, none⟩) hne.symm _).far (p := ⟨gt, 1, none⟩) hne.symm _).far (p := ⟨gt, 2, none⟩) hne.symm _).far (p := ⟨gt, 3, none⟩) hne.symm _).far (p := ⟨gt, 4, none⟩) hne.symm _
  have t3 := t2.far (p := ⟨gf, 0, none⟩) hne (.bool B)
  have f3 := f2.set_ 0 (.bool B)
  have q2 : QHas (set5 w1 gt T) P R M := ((((h1.far (p := ⟨gt, 0, none⟩) hP' _).far (p := ⟨gt, 1, none⟩) hP' _).far (p := ⟨gt, 2, none⟩) hP' _).far (p := ⟨gt, 3, none⟩) hP' _).far (p := ⟨gt, 4, none⟩) hP' _
  have q3 := q2.far (p := ⟨gf, 0, none⟩) hP (.bool B)
  have o0 : Only (qtwo P gt gf) w w1 := o1.mono fun x _ hx => .inl hx
  have hs : qtwo P gt gf gt := .inr (.inl rfl)
  have hs' : qtwo P gt gf gf := .inr (.inr rfl)
  have o2 : Only (qtwo P gt gf) w (set5 w1 gt T) := ((((o0.setCell (p := ⟨gt, 0, none⟩) (.inl hs) _).setCell (p := ⟨gt, 1, none⟩) (.inl hs) _).setCell (p := ⟨gt, 2, none⟩) (.inl hs) _).setCell (p := ⟨gt, 3, none⟩) (.inl hs) _).setCell (p := ⟨gt, 4, none⟩) (.inl hs) _
  have o3 := o2.setCell (p := ⟨gf, 0, none⟩) (.inl hs') (.bool B)
  have c0 : w1.cell? ⟨gt, 0, none⟩ = some (.int .i64 t.id) := t1.cell 0
  have c1 : w1.cell? ⟨gt, 1, none⟩ = some (.int .i64 t.clock) := t1.cell 1
  have c2 : w1.cell? ⟨gt, 2, none⟩ = some (.int .i64 t.soft) := t1.cell 2
  have c3 : w1.cell? ⟨gt, 3, none⟩ = some (.int .i64 t.hard) := t1.cell 3
  have c4 : w1.cell? ⟨gt, 4, none⟩ = some (.bool t.lazy) := t1.cell 4
  have fz := t1.frozen
  have c5 : w1.cell? ⟨gf, 0, none⟩ = some (.bool x) := f1.cell 0
  have fz5 := f1.frozen 0
  simp only [List.setIfInBounds_toArray, List.set_cons_zero] at f3
  have FIN := Lib.hid (And.intro q3 (And.intro t3 (And.intro f3 o3)))
  clear C HF h1 o1 t1 f1 t2 f2 t3 f3 q2 q3 o0 hs hs' o2 o3 a0
  unfold set5 at FIN
  have hne' := hne.symm
  go_wp2_with fail
  go_ret
  exact ⟨rfl, FIN.out.1, FIN.out.2.1, FIN.out.2.2.1, FIN.out.2.2.2⟩
theorem getT_no {row : List Tm} {id : Int} (h : hasT row id = false) : getT row id = zeroT := by
  unfold getT
  rw [List.find?_eq_none.2]
  · rfl
  · intro b hb e
    have : hasT row id = true := List.any_eq_true.2 ⟨b, hb, e⟩
    rw [h] at this; cases this
theorem delT_no {row : List Tm} {id : Int} (h : hasT row id = false) : delT row id = row := by
  refine List.eraseP_of_forall_not fun b hb e => ?_
  have : hasT row id = true := List.any_eq_true.2 ⟨b, hb, e⟩
  rw [h] at this; cases this
/-- what taking a timer out answers and leaves -/
inductive Canc (b : Nat) (P : Nat → QP) (rows : Nat → List Tm) (M : Int) (id : Int) (w' : World) : Tm → Bool → Prop
  | no : hasB rows id = false → BHas w' b P rows M → Canc b P rows M id w' zeroT false
  | yes (i : Nat) : i < 6 → hasT (rows i) id = true → (∀ j, j < i → hasT (rows j) id = false) → BHas w' b P (fun j => if j = i then delT (rows i) id else rows j) M → Canc b P rows M id w' (getT (rows i) id) true
theorem Canc.same {b : Nat} {P : Nat → QP} {rows : Nat → List Tm} {M id : Int} {w w' : World} {t : Tm} {ok : Bool} (h : Canc b P rows M id w t ok) (e : ∀ x, BF b P x → w'.heap[x]? = w.heap[x]?) : Canc b P rows M id w' t ok := by
  cases h with
  | no h1 h2 => exact .no h1 (h2.same e)
  | yes i h1 h2 h3 h4 => exact .yes i h1 h2 h3 (h4.same e)
theorem set5_heap (W : World) (g : Nat) (t : Tm) (x : Nat) (hx : x ≠ g) : (set5 W g t).heap[x]? = W.heap[x]? := by
  unfold set5
  rw [Below.heap_setCell _ _ _ x hx, Below.heap_setCell _ _ _ x hx, Below.heap_setCell _ _ _ x hx, Below.heap_setCell _ _ _ x hx, Below.heap_setCell _ _ _ x hx]
/-- the four boxes of Cancel -/
def cW (w : World) (id : Int) : World := (((w.alloc (.cells #[.int .i64 id] 3)).alloc (.cells zeroT.cells 29)).alloc (.cells zeroT.cells 29)).alloc (.cells #[.bool false] 4)
structure CBox (w : World) (id : Int) (W : World) : Prop where
  a : Blk W w.heap.size 3 #[.int .i64 id]
  r : Blk W (w.heap.size + 1) 29 zeroT.cells
theorem cW_all (w : World) (id : Int) : CBox w id (cW w id) ∧ Blk (cW w id) (w.heap.size + 2) 29 zeroT.cells ∧ Blk (cW w id) (w.heap.size + 3) 4 #[.bool false] ∧ Below w.heap.size w (cW w id) := by
  unfold cW
  have b1 := Blk.new w 3 #[.int .i64 id]
  have B1 := (Below.refl w.heap.size w).alloc (Nat.le_refl _) (.cells #[.int .i64 id] 3)
  have s1 : (w.alloc (.cells #[.int .i64 id] 3)).heap.size = w.heap.size + 1 := by simp
  generalize w.alloc (.cells #[.int .i64 id] 3) = W1 at b1 B1 s1 ⊢
  have b2 := Blk.new W1 29 zeroT.cells
  have B2 := B1.alloc B1.size (.cells zeroT.cells 29)
  have s2 : (W1.alloc (.cells zeroT.cells 29)).heap.size = w.heap.size + 2 := by simp [s1]
  have b1 := b1.alloc (.cells zeroT.cells 29)
  rw [s1] at b2
  generalize W1.alloc (.cells zeroT.cells 29) = W2 at b1 b2 B2 s2 ⊢
  have b3 := Blk.new W2 29 zeroT.cells
  have B3 := B2.alloc B2.size (.cells zeroT.cells 29)
  have s3 : (W2.alloc (.cells zeroT.cells 29)).heap.size = w.heap.size + 3 := by simp [s2]
  have b1 := b1.alloc (.cells zeroT.cells 29)
  have b2 := b2.alloc (.cells zeroT.cells 29)
  rw [s2] at b3
  generalize W2.alloc (.cells zeroT.cells 29) = W3 at b1 b2 b3 B3 s3 ⊢
  have b4 := Blk.new W3 4 #[.bool false]
  rw [s3] at b4
  exact ⟨⟨b1.alloc _, b2.alloc _⟩, b3.alloc _, b4, B3.alloc B3.size _⟩
set_option maxHeartbeats 1000000 in
set_option maxRecDepth 100000 in
theorem cancel_any (w : World) {b : Nat} {P : Nat → QP} {rows : Nat → List Tm} {M : Int} (h : BHas w b P rows M) (id : Int) (hid : I64 id) :
    Calls Try.prog 9 #[.pointer (some ⟨b, 0, none⟩), .int .i64 id] w fun e w' => ∃ t ok, e = .returned (.tuple #[t.agg, .bool ok]) ∧ Canc b P rows M id w' t ok ∧ Only (BF b P) w w' := by
  obtain ⟨x1, x2, x3, x4⟩ := cW_all w id
  have h2 := h.below x4
  have hP : ∀ i, i < 6 → ∀ x, w.heap.size ≤ x → ¬ (P i).F x := fun i hi x hx e => by have := (h.q i hi).foot_lt e; omega
  have EA := each_any b P 23 #[.pointer (some ⟨w.heap.size, 0, none⟩), .pointer (some ⟨w.heap.size + 2, 0, none⟩), .pointer (some ⟨w.heap.size + 3, 0, none⟩)]
    (fun i W => BHas W b P rows M ∧ Only (BF b P) w W ∧ CBox w id W ∧ Blk W (w.heap.size + 2) 29 zeroT.cells ∧ Blk W (w.heap.size + 3) 4 #[.bool false] ∧ ∀ j, j < i → hasT (rows j) id = false)
    (fun W => ∃ i, i < 6 ∧ hasT (rows i) id = true ∧ (∀ j, j < i → hasT (rows j) id = false) ∧ BHas W b P (fun j => if j = i then delT (rows i) id else rows j) M ∧ Only (BF b P) w W ∧ CBox w id W ∧ Blk W (w.heap.size + 2) 29 (getT (rows i) id).cells ∧ Blk W (w.heap.size + 3) 4 #[.bool true])
    (cW w id)
    (Go.Proofs.enters_of Try.func23 (by kernel_rfl) rfl)
    (fun i W hJ => hJ.1.bb)
    (by
      rintro i hi W ⟨j1, j2, j3, j4, j5, j6⟩
      have hsz := j2.size
      refine (cancel1_any W (j1.q i hi) _ _ id hid _ _ _ _ zeroT j3.a j4 j5 (hP i hi _ (by omega)) (hP i hi _ (by omega)) (by omega)).mono ?_
      rintro e W' ⟨rfl, k1, k2, k3, k4⟩
      have hnf : ∀ x, w.heap.size ≤ x → x ≠ w.heap.size + 2 → x ≠ w.heap.size + 3 → ¬ qtwo (P i) (w.heap.size + 2) (w.heap.size + 3) x := fun x hx h1 h2 e => by
        rcases e with e | e | e
        · exact hP i hi x hx e
        · exact h1 e
        · exact h2 e
      have O' : Only (BF b P) w W' := j2.trans k4 fun x hx e => by
        rcases e with e | e | e
        · exact .inr ⟨i, hi, e⟩
        · omega
        · omega
      have C' : CBox w id W' := ⟨k4.blk j3.a (hnf _ (by omega) (by omega) (by omega)), k4.blk j3.r (hnf _ (by omega) (by omega) (by omega))⟩
      have hb : ¬ qtwo (P i) (w.heap.size + 2) (w.heap.size + 3) b := fun e => by
        have := h.bb.lt
        rcases e with e | e | e
        · exact h.nb i hi e
        · omega
        · omega
      have H' : BHas W' b P (fun j => if j = i then delT (rows i) id else rows j) M := ⟨k4.blk j1.bb hb, fun j hj => by
        by_cases e : j = i
        · subst e; rw [if_pos rfl]; exact k1
        · rw [if_neg e]
          refine (j1.q j hj).only k4 fun x hx e' => ?_
          have := (h.q j hj).foot_lt hx
          rcases e' with e' | e' | e'
          · exact h.d j i hj hi e x hx e'
          · omega
          · omega, h.d, h.nb⟩
      cases e1 : hasT (rows i) id with
      | true => exact .inr ⟨rfl, i, hi, e1, j6, H', O', C', k2, by rw [← e1]; exact k3⟩
      | false =>
        refine .inl ⟨rfl, ?_, O', C', by rw [← getT_no e1]; exact k2, by rw [← e1]; exact k3, fun j hj => ?_⟩
        · have : (fun j => if j = i then delT (rows i) id else rows j) = rows := by
            funext j
            by_cases e : j = i
            · subst e; rw [if_pos rfl, delT_no e1]
            · rw [if_neg e]
          rw [this] at H'
          exact H'
        · by_cases e : j = i
          · subst e; exact e1
          · exact j6 j (by omega))
    ⟨h2, Only.of_below x4 _, x1, x2, x3, fun j hj => by omega⟩
  have hBF : ∀ x, BF b P x → x < w.heap.size := fun x hx => h.foot_lt hx
  have EH := Lib.hid EA
  clear EA hP h2 x1 x2 x3 x4 h
  unfold cW zeroT Tm.cells at EH
  go_enter Try.func9, Try.ntmps9
  go_wp2_with fail
  refine EH.out.mono ?_
  rintro e W3 ⟨rfl, hjd⟩
  have hx : ∃ t ok, Canc b P rows M id W3 t ok ∧ Only (BF b P) w W3 ∧ CBox w id W3 ∧ Blk W3 (w.heap.size + 2) 29 t.cells ∧ Blk W3 (w.heap.size + 3) 4 #[.bool ok] := by
    rcases hjd with ⟨k1, k2, k3, k4, k5, k6⟩ | ⟨i, hi, k1, k2, k3, k4, k5, k6, k7⟩
    · exact ⟨zeroT, false, .no (hasB_no k6) k1, k2, k3, k4, k5⟩
    · exact ⟨_, true, .yes i hi k1 k2 k3, k4, k5, k6, k7⟩
  clear hjd EH
  obtain ⟨t, ok, hc, ho, hb, ht, hf⟩ := hx
  have hr : Blk W3 (w.heap.size + 1) 29 zeroT.cells := hb.r
  have ht' : Blk W3 (w.heap.size + 1 + 1) 29 t.cells := ht
  have hf' : Blk W3 (w.heap.size + 1 + 1 + 1) 4 #[.bool ok] := hf
  have hlt : w.heap.size ≤ w.heap.size + 1 := by omega
  have n1 : w.heap.size + 1 ≠ w.heap.size + 1 + 1 := by omega
  have n2 : w.heap.size + 1 ≠ w.heap.size + 1 + 1 + 1 := by omega
  clear ht hf
  generalize w.heap.size + 1 + 1 + 1 = g3 at hf' n2 ⊢
  generalize w.heap.size + 1 + 1 = g2 at ht' n1 ⊢
  obtain ⟨g0, hg0⟩ : ∃ g, w.heap.size + 1 = g := ⟨_, rfl⟩
  rw [hg0] at hr hlt n1 n2 ⊢
  clear hg0
  obtain ⟨c0, c1, c2, c3, c4⟩ := bx5_cells ht'.drew
  obtain ⟨d0, d1, d2, d3, d4⟩ := bx5_cells hr.drew
  obtain ⟨d0', d1', d2', d3', d4'⟩ := bx5_cells hr
  have fz := hr.drew.frozen
  have fz' := hr.frozen
  have cf := hf'.drew.cell 0
  have cf' := hf'.cell 0
  obtain ⟨c0', c1', c2', c3', c4'⟩ := bx5_cells ht'
  have r5 : Blk (set5 W3 g0 t).drew g0 29 t.cells := (set5_blk hr).drew
  have FIN : Canc b P rows M id (set5 W3 g0 t).drew t ok ∧ Only (BF b P) w (set5 W3 g0 t).drew :=
    ⟨hc.same fun x hx => set5_heap W3 g0 t x (by have := hBF x hx; omega), ((((((ho.setCell (p := ⟨g0, 0, none⟩) (.inr hlt) _).setCell (p := ⟨g0, 1, none⟩) (.inr hlt) _).setCell (p := ⟨g0, 2, none⟩) (.inr hlt) _).setCell (p := ⟨g0, 3, none⟩) (.inr hlt) _).setCell (p := ⟨g0, 4, none⟩) (.inr hlt) _)).drew⟩
  obtain ⟨r0, r1, r2, r3, r4⟩ := bx5_cells r5
  unfold zeroT at d0 d1 d2 d3 d4 d0' d1' d2' d3' d4'
  have HF := Lib.hid FIN
  clear ht' hf' hr r5 FIN hc ho hb hlt
  unfold set5 at r0 r1 r2 r3 r4 HF
  go_wp2_with fail
  go_region
  go_wp2_with fail
  exact bodyPost_ret (v := .tuple #[.agg #[.int .i64 t.id, .int .i64 t.clock, .int .i64 t.soft, .int .i64 t.hard, .bool t.lazy], .bool ok]) (by simp [results, Try.results9, go_sem, r0, r1, r2, r3, r4]) rfl ⟨t, ok, rfl, HF.out⟩
end Go.Proofs.Ytcoibhmgblicfaa.Ba
