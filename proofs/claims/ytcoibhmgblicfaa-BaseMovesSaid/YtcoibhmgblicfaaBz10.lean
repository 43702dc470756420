/- Lemmas and contracts for RowBaseMoves, merged by program out of Qk, Ql, Row, Qn, Qo, Qp, Qr, Qq. No condition. -/
import Derived.Test.YtcoibhmgblicfaaBz8
import Derived.Test.YtcoibhmgblicfaaBz0
import Derived.Test.YtcoibhmgblicfaaBz6
import Derived.Test.YtcoibhmgblicfaaBz9
import Derived.Maps.AppendAt
import Derived.Laws.OwnMore
import Derived.Deep.AppendLies
import Derived.Deep.RegionLaw
import Derived.StillTailTactics
set_option linter.unusedVariables false
set_option linter.unusedSimpArgs false
/- The contract of queue's Due where a timer's time has come. No condition but that memory holds a queue. -/
set_option linter.unusedVariables false
set_option linter.unusedSimpArgs false
namespace Go.Proofs.Ytcoibhmgblicfaa.Q
open Go.RowKit Go.Proofs.Ytcoibhmgblicfaa.Aid Go.Proofs.Ytcoibhmgblicfaa.Tr Go.Proofs.Ytcoibhmgblicfaa.Kt
set_option maxHeartbeats 1000000 in
set_option maxRecDepth 100000 in
theorem Due_fire (q g gl m1 m2 : Nat) (s : TS) (T : Sh) (fl : List Nat) (tm : Nat → Tm) (A B : Value → Option Value) (w : World) (h : QIs w q g gl m1 m2 s T fl tm A B) (x : Nat) (l : List Nat) (hT : T.ino = x :: l) (now : Int) (hn : nev (tm x).soft = false) (hc : ¬ cl (tm x).soft > cl now) :
    Calls Try.prog 30 #[.pointer (some ⟨q, 0, none⟩), .int .i64 now] w (DropQ q g gl m1 m2 s T tm x w) := by
  have hb := Blk.new w 29 zeroT.cells
  have hq := h.alloc (.cells zeroT.cells 29)
  have B0 := (Only.refl (QF q g gl m1 m2) w).alloc (.cells zeroT.cells 29)
  have hR : ¬ QF q g gl m1 m2 w.heap.size := fun e => Nat.lt_irrefl _ (h.foot_lt e)
  have hx : x ∈ T.ino := by rw [hT]; simp
  unfold Tm.cells zeroT at hb hq B0
  clear h
  have HX := Lib.hid (And.intro hx (And.intro hT hn))
  clear hx hT
  go_enter Try.func30, Try.ntmps30
  go_upto_region 1 with fail
  generalize w.alloc (.cells #[.int .i64 0, .int .i64 0, .int .i64 0, .int .i64 0, .bool false] 29) = W at hb hq B0 ⊢
  obtain ⟨R, hRe⟩ : ∃ R, w.heap.size = R := ⟨_, rfl⟩
  rw [hRe] at hb hR ⊢
  have HR := Lib.hid (show w.heap.size ≤ R by omega)
  clear hRe
  have CF := QFirst_some q g gl m1 m2 s T fl tm A B W hq x l HX.out.2.1
  unfold Tm.agg' at CF
  have HCF := Lib.hid CF
  have HB := Lib.hid (And.intro hb (And.intro B0 hq))
  clear CF hq hb B0 hn
  go_wp2_with fail
  refine HCF.out.mono ?_
  rintro e W1 ⟨rfl, b1⟩
  have Q2 := (HB.out.2.2.below b1).alloc (.cells (tm x).cells 29)
  have br2 := (HB.out.1.below b1 HB.out.1.lt).alloc (.cells (tm x).cells 29)
  have O2 := (HB.out.2.1.below b1).alloc (.cells (tm x).cells 29)
  have bf2 := Blk.new W1 29 (tm x).cells
  unfold Tm.cells at Q2 br2 O2 bf2
  clear HB HCF b1
  go_upto_region 2 with fail
  generalize W1.alloc (.cells #[.int .i64 (tm x).id, .int .i64 (tm x).clock, .int .i64 (tm x).soft, .int .i64 (tm x).hard, .bool (tm x).lazy] 29) = W2 at Q2 br2 O2 bf2 ⊢
  generalize W1.heap.size = F at bf2 ⊢
  have f0 : W2.cell? ⟨F, 0, none⟩ = some (.int .i64 (tm x).id) := bf2.cell 0
  have f2 : W2.cell? ⟨F, 2, none⟩ = some (.int .i64 (tm x).soft) := bf2.cell 2
  have CD := Lib.hid (QDrop_yes q g gl m1 m2 s T fl tm A B W2 Q2 x HX.out.1)
  have HQ := Lib.hid (And.intro br2 O2)
  clear Q2 br2 O2 bf2
  go_wp2_with fail
  refine (never_any _ _).mono ?_
  rintro e wz ⟨rfl, rfl⟩
  rw [HX.out.2.2]
  go_wp2_with fail
  refine (clamp_any _ _).mono ?_
  rintro e wz ⟨rfl, rfl⟩
  go_wp2_with fail
  refine (clamp_any _ _).mono ?_
  rintro e wz ⟨rfl, rfl⟩
  go_wp2_with fail
  refine CD.out.mono ?_
  rintro e W3 ⟨rfl, s', T', fl', pre, post, A', B', Q3, R3, O3⟩
  have br3 := O3.blk HQ.out.1 hR
  have c0 : W3.cell? ⟨R, 0, none⟩ = some (.int .i64 0) := br3.cell 0
  have c1 : W3.cell? ⟨R, 1, none⟩ = some (.int .i64 0) := br3.cell 1
  have c2 : W3.cell? ⟨R, 2, none⟩ = some (.int .i64 0) := br3.cell 2
  have c3 : W3.cell? ⟨R, 3, none⟩ = some (.int .i64 0) := br3.cell 3
  have c4 : W3.cell? ⟨R, 4, none⟩ = some (.bool false) := br3.cell 4
  have fz := br3.frozen
  have O5 := HQ.out.2.then O3
  have HD6 := Lib.hid (And.intro Q3 (And.intro R3 (And.intro O5 br3)))
  clear Q3 R3 O5 O3 br3 HQ CD f0 f2
  unfold Tm.agg
  go_wp2_with fail
  clear c0 c1 c2 c3 c4
  obtain ⟨Q5, R5, O5, bR5⟩ := HD6.out
  have hb6 : Blk (set5 W3 R (tm x)) R 29 (tm x).cells := set5_blk (a := zeroT) bR5
  obtain ⟨r0, r1, r2, r3, r4⟩ := bx5_cells hb6
  have O6 : Only (QF q g gl m1 m2) w (set5 W3 R (tm x)) := ((((O5.setCell (p := ⟨R, 0, none⟩) (.inr HR.out) _).setCell (p := ⟨R, 1, none⟩) (.inr HR.out) _).setCell (p := ⟨R, 2, none⟩) (.inr HR.out) _).setCell (p := ⟨R, 3, none⟩) (.inr HR.out) _).setCell (p := ⟨R, 4, none⟩) (.inr HR.out) _
  have Q6 := ((((Q5.far (p := ⟨R, 0, none⟩) hR (.int .i64 (tm x).id)).far (p := ⟨R, 1, none⟩) hR (.int .i64 (tm x).clock)).far (p := ⟨R, 2, none⟩) hR (.int .i64 (tm x).soft)).far (p := ⟨R, 3, none⟩) hR (.int .i64 (tm x).hard)).far (p := ⟨R, 4, none⟩) hR (.bool (tm x).lazy)
  have FIN : DropQ q g gl m1 m2 s T tm x w (.returned (.tuple #[(tm x).agg, .bool true])) (set5 W3 R (tm x)) := ⟨rfl, s', T', _, pre, post, _, _, Q6, R5, O6⟩
  unfold set5 at r0 r1 r2 r3 r4 FIN
  unfold Tm.agg at FIN
  exact bodyPost_ret (v := .tuple #[.agg #[.int .i64 (tm x).id, .int .i64 (tm x).clock, .int .i64 (tm x).soft, .int .i64 (tm x).hard, .bool (tm x).lazy], .bool true]) (by simp [results, Try.results30, go_sem, r0, r1, r2, r3, r4]) rfl FIN
end Go.Proofs.Ytcoibhmgblicfaa.Q
/- The contract of queue's Due where none has come. No condition but that memory holds a queue. -/
set_option linter.unusedVariables false
set_option linter.unusedSimpArgs false
namespace Go.Proofs.Ytcoibhmgblicfaa.Q
open Go.RowKit Go.Proofs.Ytcoibhmgblicfaa.Aid Go.Proofs.Ytcoibhmgblicfaa.Tr Go.Proofs.Ytcoibhmgblicfaa.Kt
set_option maxHeartbeats 1000000 in
set_option maxRecDepth 100000 in
theorem Due_none (q g gl m1 m2 : Nat) (s : TS) (T : Sh) (fl : List Nat) (tm : Nat → Tm) (A B : Value → Option Value) (w : World) (h : QIs w q g gl m1 m2 s T fl tm A B) (hT : T.ino = []) (now : Int) :
    Calls Try.prog 30 #[.pointer (some ⟨q, 0, none⟩), .int .i64 now] w fun e w' => e = .returned (.tuple #[zeroT.agg', .bool false]) ∧ Below w.heap.size w w' := by
  unfold Tm.agg' zeroT
  have hb := Blk.new w 29 zeroT.cells
  have hq := h.alloc (.cells zeroT.cells 29)
  have B0 : Below w.heap.size w (w.alloc (.cells zeroT.cells 29)) := (Below.refl w.heap.size w).alloc (Nat.le_refl _) _
  unfold Tm.cells zeroT at hb hq B0
  clear h
  have HX := Lib.hid hT
  clear hT
  go_enter Try.func30, Try.ntmps30
  go_upto_region 1 with fail
  generalize w.alloc (.cells #[.int .i64 0, .int .i64 0, .int .i64 0, .int .i64 0, .bool false] 29) = W at hb hq B0 ⊢
  obtain ⟨R, hRe⟩ : ∃ R, w.heap.size = R := ⟨_, rfl⟩
  rw [hRe] at hb ⊢
  have HR := Lib.hid (show w.heap.size ≤ R by omega)
  clear hRe
  have CF := QFirst_none q g gl m1 m2 s T fl tm A B W hq HX.out
  unfold Tm.agg' at CF
  have HCF := Lib.hid CF
  have HB := Lib.hid (And.intro hb B0)
  clear CF hq hb B0
  go_wp2_with fail
  refine HCF.out.mono ?_
  rintro e W1 ⟨rfl, b1⟩
  have br2 := (HB.out.1.below b1 HB.out.1.lt).alloc (.cells zeroT.cells 29)
  have B2 := (HB.out.2.trans (b1.mono HB.out.2.size)).alloc (Nat.le_trans HB.out.2.size b1.size) (.cells zeroT.cells 29)
  have bf2 := Blk.new W1 29 zeroT.cells
  unfold Tm.cells at br2 B2 bf2
  clear HB HCF b1
  go_upto_region 2 with fail
  generalize W1.alloc (.cells #[.int .i64 zeroT.id, .int .i64 zeroT.clock, .int .i64 zeroT.soft, .int .i64 zeroT.hard, .bool zeroT.lazy] 29) = W2 at br2 B2 bf2 ⊢
  generalize W1.heap.size = F at bf2 ⊢
  have f2 : W2.cell? ⟨F, 2, none⟩ = some (.int .i64 zeroT.soft) := bf2.cell 2
  have HQ := Lib.hid (And.intro br2 B2)
  clear br2 B2 bf2
  have br3 : Blk W2 R 29 zeroT.cells := HQ.out.1
  have c0 : W2.cell? ⟨R, 0, none⟩ = some (.int .i64 0) := br3.cell 0
  have c1 : W2.cell? ⟨R, 1, none⟩ = some (.int .i64 0) := br3.cell 1
  have c2 : W2.cell? ⟨R, 2, none⟩ = some (.int .i64 0) := br3.cell 2
  have c3 : W2.cell? ⟨R, 3, none⟩ = some (.int .i64 0) := br3.cell 3
  have c4 : W2.cell? ⟨R, 4, none⟩ = some (.bool false) := br3.cell 4
  have fz := br3.frozen
  clear br3 f2
  go_wp2_with fail
  clear c0 c1 c2 c3 c4
  have hb5 : Blk (set5 W2 R zeroT) R 29 zeroT.cells := set5_blk (a := zeroT) HQ.out.1
  obtain ⟨r0, r1, r2, r3, r4⟩ := bx5_cells hb5
  have B5 := set5_below (a := zeroT) HQ.out.2 HR.out
  unfold set5 zeroT at r0 r1 r2 r3 r4 B5
  exact bodyPost_ret (v := .tuple #[.agg #[.int .i64 0, .int .i64 0, .int .i64 0, .int .i64 0, .bool false], .bool false]) (by simp [results, Try.results30, go_sem, r0, r1, r2, r3, r4]) rfl ⟨rfl, B5⟩
set_option maxHeartbeats 1000000 in
set_option maxRecDepth 100000 in
theorem Due_never (q g gl m1 m2 : Nat) (s : TS) (T : Sh) (fl : List Nat) (tm : Nat → Tm) (A B : Value → Option Value) (w : World) (h : QIs w q g gl m1 m2 s T fl tm A B) (x : Nat) (l : List Nat) (hT : T.ino = x :: l) (now : Int) (hn : nev (tm x).soft = true) :
    Calls Try.prog 30 #[.pointer (some ⟨q, 0, none⟩), .int .i64 now] w fun e w' => e = .returned (.tuple #[zeroT.agg', .bool false]) ∧ Below w.heap.size w w' := by
  unfold Tm.agg' zeroT
  have hb := Blk.new w 29 zeroT.cells
  have hq := h.alloc (.cells zeroT.cells 29)
  have B0 : Below w.heap.size w (w.alloc (.cells zeroT.cells 29)) := (Below.refl w.heap.size w).alloc (Nat.le_refl _) _
  unfold Tm.cells zeroT at hb hq B0
  clear h
  have HX := Lib.hid hT
  clear hT
  go_enter Try.func30, Try.ntmps30
  go_upto_region 1 with fail
  generalize w.alloc (.cells #[.int .i64 0, .int .i64 0, .int .i64 0, .int .i64 0, .bool false] 29) = W at hb hq B0 ⊢
  obtain ⟨R, hRe⟩ : ∃ R, w.heap.size = R := ⟨_, rfl⟩
  rw [hRe] at hb ⊢
  have HR := Lib.hid (show w.heap.size ≤ R by omega)
  clear hRe
  have CF := QFirst_some q g gl m1 m2 s T fl tm A B W hq x l HX.out
  unfold Tm.agg' at CF
  have HCF := Lib.hid CF
  have HB := Lib.hid (And.intro hb B0)
  clear CF hq hb B0
  go_wp2_with fail
  refine HCF.out.mono ?_
  rintro e W1 ⟨rfl, b1⟩
  have br2 := (HB.out.1.below b1 HB.out.1.lt).alloc (.cells (tm x).cells 29)
  have B2 := (HB.out.2.trans (b1.mono HB.out.2.size)).alloc (Nat.le_trans HB.out.2.size b1.size) (.cells (tm x).cells 29)
  have bf2 := Blk.new W1 29 (tm x).cells
  unfold Tm.cells at br2 B2 bf2
  clear HB HCF b1
  go_upto_region 2 with fail
  generalize W1.alloc (.cells #[.int .i64 (tm x).id, .int .i64 (tm x).clock, .int .i64 (tm x).soft, .int .i64 (tm x).hard, .bool (tm x).lazy] 29) = W2 at br2 B2 bf2 ⊢
  generalize W1.heap.size = F at bf2 ⊢
  have f2 : W2.cell? ⟨F, 2, none⟩ = some (.int .i64 (tm x).soft) := bf2.cell 2
  have HQ := Lib.hid (And.intro br2 B2)
  clear br2 B2 bf2
  have HN := Lib.hid hn
  clear hn
  go_wp2_with fail
  refine (never_any _ _).mono ?_
  rintro e wz ⟨rfl, rfl⟩
  rw [HN.out]
  have br3 : Blk W2 R 29 zeroT.cells := HQ.out.1
  have c0 : W2.cell? ⟨R, 0, none⟩ = some (.int .i64 0) := br3.cell 0
  have c1 : W2.cell? ⟨R, 1, none⟩ = some (.int .i64 0) := br3.cell 1
  have c2 : W2.cell? ⟨R, 2, none⟩ = some (.int .i64 0) := br3.cell 2
  have c3 : W2.cell? ⟨R, 3, none⟩ = some (.int .i64 0) := br3.cell 3
  have c4 : W2.cell? ⟨R, 4, none⟩ = some (.bool false) := br3.cell 4
  have fz := br3.frozen
  clear br3 f2
  go_wp2_with fail
  clear c0 c1 c2 c3 c4
  have hb5 : Blk (set5 W2 R zeroT) R 29 zeroT.cells := set5_blk (a := zeroT) HQ.out.1
  obtain ⟨r0, r1, r2, r3, r4⟩ := bx5_cells hb5
  have B5 := set5_below (a := zeroT) HQ.out.2 HR.out
  unfold set5 zeroT at r0 r1 r2 r3 r4 B5
  exact bodyPost_ret (v := .tuple #[.agg #[.int .i64 0, .int .i64 0, .int .i64 0, .int .i64 0, .bool false], .bool false]) (by simp [results, Try.results30, go_sem, r0, r1, r2, r3, r4]) rfl ⟨rfl, B5⟩
set_option maxHeartbeats 1000000 in
set_option maxRecDepth 100000 in
theorem Due_later (q g gl m1 m2 : Nat) (s : TS) (T : Sh) (fl : List Nat) (tm : Nat → Tm) (A B : Value → Option Value) (w : World) (h : QIs w q g gl m1 m2 s T fl tm A B) (x : Nat) (l : List Nat) (hT : T.ino = x :: l) (now : Int) (hn : nev (tm x).soft = false) (hc : cl (tm x).soft > cl now) :
    Calls Try.prog 30 #[.pointer (some ⟨q, 0, none⟩), .int .i64 now] w fun e w' => e = .returned (.tuple #[zeroT.agg', .bool false]) ∧ Below w.heap.size w w' := by
  unfold Tm.agg' zeroT
  have hb := Blk.new w 29 zeroT.cells
  have hq := h.alloc (.cells zeroT.cells 29)
  have B0 : Below w.heap.size w (w.alloc (.cells zeroT.cells 29)) := (Below.refl w.heap.size w).alloc (Nat.le_refl _) _
  unfold Tm.cells zeroT at hb hq B0
  clear h
  have HX := Lib.hid hT
  clear hT
  go_enter Try.func30, Try.ntmps30
  go_upto_region 1 with fail
  generalize w.alloc (.cells #[.int .i64 0, .int .i64 0, .int .i64 0, .int .i64 0, .bool false] 29) = W at hb hq B0 ⊢
  obtain ⟨R, hRe⟩ : ∃ R, w.heap.size = R := ⟨_, rfl⟩
  rw [hRe] at hb ⊢
  have HR := Lib.hid (show w.heap.size ≤ R by omega)
  clear hRe
  have CF := QFirst_some q g gl m1 m2 s T fl tm A B W hq x l HX.out
  unfold Tm.agg' at CF
  have HCF := Lib.hid CF
  have HB := Lib.hid (And.intro hb B0)
  clear CF hq hb B0
  go_wp2_with fail
  refine HCF.out.mono ?_
  rintro e W1 ⟨rfl, b1⟩
  have br2 := (HB.out.1.below b1 HB.out.1.lt).alloc (.cells (tm x).cells 29)
  have B2 := (HB.out.2.trans (b1.mono HB.out.2.size)).alloc (Nat.le_trans HB.out.2.size b1.size) (.cells (tm x).cells 29)
  have bf2 := Blk.new W1 29 (tm x).cells
  unfold Tm.cells at br2 B2 bf2
  clear HB HCF b1
  go_upto_region 2 with fail
  generalize W1.alloc (.cells #[.int .i64 (tm x).id, .int .i64 (tm x).clock, .int .i64 (tm x).soft, .int .i64 (tm x).hard, .bool (tm x).lazy] 29) = W2 at br2 B2 bf2 ⊢
  generalize W1.heap.size = F at bf2 ⊢
  have f2 : W2.cell? ⟨F, 2, none⟩ = some (.int .i64 (tm x).soft) := bf2.cell 2
  have HQ := Lib.hid (And.intro br2 B2)
  clear br2 B2 bf2
  have HN := Lib.hid hn
  clear hn
  go_wp2_with fail
  refine (never_any _ _).mono ?_
  rintro e wz ⟨rfl, rfl⟩
  rw [HN.out]
  go_wp2_with fail
  refine (clamp_any _ _).mono ?_
  rintro e wz ⟨rfl, rfl⟩
  go_wp2_with fail
  refine (clamp_any _ _).mono ?_
  rintro e wz ⟨rfl, rfl⟩
  have br3 : Blk W2 R 29 zeroT.cells := HQ.out.1
  have c0 : W2.cell? ⟨R, 0, none⟩ = some (.int .i64 0) := br3.cell 0
  have c1 : W2.cell? ⟨R, 1, none⟩ = some (.int .i64 0) := br3.cell 1
  have c2 : W2.cell? ⟨R, 2, none⟩ = some (.int .i64 0) := br3.cell 2
  have c3 : W2.cell? ⟨R, 3, none⟩ = some (.int .i64 0) := br3.cell 3
  have c4 : W2.cell? ⟨R, 4, none⟩ = some (.bool false) := br3.cell 4
  have fz := br3.frozen
  clear br3 f2
  go_wp2_with fail
  clear c0 c1 c2 c3 c4
  have hb5 : Blk (set5 W2 R zeroT) R 29 zeroT.cells := set5_blk (a := zeroT) HQ.out.1
  obtain ⟨r0, r1, r2, r3, r4⟩ := bx5_cells hb5
  have B5 := set5_below (a := zeroT) HQ.out.2 HR.out
  unfold set5 zeroT at r0 r1 r2 r3 r4 B5
  exact bodyPost_ret (v := .tuple #[.agg #[.int .i64 0, .int .i64 0, .int .i64 0, .int .i64 0, .bool false], .bool false]) (by simp [results, Try.results30, go_sem, r0, r1, r2, r3, r4]) rfl ⟨rfl, B5⟩
end Go.Proofs.Ytcoibhmgblicfaa.Q
/- Appending any slice to a row of one's own: at a step of a region. No program in sight; no condition. -/
set_option linter.unusedVariables false
namespace Go.Proofs.Ytcoibhmgblicfaa.Aid
open Go.RowKit
/-- what a slice yields: m elements, the cells ys -/
def IsSrc (w : World) (size : Nat) (x : Value) (m : Nat) (ys : List Value) : Prop :=
  (x = .slice none 0 0 ∧ m = 0 ∧ ys = []) ∨ ∃ ad c, x = .slice (some ad) m c ∧ ys.length = m * size ∧ ∀ j u, ys[j]? = some u → w.cell? (ad.add j) = some u
/-- one of the model's cells, each -/
def Ones (l : List Value) : Prop := ∀ u ∈ l, u.oneCell' = true
theorem Ones.take {l : List Value} (h : Ones l) (n : Nat) : Ones (l.take n) := fun u hu => h u (List.mem_of_mem_take hu)
theorem Ones.drop {l : List Value} (h : Ones l) (n : Nat) : Ones (l.drop n) := fun u hu => h u (List.mem_of_mem_drop hu)
theorem Ones.append {l k : List Value} (h : Ones l) (g : Ones k) : Ones (l ++ k) := fun u hu => (List.mem_append.1 hu).elim (h u) (g u)
theorem add0 (g k j : Nat) : (⟨g, k, none⟩ : Addr).add j = ⟨g, k + j, none⟩ := by unfold Addr.add; split <;> simp_all
section
variable {w : World} {base : Nat} {e : TypeId} {size : Nat} {n : Nat} {xs : List Value}
theorem src_own {v : Value} (h : w.ownsRow base e size v n xs) : IsSrc w size v n xs := by
  obtain ⟨hl, ⟨rfl, rfl⟩ | ⟨g, cap, cur, rfl, h1, h2, h3, h4, h5, h6⟩⟩ := h
  · exact .inl ⟨rfl, rfl, by cases xs; rfl; simp at hl⟩
  · refine .inr ⟨_, _, rfl, hl, fun j u hu => ?_⟩
    rw [add0, Nat.zero_add]
    exact own_cell ⟨hl, .inr ⟨g, cap, cur, rfl, h1, h2, h3, h4, h5, h6⟩⟩ hu
theorem src_take {g cap k : Nat} (h : w.ownsRow base e size (.slice (some ⟨g, 0, none⟩) n cap) n xs) (hk : k ≤ n) (c : Nat) : IsSrc w size (.slice (some ⟨g, 0, none⟩) k c) k (xs.take (k * size)) := by
  have hl := h.1
  have hks : k * size ≤ n * size := Nat.mul_le_mul_right _ hk
  refine .inr ⟨_, _, rfl, by rw [List.length_take]; omega, fun j u hu => ?_⟩
  rw [add0, Nat.zero_add]
  refine own_cell h ?_
  rw [List.getElem?_take] at hu
  split at hu
  · exact hu
  · cases hu
theorem src_drop {g cap k : Nat} (h : w.ownsRow base e size (.slice (some ⟨g, 0, none⟩) n cap) n xs) (hk : k ≤ n) (c : Nat) : IsSrc w size (.slice (some ⟨g, k * size, none⟩) (n - k) c) (n - k) (xs.drop (k * size)) := by
  have hl := h.1
  have hks : k * size ≤ n * size := Nat.mul_le_mul_right _ hk
  refine .inr ⟨_, _, rfl, by rw [List.length_drop, hl, Nat.sub_mul], fun j u hu => ?_⟩
  rw [add0]
  refine own_cell h ?_
  rw [List.getElem?_drop] at hu
  exact hu
theorem own_cap {A : Option Addr} {m cap : Nat} (h : w.ownsRow base e size (.slice A m cap) n xs) : m = n ∧ n ≤ cap ∧ (A = none → n = 0 ∧ cap = 0) ∧ ∀ x, A = some x → x = ⟨x.block, 0, none⟩ := by
  obtain ⟨hl, ⟨hv, rfl⟩ | ⟨g, cap', cur, hv, h1, h2, h3, h4, h5, h6⟩⟩ := h
  · injection hv with ha hm hc; subst ha hm hc; exact ⟨rfl, Nat.le_refl _, fun _ => ⟨rfl, rfl⟩, fun x hx => (by cases hx)⟩
  · injection hv with ha hm hc; subst ha hm hc; exact ⟨rfl, h3, fun e => (by cases e), fun x hx => (by injection hx with hx; subst hx; rfl)⟩
/-- l[:k], as the model writes it -/
theorem src_to {A : Option Addr} {cap k : Nat} (h : w.ownsRow base e size (.slice A n cap) n xs) (hk : k ≤ n) : IsSrc w size (.slice A k cap) k (xs.take (k * size)) := by
  obtain ⟨_, h1, h2, h3⟩ := own_cap h
  cases A with
  | none =>
    obtain ⟨rfl, rfl⟩ := h2 rfl
    obtain rfl : k = 0 := by omega
    exact .inl ⟨rfl, rfl, by simp⟩
  | some x =>
    have hx := h3 x rfl
    obtain ⟨g, hg⟩ : ∃ g, x.block = g := ⟨_, rfl⟩
    rw [hg] at hx
    subst hx
    exact src_take h hk cap
/-- l[k:], as the model writes it -/
theorem src_from {A : Option Addr} {cap k : Nat} (h : w.ownsRow base e size (.slice A n cap) n xs) (hk : k ≤ n) : IsSrc w size (.slice (if cap = k then A else Option.map (fun x => x.add (k * size)) A) (n - k) (cap - k)) (n - k) (xs.drop (k * size)) := by
  obtain ⟨_, h1, h2, h3⟩ := own_cap h
  cases A with
  | none =>
    obtain ⟨rfl, rfl⟩ := h2 rfl
    obtain rfl : k = 0 := by omega
    have hx : xs = [] := by have := h.1; cases xs; rfl; simp at this
    refine .inl ⟨by simp, rfl, by rw [hx]; simp⟩
  | some x =>
    have hx := h3 x rfl
    obtain ⟨g, hg⟩ : ∃ g, x.block = g := ⟨_, rfl⟩
    rw [hg] at hx
    subst hx
    by_cases hc : cap = k
    · have hn : n = k := by omega
      rw [if_pos hc]
      have hl := h.1
      subst hn
      have e1 : n - n = 0 := Nat.sub_self n
      refine .inr ⟨_, _, rfl, by rw [e1, List.length_drop, hl]; omega, fun j u hu => ?_⟩
      rw [List.getElem?_drop, List.getElem?_eq_none (by omega)] at hu
      cases hu
    · rw [if_neg hc]
      have e2 : Option.map (fun x : Addr => x.add (k * size)) (some ⟨g, 0, none⟩) = some ⟨g, k * size, none⟩ := by
        show some ((⟨g, 0, none⟩ : Addr).add (k * size)) = _
        rw [add0, Nat.zero_add]
      rw [e2]
      exact src_drop h hk _
theorem own_empty {g : Nat} (h : Blk w g e #[]) (hb : base ≤ g) : w.ownsRow base e size (.slice (some ⟨g, 0, none⟩) 0 0) 0 [] :=
  ⟨by simp, .inr ⟨g, 0, #[], rfl, hb, h, Nat.le_refl _, Nat.zero_le _, by simp, by simp⟩⟩
theorem src_block {B : Nat} {cs : Array Value} {t : TypeId} (h : Blk w B t cs) (hs : cs.size = size) (c : Nat) : IsSrc w size (.slice (some ⟨B, 0, none⟩) 1 c) 1 cs.toList :=
  .inr ⟨_, _, rfl, by simp [hs], World.news_of_block h⟩
theorem IsSrc.same {x : Value} {m : Nat} {ys : List Value} {w' : World} (h : IsSrc w size x m ys) (k : ∀ b, x.ownBlock = some b → w'.heap[b]? = w.heap[b]?) : IsSrc w' size x m ys := by
  rcases h with h | ⟨ad, c, rfl, h1, h2⟩
  · exact .inl h
  · refine .inr ⟨ad, c, rfl, h1, fun j u hu => ?_⟩
    rw [← h2 j u hu]
    exact World.cell?_of_block (by rw [add_block]; exact k ad.block rfl)
end
/-- building 'append(append(append([]T{}, l[:k]...), x), l[k:]...)': R holds of what was there; b0 is the empty row, B holds x, v1 is the first part -/
structure S10 (R : World → Prop) (L : Nat) (e : TypeId) (W : World) (b0 : Nat) : Prop where
  r : R W
  z : Blk W b0 e #[]
  l : L ≤ b0
structure S11 (R : World → Prop) (L : Nat) (e : TypeId) (xs : Array Value) (W : World) (b0 B : Nat) : Prop where
  r : R W
  z : Blk W b0 e #[]
  l : L ≤ b0
  x : Blk W B e xs
  ne : B ≠ b0
structure S20 (R : World → Prop) (L : Nat) (e : TypeId) (size : Nat) (W : World) (v : Value) (n : Nat) (ys : List Value) : Prop where
  r : R W
  o : W.ownsRow L e size v n ys
structure S21 (R : World → Prop) (L : Nat) (e : TypeId) (size : Nat) (xs : Array Value) (W : World) (v : Value) (n : Nat) (ys : List Value) (B : Nat) : Prop where
  r : R W
  o : W.ownsRow L e size v n ys
  x : Blk W B e xs
section
variable {R : World → Prop} {L : Nat} {e : TypeId} {size : Nat} {xs : Array Value} {W W' : World} {b0 B n : Nat} {v v' : Value} {ys : List Value}
/-- R stands whatever is made, drawn, or changed in rows from L on -/
structure Stands (R : World → Prop) (L : Nat) : Prop where
  low : ∀ W, R W → L ≤ W.heap.size
  alloc : ∀ W o, R W → R (W.alloc o)
  drew : ∀ W, R W → R W.drew
  grow : ∀ W W' row, R W → W.grownBy W' row → (∀ b, row = some b → L ≤ b) → R W'
theorem S10.start (st : Stands R L) (h : R W) : S10 R L e ((W.alloc (.cells #[] e)).drew) W.heap.size := ⟨st.drew _ (st.alloc _ _ h), (Blk.new W e #[]).drew, st.low _ h⟩
theorem S11.start1 (st : Stands R L) (h : R W) : S11 R L e xs (((W.alloc (.cells #[] e)).alloc (.cells xs e)).drew) W.heap.size (W.heap.size + 1) := by
  have h1 := Blk.new (W.alloc (.cells #[] e)) e xs
  have e1 : (W.alloc (.cells #[] e)).heap.size = W.heap.size + 1 := by simp
  rw [e1] at h1
  exact ⟨st.drew _ (st.alloc _ _ (st.alloc _ _ h)), ((Blk.new W e #[]).alloc _).drew, st.low _ h, h1.drew, by omega⟩
theorem S11.start2 (st : Stands R L) (h : R W) : S11 R L e xs (((W.alloc (.cells xs e)).alloc (.cells #[] e)).drew) (W.heap.size + 1) W.heap.size := by
  have h1 := Blk.new (W.alloc (.cells xs e)) e #[]
  have e1 : (W.alloc (.cells xs e)).heap.size = W.heap.size + 1 := by simp
  rw [e1] at h1
  have := st.low _ h
  exact ⟨st.drew _ (st.alloc _ _ (st.alloc _ _ h)), h1.drew, by omega, ((Blk.new W e xs).alloc _).drew, by omega⟩
theorem S10.next (st : Stands R L) (h : S10 R L e W b0) (ho : W'.ownsRow L e size v n ys) (g : W.grownBy W' (Value.slice (some ⟨b0, 0, none⟩) 0 0).ownBlock) : S20 R L e size W' v n ys :=
  ⟨st.grow _ _ _ h.r g (fun b hb => by injection hb with hb; subst hb; exact h.l), ho⟩
theorem S11.next (st : Stands R L) (h : S11 R L e xs W b0 B) (ho : W'.ownsRow L e size v n ys) (g : W.grownBy W' (Value.slice (some ⟨b0, 0, none⟩) 0 0).ownBlock) : S21 R L e size xs W' v n ys B :=
  ⟨st.grow _ _ _ h.r g (fun b hb => by injection hb with hb; subst hb; exact h.l), ho, h.x.grown g (fun e => by injection e with e; exact h.ne e)⟩
theorem S20.box (st : Stands R L) (h : S20 R L e size W v n ys) : S21 R L e size xs (W.alloc (.cells xs e)) v n ys W.heap.size := ⟨st.alloc _ _ h.r, own_alloc h.o _, Blk.new _ _ _⟩
theorem S21.next (st : Stands R L) (h : S21 R L e size xs W v n ys B) {m : Nat} {zs : List Value} (ho : W'.ownsRow L e size v' m zs) (g : W.grownBy W' v.ownBlock) : S20 R L e size W' v' m zs :=
  ⟨st.grow _ _ _ h.r g (fun b hb => (own_block h.o hb).1), ho⟩
theorem S20.next (st : Stands R L) (h : S20 R L e size W v n ys) {m : Nat} {zs : List Value} (ho : W'.ownsRow L e size v' m zs) (g : W.grownBy W' v.ownBlock) : S20 R L e size W' v' m zs :=
  ⟨st.grow _ _ _ h.r g (fun b hb => (own_block h.o hb).1), ho⟩
end
variable {P : Program}
theorem run_append_any (w : World) (base : Nat) (t ty e : TypeId) (i : TypeInfo) (z : Value) (size bytes : Nat) (ht : P.underlying t = some (.slice e)) (hi : P.info? e = some i) (hz : i.zero = some z)
    (hsize : i.size = size) (hby : i.bytes = bytes) (hzs : z.cells.size = size) (hsz : 0 < size)
    (v : Value) (n : Nat) (xs : List Value) (hown : w.ownsRow base e size v n xs) (x : Value) (m : Nat) (ys : List Value) (hx : IsSrc w size x m ys) (h1 : Ones ys)
    (h63 : n + m ≤ maxLen) (hbytes : (n + m) * bytes ≤ 140737488355328) (hbase : base ≤ w.heap.size) :
    ∃ v' w', (Builtin.append_ #[t, t] ty #[v, x]).run P w = .ok v' w' ∧ w'.ownsRow base e size v' (n + m) (xs ++ ys) ∧ w.grownBy w' v.ownBlock ∧ (v'.ownBlock = v.ownBlock ∨ v'.ownBlock = some w.heap.size) := by
  rcases hx with ⟨rfl, rfl, rfl⟩ | ⟨ad, c, rfl, hl, hc⟩
  · exact ⟨v, w, run_append_owned_none w base t ty e i size ht hi v n xs hown, by simpa using hown, World.grownBy.refl _ _, .inl rfl⟩
  · obtain ⟨v', w', a1, a2, a3, _, a5⟩ := run_append_own_at w base t ty e i z size bytes ht hi hz hsize hby hzs hsz v n xs hown ad m c ys hl hc h1 h63 hbytes hbase
    exact ⟨v', w', a1, a2, a3, a5⟩
theorem wp_append_any (w : World) {o : Oper} {a : Act} {K : Act → World → Prop} {Q : Exit → Act → World → Prop} (s x : Operand) (t : TypeId)
    (ho : o.op = .call { callee := .builtin .append, args := #[s, x], argTypes := #[t, t] })
    (base : Nat) (e : TypeId) (i : TypeInfo) (z : Value) (size bytes : Nat) (ht : P.underlying t = some (.slice e)) (hi : P.info? e = some i) (hz : i.zero = some z)
    (hsize : i.size = size) (hby : i.bytes = bytes) (hzs : z.cells.size = size) (hsz : 0 < size)
    (v : Value) (n : Nat) (xs : List Value) (hs : a.eval s = v) (hown : w.ownsRow base e size v n xs) (xv : Value) (m : Nat) (ys : List Value) (hx : a.eval x = xv) (hsrc : IsSrc w size xv m ys) (h1 : Ones ys)
    (h63 : n + m ≤ maxLen) (hbytes : (n + m) * bytes ≤ 140737488355328) (hbase : base ≤ w.heap.size)
    (h : ∀ v' w', w'.ownsRow base e size v' (n + m) (xs ++ ys) → w.grownBy w' v.ownBlock → (v'.ownBlock = v.ownBlock ∨ v'.ownBlock = some w.heap.size) → K (a.put o.dst v') w') : o.wp P a w K Q := by
  obtain ⟨v', w', hr, h2, h3, h4⟩ := run_append_any (P := P) w base t o.type e i z size bytes ht hi hz hsize hby hzs hsz v n xs hown xv m ys hsrc h1 h63 hbytes hbase
  unfold Oper.wp execOp
  simp only [ho, resolve, invoke, builtin, Sem.run_bind, Sem.run_pure, Result.andThen_ok, List.map_toArray, List.map_cons, List.map_nil, hs, hx, hr]
  exact h v' w' h2 h3 h4
theorem wpList_append_any (w : World) {ops : Array Oper} {rest : List Oper} {o : Oper} {a : Act} {Q : Exit → Act → World → Prop} (hgd : o.guard = none) (s x : Operand) (t : TypeId)
    (ho : o.op = .call { callee := .builtin .append, args := #[s, x], argTypes := #[t, t] })
    (base : Nat) (e : TypeId) (i : TypeInfo) (z : Value) (size bytes : Nat) (ht : P.underlying t = some (.slice e)) (hi : P.info? e = some i) (hz : i.zero = some z)
    (hsize : i.size = size) (hby : i.bytes = bytes) (hzs : z.cells.size = size) (hsz : 0 < size)
    (v : Value) (n : Nat) (xs : List Value) (hs : a.eval s = v) (hown : w.ownsRow base e size v n xs) (xv : Value) (m : Nat) (ys : List Value) (hx : a.eval x = xv) (hsrc : IsSrc w size xv m ys) (h1 : Ones ys)
    (h63 : n + m ≤ maxLen) (hbytes : (n + m) * bytes ≤ 140737488355328) (hbase : base ≤ w.heap.size)
    (h : ∀ v' w', w'.ownsRow base e size v' (n + m) (xs ++ ys) → w.grownBy w' v.ownBlock → (v'.ownBlock = v.ownBlock ∨ v'.ownBlock = some w.heap.size) → wpList P ops Q rest (a.put o.dst v') w') : wpList P ops Q (o :: rest) a w :=
  wpList_plain hgd fun _ hK => wp_append_any w s x t ho base e i z size bytes ht hi hz hsize hby hzs hsz v n xs hs hown xv m ys hx hsrc h1 h63 hbytes hbase fun v' w' h2 h3 h4 => hK _ _ (h v' w' h2 h3 h4)
theorem step_append_any (w : World) {ops : Array Oper} {o : Oper} {a : Act} {K : Act → World → Prop} {Q : Exit → Act → World → Prop} {E : Prop} (hgd : o.guard = none) (s x : Operand) (t : TypeId)
    (ho : o.op = .call { callee := .builtin .append, args := #[s, x], argTypes := #[t, t] })
    (base : Nat) (e : TypeId) (i : TypeInfo) (z : Value) (size bytes : Nat) (ht : P.underlying t = some (.slice e)) (hi : P.info? e = some i) (hz : i.zero = some z)
    (hsize : i.size = size) (hby : i.bytes = bytes) (hzs : z.cells.size = size) (hsz : 0 < size)
    (v : Value) (n : Nat) (xs : List Value) (hs : a.eval s = v) (hown : w.ownsRow base e size v n xs) (xv : Value) (m : Nat) (ys : List Value) (hx : a.eval x = xv) (hsrc : IsSrc w size xv m ys) (h1 : Ones ys)
    (h63 : n + m ≤ maxLen) (hbytes : (n + m) * bytes ≤ 140737488355328) (hbase : base ≤ w.heap.size)
    (h : ∀ v' w', w'.ownsRow base e size v' (n + m) (xs ++ ys) → w.grownBy w' v.ownBlock → (v'.ownBlock = v.ownBlock ∨ v'.ownBlock = some w.heap.size) → K (a.put o.dst v') w') :
    if Region.wanted o (yielded ops a.tmps) = true then Oper.wp P o a w K Q else E := by
  have hw : Region.wanted o (yielded ops a.tmps) = true := by simp [Region.wanted, hgd]
  rw [if_pos hw]
  exact wp_append_any w s x t ho base e i z size bytes ht hi hz hsize hby hzs hsz v n xs hs hown xv m ys hx hsrc h1 h63 hbytes hbase h
end Go.Proofs.Ytcoibhmgblicfaa.Aid
/- Rows of timers: the cells of a row, and of a timer in it. No program in sight. -/
set_option linter.unusedVariables false
set_option linter.unusedSimpArgs false
namespace Go.Proofs.Ytcoibhmgblicfaa.Q
open Go.RowKit Go.Proofs.Ytcoibhmgblicfaa.Aid Go.Proofs.Ytcoibhmgblicfaa.Tr
def Tm.list (a : Tm) : List Value := [.int .i64 a.id, .int .i64 a.clock, .int .i64 a.soft, .int .i64 a.hard, .bool a.lazy]
def tmc (l : List Tm) : List Value := l.flatMap Tm.list
theorem tmc_len (l : List Tm) : (tmc l).length = l.length * 5 := by
  induction l with
  | nil => rfl
  | cons a l ih => simp only [tmc, List.flatMap_cons, List.length_append, List.length_cons, Tm.list] at ih ⊢; simp only [List.length_nil]; omega
theorem tmc_app (l k : List Tm) : tmc (l ++ k) = tmc l ++ tmc k := by simp [tmc]
theorem tmc_ones (l : List Tm) : Ones (tmc l) := fun u hu => by
  obtain ⟨a, _, ha⟩ := List.mem_flatMap.1 hu
  simp only [Tm.list, List.mem_cons, List.not_mem_nil, or_false] at ha
  rcases ha with rfl | rfl | rfl | rfl | rfl <;> rfl
theorem tm_ones (a : Tm) : Ones a.list := fun u ha => by
  simp only [Tm.list, List.mem_cons, List.not_mem_nil, or_false] at ha
  rcases ha with rfl | rfl | rfl | rfl | rfl <;> rfl
theorem tmc_at : ∀ (l : List Tm) (j : Nat) (a : Tm), l[j]? = some a → (tmc l)[j * 5]? = some (.int .i64 a.id) ∧ (tmc l)[j * 5 + 1]? = some (.int .i64 a.clock) ∧ (tmc l)[j * 5 + 2]? = some (.int .i64 a.soft) ∧ (tmc l)[j * 5 + 3]? = some (.int .i64 a.hard) ∧ (tmc l)[j * 5 + 4]? = some (.bool a.lazy) := by
  intro l
  induction l with
  | nil => intro j e h; simp at h
  | cons b l ih =>
    intro j a h
    cases j with
    | zero =>
      simp only [List.getElem?_cons_zero, Option.some.injEq] at h
      subst h
      exact ⟨rfl, rfl, rfl, rfl, rfl⟩
    | succ j =>
      simp only [List.getElem?_cons_succ] at h
      obtain ⟨h1, h2, h3, h4, h5⟩ := ih j a h
      have e1 : tmc (b :: l) = b.list ++ tmc l := rfl
      have e2 : ∀ i, (tmc (b :: l))[i + 5]? = (tmc l)[i]? := fun i => by
        rw [e1, List.getElem?_append_right (by simp [Tm.list])]
        simp [Tm.list]
      refine ⟨?_, ?_, ?_, ?_, ?_⟩
      · rw [show (j + 1) * 5 = j * 5 + 5 by omega, e2]; exact h1
      · rw [show (j + 1) * 5 + 1 = j * 5 + 1 + 5 by omega, e2]; exact h2
      · rw [show (j + 1) * 5 + 2 = j * 5 + 2 + 5 by omega, e2]; exact h3
      · rw [show (j + 1) * 5 + 3 = j * 5 + 3 + 5 by omega, e2]; exact h4
      · rw [show (j + 1) * 5 + 4 = j * 5 + 4 + 5 by omega, e2]; exact h5
theorem tmc_take (l : List Tm) (k : Nat) : (tmc l).take (k * 5) = tmc (l.take k) := by
  induction l generalizing k with
  | nil => simp [tmc]
  | cons b l ih =>
    cases k with
    | zero => simp [tmc]
    | succ k =>
      have e1 : tmc (b :: l) = b.list ++ tmc l := rfl
      rw [e1, show (k + 1) * 5 = b.list.length + k * 5 by simp [Tm.list]; omega, List.take_length_add_append, ih]
      rfl
theorem tmc_drop (l : List Tm) (k : Nat) : (tmc l).drop (k * 5) = tmc (l.drop k) := by
  induction l generalizing k with
  | nil => simp [tmc]
  | cons b l ih =>
    cases k with
    | zero => simp [tmc]
    | succ k =>
      have e1 : tmc (b :: l) = b.list ++ tmc l := rfl
      rw [e1, show (k + 1) * 5 = b.list.length + k * 5 by simp [Tm.list]; omega, List.drop_length_add_append, ih]
      rfl
theorem infoTm : (Try.prog.info? 29).map (fun i => (i.zero.map (·.cells.size), i.size, i.bytes)) = some (some 5, 5, 40) := by kernel_rfl
theorem infoTm' : ∃ i z, Try.prog.info? 29 = some i ∧ i.zero = some z ∧ z.cells.size = 5 ∧ i.size = 5 ∧ i.bytes = 40 := by
  have h := infoTm
  cases e : Try.prog.info? 29 with
  | none => rw [e] at h; cases h
  | some i =>
    rw [e] at h
    simp only [Option.map_some, Option.some.injEq, Prod.mk.injEq] at h
    obtain ⟨h1, h2, h3⟩ := h
    cases ez : i.zero with
    | none => rw [ez] at h1; simp at h1
    | some z =>
      rw [ez] at h1
      simp only [Option.map_some, Option.some.injEq] at h1
      exact ⟨i, z, rfl, ez, h1, h2, h3⟩
theorem set2_far {W : World} {b HB : Nat} {u v : Value} (h : b ≠ HB) : ((W.setCell ⟨HB, 0, none⟩ u).setCell ⟨HB, 1, none⟩ v).heap[b]? = W.heap[b]? :=
  (Below.heap_setCell _ ⟨HB, 1, none⟩ v b h).trans (Below.heap_setCell _ ⟨HB, 0, none⟩ u b h)
/-- a slice that reads these timers; where it lies in its block does not matter -/
def RSl (w : World) (base : Nat) (v : Value) (l : List Tm) : Prop :=
  ∃ A cap, v = .slice A l.length cap ∧ l.length ≤ cap ∧ ((A = none ∧ l = [] ∧ cap = 0) ∨ ∃ g k, A = some ⟨g, k, none⟩ ∧ base ≤ g ∧ g < w.heap.size ∧ ∀ j u, (tmc l)[j]? = some u → w.cell? ⟨g, k + j, none⟩ = some u)
section
variable {w w' : World} {base : Nat} {v : Value} {l : List Tm}
theorem rsl_own (h : w.ownsRow base 29 5 v l.length (tmc l)) : RSl w base v l := by
  have h0 := h
  obtain ⟨hl, ⟨rfl, h1⟩ | ⟨g, cap, cur, rfl, h1, h2, h3, h4, h5, h6⟩⟩ := h
  · have : l = [] := List.length_eq_zero_iff.1 h1
    subst this
    exact ⟨none, 0, rfl, Nat.le_refl _, .inl ⟨rfl, rfl, rfl⟩⟩
  · refine ⟨_, cap, rfl, h3, .inr ⟨g, 0, rfl, h1, (own_block h0 rfl).2, fun j u hu => ?_⟩⟩
    rw [Nat.zero_add]
    exact own_cell h0 hu
theorem rsl_nil (w : World) (base : Nat) : RSl w base (.slice none 0 0) [] := ⟨none, 0, rfl, Nat.le_refl _, .inl ⟨rfl, rfl, rfl⟩⟩
theorem rsl_block (h : RSl w base v l) {b : Nat} (hb : v.ownBlock = some b) : base ≤ b ∧ b < w.heap.size := by
  obtain ⟨A, cap, rfl, _, ⟨rfl, _, _⟩ | ⟨g, k, rfl, h1, h2, _⟩⟩ := h
  · cases hb
  · injection hb with hb; subst hb; exact ⟨h1, h2⟩
theorem rsl_same (h : RSl w base v l) (k : ∀ b, v.ownBlock = some b → w'.heap[b]? = w.heap[b]?) : RSl w' base v l := by
  obtain ⟨A, cap, rfl, h0, ⟨rfl, h1, h2⟩ | ⟨g, o, rfl, h1, h2, h3⟩⟩ := h
  · exact ⟨none, cap, rfl, h0, .inl ⟨rfl, h1, h2⟩⟩
  · have e := k g rfl
    refine ⟨_, cap, rfl, h0, .inr ⟨g, o, rfl, h1, ?_, fun j u hu => ?_⟩⟩
    · rw [Array.getElem?_eq_getElem h2] at e
      exact (Array.getElem?_eq_some_iff.1 e).1
    · rw [← h3 j u hu]; exact World.cell?_of_block e
theorem rsl_below (h : RSl w base v l) (o : Below w.heap.size w w') : RSl w' base v l := rsl_same h fun b hb => o.block b (rsl_block h hb).2
theorem rsl_alloc (h : RSl w base v l) (o : Obj) : RSl (w.alloc o) base v l := rsl_below h ((Below.refl _ _).alloc (Nat.le_refl _) o)
theorem rsl_drewN (h : RSl w base v l) (k : Nat) : RSl (w.drewN k) base v l := rsl_same h fun _ _ => rfl
theorem rsl_only {S : Nat → Prop} (h : RSl w base v l) (o : Only S w w') (hs : ∀ b, base ≤ b → ¬ S b) : RSl w' base v l := rsl_same h fun b hb => o.block b (rsl_block h hb).2 (hs b (rsl_block h hb).1)
theorem rsl_parts (h : RSl w base v l) : ∃ A cap, v = .slice A l.length cap ∧ ∀ j, j < l.length → ∃ q k, A = some ⟨q, k, none⟩ := by
  obtain ⟨A, cap, rfl, _, ⟨rfl, rfl, _⟩ | ⟨g, k, rfl, _⟩⟩ := h
  · exact ⟨none, cap, rfl, fun j hj => absurd hj (Nat.not_lt_zero _)⟩
  · exact ⟨_, cap, rfl, fun j hj => ⟨g, k, rfl⟩⟩
theorem rsl_cell {q k n cap : Nat} (h : RSl w base (.slice (some ⟨q, k, none⟩) n cap) l) {j : Nat} {u : Value} (hu : (tmc l)[j]? = some u) : w.cell? ⟨q, k + j, none⟩ = some u := by
  obtain ⟨A, cap', e, _, ⟨rfl, rfl, _⟩ | ⟨g, o, rfl, _, _, h3⟩⟩ := h
  · cases hu
  · injection e with e _ _
    injection e with e
    injection e with e1 e2 _
    subst e1 e2
    exact h3 j u hu
/-- the cells of a timer in it -/
theorem rsl_tm {q k n cap : Nat} (h : RSl w base (.slice (some ⟨q, k, none⟩) n cap) l) {j : Nat} {a : Tm} (hj : l[j]? = some a) :
    w.cell? ⟨q, k + j * 5, none⟩ = some (.int .i64 a.id) ∧ w.cell? ⟨q, k + j * 5 + 1, none⟩ = some (.int .i64 a.clock) ∧ w.cell? ⟨q, k + j * 5 + 2, none⟩ = some (.int .i64 a.soft) ∧ w.cell? ⟨q, k + j * 5 + 3, none⟩ = some (.int .i64 a.hard) ∧ w.cell? ⟨q, k + j * 5 + 4, none⟩ = some (.bool a.lazy) := by
  obtain ⟨f0, f1, f2, f3, f4⟩ := tmc_at l j a hj
  exact ⟨rsl_cell h f0, rsl_cell h f1, rsl_cell h f2, rsl_cell h f3, rsl_cell h f4⟩
theorem rsl_cap {A : Option Addr} {n cap : Nat} (h : RSl w base (.slice A n cap) l) : n = l.length ∧ l.length ≤ cap := by
  obtain ⟨A', cap', e, h1, _⟩ := h
  injection e with e1 e2 e3
  subst e1 e2 e3
  exact ⟨rfl, h1⟩
theorem rsl_mono {base' : Nat} (h : RSl w base v l) (hb : base' ≤ base) : RSl w base' v l := by
  obtain ⟨A, cap, rfl, h0, h1 | ⟨g, o, rfl, h1, h2, h3⟩⟩ := h
  · exact ⟨A, cap, rfl, h0, .inl h1⟩
  · exact ⟨_, cap, rfl, h0, .inr ⟨g, o, rfl, Nat.le_trans hb h1, h2, h3⟩⟩
/-- l[:k], as the model writes it -/
theorem rsl_to {A : Option Addr} {n cap k : Nat} (h : RSl w base (.slice A n cap) l) (hk : k ≤ l.length) : IsSrc w 5 (.slice A k cap) k ((tmc l).take (k * 5)) := by
  have hl := tmc_len l
  obtain ⟨A', cap', e, h0, ⟨rfl, rfl, rfl⟩ | ⟨g, o, rfl, _, _, h3⟩⟩ := h
  · injection e with e1 e2 e3
    subst e1 e2 e3
    obtain rfl : k = 0 := by simpa using hk
    exact .inl ⟨rfl, rfl, rfl⟩
  · injection e with e1 e2 e3
    subst e1 e2 e3
    refine .inr ⟨_, _, rfl, by rw [List.length_take]; omega, fun j u hu => ?_⟩
    rw [add0]
    rw [List.getElem?_take] at hu
    split at hu
    · exact h3 j u hu
    · cases hu
/-- l[k:], as the model writes it -/
theorem rsl_from {A : Option Addr} {n cap k : Nat} (h : RSl w base (.slice A n cap) l) (hk : k ≤ l.length) : IsSrc w 5 (.slice (if cap = k then A else Option.map (fun x => x.add (k * 5)) A) (n - k) (cap - k)) (n - k) ((tmc l).drop (k * 5)) := by
  have hl := tmc_len l
  obtain ⟨A', cap', e, h0, ⟨rfl, rfl, rfl⟩ | ⟨g, o, rfl, _, _, h3⟩⟩ := h
  · injection e with e1 e2 e3
    subst e1 e2 e3
    obtain rfl : k = 0 := by simpa using hk
    exact .inl ⟨by simp, rfl, rfl⟩
  · injection e with e1 e2 e3
    subst e1 e2 e3
    by_cases hc : cap = k
    · rw [if_pos hc]
      refine .inr ⟨_, _, rfl, by rw [List.length_drop, hl]; omega, fun j u hu => ?_⟩
      rw [List.getElem?_drop, List.getElem?_eq_none (by omega)] at hu
      cases hu
    · rw [if_neg hc]
      refine .inr ⟨(⟨g, o, none⟩ : Addr).add (k * 5), _, rfl, by rw [List.length_drop, hl]; omega, fun j u hu => ?_⟩
      rw [add0, add0, Nat.add_assoc]
      rw [List.getElem?_drop] at hu
      exact h3 _ u hu
/-- the row without its first ones -/
theorem rsl_drop {A : Option Addr} {n cap k : Nat} (h : RSl w base (.slice A n cap) l) (hk : k ≤ l.length) : RSl w base (.slice (if cap = k then A else Option.map (fun x => x.add (k * 5)) A) (n - k) (cap - k)) (l.drop k) := by
  have hl := tmc_len l
  obtain ⟨A', cap', e, h0, ⟨rfl, rfl, rfl⟩ | ⟨g, o, rfl, h1, h2, h3⟩⟩ := h
  · injection e with e1 e2 e3
    subst e1 e2 e3
    obtain rfl : k = 0 := by simpa using hk
    exact ⟨none, 0, by simp, Nat.le_refl _, .inl ⟨rfl, rfl, rfl⟩⟩
  · injection e with e1 e2 e3
    subst e1 e2 e3
    refine ⟨_, cap - k, by rw [List.length_drop], by rw [List.length_drop]; omega, .inr ?_⟩
    by_cases hc : cap = k
    · rw [if_pos hc]
      refine ⟨g, o, rfl, h1, h2, fun j u hu => ?_⟩
      rw [← tmc_drop, List.getElem?_drop, List.getElem?_eq_none (by omega)] at hu
      cases hu
    · rw [if_neg hc]
      refine ⟨g, o + k * 5, by show some ((⟨g, o, none⟩ : Addr).add (k * 5)) = _; rw [add0], h1, h2, fun j u hu => ?_⟩
      rw [Nat.add_assoc]
      rw [← tmc_drop, List.getElem?_drop] at hu
      exact h3 _ u hu
end
end Go.Proofs.Ytcoibhmgblicfaa.Q
/- The law's place: where a timer is in a row. No condition but that memory holds the row. -/
set_option linter.unusedVariables false
set_option linter.unusedSimpArgs false
namespace Go.Proofs.Ytcoibhmgblicfaa.Q
open Go.RowKit Go.Proofs.Ytcoibhmgblicfaa.Aid Go.Proofs.Ytcoibhmgblicfaa.Tr
def PlcIs (l : List Tm) (id r : Int) : Prop := (r = -1 ∧ ∀ b, b ∈ l → b.id ≠ id) ∨ ∃ (k : Nat) (b : Tm), r = k ∧ k < l.length ∧ l[k]? = some b ∧ b.id = id
def PRel (w0 : World) (base : Nat) (v : Value) (l : List Tm) (id : Int) (m : Nat) (s9 : Value) (wr : World) : Prop :=
  ∃ k : Nat, k ≤ l.length ∧ m = l.length - k ∧ s9 = .int .i64 k ∧ Below w0.heap.size w0 wr ∧ RSl wr base v l ∧ ∀ j b, j < k → l[j]? = some b → b.id ≠ id
end Go.Proofs.Ytcoibhmgblicfaa.Q
/- The law's put: a timer behind all whose time isn't later; what stands in its walk. -/
set_option linter.unusedVariables false
set_option linter.unusedSimpArgs false
namespace Go.Proofs.Ytcoibhmgblicfaa.Q
open Go.RowKit Go.Proofs.Ytcoibhmgblicfaa.Aid Go.Proofs.Ytcoibhmgblicfaa.Tr Go.Proofs.Ytcoibhmgblicfaa.Kt
/-- how many items come ahead of a key, or with it -/
def atT (a : Tm) : List Tm → Nat
  | [] => 0
  | b :: l => if cl a.soft < cl b.soft then 0 else atT a l + 1
theorem atT_le (a : Tm) (l : List Tm) : atT a l ≤ l.length := by
  induction l with
  | nil => exact Nat.le_refl _
  | cons b l ih => unfold atT; split; exact Nat.zero_le _; simp only [List.length_cons]; omega
def insT (a : Tm) (l : List Tm) : List Tm := l.take (atT a l) ++ a :: l.drop (atT a l)
/-- what stands in the law's put -/
structure TMid (w0 W : World) (base : Nat) (v : Value) (l : List Tm) (X : Nat) (a : Tm) : Prop where
  b : Below w0.heap.size w0 W
  r : RSl W base v l
  x : Blk W X 29 #[.int .i64 a.id, .int .i64 a.clock, .int .i64 a.soft, .int .i64 a.hard, .bool a.lazy]
  k : ∀ q, v.ownBlock = some q → q < w0.heap.size
  hx : w0.heap.size ≤ X
theorem TMid.call {w0 W W' : World} {base X : Nat} {v : Value} {l : List Tm} {a : Tm} (h : TMid w0 W base v l X a) (b : Below W.heap.size W W') : TMid w0 W' base v l X a := ⟨h.b.trans (b.mono h.b.size), rsl_below h.r b, h.x.below b h.x.lt, h.k, h.hx⟩
theorem TMid.drew {w0 W : World} {base X : Nat} {v : Value} {l : List Tm} {a : Tm} (h : TMid w0 W base v l X a) : TMid w0 W.drew base v l X a := ⟨below_drewN h.b 1, rsl_drewN h.r 1, h.x, h.k, h.hx⟩
theorem TMid.stands (w0 : World) (base : Nat) (v : Value) (l : List Tm) (a : Tm) : Stands (fun W => TMid w0 W base v l w0.heap.size a) (w0.heap.size + 1) := by
  refine ⟨fun W h => h.x.lt, fun W o h => h.call ((Below.refl _ _).alloc (Nat.le_refl _) o), fun W h => h.drew, fun W W' row h g hr => ?_⟩
  refine ⟨h.b.grown g h.b.size (fun k hk => by have := hr k hk; omega), rsl_same h.r fun b hb => g.block b (rsl_block h.r hb).2 (fun e => ?_), h.x.grown g (fun e => ?_), h.k, h.hx⟩
  · have h1 := hr b e.symm
    have h2 := h.k b hb
    omega
  · have h1 := hr _ e.symm
    omega
def TRel (w0 : World) (base : Nat) (v : Value) (l : List Tm) (X : Nat) (a : Tm) (m : Nat) (s5 : Value) (wr : World) : Prop :=
  ∃ k : Nat, k ≤ atT a l ∧ m = l.length - k ∧ s5 = .int .i64 k ∧ TMid w0 wr base v l X a
theorem atT_lt {a : Tm} : ∀ {l : List Tm} {k : Nat} {b : Tm}, k ≤ atT a l → l[k]? = some b → (cl a.soft < cl b.soft ↔ k = atT a l) := by
  intro l
  induction l with
  | nil => intro k b _ h; simp at h
  | cons c l ih =>
    intro k b hk h
    unfold atT at hk ⊢
    by_cases e : cl a.soft < cl c.soft
    · rw [if_pos e] at hk ⊢
      have : k = 0 := by omega
      subst this
      simp only [List.getElem?_cons_zero, Option.some.injEq] at h
      subst h
      simp [e]
    · rw [if_neg e] at hk ⊢
      cases k with
      | zero =>
        simp only [List.getElem?_cons_zero, Option.some.injEq] at h
        subst h
        simp [e]
      | succ k =>
        simp only [List.getElem?_cons_succ] at h
        rw [ih (by omega) h]
        omega
end Go.Proofs.Ytcoibhmgblicfaa.Q
/- A queue as its callers see it: a row of timers, and what each of its functions answers and leaves. No condition but that memory holds a queue. -/
set_option linter.unusedVariables false
set_option linter.unusedSimpArgs false
namespace Go.Proofs.Ytcoibhmgblicfaa.Q
open Go.RowKit Go.Proofs.Ytcoibhmgblicfaa.Aid Go.Proofs.Ytcoibhmgblicfaa.Tr Go.Proofs.Ytcoibhmgblicfaa.Kt
/-- a queue's blocks -/
structure QP where
  q : Nat
  g : Nat
  gl : Nat
  m1 : Nat
  m2 : Nat
def QP.F (P : QP) : Nat → Prop := QF P.q P.g P.gl P.m1 P.m2
def QP.v (P : QP) : Value := .pointer (some ⟨P.q, 0, none⟩)
/-- memory holds a queue of these timers, in order; at most M came so far -/
def QHas (w : World) (P : QP) (row : List Tm) (M : Int) : Prop := ∃ s T fl tm A B, QIs w P.q P.g P.gl P.m1 P.m2 s T fl tm A B ∧ row = T.ino.map tm ∧ TnB s M ∧ 0 ≤ M
section
variable {w w' : World} {P : QP} {row : List Tm} {M : Int}
theorem QHas.foot_lt (h : QHas w P row M) {b : Nat} (hb : P.F b) : b < w.heap.size := by
  obtain ⟨s, T, fl, tm, A, B, h, _⟩ := h; exact h.foot_lt hb
theorem QHas.same (h : QHas w P row M) (e : ∀ b, P.F b → w'.heap[b]? = w.heap[b]?) : QHas w' P row M := by
  obtain ⟨s, T, fl, tm, A, B, h, k⟩ := h; exact ⟨s, T, fl, tm, A, B, h.same e, k⟩
theorem QHas.below (h : QHas w P row M) (b : Below w.heap.size w w') : QHas w' P row M := h.same fun i hi => b.block i (h.foot_lt hi)
theorem QHas.alloc (h : QHas w P row M) (o : Obj) : QHas (w.alloc o) P row M := h.below ((Below.refl _ _).alloc (Nat.le_refl _) o)
theorem QHas.drewN (h : QHas w P row M) (n : Nat) : QHas (w.drewN n) P row M := h.same fun _ _ => rfl
theorem QHas.drew (h : QHas w P row M) : QHas w.drew P row M := h.same fun _ _ => rfl
theorem QHas.far (h : QHas w P row M) {p : Addr} (hp : ¬ P.F p.block) (u : Value) : QHas (w.setCell p u) P row M := h.same fun b hb => Below.heap_setCell w p u b (by rintro rfl; exact hp hb)
theorem QHas.only {S : Nat → Prop} (h : QHas w P row M) (o : Only S w w') (hs : ∀ b, P.F b → ¬ S b) : QHas w' P row M := h.same fun b hb => o.block b (h.foot_lt hb) (hs b hb)
theorem QHas.len (h : QHas w P row M) : row.length ≤ 64 := by
  obtain ⟨s, T, fl, tm, A, B, h, rfl, _⟩ := h
  have h1 := h.t.cnt
  have h2 := h.t.m.sz
  have h3 := h.t.cap
  have h4 := h.most
  rw [List.length_map]
  omega
theorem QHas.wf (h : QHas w P row M) {a : Tm} (ha : a ∈ row) : I64 a.id := by
  obtain ⟨s, T, fl, tm, A, B, h, rfl, _⟩ := h
  obtain ⟨x, hx, rfl⟩ := List.mem_map.1 ha
  exact h.wf x hx
theorem QHas.ids (h : QHas w P row M) : (row.map Tm.id).Nodup := by
  obtain ⟨s, T, fl, tm, A, B, h, rfl, _⟩ := h
  have hn := h.t.rb.nd
  rw [List.map_map]
  refine List.pairwise_map.2 (List.Pairwise.imp_of_mem ?_ hn)
  intro x y hx hy hxy e
  exact hxy (h.inj hx hy e)
theorem QHas.mono (h : QHas w P row M) {M' : Int} (hM : M ≤ M') : QHas w P row M' := by
  obtain ⟨s, T, fl, tm, A, B, h, k, t, h0⟩ := h
  exact ⟨s, T, fl, tm, A, B, h, k, fun z hz => ⟨(t z hz).1, by have := (t z hz).2; omega⟩, by omega⟩
theorem QHas.sorted (h : QHas w P row M) : row.Pairwise (fun a b => cl a.soft ≤ cl b.soft) := by
  obtain ⟨s, T, fl, tm, A, B, h, rfl, _⟩ := h
  have hs := h.t.srt
  rw [List.pairwise_map]
  refine hs.imp_of_mem ?_
  intro x y hx hy e
  have h1 := h.key x hx
  have h2 := h.key y hy
  unfold kle at e
  omega
end
def hasT (row : List Tm) (id : Int) : Bool := row.any (fun b => decide (b.id = id))
def getT (row : List Tm) (id : Int) : Tm := (row.find? (fun b => decide (b.id = id))).getD zeroT
def delT (row : List Tm) (id : Int) : List Tm := row.eraseP (fun b => decide (b.id = id))
def addE (row : List Tm) (a : Tm) : Int := if a.hard < a.soft then 2 else if hasT row a.id then 9 else if row.length = 64 then 3 else 0
def addR (row : List Tm) (a : Tm) : List Tm := if addE row a = 0 then insT a row else row
def dueB (row : List Tm) (now : Int) : Bool := match row with
  | [] => false
  | a :: _ => !nev a.soft && decide (cl a.soft ≤ cl now)
theorem agg_agg' (a : Tm) : a.agg = a.agg' := rfl
section
variable {w w' : World} {P : QP} {row : List Tm} {M : Int}
theorem hasT_iff {l : List Nat} {tm : Nat → Tm} {id : Int} : hasT (l.map tm) id = true ↔ ∃ x, x ∈ l ∧ (tm x).id = id := by
  unfold hasT
  rw [List.any_eq_true]
  constructor
  · rintro ⟨b, hb, e⟩
    obtain ⟨x, hx, rfl⟩ := List.mem_map.1 hb
    exact ⟨x, hx, of_decide_eq_true e⟩
  · rintro ⟨x, hx, e⟩
    exact ⟨_, List.mem_map.2 ⟨x, hx, rfl⟩, decide_eq_true e⟩
theorem QIs.has' {q g gl m1 m2 : Nat} {s : TS} {T : Sh} {fl : List Nat} {tm : Nat → Tm} {A B : Value → Option Value} (h : QIs w q g gl m1 m2 s T fl tm A B) (id : Int) :
    (∃ x, x ∈ T.ino ∧ (tm x).id = id ∧ hasT (T.ino.map tm) id = true ∧ (A (.int .i64 id)).isSome = true) ∨ (hasT (T.ino.map tm) id = false ∧ A (.int .i64 id) = none) := by
  rcases h.has id with ⟨x, hx, e, eA⟩ | ⟨hn, eA⟩
  · exact .inl ⟨x, hx, e, hasT_iff.2 ⟨x, hx, e⟩, by rw [eA]; rfl⟩
  · refine .inr ⟨?_, eA⟩
    cases e : hasT (T.ino.map tm) id with
    | false => rfl
    | true =>
      obtain ⟨x, hx, e⟩ := hasT_iff.1 e
      exact absurd e (hn x hx)
theorem QHas_new (w : World) : Calls Try.prog 18 #[] w fun e w' => ∃ P : QP, e = .returned P.v ∧ QHas w' P [] 0 ∧ (∀ b, P.F b → w.heap.size ≤ b) ∧ Below w.heap.size w w' :=
  (QNew_any w (fun _ => zeroT)).mono fun e w' ⟨q, g, gl, m1, m2, h1, h2, h3, h4⟩ => ⟨⟨q, g, gl, m1, m2⟩, h1, ⟨_, _, _, _, _, _, h2, rfl, TnB.new 64, Int.le_refl _⟩, h3, h4⟩
theorem QHas_has (h : QHas w P row M) (id : Int) (hid : I64 id) : Calls Try.prog 36 #[P.v, .int .i64 id] w fun e w' => e = .returned (.bool (hasT row id)) ∧ Below w.heap.size w w' := by
  obtain ⟨s, T, fl, tm, A, B, h, rfl, _⟩ := h
  refine (Has_any _ _ _ _ _ s T fl tm A B id hid w h).mono ?_
  rintro e w' ⟨rfl, b⟩
  refine ⟨?_, b⟩
  rcases h.has' id with ⟨_, _, _, e1, e2⟩ | ⟨e1, e2⟩
  · rw [e1, e2]
  · rw [e1, e2]; rfl
theorem QHas_len (h : QHas w P row M) : Calls Try.prog 34 #[P.v] w fun e w' => e = .returned (.int .i64 (row.length : Nat)) ∧ w = w' := by
  obtain ⟨s, T, fl, tm, A, B, h, rfl, _⟩ := h
  rw [List.length_map]
  exact QLen_any _ _ _ _ _ s T fl tm A B w h
theorem QHas_first (h : QHas w P row M) : Calls Try.prog 27 #[P.v] w fun e w' => e = .returned (.tuple #[(row.head?.getD zeroT).agg, .bool (decide (row ≠ []))]) ∧ Below w.heap.size w w' := by
  obtain ⟨s, T, fl, tm, A, B, h, rfl, _⟩ := h
  cases e : T.ino with
  | nil => exact QFirst_none _ _ _ _ _ s T fl tm A B w h e
  | cons x l =>
    refine (QFirst_some _ _ _ _ _ s T fl tm A B w h x l e).mono ?_
    rintro e' w' ⟨rfl, b⟩
    exact ⟨by simp [agg_agg'], b⟩
theorem atT_pre {a : Tm} : ∀ {l k : List Tm}, (∀ b, b ∈ l → ¬ cl a.soft < cl b.soft) → (∀ b, b ∈ k → cl a.soft < cl b.soft) → atT a (l ++ k) = l.length := by
  intro l
  induction l with
  | nil =>
    intro k _ hk
    cases k with
    | nil => rfl
    | cons b k => show (if cl a.soft < cl b.soft then 0 else _) = 0; rw [if_pos (hk b (by simp))]
  | cons c l ih =>
    intro k hl hk
    show (if cl a.soft < cl c.soft then 0 else atT a (l ++ k) + 1) = _
    rw [if_neg (hl c (by simp)), ih (fun b hb => hl b (by simp [hb])) hk]
    rfl
theorem map_other {tm tm' : Nat → Tm} {x : Nat} (h : ∀ y, y ≠ x → tm' y = tm y) {l : List Nat} (hl : x ∉ l) : l.map tm' = l.map tm :=
  List.map_congr_left fun y hy => h y (fun e => hl (e ▸ hy))
theorem QHas_add (h : QHas w P row M) (a : Tm) (hid : I64 a.id) (hM : M ≤ 4611686018427387904) :
    Calls Try.prog 21 #[P.v, a.agg] w fun e w' => e = .returned (.int .i64 (addE row a)) ∧ QHas w' P (addR row a) (M + 1) ∧ Only P.F w w' := by
  have h0 := h
  have hlen := h.len
  obtain ⟨s, T, fl, tm, A, B, h, rfl, ht, hM0⟩ := h
  by_cases c1 : a.hard < a.soft
  · refine (Add_inval P.q a c1 w).mono ?_
    rintro e w' ⟨rfl, b⟩
    have e1 : addE (T.ino.map tm) a = 2 := by unfold addE; rw [if_pos c1]
    exact ⟨by rw [e1], by unfold addR; rw [e1]; exact (h0.below b).mono (by omega), Only.of_below b _⟩
  rcases h.has' a.id with ⟨x, hx, ex, e2, e3⟩ | ⟨e2, e3⟩
  · refine (Add_busy _ _ _ _ _ s T fl tm A B a hid c1 w h x hx ex).mono ?_
    rintro e w' ⟨rfl, b⟩
    have e1 : addE (T.ino.map tm) a = 9 := by unfold addE; rw [if_neg c1, if_pos e2]
    exact ⟨by rw [e1], by unfold addR; rw [e1]; exact (h0.below b).mono (by omega), Only.of_below b _⟩
  by_cases c3 : T.ino.length = 64
  · refine (Add_full _ _ _ _ _ s T fl tm A B a hid c1 w h e3 c3).mono ?_
    rintro e w' ⟨rfl, h', o⟩
    have e1 : addE (T.ino.map tm) a = 3 := by unfold addE; rw [if_neg c1, e2, if_neg (by simp), if_pos (by rw [List.length_map]; exact c3)]
    exact ⟨by rw [e1], by unfold addR; rw [e1]; exact QHas.mono (M := M) ⟨s, T, fl, tm, A, B, h', rfl, ht, hM0⟩ (by omega), o⟩
  · have hl : T.ino.length < 64 := by rw [List.length_map] at hlen; omega
    refine (Add_room _ _ _ _ _ s T fl tm A B a hid c1 w h e3 hl (ht.bnd hM)).mono ?_
    rintro e w' ⟨rfl, s', T', fl', x, pre, post, tm', A', B', h', R, hx, ho, o⟩
    have e1 : addE (T.ino.map tm) a = 0 := by unfold addE; rw [if_neg c1, e2, if_neg (by simp), if_neg (by rw [List.length_map]; exact c3)]
    refine ⟨by rw [e1], ⟨s', T', fl', tm', A', B', h', ?_, ht.put R hM0, by omega⟩, o⟩
    have hnd := h'.t.rb.nd
    rw [R.ino'] at hnd
    have hxn := (sub_nodup hnd).2
    have n1 : x ∉ pre := fun e => hxn (by simp [e])
    have n2 : x ∉ post := fun e => hxn (by simp [e])
    unfold addR
    rw [e1, if_pos rfl, R.ino', R.ino]
    simp only [List.map_append, List.map_cons, hx, map_other ho n1, map_other ho n2]
    unfold insT
    rw [atT_pre, List.take_left, List.drop_left]
    · intro b hb
      obtain ⟨z, hz, rfl⟩ := List.mem_map.1 hb
      have h1 := R.pre z hz
      have h2 := h.key z (by rw [R.ino]; simp [hz])
      unfold kle at h1
      omega
    · intro b hb
      obtain ⟨z, hz, rfl⟩ := List.mem_map.1 hb
      have h1 := R.post z hz
      have h2 := h.key z (by rw [R.ino]; simp [hz])
      unfold kle at h1
      omega
theorem drop_row {s s' : TS} {T T' : Sh} {x : Nat} {pre post : List Nat} (R : DropRes s T x s' T' pre post) {tm : Nat → Tm} (inj : ∀ y, y ∈ T.ino → (tm y).id = (tm x).id → y = x) (nd : T.ino.Nodup) : T'.ino.map tm = delT (T.ino.map tm) (tm x).id ∧ getT (T.ino.map tm) (tm x).id = tm x := by
  rw [R.ino] at nd inj
  have hx := (sub_nodup nd).2
  have h1 : ∀ b, b ∈ pre.map tm → ¬ (decide (b.id = (tm x).id)) = true := fun b hb e => by
    obtain ⟨z, hz, rfl⟩ := List.mem_map.1 hb
    have := inj z (by simp [hz]) (of_decide_eq_true e)
    exact hx (by rw [← this]; simp [hz])
  constructor
  · rw [R.ino, R.ino']
    unfold delT
    simp only [List.map_append, List.map_cons]
    rw [List.eraseP_append_right _ h1, List.eraseP_cons_of_pos (by simp)]
  · rw [R.ino]
    unfold getT
    simp only [List.map_append, List.map_cons, List.find?_append]
    rw [List.find?_eq_none.2 h1, Option.none_or, List.find?_cons_of_pos (by simp)]
    rfl
theorem QHas_drop (h : QHas w P row M) (id : Int) (hid : I64 id) :
    Calls Try.prog 24 #[P.v, .int .i64 id] w fun e w' => e = .returned (.tuple #[(getT row id).agg, .bool (hasT row id)]) ∧ QHas w' P (delT row id) M ∧ Only P.F w w' := by
  have h0 := h
  obtain ⟨s, T, fl, tm, A, B, h, rfl, ht, hM0⟩ := h
  rcases h.has' id with ⟨x, hx, rfl, e2, e3⟩ | ⟨e2, e3⟩
  · refine (QDrop_yes _ _ _ _ _ s T fl tm A B w h x hx).mono ?_
    rintro e w' ⟨rfl, s', T', fl', pre, post, A', B', h', R, o⟩
    obtain ⟨r1, r2⟩ := drop_row R (tm := tm) (fun y hy e => h.inj hy hx e) h.t.rb.nd
    exact ⟨by rw [r2, e2], ⟨s', T', fl', tm, A', B', h', r1.symm, ht.drop R, hM0⟩, o⟩
  · refine (QDrop_no _ _ _ _ _ s T fl tm A B id hid w h e3).mono ?_
    rintro e w' ⟨rfl, b⟩
    have hn : ∀ b, b ∈ T.ino.map tm → ¬ (decide (b.id = id)) = true := fun b hb e => by
      have : hasT (T.ino.map tm) id = true := List.any_eq_true.2 ⟨b, hb, e⟩
      rw [e2] at this; cases this
    have r1 : delT (T.ino.map tm) id = T.ino.map tm := List.eraseP_of_forall_not hn
    have r2 : getT (T.ino.map tm) id = zeroT := by unfold getT; rw [List.find?_eq_none.2 hn]; rfl
    exact ⟨by rw [r2, e2, agg_agg'], by rw [r1]; exact h0.below b, Only.of_below b _⟩
theorem QHas_due (h : QHas w P row M) (now : Int) :
    Calls Try.prog 30 #[P.v, .int .i64 now] w fun e w' => e = .returned (.tuple #[(if dueB row now then row.head?.getD zeroT else zeroT).agg, .bool (dueB row now)]) ∧ QHas w' P (if dueB row now then row.tail else row) M ∧ Only P.F w w' := by
  have h0 := h
  obtain ⟨s, T, fl, tm, A, B, h, rfl, ht, hM0⟩ := h
  cases eT : T.ino with
  | nil =>
    rw [eT] at h0
    refine (Due_none _ _ _ _ _ s T fl tm A B w h eT now).mono ?_
    rintro e w' ⟨rfl, b⟩
    exact ⟨rfl, h0.below b, Only.of_below b _⟩
  | cons x l =>
    rw [eT] at h0
    cases en : nev (tm x).soft with
    | true =>
      refine (Due_never _ _ _ _ _ s T fl tm A B w h x l eT now en).mono ?_
      rintro e w' ⟨rfl, b⟩
      have e1 : dueB ((x :: l).map tm) now = false := by show (!nev (tm x).soft && _) = false; rw [en]; rfl
      rw [e1]
      exact ⟨rfl, h0.below b, Only.of_below b _⟩
    | false =>
      by_cases hc : cl (tm x).soft > cl now
      · refine (Due_later _ _ _ _ _ s T fl tm A B w h x l eT now en hc).mono ?_
        rintro e w' ⟨rfl, b⟩
        have e1 : dueB ((x :: l).map tm) now = false := by show (!nev (tm x).soft && _) = false; rw [en, decide_eq_false (by omega)]; rfl
        rw [e1]
        exact ⟨rfl, h0.below b, Only.of_below b _⟩
      · refine (Due_fire _ _ _ _ _ s T fl tm A B w h x l eT now en hc).mono ?_
        rintro e w' ⟨rfl, s', T', fl', pre, post, A', B', h', R, o⟩
        have e1 : dueB ((x :: l).map tm) now = true := by show (!nev (tm x).soft && _) = true; rw [en, decide_eq_true (by omega)]; rfl
        rw [e1]
        obtain ⟨r1, r2⟩ := drop_row R (tm := tm) (fun y hy e => h.inj hy (by rw [eT]; simp) e) h.t.rb.nd
        refine ⟨rfl, ⟨s', T', fl', tm, A', B', h', ?_, ht.drop R, hM0⟩, o⟩
        rw [r1, eT]
        unfold delT
        rw [List.map_cons, List.eraseP_cons_of_pos (by simp)]
        rfl
end
end Go.Proofs.Ytcoibhmgblicfaa.Q
/- The law's put: a timer behind all whose time isn't later; its walk. -/
set_option linter.unusedVariables false
set_option linter.unusedSimpArgs false
namespace Go.Proofs.Ytcoibhmgblicfaa.Q
open Go.RowKit Go.Proofs.Ytcoibhmgblicfaa.Aid Go.Proofs.Ytcoibhmgblicfaa.Tr Go.Proofs.Ytcoibhmgblicfaa.Kt
end Go.Proofs.Ytcoibhmgblicfaa.Q
