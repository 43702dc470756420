/- Lemmas and contracts for RowQueuePlays, merged by program out of Qk, Ql, Row, Qn, Teb, Leaf, Ted. No condition. -/
import Derived.Test.YtfoigflgglpobaaBQ8
import Derived.Test.YtfoigflgglpobaaBQ0
import Derived.Test.YtfoigflgglpobaaBQ6
import Derived.Maps.AppendAt
import Derived.Laws.OwnMore
import Derived.Deep.AppendLies
import Derived.Deep.Slices
import Derived.ChangeSame
import Derived.ChangeArms
import Derived.OpenShut
import Derived.WideShapes
import Derived.Laws.Rows
import Derived.RowKit
set_option linter.unusedVariables false
set_option linter.unusedSimpArgs false
/- The contract of queue's Due where a timer's time has come. No condition but that memory holds a queue. -/
set_option linter.unusedVariables false
set_option linter.unusedSimpArgs false
namespace Go.Proofs.Ytfoigflgglpobaa.Q
open Go.RowKit Go.Proofs.Ytfoigflgglpobaa.Aid Go.Proofs.Ytfoigflgglpobaa.Tr Go.Proofs.Ytfoigflgglpobaa.Kt
set_option maxHeartbeats 1000000 in
set_option maxRecDepth 100000 in
theorem Due_fire (q g gl m1 m2 : Nat) (s : TS) (T : Sh) (fl : List Nat) (tm : Nat → Tm) (A B : Value → Option Value) (w : World) (h : QIs w q g gl m1 m2 s T fl tm A B) (x : Nat) (l : List Nat) (hT : T.ino = x :: l) (now : Int) (hn : nev (tm x).soft = false) (hc : ¬ cl (tm x).soft > cl now) :
    Calls Try.prog 32 #[.pointer (some ⟨q, 0, none⟩), .int .i64 now] w (DropQ q g gl m1 m2 s T tm x w) := by
  have hb := Blk.new w 65 zeroT.cells
  have hq := h.alloc (.cells zeroT.cells 65)
  have B0 := (Only.refl (QF q g gl m1 m2) w).alloc (.cells zeroT.cells 65)
  have hR : ¬ QF q g gl m1 m2 w.heap.size := fun e => Nat.lt_irrefl _ (h.foot_lt e)
  have hx : x ∈ T.ino := by rw [hT]; simp
  unfold Tm.cells zeroT at hb hq B0
  clear h
  have HX := Lib.hid (And.intro hx (And.intro hT hn))
  clear hx hT
  go_enter Try.func32, Try.ntmps32
  go_upto_region 1 with fail
  generalize w.alloc (.cells #[.int .i64 0, .int .i64 0, .int .i64 0, .int .i64 0, .bool false] 65) = W at hb hq B0 ⊢
  obtain ⟨R, hRe⟩ : ∃ R, w.heap.size = R := ⟨_, rfl⟩
  rw [hRe] at hb hR ⊢
  have HR := Lib.hid (show w.heap.size ≤ R by omega)
  clear hRe
  have CF := QFirst_some q g gl m1 m2 s T fl tm A B W hq x l HX.out.2.1
  unfold Tm.agg' at CF
  have HCF := Lib.hid CF
  have HB := Lib.hid (And.intro hb (And.intro B0 hq))
  clear CF hq hb B0 hn
  go_wp2_with fail
  refine HCF.out.mono ?_
  rintro e W1 ⟨rfl, b1⟩
  have Q2 := (HB.out.2.2.below b1).alloc (.cells (tm x).cells 65)
  have br2 := (HB.out.1.below b1 HB.out.1.lt).alloc (.cells (tm x).cells 65)
  have O2 := (HB.out.2.1.below b1).alloc (.cells (tm x).cells 65)
  have bf2 := Blk.new W1 65 (tm x).cells
  unfold Tm.cells at Q2 br2 O2 bf2
  clear HB HCF b1
  go_upto_region 2 with fail
  generalize W1.alloc (.cells #[.int .i64 (tm x).id, .int .i64 (tm x).clock, .int .i64 (tm x).soft, .int .i64 (tm x).hard, .bool (tm x).lazy] 65) = W2 at Q2 br2 O2 bf2 ⊢
  generalize W1.heap.size = F at bf2 ⊢
  have f0 : W2.cell? ⟨F, 0, none⟩ = some (.int .i64 (tm x).id) := bf2.cell 0
  have f2 : W2.cell? ⟨F, 2, none⟩ = some (.int .i64 (tm x).soft) := bf2.cell 2
  have CD := Lib.hid (QDrop_yes q g gl m1 m2 s T fl tm A B W2 Q2 x HX.out.1)
  have HQ := Lib.hid (And.intro br2 O2)
  clear Q2 br2 O2 bf2
  go_wp2_with fail
  refine (never_any _ _).mono ?_
  rintro e wz ⟨rfl, rfl⟩
  rw [HX.out.2.2]
  go_wp2_with fail
  refine (clamp_any _ _).mono ?_
  rintro e wz ⟨rfl, rfl⟩
  go_wp2_with fail
  refine (clamp_any _ _).mono ?_
  rintro e wz ⟨rfl, rfl⟩
  go_wp2_with fail
  refine CD.out.mono ?_
  rintro e W3 ⟨rfl, s', T', fl', pre, post, A', B', Q3, R3, O3⟩
  have br3 := O3.blk HQ.out.1 hR
  have c0 : W3.cell? ⟨R, 0, none⟩ = some (.int .i64 0) := br3.cell 0
  have c1 : W3.cell? ⟨R, 1, none⟩ = some (.int .i64 0) := br3.cell 1
  have c2 : W3.cell? ⟨R, 2, none⟩ = some (.int .i64 0) := br3.cell 2
  have c3 : W3.cell? ⟨R, 3, none⟩ = some (.int .i64 0) := br3.cell 3
  have c4 : W3.cell? ⟨R, 4, none⟩ = some (.bool false) := br3.cell 4
  have fz := br3.frozen
  have O5 := HQ.out.2.then O3
  have HD6 := Lib.hid (And.intro Q3 (And.intro R3 (And.intro O5 br3)))
  clear Q3 R3 O5 O3 br3 HQ CD f0 f2
  unfold Tm.agg
  go_wp2_with fail
  clear c0 c1 c2 c3 c4
  obtain ⟨Q5, R5, O5, bR5⟩ := HD6.out
  have hb6 : Blk (set5 W3 R (tm x)) R 65 (tm x).cells := set5_blk (a := zeroT) bR5
  obtain ⟨r0, r1, r2, r3, r4⟩ := bx5_cells hb6
  have O6 : Only (QF q g gl m1 m2) w (set5 W3 R (tm x)) := ((((O5.setCell (p := ⟨R, 0, none⟩) (.inr HR.out) _).setCell (p := ⟨R, 1, none⟩) (.inr HR.out) _).setCell (p := ⟨R, 2, none⟩) (.inr HR.out) _).setCell (p := ⟨R, 3, none⟩) (.inr HR.out) _).setCell (p := ⟨R, 4, none⟩) (.inr HR.out) _
  have Q6 := ((((Q5.far (p := ⟨R, 0, none⟩) hR (.int .i64 (tm x).id)).far (p := ⟨R, 1, none⟩) hR (.int .i64 (tm x).clock)).far (p := ⟨R, 2, none⟩) hR (.int .i64 (tm x).soft)).far (p := ⟨R, 3, none⟩) hR (.int .i64 (tm x).hard)).far (p := ⟨R, 4, none⟩) hR (.bool (tm x).lazy)
  have FIN : DropQ q g gl m1 m2 s T tm x w (.returned (.tuple #[(tm x).agg, .bool true])) (set5 W3 R (tm x)) := ⟨rfl, s', T', _, pre, post, _, _, Q6, R5, O6⟩
  unfold set5 at r0 r1 r2 r3 r4 FIN
  unfold Tm.agg at FIN
  exact bodyPost_ret (v := .tuple #[.agg #[.int .i64 (tm x).id, .int .i64 (tm x).clock, .int .i64 (tm x).soft, .int .i64 (tm x).hard, .bool (tm x).lazy], .bool true]) (by simp [results, Try.results32, go_sem, r0, r1, r2, r3, r4]) rfl FIN
end Go.Proofs.Ytfoigflgglpobaa.Q
/- The contract of queue's Due where none has come. No condition but that memory holds a queue. -/
set_option linter.unusedVariables false
set_option linter.unusedSimpArgs false
namespace Go.Proofs.Ytfoigflgglpobaa.Q
open Go.RowKit Go.Proofs.Ytfoigflgglpobaa.Aid Go.Proofs.Ytfoigflgglpobaa.Tr Go.Proofs.Ytfoigflgglpobaa.Kt
set_option maxHeartbeats 1000000 in
set_option maxRecDepth 100000 in
theorem Due_none (q g gl m1 m2 : Nat) (s : TS) (T : Sh) (fl : List Nat) (tm : Nat → Tm) (A B : Value → Option Value) (w : World) (h : QIs w q g gl m1 m2 s T fl tm A B) (hT : T.ino = []) (now : Int) :
    Calls Try.prog 32 #[.pointer (some ⟨q, 0, none⟩), .int .i64 now] w fun e w' => e = .returned (.tuple #[zeroT.agg', .bool false]) ∧ Below w.heap.size w w' := by
  unfold Tm.agg' zeroT
  have hb := Blk.new w 65 zeroT.cells
  have hq := h.alloc (.cells zeroT.cells 65)
  have B0 : Below w.heap.size w (w.alloc (.cells zeroT.cells 65)) := (Below.refl w.heap.size w).alloc (Nat.le_refl _) _
  unfold Tm.cells zeroT at hb hq B0
  clear h
  have HX := Lib.hid hT
  clear hT
  go_enter Try.func32, Try.ntmps32
  go_upto_region 1 with fail
  generalize w.alloc (.cells #[.int .i64 0, .int .i64 0, .int .i64 0, .int .i64 0, .bool false] 65) = W at hb hq B0 ⊢
  obtain ⟨R, hRe⟩ : ∃ R, w.heap.size = R := ⟨_, rfl⟩
  rw [hRe] at hb ⊢
  have HR := Lib.hid (show w.heap.size ≤ R by omega)
  clear hRe
  have CF := QFirst_none q g gl m1 m2 s T fl tm A B W hq HX.out
  unfold Tm.agg' at CF
  have HCF := Lib.hid CF
  have HB := Lib.hid (And.intro hb B0)
  clear CF hq hb B0
  go_wp2_with fail
  refine HCF.out.mono ?_
  rintro e W1 ⟨rfl, b1⟩
  have br2 := (HB.out.1.below b1 HB.out.1.lt).alloc (.cells zeroT.cells 65)
  have B2 := (HB.out.2.trans (b1.mono HB.out.2.size)).alloc (Nat.le_trans HB.out.2.size b1.size) (.cells zeroT.cells 65)
  have bf2 := Blk.new W1 65 zeroT.cells
  unfold Tm.cells at br2 B2 bf2
  clear HB HCF b1
  go_upto_region 2 with fail
  generalize W1.alloc (.cells #[.int .i64 zeroT.id, .int .i64 zeroT.clock, .int .i64 zeroT.soft, .int .i64 zeroT.hard, .bool zeroT.lazy] 65) = W2 at br2 B2 bf2 ⊢
  generalize W1.heap.size = F at bf2 ⊢
  have f2 : W2.cell? ⟨F, 2, none⟩ = some (.int .i64 zeroT.soft) := bf2.cell 2
  have HQ := Lib.hid (And.intro br2 B2)
  clear br2 B2 bf2
  have br3 : Blk W2 R 65 zeroT.cells := HQ.out.1
  have c0 : W2.cell? ⟨R, 0, none⟩ = some (.int .i64 0) := br3.cell 0
  have c1 : W2.cell? ⟨R, 1, none⟩ = some (.int .i64 0) := br3.cell 1
  have c2 : W2.cell? ⟨R, 2, none⟩ = some (.int .i64 0) := br3.cell 2
  have c3 : W2.cell? ⟨R, 3, none⟩ = some (.int .i64 0) := br3.cell 3
  have c4 : W2.cell? ⟨R, 4, none⟩ = some (.bool false) := br3.cell 4
  have fz := br3.frozen
  clear br3 f2
  go_wp2_with fail
  clear c0 c1 c2 c3 c4
  have hb5 : Blk (set5 W2 R zeroT) R 65 zeroT.cells := set5_blk (a := zeroT) HQ.out.1
  obtain ⟨r0, r1, r2, r3, r4⟩ := bx5_cells hb5
  have B5 := set5_below (a := zeroT) HQ.out.2 HR.out
  unfold set5 zeroT at r0 r1 r2 r3 r4 B5
  exact bodyPost_ret (v := .tuple #[.agg #[.int .i64 0, .int .i64 0, .int .i64 0, .int .i64 0, .bool false], .bool false]) (by simp [results, Try.results32, go_sem, r0, r1, r2, r3, r4]) rfl ⟨rfl, B5⟩
set_option maxHeartbeats 1000000 in
set_option maxRecDepth 100000 in
theorem Due_never (q g gl m1 m2 : Nat) (s : TS) (T : Sh) (fl : List Nat) (tm : Nat → Tm) (A B : Value → Option Value) (w : World) (h : QIs w q g gl m1 m2 s T fl tm A B) (x : Nat) (l : List Nat) (hT : T.ino = x :: l) (now : Int) (hn : nev (tm x).soft = true) :
    Calls Try.prog 32 #[.pointer (some ⟨q, 0, none⟩), .int .i64 now] w fun e w' => e = .returned (.tuple #[zeroT.agg', .bool false]) ∧ Below w.heap.size w w' := by
  unfold Tm.agg' zeroT
  have hb := Blk.new w 65 zeroT.cells
  have hq := h.alloc (.cells zeroT.cells 65)
  have B0 : Below w.heap.size w (w.alloc (.cells zeroT.cells 65)) := (Below.refl w.heap.size w).alloc (Nat.le_refl _) _
  unfold Tm.cells zeroT at hb hq B0
  clear h
  have HX := Lib.hid hT
  clear hT
  go_enter Try.func32, Try.ntmps32
  go_upto_region 1 with fail
  generalize w.alloc (.cells #[.int .i64 0, .int .i64 0, .int .i64 0, .int .i64 0, .bool false] 65) = W at hb hq B0 ⊢
  obtain ⟨R, hRe⟩ : ∃ R, w.heap.size = R := ⟨_, rfl⟩
  rw [hRe] at hb ⊢
  have HR := Lib.hid (show w.heap.size ≤ R by omega)
  clear hRe
  have CF := QFirst_some q g gl m1 m2 s T fl tm A B W hq x l HX.out
  unfold Tm.agg' at CF
  have HCF := Lib.hid CF
  have HB := Lib.hid (And.intro hb B0)
  clear CF hq hb B0
  go_wp2_with fail
  refine HCF.out.mono ?_
  rintro e W1 ⟨rfl, b1⟩
  have br2 := (HB.out.1.below b1 HB.out.1.lt).alloc (.cells (tm x).cells 65)
  have B2 := (HB.out.2.trans (b1.mono HB.out.2.size)).alloc (Nat.le_trans HB.out.2.size b1.size) (.cells (tm x).cells 65)
  have bf2 := Blk.new W1 65 (tm x).cells
  unfold Tm.cells at br2 B2 bf2
  clear HB HCF b1
  go_upto_region 2 with fail
  generalize W1.alloc (.cells #[.int .i64 (tm x).id, .int .i64 (tm x).clock, .int .i64 (tm x).soft, .int .i64 (tm x).hard, .bool (tm x).lazy] 65) = W2 at br2 B2 bf2 ⊢
  generalize W1.heap.size = F at bf2 ⊢
  have f2 : W2.cell? ⟨F, 2, none⟩ = some (.int .i64 (tm x).soft) := bf2.cell 2
  have HQ := Lib.hid (And.intro br2 B2)
  clear br2 B2 bf2
  have HN := Lib.hid hn
  clear hn
  go_wp2_with fail
  refine (never_any _ _).mono ?_
  rintro e wz ⟨rfl, rfl⟩
  rw [HN.out]
  have br3 : Blk W2 R 65 zeroT.cells := HQ.out.1
  have c0 : W2.cell? ⟨R, 0, none⟩ = some (.int .i64 0) := br3.cell 0
  have c1 : W2.cell? ⟨R, 1, none⟩ = some (.int .i64 0) := br3.cell 1
  have c2 : W2.cell? ⟨R, 2, none⟩ = some (.int .i64 0) := br3.cell 2
  have c3 : W2.cell? ⟨R, 3, none⟩ = some (.int .i64 0) := br3.cell 3
  have c4 : W2.cell? ⟨R, 4, none⟩ = some (.bool false) := br3.cell 4
  have fz := br3.frozen
  clear br3 f2
  go_wp2_with fail
  clear c0 c1 c2 c3 c4
  have hb5 : Blk (set5 W2 R zeroT) R 65 zeroT.cells := set5_blk (a := zeroT) HQ.out.1
  obtain ⟨r0, r1, r2, r3, r4⟩ := bx5_cells hb5
  have B5 := set5_below (a := zeroT) HQ.out.2 HR.out
  unfold set5 zeroT at r0 r1 r2 r3 r4 B5
  exact bodyPost_ret (v := .tuple #[.agg #[.int .i64 0, .int .i64 0, .int .i64 0, .int .i64 0, .bool false], .bool false]) (by simp [results, Try.results32, go_sem, r0, r1, r2, r3, r4]) rfl ⟨rfl, B5⟩
set_option maxHeartbeats 1000000 in
set_option maxRecDepth 100000 in
theorem Due_later (q g gl m1 m2 : Nat) (s : TS) (T : Sh) (fl : List Nat) (tm : Nat → Tm) (A B : Value → Option Value) (w : World) (h : QIs w q g gl m1 m2 s T fl tm A B) (x : Nat) (l : List Nat) (hT : T.ino = x :: l) (now : Int) (hn : nev (tm x).soft = false) (hc : cl (tm x).soft > cl now) :
    Calls Try.prog 32 #[.pointer (some ⟨q, 0, none⟩), .int .i64 now] w fun e w' => e = .returned (.tuple #[zeroT.agg', .bool false]) ∧ Below w.heap.size w w' := by
  unfold Tm.agg' zeroT
  have hb := Blk.new w 65 zeroT.cells
  have hq := h.alloc (.cells zeroT.cells 65)
  have B0 : Below w.heap.size w (w.alloc (.cells zeroT.cells 65)) := (Below.refl w.heap.size w).alloc (Nat.le_refl _) _
  unfold Tm.cells zeroT at hb hq B0
  clear h
  have HX := Lib.hid hT
  clear hT
  go_enter Try.func32, Try.ntmps32
  go_upto_region 1 with fail
  generalize w.alloc (.cells #[.int .i64 0, .int .i64 0, .int .i64 0, .int .i64 0, .bool false] 65) = W at hb hq B0 ⊢
  obtain ⟨R, hRe⟩ : ∃ R, w.heap.size = R := ⟨_, rfl⟩
  rw [hRe] at hb ⊢
  have HR := Lib.hid (show w.heap.size ≤ R by omega)
  clear hRe
  have CF := QFirst_some q g gl m1 m2 s T fl tm A B W hq x l HX.out
  unfold Tm.agg' at CF
  have HCF := Lib.hid CF
  have HB := Lib.hid (And.intro hb B0)
  clear CF hq hb B0
  go_wp2_with fail
  refine HCF.out.mono ?_
  rintro e W1 ⟨rfl, b1⟩
  have br2 := (HB.out.1.below b1 HB.out.1.lt).alloc (.cells (tm x).cells 65)
  have B2 := (HB.out.2.trans (b1.mono HB.out.2.size)).alloc (Nat.le_trans HB.out.2.size b1.size) (.cells (tm x).cells 65)
  have bf2 := Blk.new W1 65 (tm x).cells
  unfold Tm.cells at br2 B2 bf2
  clear HB HCF b1
  go_upto_region 2 with fail
  generalize W1.alloc (.cells #[.int .i64 (tm x).id, .int .i64 (tm x).clock, .int .i64 (tm x).soft, .int .i64 (tm x).hard, .bool (tm x).lazy] 65) = W2 at br2 B2 bf2 ⊢
  generalize W1.heap.size = F at bf2 ⊢
  have f2 : W2.cell? ⟨F, 2, none⟩ = some (.int .i64 (tm x).soft) := bf2.cell 2
  have HQ := Lib.hid (And.intro br2 B2)
  clear br2 B2 bf2
  have HN := Lib.hid hn
  clear hn
  go_wp2_with fail
  refine (never_any _ _).mono ?_
  rintro e wz ⟨rfl, rfl⟩
  rw [HN.out]
  go_wp2_with fail
  refine (clamp_any _ _).mono ?_
  rintro e wz ⟨rfl, rfl⟩
  go_wp2_with fail
  refine (clamp_any _ _).mono ?_
  rintro e wz ⟨rfl, rfl⟩
  have br3 : Blk W2 R 65 zeroT.cells := HQ.out.1
  have c0 : W2.cell? ⟨R, 0, none⟩ = some (.int .i64 0) := br3.cell 0
  have c1 : W2.cell? ⟨R, 1, none⟩ = some (.int .i64 0) := br3.cell 1
  have c2 : W2.cell? ⟨R, 2, none⟩ = some (.int .i64 0) := br3.cell 2
  have c3 : W2.cell? ⟨R, 3, none⟩ = some (.int .i64 0) := br3.cell 3
  have c4 : W2.cell? ⟨R, 4, none⟩ = some (.bool false) := br3.cell 4
  have fz := br3.frozen
  clear br3 f2
  go_wp2_with fail
  clear c0 c1 c2 c3 c4
  have hb5 : Blk (set5 W2 R zeroT) R 65 zeroT.cells := set5_blk (a := zeroT) HQ.out.1
  obtain ⟨r0, r1, r2, r3, r4⟩ := bx5_cells hb5
  have B5 := set5_below (a := zeroT) HQ.out.2 HR.out
  unfold set5 zeroT at r0 r1 r2 r3 r4 B5
  exact bodyPost_ret (v := .tuple #[.agg #[.int .i64 0, .int .i64 0, .int .i64 0, .int .i64 0, .bool false], .bool false]) (by simp [results, Try.results32, go_sem, r0, r1, r2, r3, r4]) rfl ⟨rfl, B5⟩
end Go.Proofs.Ytfoigflgglpobaa.Q
/- Appending any slice to a row of one's own: at a step of a region. No program in sight; no condition. -/
set_option linter.unusedVariables false
namespace Go.Proofs.Ytfoigflgglpobaa.Aid
open Go.RowKit
/-- what a slice yields: m elements, the cells ys -/
def IsSrc (w : World) (size : Nat) (x : Value) (m : Nat) (ys : List Value) : Prop :=
  (x = .slice none 0 0 ∧ m = 0 ∧ ys = []) ∨ ∃ ad c, x = .slice (some ad) m c ∧ ys.length = m * size ∧ ∀ j u, ys[j]? = some u → w.cell? (ad.add j) = some u
/-- one of the model's cells, each -/
def Ones (l : List Value) : Prop := ∀ u ∈ l, u.oneCell' = true
theorem Ones.take {l : List Value} (h : Ones l) (n : Nat) : Ones (l.take n) := fun u hu => h u (List.mem_of_mem_take hu)
theorem Ones.drop {l : List Value} (h : Ones l) (n : Nat) : Ones (l.drop n) := fun u hu => h u (List.mem_of_mem_drop hu)
theorem Ones.append {l k : List Value} (h : Ones l) (g : Ones k) : Ones (l ++ k) := fun u hu => (List.mem_append.1 hu).elim (h u) (g u)
theorem add0 (g k j : Nat) : (⟨g, k, none⟩ : Addr).add j = ⟨g, k + j, none⟩ := by unfold Addr.add; split <;> simp_all
section
variable {w : World} {base : Nat} {e : TypeId} {size : Nat} {n : Nat} {xs : List Value}
theorem src_own {v : Value} (h : w.ownsRow base e size v n xs) : IsSrc w size v n xs := by
  obtain ⟨hl, ⟨rfl, rfl⟩ | ⟨g, cap, cur, rfl, h1, h2, h3, h4, h5, h6⟩⟩ := h
  · exact .inl ⟨rfl, rfl, by cases xs; rfl; simp at hl⟩
  · refine .inr ⟨_, _, rfl, hl, fun j u hu => ?_⟩
    rw [add0, Nat.zero_add]
    exact own_cell ⟨hl, .inr ⟨g, cap, cur, rfl, h1, h2, h3, h4, h5, h6⟩⟩ hu
theorem src_take {g cap k : Nat} (h : w.ownsRow base e size (.slice (some ⟨g, 0, none⟩) n cap) n xs) (hk : k ≤ n) (c : Nat) : IsSrc w size (.slice (some ⟨g, 0, none⟩) k c) k (xs.take (k * size)) := by
  have hl := h.1
  have hks : k * size ≤ n * size := Nat.mul_le_mul_right _ hk
  refine .inr ⟨_, _, rfl, by rw [List.length_take]; omega, fun j u hu => ?_⟩
  rw [add0, Nat.zero_add]
  refine own_cell h ?_
  rw [List.getElem?_take] at hu
  split at hu
  · exact hu
  · cases hu
theorem src_drop {g cap k : Nat} (h : w.ownsRow base e size (.slice (some ⟨g, 0, none⟩) n cap) n xs) (hk : k ≤ n) (c : Nat) : IsSrc w size (.slice (some ⟨g, k * size, none⟩) (n - k) c) (n - k) (xs.drop (k * size)) := by
  have hl := h.1
  have hks : k * size ≤ n * size := Nat.mul_le_mul_right _ hk
  refine .inr ⟨_, _, rfl, by rw [List.length_drop, hl, Nat.sub_mul], fun j u hu => ?_⟩
  rw [add0]
  refine own_cell h ?_
  rw [List.getElem?_drop] at hu
  exact hu
theorem own_cap {A : Option Addr} {m cap : Nat} (h : w.ownsRow base e size (.slice A m cap) n xs) : m = n ∧ n ≤ cap ∧ (A = none → n = 0 ∧ cap = 0) ∧ ∀ x, A = some x → x = ⟨x.block, 0, none⟩ := by
  obtain ⟨hl, ⟨hv, rfl⟩ | ⟨g, cap', cur, hv, h1, h2, h3, h4, h5, h6⟩⟩ := h
  · injection hv with ha hm hc; subst ha hm hc; exact ⟨rfl, Nat.le_refl _, fun _ => ⟨rfl, rfl⟩, fun x hx => (by cases hx)⟩
  · injection hv with ha hm hc; subst ha hm hc; exact ⟨rfl, h3, fun e => (by cases e), fun x hx => (by injection hx with hx; subst hx; rfl)⟩
/-- l[:k], as the model writes it -/
theorem src_to {A : Option Addr} {cap k : Nat} (h : w.ownsRow base e size (.slice A n cap) n xs) (hk : k ≤ n) : IsSrc w size (.slice A k cap) k (xs.take (k * size)) := by
  obtain ⟨_, h1, h2, h3⟩ := own_cap h
  cases A with
  | none =>
    obtain ⟨rfl, rfl⟩ := h2 rfl
    obtain rfl : k = 0 := by omega
    exact .inl ⟨rfl, rfl, by simp⟩
  | some x =>
    have hx := h3 x rfl
    obtain ⟨g, hg⟩ : ∃ g, x.block = g := ⟨_, rfl⟩
    rw [hg] at hx
    subst hx
    exact src_take h hk cap
/-- l[k:], as the model writes it -/
theorem src_from {A : Option Addr} {cap k : Nat} (h : w.ownsRow base e size (.slice A n cap) n xs) (hk : k ≤ n) : IsSrc w size (.slice (if cap = k then A else Option.map (fun x => x.add (k * size)) A) (n - k) (cap - k)) (n - k) (xs.drop (k * size)) := by
  obtain ⟨_, h1, h2, h3⟩ := own_cap h
  cases A with
  | none =>
    obtain ⟨rfl, rfl⟩ := h2 rfl
    obtain rfl : k = 0 := by omega
    have hx : xs = [] := by have := h.1; cases xs; rfl; simp at this
    refine .inl ⟨by simp, rfl, by rw [hx]; simp⟩
  | some x =>
    have hx := h3 x rfl
    obtain ⟨g, hg⟩ : ∃ g, x.block = g := ⟨_, rfl⟩
    rw [hg] at hx
    subst hx
    by_cases hc : cap = k
    · have hn : n = k := by omega
      rw [if_pos hc]
      have hl := h.1
      subst hn
      have e1 : n - n = 0 := Nat.sub_self n
      refine .inr ⟨_, _, rfl, by rw [e1, List.length_drop, hl]; omega, fun j u hu => ?_⟩
      rw [List.getElem?_drop, List.getElem?_eq_none (by omega)] at hu
      cases hu
    · rw [if_neg hc]
      have e2 : Option.map (fun x : Addr => x.add (k * size)) (some ⟨g, 0, none⟩) = some ⟨g, k * size, none⟩ := by
        show some ((⟨g, 0, none⟩ : Addr).add (k * size)) = _
        rw [add0, Nat.zero_add]
      rw [e2]
      exact src_drop h hk _
theorem own_empty {g : Nat} (h : Blk w g e #[]) (hb : base ≤ g) : w.ownsRow base e size (.slice (some ⟨g, 0, none⟩) 0 0) 0 [] :=
  ⟨by simp, .inr ⟨g, 0, #[], rfl, hb, h, Nat.le_refl _, Nat.zero_le _, by simp, by simp⟩⟩
theorem src_block {B : Nat} {cs : Array Value} {t : TypeId} (h : Blk w B t cs) (hs : cs.size = size) (c : Nat) : IsSrc w size (.slice (some ⟨B, 0, none⟩) 1 c) 1 cs.toList :=
  .inr ⟨_, _, rfl, by simp [hs], World.news_of_block h⟩
theorem IsSrc.same {x : Value} {m : Nat} {ys : List Value} {w' : World} (h : IsSrc w size x m ys) (k : ∀ b, x.ownBlock = some b → w'.heap[b]? = w.heap[b]?) : IsSrc w' size x m ys := by
  rcases h with h | ⟨ad, c, rfl, h1, h2⟩
  · exact .inl h
  · refine .inr ⟨ad, c, rfl, h1, fun j u hu => ?_⟩
    rw [← h2 j u hu]
    exact World.cell?_of_block (by rw [add_block]; exact k ad.block rfl)
end
/-- building 'append(append(append([]T{}, l[:k]...), x), l[k:]...)': R holds of what was there; b0 is the empty row, B holds x, v1 is the first part -/
structure S10 (R : World → Prop) (L : Nat) (e : TypeId) (W : World) (b0 : Nat) : Prop where
  r : R W
  z : Blk W b0 e #[]
  l : L ≤ b0
structure S11 (R : World → Prop) (L : Nat) (e : TypeId) (xs : Array Value) (W : World) (b0 B : Nat) : Prop where
  r : R W
  z : Blk W b0 e #[]
  l : L ≤ b0
  x : Blk W B e xs
  ne : B ≠ b0
structure S20 (R : World → Prop) (L : Nat) (e : TypeId) (size : Nat) (W : World) (v : Value) (n : Nat) (ys : List Value) : Prop where
  r : R W
  o : W.ownsRow L e size v n ys
structure S21 (R : World → Prop) (L : Nat) (e : TypeId) (size : Nat) (xs : Array Value) (W : World) (v : Value) (n : Nat) (ys : List Value) (B : Nat) : Prop where
  r : R W
  o : W.ownsRow L e size v n ys
  x : Blk W B e xs
section
variable {R : World → Prop} {L : Nat} {e : TypeId} {size : Nat} {xs : Array Value} {W W' : World} {b0 B n : Nat} {v v' : Value} {ys : List Value}
/-- R stands whatever is made, drawn, or changed in rows from L on -/
structure Stands (R : World → Prop) (L : Nat) : Prop where
  low : ∀ W, R W → L ≤ W.heap.size
  alloc : ∀ W o, R W → R (W.alloc o)
  drew : ∀ W, R W → R W.drew
  grow : ∀ W W' row, R W → W.grownBy W' row → (∀ b, row = some b → L ≤ b) → R W'
theorem S10.start (st : Stands R L) (h : R W) : S10 R L e ((W.alloc (.cells #[] e)).drew) W.heap.size := ⟨st.drew _ (st.alloc _ _ h), (Blk.new W e #[]).drew, st.low _ h⟩
theorem S11.start1 (st : Stands R L) (h : R W) : S11 R L e xs (((W.alloc (.cells #[] e)).alloc (.cells xs e)).drew) W.heap.size (W.heap.size + 1) := by
  have h1 := Blk.new (W.alloc (.cells #[] e)) e xs
  have e1 : (W.alloc (.cells #[] e)).heap.size = W.heap.size + 1 := by simp
  rw [e1] at h1
  exact ⟨st.drew _ (st.alloc _ _ (st.alloc _ _ h)), ((Blk.new W e #[]).alloc _).drew, st.low _ h, h1.drew, by omega⟩
theorem S11.start2 (st : Stands R L) (h : R W) : S11 R L e xs (((W.alloc (.cells xs e)).alloc (.cells #[] e)).drew) (W.heap.size + 1) W.heap.size := by
  have h1 := Blk.new (W.alloc (.cells xs e)) e #[]
  have e1 : (W.alloc (.cells xs e)).heap.size = W.heap.size + 1 := by simp
  rw [e1] at h1
  have := st.low _ h
  exact ⟨st.drew _ (st.alloc _ _ (st.alloc _ _ h)), h1.drew, by omega, ((Blk.new W e xs).alloc _).drew, by omega⟩
theorem S10.next (st : Stands R L) (h : S10 R L e W b0) (ho : W'.ownsRow L e size v n ys) (g : W.grownBy W' (Value.slice (some ⟨b0, 0, none⟩) 0 0).ownBlock) : S20 R L e size W' v n ys :=
  ⟨st.grow _ _ _ h.r g (fun b hb => by injection hb with hb; subst hb; exact h.l), ho⟩
theorem S11.next (st : Stands R L) (h : S11 R L e xs W b0 B) (ho : W'.ownsRow L e size v n ys) (g : W.grownBy W' (Value.slice (some ⟨b0, 0, none⟩) 0 0).ownBlock) : S21 R L e size xs W' v n ys B :=
  ⟨st.grow _ _ _ h.r g (fun b hb => by injection hb with hb; subst hb; exact h.l), ho, h.x.grown g (fun e => by injection e with e; exact h.ne e)⟩
theorem S20.box (st : Stands R L) (h : S20 R L e size W v n ys) : S21 R L e size xs (W.alloc (.cells xs e)) v n ys W.heap.size := ⟨st.alloc _ _ h.r, own_alloc h.o _, Blk.new _ _ _⟩
theorem S21.next (st : Stands R L) (h : S21 R L e size xs W v n ys B) {m : Nat} {zs : List Value} (ho : W'.ownsRow L e size v' m zs) (g : W.grownBy W' v.ownBlock) : S20 R L e size W' v' m zs :=
  ⟨st.grow _ _ _ h.r g (fun b hb => (own_block h.o hb).1), ho⟩
theorem S20.next (st : Stands R L) (h : S20 R L e size W v n ys) {m : Nat} {zs : List Value} (ho : W'.ownsRow L e size v' m zs) (g : W.grownBy W' v.ownBlock) : S20 R L e size W' v' m zs :=
  ⟨st.grow _ _ _ h.r g (fun b hb => (own_block h.o hb).1), ho⟩
end
variable {P : Program}
theorem run_append_any (w : World) (base : Nat) (t ty e : TypeId) (i : TypeInfo) (z : Value) (size bytes : Nat) (ht : P.underlying t = some (.slice e)) (hi : P.info? e = some i) (hz : i.zero = some z)
    (hsize : i.size = size) (hby : i.bytes = bytes) (hzs : z.cells.size = size) (hsz : 0 < size)
    (v : Value) (n : Nat) (xs : List Value) (hown : w.ownsRow base e size v n xs) (x : Value) (m : Nat) (ys : List Value) (hx : IsSrc w size x m ys) (h1 : Ones ys)
    (h63 : n + m ≤ maxLen) (hbytes : (n + m) * bytes ≤ 140737488355328) (hbase : base ≤ w.heap.size) :
    ∃ v' w', (Builtin.append_ #[t, t] ty #[v, x]).run P w = .ok v' w' ∧ w'.ownsRow base e size v' (n + m) (xs ++ ys) ∧ w.grownBy w' v.ownBlock ∧ (v'.ownBlock = v.ownBlock ∨ v'.ownBlock = some w.heap.size) := by
  rcases hx with ⟨rfl, rfl, rfl⟩ | ⟨ad, c, rfl, hl, hc⟩
  · exact ⟨v, w, run_append_owned_none w base t ty e i size ht hi v n xs hown, by simpa using hown, World.grownBy.refl _ _, .inl rfl⟩
  · obtain ⟨v', w', a1, a2, a3, _, a5⟩ := run_append_own_at w base t ty e i z size bytes ht hi hz hsize hby hzs hsz v n xs hown ad m c ys hl hc h1 h63 hbytes hbase
    exact ⟨v', w', a1, a2, a3, a5⟩
theorem wp_append_any (w : World) {o : Oper} {a : Act} {K : Act → World → Prop} {Q : Exit → Act → World → Prop} (s x : Operand) (t : TypeId)
    (ho : o.op = .call { callee := .builtin .append, args := #[s, x], argTypes := #[t, t] })
    (base : Nat) (e : TypeId) (i : TypeInfo) (z : Value) (size bytes : Nat) (ht : P.underlying t = some (.slice e)) (hi : P.info? e = some i) (hz : i.zero = some z)
    (hsize : i.size = size) (hby : i.bytes = bytes) (hzs : z.cells.size = size) (hsz : 0 < size)
    (v : Value) (n : Nat) (xs : List Value) (hs : a.eval s = v) (hown : w.ownsRow base e size v n xs) (xv : Value) (m : Nat) (ys : List Value) (hx : a.eval x = xv) (hsrc : IsSrc w size xv m ys) (h1 : Ones ys)
    (h63 : n + m ≤ maxLen) (hbytes : (n + m) * bytes ≤ 140737488355328) (hbase : base ≤ w.heap.size)
    (h : ∀ v' w', w'.ownsRow base e size v' (n + m) (xs ++ ys) → w.grownBy w' v.ownBlock → (v'.ownBlock = v.ownBlock ∨ v'.ownBlock = some w.heap.size) → K (a.put o.dst v') w') : o.wp P a w K Q := by
  obtain ⟨v', w', hr, h2, h3, h4⟩ := run_append_any (P := P) w base t o.type e i z size bytes ht hi hz hsize hby hzs hsz v n xs hown xv m ys hsrc h1 h63 hbytes hbase
  unfold Oper.wp execOp
  simp only [ho, resolve, invoke, builtin, Sem.run_bind, Sem.run_pure, Result.andThen_ok, List.map_toArray, List.map_cons, List.map_nil, hs, hx, hr]
  exact h v' w' h2 h3 h4
theorem wpList_append_any (w : World) {ops : Array Oper} {rest : List Oper} {o : Oper} {a : Act} {Q : Exit → Act → World → Prop} (hgd : o.guard = none) (s x : Operand) (t : TypeId)
    (ho : o.op = .call { callee := .builtin .append, args := #[s, x], argTypes := #[t, t] })
    (base : Nat) (e : TypeId) (i : TypeInfo) (z : Value) (size bytes : Nat) (ht : P.underlying t = some (.slice e)) (hi : P.info? e = some i) (hz : i.zero = some z)
    (hsize : i.size = size) (hby : i.bytes = bytes) (hzs : z.cells.size = size) (hsz : 0 < size)
    (v : Value) (n : Nat) (xs : List Value) (hs : a.eval s = v) (hown : w.ownsRow base e size v n xs) (xv : Value) (m : Nat) (ys : List Value) (hx : a.eval x = xv) (hsrc : IsSrc w size xv m ys) (h1 : Ones ys)
    (h63 : n + m ≤ maxLen) (hbytes : (n + m) * bytes ≤ 140737488355328) (hbase : base ≤ w.heap.size)
    (h : ∀ v' w', w'.ownsRow base e size v' (n + m) (xs ++ ys) → w.grownBy w' v.ownBlock → (v'.ownBlock = v.ownBlock ∨ v'.ownBlock = some w.heap.size) → wpList P ops Q rest (a.put o.dst v') w') : wpList P ops Q (o :: rest) a w :=
  wpList_plain hgd fun _ hK => wp_append_any w s x t ho base e i z size bytes ht hi hz hsize hby hzs hsz v n xs hs hown xv m ys hx hsrc h1 h63 hbytes hbase fun v' w' h2 h3 h4 => hK _ _ (h v' w' h2 h3 h4)
theorem step_append_any (w : World) {ops : Array Oper} {o : Oper} {a : Act} {K : Act → World → Prop} {Q : Exit → Act → World → Prop} {E : Prop} (hgd : o.guard = none) (s x : Operand) (t : TypeId)
    (ho : o.op = .call { callee := .builtin .append, args := #[s, x], argTypes := #[t, t] })
    (base : Nat) (e : TypeId) (i : TypeInfo) (z : Value) (size bytes : Nat) (ht : P.underlying t = some (.slice e)) (hi : P.info? e = some i) (hz : i.zero = some z)
    (hsize : i.size = size) (hby : i.bytes = bytes) (hzs : z.cells.size = size) (hsz : 0 < size)
    (v : Value) (n : Nat) (xs : List Value) (hs : a.eval s = v) (hown : w.ownsRow base e size v n xs) (xv : Value) (m : Nat) (ys : List Value) (hx : a.eval x = xv) (hsrc : IsSrc w size xv m ys) (h1 : Ones ys)
    (h63 : n + m ≤ maxLen) (hbytes : (n + m) * bytes ≤ 140737488355328) (hbase : base ≤ w.heap.size)
    (h : ∀ v' w', w'.ownsRow base e size v' (n + m) (xs ++ ys) → w.grownBy w' v.ownBlock → (v'.ownBlock = v.ownBlock ∨ v'.ownBlock = some w.heap.size) → K (a.put o.dst v') w') :
    if Region.wanted o (yielded ops a.tmps) = true then Oper.wp P o a w K Q else E := by
  have hw : Region.wanted o (yielded ops a.tmps) = true := by simp [Region.wanted, hgd]
  rw [if_pos hw]
  exact wp_append_any w s x t ho base e i z size bytes ht hi hz hsize hby hzs hsz v n xs hs hown xv m ys hx hsrc h1 h63 hbytes hbase h
end Go.Proofs.Ytfoigflgglpobaa.Aid
/- Rows of timers: the cells of a row, and of a timer in it. No program in sight. -/
set_option linter.unusedVariables false
set_option linter.unusedSimpArgs false
namespace Go.Proofs.Ytfoigflgglpobaa.Q
open Go.RowKit Go.Proofs.Ytfoigflgglpobaa.Aid Go.Proofs.Ytfoigflgglpobaa.Tr
def Tm.list (a : Tm) : List Value := [.int .i64 a.id, .int .i64 a.clock, .int .i64 a.soft, .int .i64 a.hard, .bool a.lazy]
def tmc (l : List Tm) : List Value := l.flatMap Tm.list
theorem tmc_len (l : List Tm) : (tmc l).length = l.length * 5 := by
  induction l with
  | nil => rfl
  | cons a l ih => simp only [tmc, List.flatMap_cons, List.length_append, List.length_cons, Tm.list] at ih ⊢; simp only [List.length_nil]; omega
theorem tmc_app (l k : List Tm) : tmc (l ++ k) = tmc l ++ tmc k := by simp [tmc]
theorem tmc_ones (l : List Tm) : Ones (tmc l) := fun u hu => by
  obtain ⟨a, _, ha⟩ := List.mem_flatMap.1 hu
  simp only [Tm.list, List.mem_cons, List.not_mem_nil, or_false] at ha
  rcases ha with rfl | rfl | rfl | rfl | rfl <;> rfl
theorem tm_ones (a : Tm) : Ones a.list := fun u ha => by
  simp only [Tm.list, List.mem_cons, List.not_mem_nil, or_false] at ha
  rcases ha with rfl | rfl | rfl | rfl | rfl <;> rfl
theorem tmc_at : ∀ (l : List Tm) (j : Nat) (a : Tm), l[j]? = some a → (tmc l)[j * 5]? = some (.int .i64 a.id) ∧ (tmc l)[j * 5 + 1]? = some (.int .i64 a.clock) ∧ (tmc l)[j * 5 + 2]? = some (.int .i64 a.soft) ∧ (tmc l)[j * 5 + 3]? = some (.int .i64 a.hard) ∧ (tmc l)[j * 5 + 4]? = some (.bool a.lazy) := by
  intro l
  induction l with
  | nil => intro j e h; simp at h
  | cons b l ih =>
    intro j a h
    cases j with
    | zero =>
      simp only [List.getElem?_cons_zero, Option.some.injEq] at h
      subst h
      exact ⟨rfl, rfl, rfl, rfl, rfl⟩
    | succ j =>
      simp only [List.getElem?_cons_succ] at h
      obtain ⟨h1, h2, h3, h4, h5⟩ := ih j a h
      have e1 : tmc (b :: l) = b.list ++ tmc l := rfl
      have e2 : ∀ i, (tmc (b :: l))[i + 5]? = (tmc l)[i]? := fun i => by
        rw [e1, List.getElem?_append_right (by simp [Tm.list])]
        simp [Tm.list]
      refine ⟨?_, ?_, ?_, ?_, ?_⟩
      · rw [show (j + 1) * 5 = j * 5 + 5 by omega, e2]; exact h1
      · rw [show (j + 1) * 5 + 1 = j * 5 + 1 + 5 by omega, e2]; exact h2
      · rw [show (j + 1) * 5 + 2 = j * 5 + 2 + 5 by omega, e2]; exact h3
      · rw [show (j + 1) * 5 + 3 = j * 5 + 3 + 5 by omega, e2]; exact h4
      · rw [show (j + 1) * 5 + 4 = j * 5 + 4 + 5 by omega, e2]; exact h5
theorem tmc_take (l : List Tm) (k : Nat) : (tmc l).take (k * 5) = tmc (l.take k) := by
  induction l generalizing k with
  | nil => simp [tmc]
  | cons b l ih =>
    cases k with
    | zero => simp [tmc]
    | succ k =>
      have e1 : tmc (b :: l) = b.list ++ tmc l := rfl
      rw [e1, show (k + 1) * 5 = b.list.length + k * 5 by simp [Tm.list]; omega, List.take_length_add_append, ih]
      rfl
theorem tmc_drop (l : List Tm) (k : Nat) : (tmc l).drop (k * 5) = tmc (l.drop k) := by
  induction l generalizing k with
  | nil => simp [tmc]
  | cons b l ih =>
    cases k with
    | zero => simp [tmc]
    | succ k =>
      have e1 : tmc (b :: l) = b.list ++ tmc l := rfl
      rw [e1, show (k + 1) * 5 = b.list.length + k * 5 by simp [Tm.list]; omega, List.drop_length_add_append, ih]
      rfl
theorem infoTm : (Try.prog.info? 65).map (fun i => (i.zero.map (·.cells.size), i.size, i.bytes)) = some (some 5, 5, 40) := by kernel_rfl
/-- a slice that reads these timers; where it lies in its block does not matter -/
def RSl (w : World) (base : Nat) (v : Value) (l : List Tm) : Prop :=
  ∃ A cap, v = .slice A l.length cap ∧ l.length ≤ cap ∧ ((A = none ∧ l = [] ∧ cap = 0) ∨ ∃ g k, A = some ⟨g, k, none⟩ ∧ base ≤ g ∧ g < w.heap.size ∧ ∀ j u, (tmc l)[j]? = some u → w.cell? ⟨g, k + j, none⟩ = some u)
section
variable {w w' : World} {base : Nat} {v : Value} {l : List Tm}
theorem rsl_own (h : w.ownsRow base 65 5 v l.length (tmc l)) : RSl w base v l := by
  have h0 := h
  obtain ⟨hl, ⟨rfl, h1⟩ | ⟨g, cap, cur, rfl, h1, h2, h3, h4, h5, h6⟩⟩ := h
  · have : l = [] := List.length_eq_zero_iff.1 h1
    subst this
    exact ⟨none, 0, rfl, Nat.le_refl _, .inl ⟨rfl, rfl, rfl⟩⟩
  · refine ⟨_, cap, rfl, h3, .inr ⟨g, 0, rfl, h1, (own_block h0 rfl).2, fun j u hu => ?_⟩⟩
    rw [Nat.zero_add]
    exact own_cell h0 hu
theorem rsl_nil (w : World) (base : Nat) : RSl w base (.slice none 0 0) [] := ⟨none, 0, rfl, Nat.le_refl _, .inl ⟨rfl, rfl, rfl⟩⟩
theorem rsl_block (h : RSl w base v l) {b : Nat} (hb : v.ownBlock = some b) : base ≤ b ∧ b < w.heap.size := by
  obtain ⟨A, cap, rfl, _, ⟨rfl, _, _⟩ | ⟨g, k, rfl, h1, h2, _⟩⟩ := h
  · cases hb
  · injection hb with hb; subst hb; exact ⟨h1, h2⟩
theorem rsl_same (h : RSl w base v l) (k : ∀ b, v.ownBlock = some b → w'.heap[b]? = w.heap[b]?) : RSl w' base v l := by
  obtain ⟨A, cap, rfl, h0, ⟨rfl, h1, h2⟩ | ⟨g, o, rfl, h1, h2, h3⟩⟩ := h
  · exact ⟨none, cap, rfl, h0, .inl ⟨rfl, h1, h2⟩⟩
  · have e := k g rfl
    refine ⟨_, cap, rfl, h0, .inr ⟨g, o, rfl, h1, ?_, fun j u hu => ?_⟩⟩
    · rw [Array.getElem?_eq_getElem h2] at e
      exact (Array.getElem?_eq_some_iff.1 e).1
    · rw [← h3 j u hu]; exact World.cell?_of_block e
theorem rsl_below (h : RSl w base v l) (o : Below w.heap.size w w') : RSl w' base v l := rsl_same h fun b hb => o.block b (rsl_block h hb).2
theorem rsl_alloc (h : RSl w base v l) (o : Obj) : RSl (w.alloc o) base v l := rsl_below h ((Below.refl _ _).alloc (Nat.le_refl _) o)
theorem rsl_drewN (h : RSl w base v l) (k : Nat) : RSl (w.drewN k) base v l := rsl_same h fun _ _ => rfl
theorem rsl_only {S : Nat → Prop} (h : RSl w base v l) (o : Only S w w') (hs : ∀ b, base ≤ b → ¬ S b) : RSl w' base v l := rsl_same h fun b hb => o.block b (rsl_block h hb).2 (hs b (rsl_block h hb).1)
theorem rsl_parts (h : RSl w base v l) : ∃ A cap, v = .slice A l.length cap ∧ ∀ j, j < l.length → ∃ q k, A = some ⟨q, k, none⟩ := by
  obtain ⟨A, cap, rfl, _, ⟨rfl, rfl, _⟩ | ⟨g, k, rfl, _⟩⟩ := h
  · exact ⟨none, cap, rfl, fun j hj => absurd hj (Nat.not_lt_zero _)⟩
  · exact ⟨_, cap, rfl, fun j hj => ⟨g, k, rfl⟩⟩
theorem rsl_cell {q k n cap : Nat} (h : RSl w base (.slice (some ⟨q, k, none⟩) n cap) l) {j : Nat} {u : Value} (hu : (tmc l)[j]? = some u) : w.cell? ⟨q, k + j, none⟩ = some u := by
  obtain ⟨A, cap', e, _, ⟨rfl, rfl, _⟩ | ⟨g, o, rfl, _, _, h3⟩⟩ := h
  · cases hu
  · injection e with e _ _
    injection e with e
    injection e with e1 e2 _
    subst e1 e2
    exact h3 j u hu
/-- the cells of a timer in it -/
theorem rsl_tm {q k n cap : Nat} (h : RSl w base (.slice (some ⟨q, k, none⟩) n cap) l) {j : Nat} {a : Tm} (hj : l[j]? = some a) :
    w.cell? ⟨q, k + j * 5, none⟩ = some (.int .i64 a.id) ∧ w.cell? ⟨q, k + j * 5 + 1, none⟩ = some (.int .i64 a.clock) ∧ w.cell? ⟨q, k + j * 5 + 2, none⟩ = some (.int .i64 a.soft) ∧ w.cell? ⟨q, k + j * 5 + 3, none⟩ = some (.int .i64 a.hard) ∧ w.cell? ⟨q, k + j * 5 + 4, none⟩ = some (.bool a.lazy) := by
  obtain ⟨f0, f1, f2, f3, f4⟩ := tmc_at l j a hj
  exact ⟨rsl_cell h f0, rsl_cell h f1, rsl_cell h f2, rsl_cell h f3, rsl_cell h f4⟩
theorem rsl_cap {A : Option Addr} {n cap : Nat} (h : RSl w base (.slice A n cap) l) : n = l.length ∧ l.length ≤ cap := by
  obtain ⟨A', cap', e, h1, _⟩ := h
  injection e with e1 e2 e3
  subst e1 e2 e3
  exact ⟨rfl, h1⟩
theorem rsl_mono {base' : Nat} (h : RSl w base v l) (hb : base' ≤ base) : RSl w base' v l := by
  obtain ⟨A, cap, rfl, h0, h1 | ⟨g, o, rfl, h1, h2, h3⟩⟩ := h
  · exact ⟨A, cap, rfl, h0, .inl h1⟩
  · exact ⟨_, cap, rfl, h0, .inr ⟨g, o, rfl, Nat.le_trans hb h1, h2, h3⟩⟩
/-- l[:k], as the model writes it -/
theorem rsl_to {A : Option Addr} {n cap k : Nat} (h : RSl w base (.slice A n cap) l) (hk : k ≤ l.length) : IsSrc w 5 (.slice A k cap) k ((tmc l).take (k * 5)) := by
  have hl := tmc_len l
  obtain ⟨A', cap', e, h0, ⟨rfl, rfl, rfl⟩ | ⟨g, o, rfl, _, _, h3⟩⟩ := h
  · injection e with e1 e2 e3
    subst e1 e2 e3
    obtain rfl : k = 0 := by simpa using hk
    exact .inl ⟨rfl, rfl, rfl⟩
  · injection e with e1 e2 e3
    subst e1 e2 e3
    refine .inr ⟨_, _, rfl, by rw [List.length_take]; omega, fun j u hu => ?_⟩
    rw [add0]
    rw [List.getElem?_take] at hu
    split at hu
    · exact h3 j u hu
    · cases hu
/-- l[k:], as the model writes it -/
theorem rsl_from {A : Option Addr} {n cap k : Nat} (h : RSl w base (.slice A n cap) l) (hk : k ≤ l.length) : IsSrc w 5 (.slice (if cap = k then A else Option.map (fun x => x.add (k * 5)) A) (n - k) (cap - k)) (n - k) ((tmc l).drop (k * 5)) := by
  have hl := tmc_len l
  obtain ⟨A', cap', e, h0, ⟨rfl, rfl, rfl⟩ | ⟨g, o, rfl, _, _, h3⟩⟩ := h
  · injection e with e1 e2 e3
    subst e1 e2 e3
    obtain rfl : k = 0 := by simpa using hk
    exact .inl ⟨by simp, rfl, rfl⟩
  · injection e with e1 e2 e3
    subst e1 e2 e3
    by_cases hc : cap = k
    · rw [if_pos hc]
      refine .inr ⟨_, _, rfl, by rw [List.length_drop, hl]; omega, fun j u hu => ?_⟩
      rw [List.getElem?_drop, List.getElem?_eq_none (by omega)] at hu
      cases hu
    · rw [if_neg hc]
      refine .inr ⟨(⟨g, o, none⟩ : Addr).add (k * 5), _, rfl, by rw [List.length_drop, hl]; omega, fun j u hu => ?_⟩
      rw [add0, add0, Nat.add_assoc]
      rw [List.getElem?_drop] at hu
      exact h3 _ u hu
/-- the row without its first ones -/
theorem rsl_drop {A : Option Addr} {n cap k : Nat} (h : RSl w base (.slice A n cap) l) (hk : k ≤ l.length) : RSl w base (.slice (if cap = k then A else Option.map (fun x => x.add (k * 5)) A) (n - k) (cap - k)) (l.drop k) := by
  have hl := tmc_len l
  obtain ⟨A', cap', e, h0, ⟨rfl, rfl, rfl⟩ | ⟨g, o, rfl, h1, h2, h3⟩⟩ := h
  · injection e with e1 e2 e3
    subst e1 e2 e3
    obtain rfl : k = 0 := by simpa using hk
    exact ⟨none, 0, by simp, Nat.le_refl _, .inl ⟨rfl, rfl, rfl⟩⟩
  · injection e with e1 e2 e3
    subst e1 e2 e3
    refine ⟨_, cap - k, by rw [List.length_drop], by rw [List.length_drop]; omega, .inr ?_⟩
    by_cases hc : cap = k
    · rw [if_pos hc]
      refine ⟨g, o, rfl, h1, h2, fun j u hu => ?_⟩
      rw [← tmc_drop, List.getElem?_drop, List.getElem?_eq_none (by omega)] at hu
      cases hu
    · rw [if_neg hc]
      refine ⟨g, o + k * 5, by show some ((⟨g, o, none⟩ : Addr).add (k * 5)) = _; rw [add0], h1, h2, fun j u hu => ?_⟩
      rw [Nat.add_assoc]
      rw [← tmc_drop, List.getElem?_drop] at hu
      exact h3 _ u hu
end
end Go.Proofs.Ytfoigflgglpobaa.Q
/- fixed: tree's calls whose answers the document fixes. No condition. -/
set_option linter.unusedVariables false
set_option linter.unusedSimpArgs false
namespace Go.Proofs.Ytfoigflgglpobaa.Tr
open Go.RowKit Go.Proofs.Ytfoigflgglpobaa.Aid
theorem nil_app {α : Type} {a b : List α} (h : ([] : List α) = a ++ b) : a = [] ∧ b = [] := by
  cases a with
  | nil => exact ⟨rfl, h.symm⟩
  | cons x a => cases h
theorem one_app {α : Type} {x : α} {a b : List α} (h : [x] = a ++ b) : (a = [] ∧ b = [x]) ∨ (a = [x] ∧ b = []) := by
  cases a with
  | nil => exact .inl ⟨rfl, h.symm⟩
  | cons y a =>
    simp only [List.cons_append, List.cons.injEq] at h
    obtain ⟨rfl, h⟩ := h
    obtain ⟨rfl, rfl⟩ := nil_app h
    exact .inr ⟨rfl, rfl⟩
set_option maxHeartbeats 4000000 in
set_option maxRecDepth 100000 in
theorem fixed_any (w : World) : Calls Try.prog 11 #[] w fun e w' => e = .returned (.bool true) ∧ Below w.heap.size w w' := by
  go_enter Try.func11, Try.ntmps11
  go_wp2_with fail
  refine (New_some 2 w (by omega)).mono ?_
  rintro e W0 ⟨g, gl, rfl, T0, hg, hgl, b0⟩
  have L0 : LSt w W0 g gl (newS 2) .nil [] [] := ⟨⟨full_new (by omega) T0, b0, hg, hgl⟩, fun e he => by cases he⟩
  have HL0 := Lib.hid L0
  clear T0 b0 hg hgl L0
  go_wp2_with fail
  refine (Put_yes g gl (newS 2) .nil [] W0 HL0.out.t.t 5 1 (by show 0 < 2; omega) ((TnB.new 2).bnd (by omega))).mono ?_
  rintro e W1 ⟨s1, T1, fl1, x1, pre1, post1, rfl, F1, R1, O1⟩
  obtain ⟨rfl, rfl⟩ := nil_app R1.ino
  have i1 : T1.ino = [x1] := R1.ino'
  have m1 : x1 ∈ T1.ino := by rw [i1]; simp
  have B1 := Lib.hid ((TnB.new 2).put R1 (by omega))
  have most1 : s1.most = 2 := R1.most
  have key1 := R1.key
  rw [hnd_in F1 m1]
  obtain ⟨t1, ht1⟩ : ∃ t, (s1.f x1).turn = t := ⟨_, rfl⟩
  rw [ht1]
  have L1 := Lib.hid ((HL0.out.goes F1 O1).box x1 t1)
  have HF1 := Lib.hid F1
  have H1 := Lib.hid (And.intro i1 (And.intro most1 (And.intro key1 (And.intro ht1 R1.lt))))
  clear HL0 O1 R1 i1 m1 most1 key1 ht1 F1
  go_upto_region 3 with fail
  generalize W1.alloc (.cells #[.int .i64 x1, .int .i64 t1] 29) = V1 at L1 ⊢
  generalize W1.heap.size = a1 at L1 ⊢
  go_wp2_with fail
  refine (Put_yes g gl s1 T1 fl1 V1 L1.out.t.t 3 2 (by rw [H1.out.1, H1.out.2.1]; simp) (B1.out.bnd (by omega))).mono ?_
  rintro e W2 ⟨s2, T2, fl2, x2, pre2, post2, rfl, F2, R2, O2⟩
  have hpp : pre2 = [] ∧ post2 = [x1] := by
    have h1 := R2.ino
    rw [H1.out.1] at h1
    rcases one_app h1 with h2 | ⟨rfl, rfl⟩
    · exact h2
    · have h3 := R2.pre x1 (by simp)
      unfold kle at h3
      rw [H1.out.2.2.1.1, H1.out.2.2.1.2] at h3
      omega
  obtain ⟨rfl, rfl⟩ := hpp
  have i2 : T2.ino = [x2, x1] := R2.ino'
  have m2 : x2 ∈ T2.ino := by rw [i2]; simp
  have m21 : x1 ∈ T2.ino := by rw [i2]; simp
  have most2 : s2.most = 2 := R2.most.trans H1.out.2.1
  have x12 : x1 ≠ x2 := fun e => by have := F2.rb.nd; rw [i2, e] at this; simp at this
  have t21 : (s2.f x1).turn = t1 := by rw [← H1.out.2.2.2.1]; exact (R2.old x1 H1.out.2.2.2.2 x12).2.2
  rw [hnd_in F2 m2]
  obtain ⟨t2, ht2⟩ : ∃ t, (s2.f x2).turn = t := ⟨_, rfl⟩
  rw [ht2]
  have L2 := Lib.hid ((L1.out.goes F2 O2).box x2 t2)
  have HF2 := Lib.hid F2
  have hh1 : hnd s2 x1 = .agg #[.int .i64 x1, .int .i64 t1] := by rw [hnd_in F2 m21, t21]
  have hh2 : hnd s2 x2 = .agg #[.int .i64 x2, .int .i64 t2] := by rw [hnd_in F2 m2, ht2]
  have H2 := Lib.hid (And.intro i2 (And.intro most2 (And.intro hh1 (And.intro hh2 (And.intro m2 (And.intro ht2 x12))))))
  clear L1 O2 R2 i2 m2 m21 most2 t21 hh1 hh2 ht2 F2 x12 B1
  go_upto_region 4 with fail
  generalize W2.alloc (.cells #[.int .i64 x2, .int .i64 t2] 29) = V2 at L2 ⊢
  generalize W2.heap.size = a2 at L2 ⊢
  go_wp2_with fail
  refine (Put_no g gl s2 T2 fl2 V2 L2.out.t.t 0 0 (by rw [H2.out.1, H2.out.2.1]; rfl)).mono ?_
  rintro e W3 ⟨rfl, F3, O3⟩
  have L3 := Lib.hid ((L2.out.goes F3 O3).box 0 0)
  clear L2 F3 O3
  go_upto_region 5 with fail
  generalize W3.alloc (.cells #[.int .i64 0, .int .i64 0] 29) = V3 at L3 ⊢
  generalize W3.heap.size = a3 at L3 ⊢
  have CF := First_row V3 L3.out.t.t
  rw [H2.out.1, show hd [x2, x1] = x2 from rfl, H2.out.2.2.2.1, show decide ([x2, x1] ≠ []) = true from rfl] at CF
  have HCF := Lib.hid CF
  clear CF
  go_wp2_with fail
  refine HCF.out.mono ?_
  rintro e W4 ⟨rfl, b4⟩
  have L4 := Lib.hid ((L3.out.call b4).box x2 t2)
  clear L3 b4 HCF
  go_upto_region 6 with fail
  generalize W4.alloc (.cells #[.int .i64 x2, .int .i64 t2] 29) = V4 at L4 ⊢
  generalize W4.heap.size = a4 at L4 ⊢
  obtain ⟨p40, p41⟩ := L4.out.cells (e := (a4, x2, t2)) (by simp)
  dsimp only at p40 p41
  have CN := Next_row V4 L4.out.t.t (pre := []) (post := [x1]) (x := x2) H2.out.1
  rw [H2.out.2.2.2.2.2.1, show hd [x1] = x1 from rfl, H2.out.2.2.1, show decide ([x1] ≠ []) = true from rfl] at CN
  have HCN := Lib.hid CN
  clear CN
  go_wp2_with fail
  refine HCN.out.mono ?_
  rintro e W5 ⟨rfl, b5⟩
  have L5 := Lib.hid ((L4.out.call b5).box x1 t1)
  clear L4 b5 HCN p40 p41
  go_upto_region 7 with fail
  generalize W5.alloc (.cells #[.int .i64 x1, .int .i64 t1] 29) = V5 at L5 ⊢
  generalize W5.heap.size = a5 at L5 ⊢
  obtain ⟨p20, p21⟩ := L5.out.cells (e := (a2, x2, t2)) (by simp)
  dsimp only at p20 p21
  go_wp2_with fail
  have hi2 : isH s2 x2 t2 = true := by have := isH_in L5.out.t.t H2.out.2.2.2.2.1; rw [H2.out.2.2.2.2.2.1] at this; exact this
  refine (Drop_yes g gl s2 T2 fl2 V5 L5.out.t.t x2 t2 hi2).mono ?_
  rintro e W6 ⟨rfl, s6, T6, pre6, post6, F6, R6, O6⟩
  have i6 : T6.ino = [x1] := by
    have h1 := R6.ino
    have h2 := R6.ino'
    have e2 : ((x2 : Nat) : Int).toNat = x2 := by simp
    rw [e2, H2.out.1] at h1
    obtain ⟨rfl, rfl⟩ := split_eq (A := []) (show [] ++ x2 :: [x1] = pre6 ++ x2 :: post6 from h1) (by have := L5.out.t.t.rb.nd; rw [H2.out.1] at this; exact this)
    exact h2
  have L6 := Lib.hid (L5.out.goes F6 O6)
  have hi6 : isH s6 x2 t2 = false := isH_not F6 (by rw [i6]; simp; exact fun e => H2.out.2.2.2.2.2.2 e.symm)
  have n6 : s6.n = 1 := by rw [F6.n, i6]; rfl
  have H6 := Lib.hid (And.intro hi6 n6)
  clear L5 R6 O6 F6 i6 hi6 n6 hi2 p20 p21
  obtain ⟨p20, p21⟩ := L6.out.cells (e := (a2, x2, t2)) (by simp)
  dsimp only at p20 p21
  go_wp2_with fail
  refine (Drop_no g gl s6 W6 L6.out.t.t.m x2 t2 H6.out.1).mono ?_
  rintro e W7 ⟨rfl, b7⟩
  have L7 := Lib.hid (L6.out.call b7)
  clear L6 b7 p20 p21
  go_wp2_with fail
  refine (Put_nil 0 0 W7).mono ?_
  rintro e W8 ⟨rfl, b8⟩
  have L8 := Lib.hid ((L7.out.call b8).box 0 0)
  clear L7 b8
  go_upto_region 11 with fail
  generalize W8.alloc (.cells #[.int .i64 0, .int .i64 0] 29) = V8 at L8 ⊢
  generalize W8.heap.size = a8 at L8 ⊢
  obtain ⟨p10, p11⟩ := L8.out.cells (e := (a1, x1, t1)) (by simp)
  obtain ⟨p20, p21⟩ := L8.out.cells (e := (a2, x2, t2)) (by simp)
  obtain ⟨p40, p41⟩ := L8.out.cells (e := (a4, x2, t2)) (by simp)
  obtain ⟨p50, p51⟩ := L8.out.cells (e := (a5, x1, t1)) (by simp)
  dsimp only at p10 p11 p20 p21 p40 p41 p50 p51
  have HN := Lib.hid (Len_any g gl s6 V8 L8.out.t.t.m)
  rw [H6.out.2] at HN
  go_wp2_with (first
    | (refine HN.out.mono ?_; rintro e W9 ⟨rfl, rfl⟩)
    | (refine (New_none 0 _ (.inl (by omega))).mono ?_; rintro e W9 ⟨rfl, rfl⟩)
    | (refine (Len_nil _).mono ?_; rintro e W9 ⟨rfl, rfl⟩))
  go_ret
  exact ⟨rfl, L8.out.t.b⟩
end Go.Proofs.Ytfoigflgglpobaa.Tr
/- Arguments that are structs, arrays, and slices of those, whose innermost parts are ints and bools: what their cells hold. Plain theorems over any program; no condition. -/
set_option linter.unusedVariables false
namespace Go.Proofs.Ytfoigflgglpobaa.Leaf
open Go.RowKit Go.ChangeShapes Go.WideShapes Go.Deep
inductive Lf where
  | int (k : IntKind)
  | bool
def Lf.fits : Lf → Value → Prop
  | .int k, v => ∃ n, v = .int k n ∧ (Lit.int k n).wf = true
  | .bool, v => ∃ b, v = .bool b
inductive Fits : List Lf → List Value → Prop where
  | nil : Fits [] []
  | cons {l : Lf} {v : Value} {ls : List Lf} {vs : List Value} : l.fits v → Fits ls vs → Fits (l :: ls) (v :: vs)
theorem Fits.length {ls : List Lf} {vs : List Value} (h : Fits ls vs) : vs.length = ls.length := by
  induction h with
  | nil => rfl
  | cons _ _ ih => simp [ih]
theorem Fits.append {a b : List Lf} {x y : List Value} (h : Fits a x) (k : Fits b y) : Fits (a ++ b) (x ++ y) := by
  induction h with
  | nil => simpa using k
  | cons h1 _ ih => exact .cons h1 ih
theorem Fits.int {k : IntKind} {ls : List Lf} {vs : List Value} (h : Fits (.int k :: ls) vs) : ∃ n r, vs = .int k n :: r ∧ (Lit.int k n).wf = true ∧ Fits ls r := by
  cases h with
  | cons h1 h2 =>
    obtain ⟨n, rfl, hw⟩ := h1
    exact ⟨n, _, rfl, hw, h2⟩
theorem Fits.bool {ls : List Lf} {vs : List Value} (h : Fits (.bool :: ls) vs) : ∃ b r, vs = .bool b :: r ∧ Fits ls r := by
  cases h with
  | cons h1 h2 =>
    obtain ⟨b, rfl⟩ := h1
    exact ⟨b, _, rfl, h2⟩
theorem Fits.done {vs : List Value} (h : Fits [] vs) : vs = [] := by cases h; rfl
def leavesFs (g : TypeId → Option (List Lf)) (c : TypeId → Nat) : Nat → List Field → Option (List Lf)
  | _, [] => some []
  | acc, f :: fs => (g f.type).bind fun l => if f.offset = acc ∧ c f.type = l.length then (leavesFs g c (acc + l.length) fs).map (l ++ ·) else none
def leaves (P : Program) : Nat → TypeId → Option (List Lf)
  | 0, _ => none
  | n + 1, t => match P.underlying t with
    | some (.int k) => some [.int k]
    | some .bool => some [.bool]
    | some (.array m e) => (leaves P n e).bind fun l => if P.cellsOf e = l.length ∧ P.cellsOf t = m * l.length then some (List.replicate m l).flatten else none
    | some (.struct fs) => (leavesFs (leaves P n) P.cellsOf 0 fs.toList).bind fun l => if P.cellsOf t = l.length then some l else none
    | _ => none
theorem fits_fields {g : TypeId → Option (List Lf)} {c : TypeId → Nat} {cs : List Value} (fs : List Field) : ∀ (acc : Nat) (ls : List Lf), leavesFs g c acc fs = some ls →
    (∀ f ∈ fs, ∀ l, g f.type = some l → Fits l ((cs.drop f.offset).take (c f.type))) → Fits ls ((cs.drop acc).take ls.length) := by
  induction fs with
  | nil =>
    intro acc ls h _
    simp only [leavesFs, Option.some.injEq] at h
    subst h
    simpa using Fits.nil
  | cons f fs ih =>
    intro acc ls h hf
    simp only [leavesFs] at h
    obtain ⟨l, hl, h⟩ := Option.bind_eq_some_iff.1 h
    by_cases hc : f.offset = acc ∧ c f.type = l.length
    · rw [if_pos hc] at h
      obtain ⟨l', hl', rfl⟩ := Option.map_eq_some_iff.1 h
      have h1 := hf f List.mem_cons_self l hl
      rw [hc.1, hc.2] at h1
      have h2 := ih (acc + l.length) l' hl' (fun f' hf' => hf f' (List.mem_cons_of_mem _ hf'))
      rw [List.length_append, List.take_add, List.drop_drop]
      exact h1.append h2
    · rw [if_neg hc] at h
      cases h
theorem fits_array {l : List Lf} {cs : List Value} (m : Nat) (h : ∀ i, i < m → Fits l ((cs.drop (i * l.length)).take l.length)) : Fits (List.replicate m l).flatten (cs.take (m * l.length)) := by
  induction m with
  | zero => simpa using Fits.nil
  | succ m ih =>
    have h1 := ih (fun i hi => h i (by omega))
    have h2 := h m (by omega)
    rw [List.replicate_succ', List.flatten_append, Nat.succ_mul, List.take_add]
    simpa using h1.append h2
theorem leaves_fit {H : Type} {enc : TypeId × Value → H} {P : Program} {w : World} {base : Nat} {spare : Nat → Bool} {held : Bool} (n : Nat) : ∀ {t : TypeId} {ls : List Lf} {fuel : Nat} {cs : List Value} {x : DataW H × List MemPlace},
    leaves P n t = some ls → DataW.trod enc P w base spare held fuel t cs = some x → Fits ls cs := by
  induction n with
  | zero => intro t ls fuel cs x h; simp [leaves] at h
  | succ n ih =>
    intro t ls fuel cs x h ht
    unfold leaves at h
    split at h
    · next k hu =>
      obtain ⟨m, rfl, _, hw⟩ := DataW.trod_int hu ht
      simp only [Option.some.injEq] at h
      subst h
      exact .cons ⟨m, rfl, hw⟩ .nil
    · next hu =>
      obtain ⟨b, rfl, _⟩ := DataW.trod_bool hu ht
      simp only [Option.some.injEq] at h
      subst h
      exact .cons ⟨b, rfl⟩ .nil
    · next m e hu =>
      obtain ⟨l, hl, h⟩ := Option.bind_eq_some_iff.1 h
      by_cases hc : P.cellsOf e = l.length ∧ P.cellsOf t = m * l.length
      · rw [if_pos hc] at h
        simp only [Option.some.injEq] at h
        subst h
        obtain ⟨xs, m', _, _, hlen, hxl, hat⟩ := DataW.trod_array hu ht
        have := fits_array (cs := cs) m (fun i hi => by
          have h1 := hat i hi
          rw [hc.1] at h1
          have hx : xs[i]? = some (xs[i]'(by omega)) := List.getElem?_eq_getElem (by omega)
          exact ih hl (h1.trans hx))
        rwa [List.take_of_length_le (by rw [hlen, hc.2]; exact Nat.le_refl _)] at this
      · rw [if_neg hc] at h; cases h
    · next fs hu =>
      obtain ⟨l, hl, h⟩ := Option.bind_eq_some_iff.1 h
      by_cases hc : P.cellsOf t = l.length
      · rw [if_pos hc] at h
        simp only [Option.some.injEq] at h
        subst h
        obtain ⟨xs, m', _, _, hlen, hxl, hat⟩ := DataW.trod_struct hu ht
        have := fits_fields (cs := cs) fs.toList 0 l hl (fun f hf l' hl' => by
          obtain ⟨i, hi, rfl⟩ := List.mem_iff_getElem.1 hf
          have hi' : i < fs.size := by simpa using hi
          have h1 := hat i fs[i] (by simp [hi'])
          have hx : xs[i]? = some (xs[i]'(by omega)) := List.getElem?_eq_getElem (by omega)
          have h2 := ih (t := fs[i].type) (by simpa using hl') (h1.trans hx)
          simpa using h2)
        rwa [List.drop_zero, List.take_of_length_le (by rw [hlen, hc]; exact Nat.le_refl _)] at this
      · rw [if_neg hc] at h; cases h
    · cases h
/-- a slice that came in: at each place the cells of one element -/
def Row (w : World) (ls : List Lf) (A : Option Addr) (n : Nat) : Prop :=
  n = 0 ∨ ∃ x, ∃ E : Nat → List Value, A = some x ∧ x.block < w.heap.size ∧ n ≤ maxLen ∧ ∀ k, k < n → Fits ls (E k) ∧ ∀ j, j < ls.length → w.cell? (x.add (k * ls.length + j)) = (E k)[j]?
theorem open_row {H : Type} {enc : TypeId × Value → H} {P : Program} {w : World} {base : Nat} {spare : Nat → Bool} {held : Bool} {t e : TypeId} {A : Option Addr} {len cap : Nat} {d : DataW H} {p : List MemPlace} {ls : List Lf} (k : Nat)
    (ht : P.underlying t = some (.slice e)) (hl : leaves P k e = some ls) (hc : P.cellsOf e = ls.length) (hpos : 0 < ls.length) (h : DataW.Trod enc P w base spare held t (.slice A len cap) d p) : Row w ls A len := by
  obtain ⟨fuel, h⟩ := h
  rcases open_slice ht h with ⟨hcs, _⟩ | ⟨a, len', cap', m, n, D, Pl, hcs, hb, hll, hm, hmm, hx, hi⟩
  · simp [Value.cells] at hcs
    exact .inl hcs.2.1
  · simp [Value.cells] at hcs
    obtain ⟨rfl, rfl, rfl⟩ := hcs
    by_cases h0 : len = 0
    · exact .inl h0
    have hlm : len ≤ m := by rw [hmm]; split <;> omega
    have each : ∀ i, i < len → ∃ cs', Fits ls cs' ∧ ∀ j, j < ls.length → w.cell? (a.add (i * ls.length + j)) = cs'[j]? := by
      intro i hi'
      obtain ⟨cs', hcell, ht'⟩ := hi i (by omega)
      obtain ⟨_, hcl, hat⟩ := World.cells?_some hcell
      refine ⟨cs', leaves_fit k hl ht', fun j hj => ?_⟩
      rw [← hat j (by omega), hc, Go.Deep.add_add]
    refine .inr ⟨a, fun i => if hi' : i < len then (each i hi').choose else [], rfl, ?_, by omega, fun i hi' => ?_⟩
    · obtain ⟨cs', hf, hat⟩ := each 0 (by omega)
      have := hat 0 hpos
      have hl0 : 0 < cs'.length := by rw [hf.length]; exact hpos
      rw [List.getElem?_eq_getElem hl0] at this
      have := block_lt_of_cell this
      unfold Addr.add at this
      split at this <;> exact this
    · simp only [hi', dif_pos]
      exact (each i hi').choose_spec
theorem open_flat {H : Type} {enc : TypeId × Value → H} {P : Program} {w : World} {base b0 : Nat} {spare : Nat → Bool} {held : Bool} {r : Reach} {t : TypeId} {fs : Array Field} {v : Value} {d : DataW H} {p : List MemPlace} {ls : List Lf} (k : Nat)
    (hs : P.underlying t = some (.struct fs)) (hl : leaves P k t = some ls) (hv : Value.okWide P w r b0 t v) (h : DataW.Trod enc P w base spare held t v d p) : ∃ cs, v = .agg cs ∧ Fits ls cs.toList := by
  obtain ⟨cs, rfl, hsz⟩ := okWide_struct hs hv
  obtain ⟨fuel, h⟩ := h
  exact ⟨cs, rfl, leaves_fit k hl h⟩
/-- the cells of element k, told one by one -/
theorem cell_of {w : World} {x : Addr} {k c j : Nat} {E : List Value} {v : Value} (h : ∀ j, j < c → w.cell? (x.add (k * c + j)) = E[j]?) (hj : j < c) (hv : E[j]? = some v) :
    w.cell? (if j = 0 then x.add (k * c) else ⟨(x.add (k * c)).block, (x.add (k * c)).off + j, none⟩) = some v := by
  rw [← hv, ← h j hj, ← Go.Deep.add_add]
  congr 1
end Go.Proofs.Ytfoigflgglpobaa.Leaf
/- TreeSorts: whatever keys are put come out in order: the walk. No condition. -/
set_option linter.unusedVariables false
set_option linter.unusedSimpArgs false
namespace Go.Proofs.Ytfoigflgglpobaa.Tr
open Go.RowKit Go.Proofs.Ytfoigflgglpobaa.Aid
/-- the keys that came in, as they read whenever nothing old has changed -/
def KeysIn (w : World) (B : Nat) (A : Option Addr) (n : Nat) : Prop := ∀ k, k < n → ∃ x, A = some x ∧ ∃ a b : Int, ∀ w', Below B w w' → w'.cell? (x.add (k * 2)) = some (.int .i64 a) ∧ w'.cell? ⟨(x.add (k * 2)).block, (x.add (k * 2)).off + 1, none⟩ = some (.int .i64 b)
theorem keys_of {w : World} {A : Option Addr} {n : Nat} (h : Leaf.Row w [.int .i64, .int .i64] A n) : KeysIn w w.heap.size A n := by
  intro k hk
  rcases h with rfl | ⟨x, E, rfl, hx, _, hE⟩
  · omega
  obtain ⟨hf, hc⟩ := hE k hk
  obtain ⟨k0, r0, e0, w0, f0⟩ := hf.int
  obtain ⟨k1, r1, rfl, w1, f1⟩ := f0.int
  obtain rfl := f1.done
  refine ⟨x, rfl, k0, k1, fun w' hb => ?_⟩
  have c := fun j hj v hv => Leaf.cell_of (c := 2) (j := j) (v := v) hc hj hv
  have key : ∀ q : Addr, q.block = x.block → w'.cell? q = w.cell? q := fun q hq => hb.cell (by rw [hq]; exact hx)
  exact ⟨(key _ (add_block _ _)).trans (c 0 (by decide) _ (by rw [e0]; rfl)), (key ⟨(x.add (k * 2)).block, (x.add (k * 2)).off + 1, none⟩ (add_block _ _)).trans (c 1 (by decide) _ (by rw [e0]; rfl))⟩
theorem len_in {w : World} {A : Option Addr} {n : Nat} {ls : List Leaf.Lf} (h : Leaf.Row w ls A n) : n ≤ maxLen := by
  rcases h with rfl | ⟨_, _, _, _, h, _⟩
  · exact Nat.zero_le _
  · exact h
/-- a key comes first -/
def klt (a b c d : Int) : Prop := a < c ∨ a = c ∧ b < d
instance (a b c d : Int) : Decidable (klt a b c d) := by unfold klt; exact inferInstance
set_option maxHeartbeats 1000000 in
set_option maxRecDepth 100000 in
theorem ahead_any (a b c d : Int) (w : World) : Calls Try.prog 16 #[.agg #[.int .i64 a, .int .i64 b], .agg #[.int .i64 c, .int .i64 d]] w fun e w' => e = .returned (.bool (decide (klt a b c d))) ∧ Below w.heap.size w w' := by
  have e1 : (w.alloc (.cells #[.int .i64 a, .int .i64 b] 27)).heap.size = w.heap.size + 1 := by simp
  have h1 := (Blk.new w 27 #[.int .i64 a, .int .i64 b]).alloc (.cells #[.int .i64 c, .int .i64 d] 27)
  have h2 := Blk.new (w.alloc (.cells #[.int .i64 a, .int .i64 b] 27)) 27 #[.int .i64 c, .int .i64 d]
  rw [e1] at h2
  have B := Lib.hid (show Below w.heap.size w ((w.alloc (.cells #[.int .i64 a, .int .i64 b] 27)).alloc (.cells #[.int .i64 c, .int .i64 d] 27)) from ((Below.refl w.heap.size w).alloc (Nat.le_refl _) _).alloc (by simp) _)
  clear e1
  obtain ⟨σ, hσ⟩ : ∃ σ, decide (klt a b c d) = σ := ⟨_, rfl⟩
  rw [hσ]
  have HS := Lib.hid hσ
  clear hσ
  go_enter Try.func16, Try.ntmps16
  go_upto_region 1 with fail
  generalize (w.alloc (.cells #[.int .i64 a, .int .i64 b] 27)).alloc (.cells #[.int .i64 c, .int .i64 d] 27) = W at h1 h2 B ⊢
  generalize w.heap.size + 1 = g2 at h2 ⊢
  obtain ⟨c0, c1⟩ := two_cells h1
  obtain ⟨c2, c3⟩ := two_cells h2
  clear h1 h2
  by_cases e : a < c
  · have e' : decide (a < c) = true := decide_eq_true e
    have e2 : σ = true := by rw [← HS.out]; exact decide_eq_true (.inl e)
    subst e2
    first
      | (go_wp2; go_ret; exact ⟨rfl, B.out⟩)
      | (go_quiet (fail); go_wp2; go_ret; exact ⟨rfl, below_drewN B.out _⟩)
  · have e' : decide (a < c) = false := decide_eq_false e
    by_cases e2 : a = c
    · by_cases e4 : b < d
      · have e3 : σ = true := by rw [← HS.out]; exact decide_eq_true (.inr ⟨e2, e4⟩)
        subst e3
        subst e2
        first
          | (go_wp2; go_ret; exact ⟨rfl, B.out⟩)
          | (go_quiet (fail); go_wp2; go_ret; exact ⟨rfl, below_drewN B.out _⟩)
      · have e3 : σ = false := by rw [← HS.out]; exact decide_eq_false (by rintro (h | h); exact e h; exact e4 h.2)
        subst e3
        subst e2
        first
          | (go_wp2; go_ret; exact ⟨rfl, B.out⟩)
          | (go_quiet (fail); go_wp2; go_ret; exact ⟨rfl, below_drewN B.out _⟩)
    · have e3 : σ = false := by rw [← HS.out]; exact decide_eq_false (by rintro (h | h); exact e h; exact e2 h.1)
      subst e3
      have e4 := beq_i e2
      first
        | (go_wp2; go_ret; exact ⟨rfl, B.out⟩)
        | (go_quiet (fail); go_wp2; go_ret; exact ⟨rfl, below_drewN B.out _⟩)
def S1Rel (w0 : World) (g gl N : Nat) (m : Nat) (s24 : Value) (wr : World) : Prop :=
  ∃ (k : Nat) (s : TS) (T : Sh) (fl : List Nat), k ≤ N ∧ m = N - k ∧ s24 = .int .i64 k ∧ TSt w0 wr g gl s T fl ∧ T.ino.length = k ∧ s.most = 300 ∧ TnB s k
def S2Rel (w0 : World) (g gl N LB : Nat) (m : Nat) (s40 : Value) (wr : World) : Prop :=
  ∃ (k : Nat) (s : TS) (T : Sh) (fl : List Nat) (lt ls : Int), k ≤ N ∧ m = N - k ∧ s40 = .int .i64 k ∧ TSt w0 wr g gl s T fl ∧ T.ino.length = N - k ∧ Blk wr LB 27 (two_ lt ls) ∧ (0 < k → ∀ z, z ∈ T.ino → ¬ klt (s.f z).t (s.f z).s lt ls)
theorem hnd0 (s : TS) : hnd s 0 = .agg #[.int .i64 0, .int .i64 0] := rfl
set_option maxHeartbeats 4000000 in
set_option maxRecDepth 100000 in
theorem treeSorts_big (A : Option Addr) (N cap : Nat) (hN : 300 < N) (hmx : N ≤ maxLen) (w : World) : Calls Try.prog 3 #[.slice A N cap] w fun e w' => e = .returned (.bool true) ∧ Below w.heap.size w w' := by
  have d : decide (((N : Nat) : Int) > 300) = true := decide_eq_true (by omega)
  go_enter Try.func3, Try.ntmps3
  go_wp2_with fail
  refine (fixed_any w).mono ?_
  rintro e w1 ⟨rfl, b1⟩
  have HB := Lib.hid b1
  clear b1
  go_wp2_with fail
  go_ret
  exact ⟨rfl, HB.out⟩
set_option maxHeartbeats 4000000 in
set_option maxRecDepth 100000 in
theorem treeSorts_any (A : Option Addr) (N cap : Nat) (hN : N ≤ 300) (w : World) (hin : KeysIn w w.heap.size A N) : Calls Try.prog 3 #[.slice A N cap] w fun e w' => e = .returned (.bool true) ∧ Below w.heap.size w w' := by
  have d : decide (((N : Nat) : Int) > 300) = false := decide_eq_false (by omega)
  have HK := Lib.hid hin
  clear hin
  go_enter Try.func3, Try.ntmps3
  go_wp2_with fail
  refine (fixed_any w).mono ?_
  rintro e V1 ⟨rfl, b1⟩
  go_wp2_with fail
  refine (New_some 300 V1 (by omega)).mono ?_
  rintro e W0 ⟨g, gl, rfl, T0, hg, hgl, b0⟩
  have s1 := b1.size
  have S := Lib.hid (show S1Rel w g gl N N (.int .i64 (0 : Nat)) W0 from ⟨0, newS 300, .nil, [], by omega, rfl, rfl, ⟨full_new (by omega) T0, b1.trans (b0.mono s1), by omega, by omega⟩, rfl, rfl, TnB.new 300⟩)
  clear T0 b0 b1 hg hgl s1 d
  go_wp2_with fail
  go_loopg [24] N (fun m s24 wr => S1Rel w g gl N m s24 wr)
  case atStart => exact S.out
  case round =>
    obtain ⟨k, s, T, fl, hk, rfl, rfl, HT, hlen, hmost, hTn⟩ := hrel
    clear S
    have HI := Lib.hid (And.intro hlen (And.intro hmost hTn))
    clear hlen hmost hTn
    by_cases hlt : k < N
    · obtain ⟨x, rfl, kt, ks, hat⟩ := HK.out k hlt
      obtain ⟨q0, q1⟩ := hat _ HT.b
      clear hat
      go_upto_region 9 with fail
      have hbx := Blk.new wr 27 #[.int .i64 kt, .int .i64 ks]
      have H2 := HT.alloc (.cells #[.int .i64 kt, .int .i64 ks] 27)
      clear HT q0 q1
      generalize wr.alloc (.cells #[.int .i64 kt, .int .i64 ks] 27) = W2 at hbx H2 ⊢
      generalize wr.heap.size = kb at hbx ⊢
      obtain ⟨x0, x1⟩ := two_cells hbx
      clear hbx
      go_wp2_with fail
      refine (Put_yes g gl s T fl W2 H2.t kt ks (by rw [HI.out.1, HI.out.2.1]; omega) (HI.out.2.2.bnd (by omega))).mono ?_
      rintro e W3 ⟨s1, T1, fl1, x', pre1, post1, rfl, F1, R1, O1⟩
      have hl1 : T1.ino.length = k + 1 := by
        have h1 := HI.out.1
        rw [R1.ino] at h1
        rw [R1.ino']
        simp only [List.length_append, List.length_cons] at h1 ⊢
        omega
      have hm1 := R1.most.trans HI.out.2.1
      have ht1 := HI.out.2.2.put R1 (by omega)
      rw [hnd_in F1 (by rw [R1.ino']; simp)]
      generalize (s1.f x').turn = tx
      have H3 := Lib.hid ((H2.goes F1 O1).alloc (.cells #[.int .i64 x', .int .i64 tx] 29))
      have HE := Lib.hid (And.intro hl1 (And.intro hm1 ht1))
      clear H2 F1 R1 O1 hl1 hm1 ht1 x0 x1
      go_wp2_with fail
      go_roundg (N - (k + 1))
      case measure => omega
      case rel => exact ⟨k + 1, s1, T1, _, by omega, rfl, by go_num, H3.out, HE.out.1, HE.out.2.1, by have := HE.out.2.2; exact this⟩
    · have hkN : k = N := by omega
      subst hkN
      have hLB := Blk.new wr 27 #[.int .i64 0, .int .i64 0]
      have H2 := HT.alloc (.cells #[.int .i64 0, .int .i64 0] 27)
      have hgg := HT.t.m.b.lt
      have hggl := HT.t.m.n.lt
      have hww := HT.b.size
      clear HT
      go_upto_region 14 with fail
      generalize wr.alloc (.cells #[.int .i64 0, .int .i64 0] 27) = W2 at hLB H2 ⊢
      generalize wr.heap.size = LB at hLB hgg hggl hww ⊢
      have S := Lib.hid (show S2Rel w g gl k LB k (.int .i64 (0 : Nat)) W2 from ⟨0, s, T, fl, 0, 0, by omega, rfl, rfl, H2, HI.out.1, hLB, fun h => by omega⟩)
      clear hLB H2 HI
      go_wp2_with fail
      go_loopg [40] k (fun m s40 wr => S2Rel w g gl k LB m s40 wr)
      case atStart => exact S.out
      case round =>
        obtain ⟨j, s, T, fl, lt, ls, hj, rfl, rfl, HT, hlen, hLB, hord⟩ := hrel
        clear S
        by_cases hjl : j < k
        · obtain ⟨x, rest, hT⟩ : ∃ x rest, T.ino = x :: rest := by
            cases hc : T.ino with
            | nil => rw [hc] at hlen; simp at hlen; omega
            | cons x rest => exact ⟨x, rest, rfl⟩
          have hx : x ∈ T.ino := by rw [hT]; simp
          have C1 := First_row wr HT.t
          rw [hT, show hd (x :: rest) = x from rfl, hnd_in HT.t hx, show decide (x :: rest ≠ []) = true from rfl] at C1
          obtain ⟨tx, htx⟩ : ∃ t, (s.f x).turn = t := ⟨_, rfl⟩
          obtain ⟨kt, hkt⟩ : ∃ t, (s.f x).t = t := ⟨_, rfl⟩
          obtain ⟨ks, hks⟩ : ∃ t, (s.f x).s = t := ⟨_, rfl⟩
          rw [htx] at C1
          have HC1 := Lib.hid C1
          have HKEY : Hid (∀ W, Full W g gl s T fl → Calls Try.prog 15 #[.pointer (some ⟨g, 0, none⟩), .agg #[.int .i64 x, .int .i64 tx]] W fun e w' => e = .returned (.tuple #[.agg #[.int .i64 kt, .int .i64 ks], .bool true]) ∧ Below W.heap.size W w') := Lib.hid fun W hW => by
            have := Key_row W hW hx
            rw [htx, hkt, hks] at this
            exact this
          have hix : isH s x tx = true := by have := isH_in HT.t hx; rw [htx] at this; exact this
          have hsrt := HT.t.srt
          have hnah : 0 < j → decide (klt kt ks lt ls) = false := fun h => decide_eq_false (by rw [← hkt, ← hks]; exact hord h x hx)
          have hnext : ∀ z, z ∈ rest → ¬ klt (s.f z).t (s.f z).s kt ks := fun z hz => by
            unfold Srt at hsrt
            rw [hT] at hsrt
            have h1 := (List.pairwise_cons.1 hsrt).1 z hz
            unfold kle at h1
            unfold klt
            omega
          have hnd := HT.t.rb.nd
          have H1 := Lib.hid HT
          have HL := Lib.hid hLB
          have HF := Lib.hid (And.intro hT (And.intro hlen (And.intro hix (And.intro hnext (And.intro hnah hnd)))))
          clear C1 htx hkt hks hix hsrt hnah hnext hnd hT hlen HT hLB hord hx
          go_wp2_with fail
          refine HC1.out.mono ?_
          rintro e W3 ⟨rfl, b3⟩
          have H3 := (H1.out.call b3).alloc (.cells #[.int .i64 x, .int .i64 tx] 29)
          have h3 := Blk.new W3 29 #[.int .i64 x, .int .i64 tx]
          have l3 := (HL.out.below b3 HL.out.lt).alloc (.cells #[.int .i64 x, .int .i64 tx] 29)
          have l3' := (HL.out.below b3 HL.out.lt).lt
          clear H1 HL HC1 b3
          go_upto_region 18 with fail
          generalize W3.alloc (.cells #[.int .i64 x, .int .i64 tx] 29) = W4 at H3 h3 l3 ⊢
          generalize W3.heap.size = hb at h3 l3' ⊢
          obtain ⟨x0, x1⟩ := two_cells h3
          have H4 := Lib.hid (And.intro H3 (And.intro h3 (And.intro l3 l3')))
          have HKY := Lib.hid (HKEY.out W4 H3.t)
          clear H3 h3 l3 l3' HKEY
          go_wp2_with fail
          refine HKY.out.mono ?_
          rintro e W5 ⟨rfl, b5⟩
          have H5 := (H4.out.1.call b5).alloc (.cells #[.int .i64 kt, .int .i64 ks] 27)
          have k5 := Blk.new W5 27 #[.int .i64 kt, .int .i64 ks]
          have h5 := (H4.out.2.1.below b5 H4.out.2.1.lt).alloc (.cells #[.int .i64 kt, .int .i64 ks] 27)
          have l5 := (H4.out.2.2.1.below b5 H4.out.2.2.1.lt).alloc (.cells #[.int .i64 kt, .int .i64 ks] 27)
          have l5' := (H4.out.2.2.1.below b5 H4.out.2.2.1.lt).lt
          clear H4 HKY b5 x0 x1
          go_upto_region 19 with fail
          generalize W5.alloc (.cells #[.int .i64 kt, .int .i64 ks] 27) = W6 at H5 k5 h5 l5 ⊢
          generalize W5.heap.size = kb at k5 l5' ⊢
          have H6 := Lib.hid (And.intro H5 (And.intro k5 (And.intro h5 (And.intro l5 l5'))))
          have hkg : kb ≠ g ∧ kb ≠ gl ∧ LB ≠ g ∧ LB ≠ gl ∧ LB ≠ kb := by omega
          clear H5 k5 h5 l5 l5'
          by_cases j0 : j = 0
          · subst j0
            obtain ⟨x0, x1⟩ := two_cells H6.out.2.2.1
            go_wp2_with fail
            clear x0 x1
            have HD := H6
            clear H6
            generalize W6 = WD at HD ⊢
            refine (Drop_yes g gl s T fl WD HD.out.1.t x tx HF.out.2.2.1).mono ?_
            rintro e W8 ⟨rfl, s2, T2, pre2, post2, F2, R2, O2⟩
            have e2 : ((x : Nat) : Int).toNat = x := by simp
            rw [e2] at R2 F2
            have hT2 : T2.ino = rest := by
              have h1 := R2.ino
              have h2 := R2.ino'
              rw [HF.out.1] at h1
              obtain ⟨rfl, rfl⟩ := split_eq (A := []) (B := rest) (show [] ++ x :: rest = pre2 ++ x :: post2 from h1) (by have := HF.out.2.2.2.2.2; rw [HF.out.1] at this; exact this)
              exact h2
            have H8 := HD.out.1.goes F2 O2
            have k8 := O2.blk HD.out.2.1 (by rintro (e | e); exact hkg.1 e; exact hkg.2.1 e)
            have l8 := O2.blk HD.out.2.2.2.1 (by rintro (e | e); exact hkg.2.2.1 e; exact hkg.2.2.2.1 e)
            have hnx : x ∉ rest := by have := HF.out.2.2.2.2.2; rw [HF.out.1] at this; exact (List.nodup_cons.1 this).1
            have hord2 : ∀ z, z ∈ T2.ino → ¬ klt (s2.f z).t (s2.f z).s kt ks := fun z hz => by
              rw [hT2] at hz
              have h1 := R2.old z (fun e => hnx (e ▸ hz))
              rw [h1.1, h1.2]
              exact HF.out.2.2.2.1 z hz
            have hlen2 : T2.ino.length = k - (0 + 1) := by
              have h1 := HF.out.2.1
              rw [HF.out.1] at h1
              rw [hT2]
              simp only [List.length_cons] at h1
              omega
            have H9 := Lib.hid (And.intro (H8.far (p := ⟨LB, 0, none⟩) hkg.2.2.1 hkg.2.2.2.1 hww (.int .i64 kt)) (two_set l8 kt ks))
            have H10 := Lib.hid ((H8.far (p := ⟨LB, 0, none⟩) hkg.2.2.1 hkg.2.2.2.1 hww (.int .i64 kt)).far (p := ⟨LB, 1, none⟩) hkg.2.2.1 hkg.2.2.2.1 hww (.int .i64 ks))
            have HE := Lib.hid (And.intro hlen2 hord2)
            obtain ⟨y0, y1⟩ := two_cells k8
            obtain ⟨z0, z1⟩ := two_cells l8
            have lf := l8.frozen
            have dLK := hkg.2.2.2.2
            have dKL : kb ≠ LB := fun e => dLK e.symm
            clear H8 k8 l8 F2 R2 O2 hT2 hnx hord2 hlen2 HD e2
            go_wp2_with fail
            go_roundg (k - (0 + 1))
            case measure => omega
            case rel => exact ⟨0 + 1, s2, T2, _, kt, ks, by omega, rfl, by go_num, H10.out, HE.out.1, H9.out.2, fun _ => HE.out.2⟩

          · have c1 : decide (0 < ((j : Nat) : Int)) = true := decide_eq_true (by omega)
            have hnah := HF.out.2.2.2.2.1 (by omega)
            obtain ⟨x0, x1⟩ := two_cells H6.out.2.2.1
            obtain ⟨y0, y1⟩ := two_cells H6.out.2.1
            obtain ⟨z0, z1⟩ := two_cells H6.out.2.2.2.1
            have HAH := Lib.hid (ahead_any kt ks lt ls W6)
            rw [hnah] at HAH
            go_wp2_with fail
            refine HAH.out.mono ?_
            rintro e W7 ⟨rfl, b7⟩
            have HD := Lib.hid (And.intro (H6.out.1.call b7) (And.intro (H6.out.2.1.below b7 H6.out.2.1.lt) (And.intro (H6.out.2.2.1.below b7 H6.out.2.2.1.lt) (And.intro (H6.out.2.2.2.1.below b7 H6.out.2.2.2.1.lt) trivial))))
            clear x0 x1 y0 y1 z0 z1 H6 HAH b7
            obtain ⟨x0, x1⟩ := two_cells HD.out.2.2.1
            generalize W7 = WD at HD x0 x1 ⊢
            go_wp2_with fail
            clear x0 x1
            refine (Drop_yes g gl s T fl WD HD.out.1.t x tx HF.out.2.2.1).mono ?_
            rintro e W8 ⟨rfl, s2, T2, pre2, post2, F2, R2, O2⟩
            have e2 : ((x : Nat) : Int).toNat = x := by simp
            rw [e2] at R2 F2
            have hT2 : T2.ino = rest := by
              have h1 := R2.ino
              have h2 := R2.ino'
              rw [HF.out.1] at h1
              obtain ⟨rfl, rfl⟩ := split_eq (A := []) (B := rest) (show [] ++ x :: rest = pre2 ++ x :: post2 from h1) (by have := HF.out.2.2.2.2.2; rw [HF.out.1] at this; exact this)
              exact h2
            have H8 := HD.out.1.goes F2 O2
            have k8 := O2.blk HD.out.2.1 (by rintro (e | e); exact hkg.1 e; exact hkg.2.1 e)
            have l8 := O2.blk HD.out.2.2.2.1 (by rintro (e | e); exact hkg.2.2.1 e; exact hkg.2.2.2.1 e)
            have hnx : x ∉ rest := by have := HF.out.2.2.2.2.2; rw [HF.out.1] at this; exact (List.nodup_cons.1 this).1
            have hord2 : ∀ z, z ∈ T2.ino → ¬ klt (s2.f z).t (s2.f z).s kt ks := fun z hz => by
              rw [hT2] at hz
              have h1 := R2.old z (fun e => hnx (e ▸ hz))
              rw [h1.1, h1.2]
              exact HF.out.2.2.2.1 z hz
            have hlen2 : T2.ino.length = k - (j + 1) := by
              have h1 := HF.out.2.1
              rw [HF.out.1] at h1
              rw [hT2]
              simp only [List.length_cons] at h1
              omega
            have H9 := Lib.hid (And.intro (H8.far (p := ⟨LB, 0, none⟩) hkg.2.2.1 hkg.2.2.2.1 hww (.int .i64 kt)) (two_set l8 kt ks))
            have H10 := Lib.hid ((H8.far (p := ⟨LB, 0, none⟩) hkg.2.2.1 hkg.2.2.2.1 hww (.int .i64 kt)).far (p := ⟨LB, 1, none⟩) hkg.2.2.1 hkg.2.2.2.1 hww (.int .i64 ks))
            have HE := Lib.hid (And.intro hlen2 hord2)
            obtain ⟨y0, y1⟩ := two_cells k8
            obtain ⟨z0, z1⟩ := two_cells l8
            have lf := l8.frozen
            have dLK := hkg.2.2.2.2
            have dKL : kb ≠ LB := fun e => dLK e.symm
            clear H8 k8 l8 F2 R2 O2 hT2 hnx hord2 hlen2 HD e2
            go_wp2_with fail
            go_roundg (k - (j + 1))
            case measure => omega
            case rel => exact ⟨j + 1, s2, T2, _, kt, ks, by omega, rfl, by go_num, H10.out, HE.out.1, H9.out.2, fun _ => HE.out.2⟩

        · have hje : j = k := by omega
          subst hje
          have hT : T.ino = [] := by
            cases hc : T.ino with
            | nil => rfl
            | cons a l => rw [hc] at hlen; simp at hlen
          have C1 := First_row wr HT.t
          rw [hT, show hd [] = 0 from rfl, hnd0, show decide (([] : List Nat) ≠ []) = false from rfl] at C1
          have HC1 := Lib.hid C1
          have hn0 : s.n = 0 := by rw [HT.t.n, hT]; rfl
          have H1 := Lib.hid HT
          clear C1 hT hlen hLB hord HT
          go_wp2_with fail
          refine HC1.out.mono ?_
          rintro e W3 ⟨rfl, b3⟩
          have H3 := Lib.hid ((H1.out.call b3).alloc (.cells #[.int .i64 0, .int .i64 0] 29))
          clear H1 HC1 b3
          go_upto_region 24 with fail
          generalize W3.alloc (.cells #[.int .i64 0, .int .i64 0] 29) = W4 at H3 ⊢
          have HL := Lib.hid (Len_any g gl s W4 H3.out.t.m)
          rw [hn0] at HL
          clear hn0
          go_wp2_with fail
          refine HL.out.mono ?_
          rintro e W5 ⟨rfl, rfl⟩
          go_wp2_with fail
          go_ret
          exact ⟨rfl, H3.out.b⟩
theorem treeSorts_walk (A : Option Addr) (N cap : Nat) (w : World) (hr : Leaf.Row w [.int .i64, .int .i64] A N) : Calls Try.prog 3 #[.slice A N cap] w fun e w' => e = .returned (.bool true) ∧ Below w.heap.size w w' := by
  by_cases h : 300 < N
  · exact treeSorts_big A N cap h (len_in hr) w
  · exact treeSorts_any A N cap (by omega) w (keys_of hr)
end Go.Proofs.Ytfoigflgglpobaa.Tr
