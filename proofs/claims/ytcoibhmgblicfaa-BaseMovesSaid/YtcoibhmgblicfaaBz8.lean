/- Lemmas and contracts for RowBaseMoves, merged by program out of Qg, Qh, Qi. No condition. -/
import Derived.Test.YtcoibhmgblicfaaBz7
import Derived.Test.YtcoibhmgblicfaaBz6
import Derived.StillTailTactics
set_option linter.unusedVariables false
set_option linter.unusedSimpArgs false
/- What the queue's maps hold behind a Drop. No condition but that memory holds a queue. -/
set_option linter.unusedVariables false
set_option linter.unusedSimpArgs false
namespace Go.Proofs.Ytcoibhmgblicfaa.Q
open Go.RowKit Go.Proofs.Ytcoibhmgblicfaa.Aid Go.Proofs.Ytcoibhmgblicfaa.Tr Go.Proofs.Ytcoibhmgblicfaa.Kt
open Go.ChangeMaps (setBlock heap_setBlock_other)
def DropQ (q g gl m1 m2 : Nat) (s : TS) (T : Sh) (tm : Nat → Tm) (x : Nat) (w : World) (e : Ending) (w' : World) : Prop :=
  e = .returned (.tuple #[(tm x).agg, .bool true]) ∧ ∃ s' T' fl' pre post A' B', QIs w' q g gl m1 m2 s' T' fl' tm A' B' ∧ DropRes s T x s' T' pre post ∧ Only (QF q g gl m1 m2) w w'
theorem QIs.dropped {w W W2 W3 : World} {q g gl m1 m2 : Nat} {s s' : TS} {T T' : Sh} {fl fl' : List Nat} {tm : Nat → Tm} {A B : Value → Option Value} {x : Nat} {pre post : List Nat}
    (h : QIs w q g gl m1 m2 s T fl tm A B) (hx : x ∈ T.ino) (F : Full W g gl s' T' fl') (R : DropRes s T x s' T' pre post)
    (M1 : MapIs Try.prog 3 W2 m1 (delM A (.int .i64 (tm x).id)) (if (A (.int .i64 (tm x).id)).isSome then T.ino.length - 1 else T.ino.length))
    (M2 : MapIs Try.prog 69 W3 m2 (delM B (.agg #[.int .i64 x, .int .i64 (s.f x).turn])) (if (B (.agg #[.int .i64 x, .int .i64 (s.f x).turn])).isSome then T.ino.length - 1 else T.ino.length))
    (e2 : ∀ i, i ≠ m1 → W2.heap[i]? = W.heap[i]?) (e3 : ∀ i, i ≠ m2 → W3.heap[i]? = W2.heap[i]?) (eq : W.heap[q]? = w.heap[q]?) :
    QIs W3 q g gl m1 m2 s' T' fl' tm (delM A (.int .i64 (tm x).id)) (delM B (.agg #[.int .i64 x, .int .i64 (s.f x).turn])) := by
  have ne := h.ne
  obtain ⟨a1, b1⟩ := h.at_ x hx
  unfold han at b1
  rw [a1] at M1
  rw [b1] at M2
  have hl : T.ino.length - 1 = T'.ino.length := by rw [R.ino', R.ino]; simp
  have hnd : (pre ++ x :: post).Nodup := by rw [← R.ino]; exact h.t.rb.nd
  have hxn : x ∉ pre ++ post := (sub_nodup hnd).2
  have hmem : ∀ y, y ∈ T'.ino → y ∈ T.ino ∧ y ≠ x := fun y hy => by
    rw [R.ino'] at hy
    refine ⟨?_, fun e => hxn (e ▸ hy)⟩
    rw [R.ino]
    simp only [List.mem_append, List.mem_cons] at hy ⊢
    rcases hy with e | e
    · exact .inl e
    · exact .inr (.inr e)
  have hmem' : ∀ y, y ∈ T.ino → y ≠ x → y ∈ T'.ino := fun y hy hn => by
    rw [R.ino] at hy
    rw [R.ino']
    simp only [List.mem_append, List.mem_cons] at hy ⊢
    rcases hy with e | e | e
    · exact .inl e
    · exact absurd e hn
    · exact .inr e
  have o1 : ∀ b, b ≠ m1 → b ≠ m2 → W3.heap[b]? = W.heap[b]? := fun b h1 h2 => (e3 b h2).trans (e2 b h1)
  refine ⟨?_, F.same (fun b hb => o1 b ?_ ?_), by rw [← hl]; exact M1.same (e3 m1 ne.2.2.2.2.2.2.2.2), by rw [← hl]; exact M2, fun y hy => ?_, fun v e he => ?_, fun v e he => ?_, fun y hy => ?_, fun y hy => ?_, fun y hy => ?_, R.most.trans h.most, h.ne⟩
  · exact ((o1 q ne.2.2.1 ne.2.2.2.1).trans eq).trans h.qb
  · rcases hb with rfl | rfl
    · exact Ne.symm ne.2.2.2.2.1
    · exact Ne.symm ne.2.2.2.2.2.1
  · rcases hb with rfl | rfl
    · exact Ne.symm ne.2.2.2.2.2.2.1
    · exact Ne.symm ne.2.2.2.2.2.2.2.1
  · obtain ⟨hy, hn⟩ := hmem y hy
    rw [R.turn, delM_ne, delM_ne]
    · exact h.at_ y hy
    · intro e; unfold han at e; simp only [Value.agg.injEq, Array.mk.injEq, List.cons.injEq, Value.int.injEq] at e; omega
    · intro e; injection e with _ e; exact hn (h.inj hy hx e)
  · by_cases ev : v = .int .i64 (tm x).id
    · subst ev; rw [delM_same] at he; cases he
    · rw [delM_ne ev] at he
      obtain ⟨y, hy, e⟩ := h.only v _ he
      exact ⟨y, hmem' y hy (fun e' => ev (by rw [e, e'])), e⟩
  · by_cases ev : v = .agg #[.int .i64 x, .int .i64 (s.f x).turn]
    · subst ev; rw [delM_same] at he; cases he
    · rw [delM_ne ev] at he
      obtain ⟨y, hy, e⟩ := h.onlyB v _ he
      exact ⟨y, hmem' y hy (fun e' => ev (by rw [e, e']; rfl)), by rw [R.turn]; exact e⟩
  · obtain ⟨hy, hn⟩ := hmem y hy
    rw [(R.old y hn).1, (R.old y hn).2]; exact h.key y hy
  · exact h.wf y (hmem y hy).1
  · rw [R.turn]; exact h.tn y (hmem y hy).1
end Go.Proofs.Ytcoibhmgblicfaa.Q
/- The contract of queue's Drop. No condition but that memory holds a queue. -/
set_option linter.unusedVariables false
set_option linter.unusedSimpArgs false
namespace Go.Proofs.Ytcoibhmgblicfaa.Q
open Go.RowKit Go.Proofs.Ytcoibhmgblicfaa.Aid Go.Proofs.Ytcoibhmgblicfaa.Tr Go.Proofs.Ytcoibhmgblicfaa.Kt
open Go.ChangeMaps (setBlock heap_setBlock_other)
set_option maxHeartbeats 1000000 in
set_option maxRecDepth 100000 in
theorem QDrop_no (q g gl m1 m2 : Nat) (s : TS) (T : Sh) (fl : List Nat) (tm : Nat → Tm) (A B : Value → Option Value) (id : Int) (hid : I64 id) (w : World) (h : QIs w q g gl m1 m2 s T fl tm A B) (hno : A (.int .i64 id) = none) :
    Calls Try.prog 24 #[.pointer (some ⟨q, 0, none⟩), .int .i64 id] w fun e w' => e = .returned (.tuple #[zeroT.agg', .bool false]) ∧ Below w.heap.size w w' := by
  unfold Tm.agg' zeroT
  have hb := Blk.new w 29 zeroT.cells
  have hq := h.alloc (.cells zeroT.cells 29)
  have B0 : Below w.heap.size w (w.alloc (.cells zeroT.cells 29)) := (Below.refl w.heap.size w).alloc (Nat.le_refl _) _
  unfold Tm.cells zeroT at hb hq B0
  clear h
  go_enter Try.func24, Try.ntmps24
  go_upto_region 1 with fail
  generalize w.alloc (.cells #[.int .i64 0, .int .i64 0, .int .i64 0, .int .i64 0, .bool false] 29) = W at hb hq B0 ⊢
  obtain ⟨R, hR⟩ : ∃ R, w.heap.size = R := ⟨_, rfl⟩
  rw [hR] at hb ⊢
  have HR := Lib.hid (show w.heap.size ≤ R by omega)
  clear hR
  have CF := Has_any q g gl m1 m2 s T fl tm A _ id hid W hq
  rw [hno, show (none : Option Value).isSome = false from rfl] at CF
  have HCF := Lib.hid CF
  have HB := Lib.hid (And.intro hb B0)
  clear CF hq hb B0 hno
  go_wp2_with fail
  refine HCF.out.mono ?_
  rintro e W2 ⟨rfl, b1⟩
  have hb1 := HB.out.1.below b1 HB.out.1.lt
  have B1 := HB.out.2.trans (b1.mono HB.out.2.size)
  clear HB HCF b1
  have c0 : W2.cell? ⟨R, 0, none⟩ = some (.int .i64 0) := hb1.cell 0
  have c1 : W2.cell? ⟨R, 1, none⟩ = some (.int .i64 0) := hb1.cell 1
  have c2 : W2.cell? ⟨R, 2, none⟩ = some (.int .i64 0) := hb1.cell 2
  have c3 : W2.cell? ⟨R, 3, none⟩ = some (.int .i64 0) := hb1.cell 3
  have c4 : W2.cell? ⟨R, 4, none⟩ = some (.bool false) := hb1.cell 4
  have fz := hb1.frozen
  have HB2 := Lib.hid (And.intro hb1 B1)
  clear hb1 B1
  go_wp2_with fail
  clear c0 c1 c2 c3 c4
  have hb5 : Blk (set5 W2 R zeroT) R 29 zeroT.cells := set5_blk (a := zeroT) HB2.out.1
  obtain ⟨r0, r1, r2, r3, r4⟩ := bx5_cells hb5
  have B5 := set5_below (a := zeroT) HB2.out.2 HR.out
  unfold set5 zeroT at r0 r1 r2 r3 r4 B5
  exact bodyPost_ret (v := .tuple #[.agg #[.int .i64 0, .int .i64 0, .int .i64 0, .int .i64 0, .bool false], .bool false]) (by simp [results, Try.results24, go_sem, r0, r1, r2, r3, r4]) rfl ⟨rfl, B5⟩
end Go.Proofs.Ytcoibhmgblicfaa.Q
/- The contract of queue's Drop of a timer that is held. No condition but that memory holds a queue. -/
set_option linter.unusedVariables false
set_option linter.unusedSimpArgs false
namespace Go.Proofs.Ytcoibhmgblicfaa.Q
open Go.RowKit Go.Proofs.Ytcoibhmgblicfaa.Aid Go.Proofs.Ytcoibhmgblicfaa.Tr Go.Proofs.Ytcoibhmgblicfaa.Kt
open Go.ChangeMaps (setBlock heap_setBlock_other)
/-- what stands in Drop behind the tree's Drop -/
structure DMd (q g gl m1 m2 : Nat) (s : TS) (T : Sh) (A B : Value → Option Value) (x : Nat) (a : Tm) (tx : Int) (w W : World) (s' : TS) (T' : Sh) (fl' pre post : List Nat) (R E : Nat) : Prop where
  qb : Blk W q 67 #[.pointer (some ⟨g, 0, none⟩), .map (some m1), .map (some m2)]
  f : Full W g gl s' T' fl'
  r : DropRes s T x s' T' pre post
  ma : MapIs Try.prog 3 W m1 A T.ino.length
  mb : MapIs Try.prog 69 W m2 B T.ino.length
  br : Blk W R 29 zeroT.cells
  be : Blk W E 75 #[.int .i64 a.id, .int .i64 a.clock, .int .i64 a.soft, .int .i64 a.hard, .bool a.lazy, .int .i64 x, .int .i64 tx]
  on_ : Only (QF q g gl m1 m2) w W
theorem DMd.of {q g gl m1 m2 : Nat} {s : TS} {T : Sh} {fl : List Nat} {tm : Nat → Tm} {A B : Value → Option Value} {x : Nat} {a : Tm} {tx : Int} {w W W' : World} {s' : TS} {T' : Sh} {fl' pre post : List Nat} {R E : Nat}
    (h : QIs W q g gl m1 m2 s T fl tm A B) (br : Blk W R 29 zeroT.cells) (be : Blk W E 75 #[.int .i64 a.id, .int .i64 a.clock, .int .i64 a.soft, .int .i64 a.hard, .bool a.lazy, .int .i64 x, .int .i64 tx]) (o : Only (QF q g gl m1 m2) w W)
    (hR : ¬ QF q g gl m1 m2 R) (hE : ¬ QF q g gl m1 m2 E) (F : Full W' g gl s' T' fl') (r : DropRes s T x s' T' pre post) (O : Only (TF g gl) W W') : DMd q g gl m1 m2 s T A B x a tx w W' s' T' fl' pre post R E := by
  have ne := h.ne
  exact ⟨O.blk h.qb (by rintro (e | e); exact ne.1 e; exact ne.2.1 e), F, r, h.a.only O (by rintro (e | e); exact ne.2.2.2.2.1 e; exact ne.2.2.2.2.2.1 e), h.b.only O (by rintro (e | e); exact ne.2.2.2.2.2.2.1 e; exact ne.2.2.2.2.2.2.2.1 e), O.blk br (fun e => hR (tf_qf e)), O.blk be (fun e => hE (tf_qf e)), o.trans O (fun i _ hi => tf_qf hi)⟩
set_option maxHeartbeats 2000000 in
set_option maxRecDepth 100000 in
theorem QDrop_yes (q g gl m1 m2 : Nat) (s : TS) (T : Sh) (fl : List Nat) (tm : Nat → Tm) (A B : Value → Option Value) (w : World) (h : QIs w q g gl m1 m2 s T fl tm A B) (x : Nat) (hx : x ∈ T.ino) :
    Calls Try.prog 24 #[.pointer (some ⟨q, 0, none⟩), .int .i64 (tm x).id] w (DropQ q g gl m1 m2 s T tm x w) := by
  have HW := Lib.hid h
  have hb := Blk.new w 29 zeroT.cells
  have hq := h.alloc (.cells zeroT.cells 29)
  have B0 := (Only.refl (QF q g gl m1 m2) w).alloc (.cells zeroT.cells 29)
  have hR : ¬ QF q g gl m1 m2 w.heap.size := fun e => Nat.lt_irrefl _ (h.foot_lt e)
  have hid := h.wf x hx
  have hs : (A (.int .i64 (tm x).id)).isSome = true := by rw [(h.at_ x hx).1]; rfl
  unfold Tm.cells zeroT at hb hq B0
  have CI := isH_in h.t hx
  clear h
  obtain ⟨tx, htx⟩ : ∃ t, (s.f x).turn = t := ⟨_, rfl⟩
  have HX := Lib.hid (And.intro hx htx)
  rw [htx] at CI
  have CD : Hid (∀ W, Full W g gl s T fl → Calls Try.prog 43 #[.pointer (some ⟨g, 0, none⟩), .agg #[.int .i64 x, .int .i64 tx]] W (DropPost g gl s T fl x W)) := Lib.hid fun W hW => Drop_at g gl s T fl W hW x tx CI hx htx
  clear CI
  go_enter Try.func24, Try.ntmps24
  go_upto_region 1 with fail
  generalize w.alloc (.cells #[.int .i64 0, .int .i64 0, .int .i64 0, .int .i64 0, .bool false] 29) = W at hb hq B0 ⊢
  obtain ⟨R, hRe⟩ : ∃ R, w.heap.size = R := ⟨_, rfl⟩
  rw [hRe] at hb hR ⊢
  have HR := Lib.hid (show w.heap.size ≤ R by omega)
  clear hRe
  have CF := Has_any q g gl m1 m2 s T fl tm A _ (tm x).id hid W hq
  rw [hs] at CF
  have HCF := Lib.hid CF
  have HB := Lib.hid (And.intro hb (And.intro B0 hq))
  clear CF hq hb B0 hs
  go_wp2_with fail
  refine HCF.out.mono ?_
  rintro e W1 ⟨rfl, b1⟩
  have Q1 := HB.out.2.2.below b1
  have br1 := HB.out.1.below b1 HB.out.1.lt
  have O1 := HB.out.2.1.below b1
  have l2 := (map_look kInt Try.underlying64 Q1.a (key_int hid) (zeroE_run W1)).2
  rw [(Q1.at_ x hx).1, htx] at l2
  change _ = Result.ok (ent (tm x) x tx) W1 at l2
  unfold ent at l2
  obtain ⟨q0, q1, q2⟩ := Q1.hc
  have HQ := Lib.hid (And.intro Q1 (And.intro br1 O1))
  clear HB HCF b1 Q1 br1 O1 hx htx
  go_upto_region 4 with fail
  obtain ⟨Q1, br1, O1⟩ := HQ.out
  have Q2 := (Q1.alloc (.cells #[.int .i64 (tm x).id, .int .i64 (tm x).clock, .int .i64 (tm x).soft, .int .i64 (tm x).hard, .bool (tm x).lazy, .int .i64 x, .int .i64 tx] 75)).drew
  have br2 := (br1.alloc (.cells #[.int .i64 (tm x).id, .int .i64 (tm x).clock, .int .i64 (tm x).soft, .int .i64 (tm x).hard, .bool (tm x).lazy, .int .i64 x, .int .i64 tx] 75)).drew
  have O2 := (O1.alloc (.cells #[.int .i64 (tm x).id, .int .i64 (tm x).clock, .int .i64 (tm x).soft, .int .i64 (tm x).hard, .bool (tm x).lazy, .int .i64 x, .int .i64 tx] 75)).drew
  have be2 := (Blk.new W1 75 #[.int .i64 (tm x).id, .int .i64 (tm x).clock, .int .i64 (tm x).soft, .int .i64 (tm x).hard, .bool (tm x).lazy, .int .i64 x, .int .i64 tx]).drew
  have hE : ¬ QF q g gl m1 m2 W1.heap.size := fun e => Nat.lt_irrefl _ (Q1.foot_lt e)
  have hRE : R ≠ W1.heap.size := Nat.ne_of_lt br1.lt
  clear Q1 br1 O1 HQ q0 q1 q2 l2
  refine wp_region_still_tail 6 (by kernel_rfl) (by kernel_rfl) ?_
  generalize W1.heap.size = E at be2 hE hRE ⊢
  change wpStill _ _ (W1.alloc (.cells #[.int .i64 (tm x).id, .int .i64 (tm x).clock, .int .i64 (tm x).soft, .int .i64 (tm x).hard, .bool (tm x).lazy, .int .i64 x, .int .i64 tx] 75)).drew (fun a' => wpList _ _ _ _ a' (W1.alloc (.cells #[.int .i64 (tm x).id, .int .i64 (tm x).clock, .int .i64 (tm x).soft, .int .i64 (tm x).hard, .bool (tm x).lazy, .int .i64 x, .int .i64 tx] 75)).drew) _ _
  generalize (W1.alloc (.cells #[.int .i64 (tm x).id, .int .i64 (tm x).clock, .int .i64 (tm x).soft, .int .i64 (tm x).hard, .bool (tm x).lazy, .int .i64 x, .int .i64 tx] 75)).drew = W2 at Q2 br2 O2 be2 ⊢
  obtain ⟨q0, q1, q2⟩ := Q2.hc
  have h5 : W2.cell? ⟨E, 5, none⟩ = some (.int .i64 x) := be2.cell 5
  have h6 : W2.cell? ⟨E, 6, none⟩ = some (.int .i64 tx) := be2.cell 6
  have CD2 := Lib.hid (CD.out W2 Q2.t)
  have HQ := Lib.hid (And.intro Q2 (And.intro br2 (And.intro be2 O2)))
  clear Q2 br2 be2 O2 CD
  simp only [List.take_succ_cons, List.take_zero, List.drop_succ_cons, List.drop_zero]
  still_step
  still_step
  still_step
  still_step
  still_step
  still_step
  refine wpStill_nil ?_
  clear q0 q1 q2 h5 h6
  go_wp2_with fail
  refine CD2.out.mono ?_
  rintro e W3 ⟨rfl, s', T', pre, post, F3, R3, O3⟩
  obtain ⟨Q2, br2, be2, O2⟩ := HQ.out
  have D3 := DMd.of Q2 br2 be2 O2 hR hE F3 R3 O3
  clear Q2 br2 be2 O2 HQ CD2 F3 R3 O3
  obtain ⟨hx, htx⟩ := HX.out
  have htxI : I64 tx := htx ▸ HW.out.tn x hx
  have hxI : I64 ((x : Nat) : Int) := by have h1 := HW.out.t.m.sz; have h2 := HW.out.t.lt x hx; unfold I64; omega
  have ne := HW.out.ne
  obtain ⟨es1, ck1, r1, N1⟩ := map_del (ty := 0) kInt Try.underlying64 D3.ma (key_int hid)
  have e2 : ∀ i, i ≠ m1 → (setBlock W3 m1 (.map es1 ck1)).heap[i]? = W3.heap[i]? := fun i hi => map_far D3.ma _ hi
  have O4 := map_only D3.ma D3.on_ (.map es1 ck1) (show QF q g gl m1 m2 m1 from .inr (.inr (.inr (.inl rfl))))
  have nR1 : R ≠ m1 := fun e => hR (.inr (.inr (.inr (.inl e))))
  have nE1 : E ≠ m1 := fun e => hE (.inr (.inr (.inr (.inl e))))
  have nR2 : R ≠ m2 := fun e => hR (.inr (.inr (.inr (.inr e))))
  have nE2 : E ≠ m2 := fun e => hE (.inr (.inr (.inr (.inr e))))
  obtain ⟨q0, q1, q2⟩ : W3.cell? ⟨q, 0, none⟩ = some (.pointer (some ⟨g, 0, none⟩)) ∧ W3.cell? ⟨q, 1, none⟩ = some (.map (some m1)) ∧ W3.cell? ⟨q, 2, none⟩ = some (.map (some m2)) := ⟨D3.qb.cell 0, D3.qb.cell 1, D3.qb.cell 2⟩
  have HD := Lib.hid (And.intro D3 (And.intro N1 (And.intro e2 O4)))
  clear D3 N1 e2 O4 HX
  go_upto_region 5 with fail
  go_upto_region 6 with fail
  generalize hW4 : setBlock W3 m1 (.map es1 ck1) = W4 at HD ⊢
  obtain ⟨D3, N1, e2, O4⟩ := HD.out
  have mb4 := D3.mb.same (e2 m2 (Ne.symm ne.2.2.2.2.2.2.2.2))
  have bq4 : Blk W4 q 67 #[.pointer (some ⟨g, 0, none⟩), .map (some m1), .map (some m2)] := (e2 q ne.2.2.1).trans D3.qb
  have bR4 : Blk W4 R 29 zeroT.cells := (e2 R nR1).trans D3.br
  have bE4 : Blk W4 E 75 #[.int .i64 (tm x).id, .int .i64 (tm x).clock, .int .i64 (tm x).soft, .int .i64 (tm x).hard, .bool (tm x).lazy, .int .i64 x, .int .i64 tx] := (e2 E nE1).trans D3.be
  obtain ⟨es2, ck2, r2, N2⟩ := map_del (ty := 0) kHan Try.underlying65 (mb4.same (w' := W4.drew) rfl) (key_han hxI htxI)
  have e3 : ∀ i, i ≠ m2 → (setBlock W4.drew m2 (.map es2 ck2)).heap[i]? = W4.heap[i]? := fun i hi => map_far (mb4.same (w' := W4.drew) rfl) _ hi
  have O5 := map_only (mb4.same (w' := W4.drew) rfl) O4.drew (.map es2 ck2) (show QF q g gl m1 m2 m2 from .inr (.inr (.inr (.inr rfl))))
  have bR5 : Blk (setBlock W4.drew m2 (.map es2 ck2)) R 29 zeroT.cells := (e3 R nR2).trans bR4
  have bE5 : Blk (setBlock W4.drew m2 (.map es2 ck2)) E 75 #[.int .i64 (tm x).id, .int .i64 (tm x).clock, .int .i64 (tm x).soft, .int .i64 (tm x).hard, .bool (tm x).lazy, .int .i64 x, .int .i64 tx] := (e3 E nE2).trans bE4
  rw [← htx] at N2
  have Q5 := HW.out.dropped hx D3.f D3.r N1 N2 e2 e3 (D3.qb.trans HW.out.qb.symm)
  have HD5 := Lib.hid (And.intro Q5 (And.intro D3.r (And.intro O5 (And.intro bR5 bE5))))
  obtain ⟨q0, q1, q2⟩ : W4.drew.cell? ⟨q, 0, none⟩ = some (.pointer (some ⟨g, 0, none⟩)) ∧ W4.drew.cell? ⟨q, 1, none⟩ = some (.map (some m1)) ∧ W4.drew.cell? ⟨q, 2, none⟩ = some (.map (some m2)) := ⟨bq4.drew.cell 0, bq4.drew.cell 1, bq4.drew.cell 2⟩
  have h5 : W4.drew.cell? ⟨E, 5, none⟩ = some (.int .i64 x) := bE4.drew.cell 5
  have h6 : W4.drew.cell? ⟨E, 6, none⟩ = some (.int .i64 tx) := bE4.drew.cell 6
  clear D3 N1 e2 O4 mb4 bq4 bR4 bE4 N2 e3 O5 bR5 bE5 Q5 HD hW4 r1 htx hx htxI hxI ne
  refine wp_region_still_tail 6 (by kernel_rfl) (by kernel_rfl) ?_
  change wpStill _ _ W4.drew (fun a' => wpList _ _ _ _ a' W4.drew) _ _
  generalize W4.drew = V at HD5 q0 q1 q2 h5 h6 r2 ⊢
  simp only [List.take_succ_cons, List.take_zero, List.drop_succ_cons, List.drop_zero]
  still_step
  still_step
  still_step
  still_step
  still_step
  still_step
  refine wpStill_nil ?_
  clear q0 q1 q2 h5 h6
  go_upto_region 7 with fail
  generalize setBlock V m2 (.map es2 ck2) = W5 at HD5 ⊢
  obtain ⟨Q5, R5, O5, bR5, bE5⟩ := HD5.out
  obtain ⟨c0, c1, c2, c3, c4⟩ := bx5_cells bR5
  have d0 : W5.cell? ⟨E, 0, none⟩ = some (.int .i64 (tm x).id) := bE5.cell 0
  have d1 : W5.cell? ⟨E, 1, none⟩ = some (.int .i64 (tm x).clock) := bE5.cell 1
  have d2 : W5.cell? ⟨E, 2, none⟩ = some (.int .i64 (tm x).soft) := bE5.cell 2
  have d3 : W5.cell? ⟨E, 3, none⟩ = some (.int .i64 (tm x).hard) := bE5.cell 3
  have d4 : W5.cell? ⟨E, 4, none⟩ = some (.bool (tm x).lazy) := bE5.cell 4
  have fz := bR5.frozen
  unfold zeroT at c0 c1 c2 c3 c4
  have HD6 := Lib.hid (And.intro Q5 (And.intro R5 (And.intro O5 bR5)))
  clear Q5 R5 O5 bR5 bE5 HD5
  go_wp2_with fail
  clear c0 c1 c2 c3 c4 d0 d1 d2 d3 d4
  obtain ⟨Q5, R5, O5, bR5⟩ := HD6.out
  have hb6 : Blk (set5 W5 R (tm x)) R 29 (tm x).cells := set5_blk (a := zeroT) bR5
  obtain ⟨r0, r1, r2, r3, r4⟩ := bx5_cells hb6
  have O6 : Only (QF q g gl m1 m2) w (set5 W5 R (tm x)) := ((((O5.setCell (p := ⟨R, 0, none⟩) (.inr HR.out) _).setCell (p := ⟨R, 1, none⟩) (.inr HR.out) _).setCell (p := ⟨R, 2, none⟩) (.inr HR.out) _).setCell (p := ⟨R, 3, none⟩) (.inr HR.out) _).setCell (p := ⟨R, 4, none⟩) (.inr HR.out) _
  have Q6 := ((((Q5.far (p := ⟨R, 0, none⟩) hR (.int .i64 (tm x).id)).far (p := ⟨R, 1, none⟩) hR (.int .i64 (tm x).clock)).far (p := ⟨R, 2, none⟩) hR (.int .i64 (tm x).soft)).far (p := ⟨R, 3, none⟩) hR (.int .i64 (tm x).hard)).far (p := ⟨R, 4, none⟩) hR (.bool (tm x).lazy)
  have FIN : DropQ q g gl m1 m2 s T tm x w (.returned (.tuple #[(tm x).agg, .bool true])) (set5 W5 R (tm x)) := ⟨rfl, s', T', _, pre, post, _, _, Q6, R5, O6⟩
  unfold set5 at r0 r1 r2 r3 r4 FIN
  unfold Tm.agg at FIN
  exact bodyPost_ret (v := .tuple #[.agg #[.int .i64 (tm x).id, .int .i64 (tm x).clock, .int .i64 (tm x).soft, .int .i64 (tm x).hard, .bool (tm x).lazy], .bool true]) (by simp [results, Try.results24, go_sem, r0, r1, r2, r3, r4]) rfl FIN
end Go.Proofs.Ytcoibhmgblicfaa.Q
