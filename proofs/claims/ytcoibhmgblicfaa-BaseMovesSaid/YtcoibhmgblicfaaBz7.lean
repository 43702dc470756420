/- Lemmas and contracts for RowBaseMoves, merged by program out of Qf. No condition. -/
import Derived.Test.YtcoibhmgblicfaaBz6
import Derived.StillTailTactics
set_option linter.unusedVariables false
set_option linter.unusedSimpArgs false
/- The contract of queue's Add where there is room. -/
set_option linter.unusedVariables false
set_option linter.unusedSimpArgs false
namespace Go.Proofs.Ytcoibhmgblicfaa.Q
open Go.RowKit Go.Proofs.Ytcoibhmgblicfaa.Aid Go.Proofs.Ytcoibhmgblicfaa.Tr Go.Proofs.Ytcoibhmgblicfaa.Kt
open Go.ChangeMaps (setBlock heap_setBlock_other)
set_option maxHeartbeats 4000000 in
set_option maxRecDepth 100000 in
theorem Add_room (q g gl m1 m2 : Nat) (s : TS) (T : Sh) (fl : List Nat) (tm : Nat → Tm) (A B : Value → Option Value) (a : Tm) (hid : I64 a.id) (ha : ¬ a.hard < a.soft) (w : World) (h : QIs w q g gl m1 m2 s T fl tm A B) (hno : A (.int .i64 a.id) = none)
    (hn : T.ino.length < 64) (htn : ∀ z, z < s.sz → -4611686018427387904 ≤ (s.f z).turn ∧ (s.f z).turn ≤ 4611686018427387904) :
    Calls Try.prog 21 #[.pointer (some ⟨q, 0, none⟩), a.agg] w (AddPost q g gl m1 m2 s T tm a w) := by
  unfold Tm.agg
  have hb := Blk.new w 29 a.cells
  have hq := h.alloc (.cells a.cells 29)
  have hX : ¬ QF q g gl m1 m2 w.heap.size := fun e => Nat.lt_irrefl _ (h.foot_lt e)
  have HO := Lib.hid ((Only.refl (QF q g gl m1 m2) w).alloc (.cells a.cells 29))
  obtain ⟨c0, c1, c2, c3, c4⟩ := tm_cells hb
  have hs : (A (.int .i64 a.id)).isSome = false := by rw [hno]; rfl
  have HW := Lib.hid h
  unfold Tm.cells at hb c0 c1 c2 c3 c4 hq HO
  clear h
  go_enter Try.func21, Try.ntmps21
  go_upto_region 1 with fail
  generalize w.alloc (.cells #[.int .i64 a.id, .int .i64 a.clock, .int .i64 a.soft, .int .i64 a.hard, .bool a.lazy] 29) = W at c0 c1 c2 c3 c4 hq hb HO ⊢
  generalize w.heap.size = X at c0 c1 c2 c3 c4 hb hX ⊢
  have HH := Lib.hid (Has_any q g gl m1 m2 s T fl tm A _ a.id hid W hq)
  rw [hs] at HH
  have HQ := Lib.hid (And.intro hq hb)
  clear hs hq hb
  go_wp2_with fail
  refine HH.out.mono ?_
  rintro e W1 ⟨rfl, b1⟩
  have Q1 := HQ.out.1.below b1
  have X1 := HQ.out.2.below b1 HQ.out.2.lt
  have O1 := Lib.hid (HO.out.below b1)
  clear HH HQ HO b1 c0 c1 c2 c3 c4
  have HP : Hid (∀ W, Full W g gl s T fl → Calls Try.prog 41 #[.pointer (some ⟨g, 0, none⟩), .agg #[.int .i64 (cl a.soft), .int .i64 0]] W (PutQ g gl s T (cl a.soft) 0 W)) := Lib.hid fun W hW => putQ_of (Put_yes g gl s T fl W hW (cl a.soft) 0 (by rw [HW.out.most]; exact hn) htn)
  have HT := Lib.hid htn
  clear htn
  have M0 : AMd q g gl m1 m2 s T fl tm A B X a w W1 := ⟨Q1, X1, O1.out⟩
  have M1 := M0.drew
  have M2 := (M0.alloc (.cells #[.int .i64 0, .int .i64 0] 69)).drew
  have hbx := (Blk.new W1 69 #[.int .i64 0, .int .i64 0]).drew
  have hl1 : W1.heap.size ≠ g ∧ W1.heap.size ≠ gl := by have h1 := Q1.t.m.b.lt; have h2 := Q1.t.m.n.lt; omega
  have hTFn : ¬ TF g gl W1.heap.size := by rintro (e | e); exact hl1.1 e; exact hl1.2 e
  have hXn : ¬ QF q g gl m1 m2 W1.heap.size := fun e => Nat.lt_irrefl _ (Q1.foot_lt e)
  obtain ⟨q0, q1, q2⟩ := Q1.hc
  have c2 : W1.cell? ⟨X, 2, none⟩ = some (.int .i64 a.soft) := X1.cell 2
  have l1 := Q1.qb.lt
  have l2 := X1.lt
  have hne : W1.heap.size ≠ X := by omega
  have hle : w.heap.size ≤ W1.heap.size := O1.out.size
  clear Q1 X1
  go_upto_region 7 with fail
  go_cut [5, 6] (fun s5 s6 wx => ∃ HB x tx s' T' fl' pre post, s5 = .pointer (some ⟨HB, 0, none⟩) ∧ s6 = .int .i64 0 ∧ AMe q g gl m1 m2 s T fl tm A B X a w wx s' T' fl' x tx pre post HB)
  case first =>
    go_region_with (first
      | (go_at_call 42; refine (clamp_any _ _).mono ?_; rintro e wz ⟨rfl, rfl⟩)
      | (go_at_call 41; refine (HP.out _ (by with_reducible exact M1.qi.t)).mono ?_; rintro e W3 ⟨s', T', fl', x, tx, pre, post, rfl, htx, F3, R3, O3⟩; have E3 := AMe.mk1 M1 htx F3 R3 hX O3)
      | (go_at_call 41; refine (HP.out _ (by with_reducible exact M2.qi.t)).mono ?_; rintro e W3 ⟨s', T', fl', x, tx, pre, post, rfl, htx, F3, R3, O3⟩; have E3 := AMe.mk1 M2 htx F3 R3 hX O3; have hb3 := O3.blk hbx hTFn; have r0 : W3.cell? ⟨W1.heap.size, 0, none⟩ = some (.int .i64 0) := hb3.cell 0; have r1 : W3.cell? ⟨W1.heap.size, 1, none⟩ = some (.int .i64 0) := hb3.cell 1; have fr := hb3.frozen))
    all_goals
      clear M1 M2 M0 hbx q0 q1 q2 c2
      go_wp2_with fail
      first
        | (go_meet; exact ⟨_, _, _, _, _, _, _, _, rfl, rfl, E3.box⟩)
        | (go_meet; exact ⟨_, _, _, _, _, _, _, _, rfl, rfl, E3.fill hb3 hne hXn hle⟩)
  case rest =>
    obtain ⟨H, x, tx, s', T', fl', pre, post, rfl, rfl, E⟩ := hcut
    clear M1 M2 M0 hbx q0 q1 q2 c2
    have htx : I64 tx := by
      have h1 := E.etx
      have h2 := E.r.turn
      rw [h1] at h2
      have h3 := HT.out x
      unfold I64
      split at h2
      · rename_i hlt; have := h3 hlt; omega
      · omega
    obtain ⟨es1, ck1, r1, N1⟩ := map_put kInt Try.underlying64 (v := .agg #[.int .i64 a.id, .int .i64 a.clock, .int .i64 a.soft, .int .i64 a.hard, .bool a.lazy, .int .i64 x, .int .i64 tx]) (E.ma.same (w' := wc.drew) rfl) (key_int hid)
    have e2 : ∀ i, i ≠ m1 → (setBlock wc.drew m1 (.map es1 ck1)).heap[i]? = wc.heap[i]? := fun i hi => map_far (E.ma.same (w' := wc.drew) rfl) _ hi
    have O2 := map_only (E.ma.same (w' := wc.drew) rfl) E.on_.drew (.map es1 ck1) (show QF q g gl m1 m2 m1 from .inr (.inr (.inr (.inl rfl))))
    have ne := HW.out.ne
    have ne1 := ne.2.2.1
    have ne2 := ne.2.2.2.1
    have ne3 : m2 ≠ m1 := Ne.symm ne.2.2.2.2.2.2.2.2
    have nX1 : X ≠ m1 := fun e => hX (.inr (.inr (.inr (.inl e))))
    have nH1 : H ≠ m1 := fun e => E.nq (.inr (.inr (.inr (.inl e))))
    have nX2 : X ≠ m2 := fun e => hX (.inr (.inr (.inr (.inr e))))
    have nH2 : H ≠ m2 := fun e => E.nq (.inr (.inr (.inr (.inr e))))
    have bq2 : Blk (setBlock wc.drew m1 (.map es1 ck1)) q 67 #[.pointer (some ⟨g, 0, none⟩), .map (some m1), .map (some m2)] := (e2 q ne1).trans E.qb
    have bX2 : Blk (setBlock wc.drew m1 (.map es1 ck1)) X 29 a.cells := (e2 X nX1).trans E.bx
    have bH2 : Blk (setBlock wc.drew m1 (.map es1 ck1)) H 69 (two_ x tx) := (e2 H nH1).trans E.bh
    have mb2 := E.mb.same (e2 m2 ne3)
    have HE := Lib.hid (And.intro E (And.intro htx (And.intro N1 (And.intro e2 (And.intro O2 (And.intro bq2 (And.intro bX2 (And.intro bH2 mb2))))))))
    obtain ⟨q0, q1, q2⟩ : wc.drew.cell? ⟨q, 0, none⟩ = some (.pointer (some ⟨g, 0, none⟩)) ∧ wc.drew.cell? ⟨q, 1, none⟩ = some (.map (some m1)) ∧ wc.drew.cell? ⟨q, 2, none⟩ = some (.map (some m2)) := ⟨E.qb.drew.cell 0, E.qb.drew.cell 1, E.qb.drew.cell 2⟩
    obtain ⟨c0, c1, c2, c3, c4⟩ := tm_cells E.bx.drew
    obtain ⟨h0, h1⟩ : wc.drew.cell? ⟨H, 0, none⟩ = some (.int .i64 x) ∧ wc.drew.cell? ⟨H, 1, none⟩ = some (.int .i64 tx) := ⟨E.bh.drew.cell 0, E.bh.drew.cell 1⟩
    clear E N1 e2 O2 ne ne1 nX1 nH1 bq2 bX2 bH2 mb2 htx hl1 l1 l2 HP
    go_upto_region 10 with fail
    refine wp_region_still_tail 9 (by kernel_rfl) (by kernel_rfl) ?_
    change wpStill _ _ wc.drew (fun a' => wpList _ _ _ _ a' wc.drew) _ _
    generalize wc.drew = V at HE q0 q1 q2 c0 c1 c2 c3 c4 h0 h1 r1 ⊢
    simp only [List.take_succ_cons, List.take_zero, List.drop_succ_cons, List.drop_zero]
    still_step
    still_step
    still_step
    still_step
    still_step
    still_step
    still_step
    still_step
    still_step
    refine wpStill_nil ?_
    clear q0 q1 q2 c0 c1 c2 c3 c4 h0 h1
    go_upto_region 11 with fail
    generalize hW2 : setBlock V m1 (.map es1 ck1) = W2 at HE ⊢
    obtain ⟨E, htx, N1, e2, O2, bq2, bX2, bH2, mb2⟩ := HE.out
    obtain ⟨es2, ck2, r2, N2⟩ := map_put kHan Try.underlying65 (v := .int .i64 a.id) (mb2.same (w' := W2.drew) rfl) (key_han (show I64 ((x : Nat) : Int) by have h1 := E.f.m.sz; have h2 := E.f.lt x (by rw [E.r.ino']; simp); unfold I64; omega) htx)
    have e3 : ∀ i, i ≠ m2 → (setBlock W2.drew m2 (.map es2 ck2)).heap[i]? = W2.heap[i]? := fun i hi => map_far (mb2.same (w' := W2.drew) rfl) _ hi
    have O3 := map_only (mb2.same (w' := W2.drew) rfl) O2.drew (.map es2 ck2) (show QF q g gl m1 m2 m2 from .inr (.inr (.inr (.inr rfl))))
    have FIN := Lib.hid (QIs.added2 HW.out hid hno E htx N1 N2 e2 e3 O3)
    obtain ⟨q0, q1, q2⟩ : W2.drew.cell? ⟨q, 0, none⟩ = some (.pointer (some ⟨g, 0, none⟩)) ∧ W2.drew.cell? ⟨q, 1, none⟩ = some (.map (some m1)) ∧ W2.drew.cell? ⟨q, 2, none⟩ = some (.map (some m2)) := ⟨bq2.drew.cell 0, bq2.drew.cell 1, bq2.drew.cell 2⟩
    have c0 : W2.drew.cell? ⟨X, 0, none⟩ = some (.int .i64 a.id) := bX2.drew.cell 0
    obtain ⟨h0, h1⟩ : W2.drew.cell? ⟨H, 0, none⟩ = some (.int .i64 x) ∧ W2.drew.cell? ⟨H, 1, none⟩ = some (.int .i64 tx) := ⟨bH2.drew.cell 0, bH2.drew.cell 1⟩
    clear E N1 N2 e2 e3 O2 O3 bq2 bX2 bH2 mb2 htx HE hW2 r1
    refine wp_region_still_tail 7 (by kernel_rfl) (by kernel_rfl) ?_
    change wpStill _ _ W2.drew (fun a' => wpList _ _ _ _ a' W2.drew) _ _
    generalize W2.drew = V2 at FIN q0 q1 q2 c0 h0 h1 r2 ⊢
    simp only [List.take_succ_cons, List.take_zero, List.drop_succ_cons, List.drop_zero]
    still_step
    still_step
    still_step
    still_step
    still_step
    still_step
    still_step
    refine wpStill_nil ?_
    clear q0 q1 q2 c0 h0 h1
    go_wp2_with fail
    go_ret
    exact FIN.out
end Go.Proofs.Ytcoibhmgblicfaa.Q
