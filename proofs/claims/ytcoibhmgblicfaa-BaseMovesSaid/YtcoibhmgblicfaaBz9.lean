/- Lemmas and contracts for RowBaseMoves, merged by program out of Qj. No condition. -/
import Derived.Test.YtcoibhmgblicfaaBz7
import Derived.StillTailTactics
set_option linter.unusedVariables false
set_option linter.unusedSimpArgs false
/- The contract of queue's Add where there is none. -/
set_option linter.unusedVariables false
set_option linter.unusedSimpArgs false
namespace Go.Proofs.Ytcoibhmgblicfaa.Q
open Go.RowKit Go.Proofs.Ytcoibhmgblicfaa.Aid Go.Proofs.Ytcoibhmgblicfaa.Tr Go.Proofs.Ytcoibhmgblicfaa.Kt
open Go.ChangeMaps (setBlock heap_setBlock_other)
theorem AMd.put {q g gl m1 m2 : Nat} {s : TS} {T : Sh} {fl : List Nat} {tm : Nat → Tm} {A B : Value → Option Value} {X : Nat} {a : Tm} {w W W' : World} (h : AMd q g gl m1 m2 s T fl tm A B X a w W) (F : Full W' g gl s T fl) (hX : ¬ QF q g gl m1 m2 X) (O : Only (TF g gl) W W') : AMd q g gl m1 m2 s T fl tm A B X a w W' := by
  have ne := h.qi.ne
  have q' := h.qi
  exact ⟨⟨O.blk q'.qb (by rintro (e | e); exact ne.1 e; exact ne.2.1 e), F, q'.a.only O (by rintro (e | e); exact ne.2.2.2.2.1 e; exact ne.2.2.2.2.2.1 e), q'.b.only O (by rintro (e | e); exact ne.2.2.2.2.2.2.1 e; exact ne.2.2.2.2.2.2.2.1 e), q'.at_, q'.only, q'.onlyB, q'.key, q'.wf, q'.tn, q'.most, q'.ne⟩, O.blk h.bx (fun e => hX (tf_qf e)), h.on_.trans O (fun i _ hi => tf_qf hi)⟩
theorem AMd.fill {q g gl m1 m2 : Nat} {s : TS} {T : Sh} {fl : List Nat} {tm : Nat → Tm} {A B : Value → Option Value} {X : Nat} {a : Tm} {w W : World} {H : Nat} {u v : Value} (h : AMd q g gl m1 m2 s T fl tm A B X a w W) (hX : H ≠ X) (hQ : ¬ QF q g gl m1 m2 H) (hn : w.heap.size ≤ H) :
    AMd q g gl m1 m2 s T fl tm A B X a w ((W.setCell ⟨H, 0, none⟩ u).setCell ⟨H, 1, none⟩ v) :=
  ⟨(h.qi.far (p := ⟨H, 0, none⟩) hQ _).far (p := ⟨H, 1, none⟩) hQ _, ((Below.heap_setCell _ ⟨H, 1, none⟩ _ X (Ne.symm hX)).trans (Below.heap_setCell _ ⟨H, 0, none⟩ _ X (Ne.symm hX))).trans h.bx, (h.on_.setCell (.inr hn) _).setCell (.inr hn) _⟩
set_option maxHeartbeats 4000000 in
set_option maxRecDepth 100000 in
theorem Add_full (q g gl m1 m2 : Nat) (s : TS) (T : Sh) (fl : List Nat) (tm : Nat → Tm) (A B : Value → Option Value) (a : Tm) (hid : I64 a.id) (ha : ¬ a.hard < a.soft) (w : World) (h : QIs w q g gl m1 m2 s T fl tm A B) (hno : A (.int .i64 a.id) = none)
    (hn : T.ino.length = 64) :
    Calls Try.prog 21 #[.pointer (some ⟨q, 0, none⟩), a.agg] w fun e w' => e = .returned (.int .i64 3) ∧ QIs w' q g gl m1 m2 s T fl tm A B ∧ Only (QF q g gl m1 m2) w w' := by
  unfold Tm.agg
  have hb := Blk.new w 29 a.cells
  have hq := h.alloc (.cells a.cells 29)
  have hX : ¬ QF q g gl m1 m2 w.heap.size := fun e => Nat.lt_irrefl _ (h.foot_lt e)
  have HO := Lib.hid ((Only.refl (QF q g gl m1 m2) w).alloc (.cells a.cells 29))
  obtain ⟨c0, c1, c2, c3, c4⟩ := tm_cells hb
  have hs : (A (.int .i64 a.id)).isSome = false := by rw [hno]; rfl
  have HW := Lib.hid h
  unfold Tm.cells at hb c0 c1 c2 c3 c4 hq HO
  clear h
  go_enter Try.func21, Try.ntmps21
  go_upto_region 1 with fail
  generalize w.alloc (.cells #[.int .i64 a.id, .int .i64 a.clock, .int .i64 a.soft, .int .i64 a.hard, .bool a.lazy] 29) = W at c0 c1 c2 c3 c4 hq hb HO ⊢
  generalize w.heap.size = X at c0 c1 c2 c3 c4 hb hX ⊢
  have HH := Lib.hid (Has_any q g gl m1 m2 s T fl tm A _ a.id hid W hq)
  rw [hs] at HH
  have HQ := Lib.hid (And.intro hq hb)
  clear hs hq hb
  go_wp2_with fail
  refine HH.out.mono ?_
  rintro e W1 ⟨rfl, b1⟩
  have Q1 := HQ.out.1.below b1
  have X1 := HQ.out.2.below b1 HQ.out.2.lt
  have O1 := Lib.hid (HO.out.below b1)
  clear HH HQ HO b1 c0 c1 c2 c3 c4
  have HP : Hid (∀ W, Full W g gl s T fl → Calls Try.prog 41 #[.pointer (some ⟨g, 0, none⟩), .agg #[.int .i64 (cl a.soft), .int .i64 0]] W fun e w' => e = .returned (.tuple #[.agg #[.int .i64 0, .int .i64 0], .int .i64 3]) ∧ Full w' g gl s T fl ∧ Only (TF g gl) W w') := Lib.hid fun W hW => Put_no g gl s T fl W hW (cl a.soft) 0 (hn.trans HW.out.most.symm)
  have M0 : AMd q g gl m1 m2 s T fl tm A B X a w W1 := ⟨Q1, X1, O1.out⟩
  have M1 := M0.drew
  have M2 := (M0.alloc (.cells #[.int .i64 0, .int .i64 0] 69)).drew
  have hbx := (Blk.new W1 69 #[.int .i64 0, .int .i64 0]).drew
  have hl1 : W1.heap.size ≠ g ∧ W1.heap.size ≠ gl := by have h1 := Q1.t.m.b.lt; have h2 := Q1.t.m.n.lt; omega
  have hTFn : ¬ TF g gl W1.heap.size := by rintro (e | e); exact hl1.1 e; exact hl1.2 e
  have hXn : ¬ QF q g gl m1 m2 W1.heap.size := fun e => Nat.lt_irrefl _ (Q1.foot_lt e)
  obtain ⟨q0, q1, q2⟩ := Q1.hc
  have c2 : W1.cell? ⟨X, 2, none⟩ = some (.int .i64 a.soft) := X1.cell 2
  have l1 := Q1.qb.lt
  have l2 := X1.lt
  have hne : W1.heap.size ≠ X := by omega
  have hle : w.heap.size ≤ W1.heap.size := O1.out.size
  clear Q1 X1
  go_upto_region 7 with fail
  go_cut [5, 6] (fun s5 s6 wx => ∃ H, s5 = .pointer (some ⟨H, 0, none⟩) ∧ s6 = .int .i64 3 ∧ AMd q g gl m1 m2 s T fl tm A B X a w wx)
  case first =>
    go_region_with (first
      | (go_at_call 42; refine (clamp_any _ _).mono ?_; rintro e wz ⟨rfl, rfl⟩)
      | (go_at_call 41; refine (HP.out _ (by with_reducible exact M1.qi.t)).mono ?_; rintro e W3 ⟨rfl, F3, O3⟩; have E3 := M1.put F3 hX O3)
      | (go_at_call 41; refine (HP.out _ (by with_reducible exact M2.qi.t)).mono ?_; rintro e W3 ⟨rfl, F3, O3⟩; have E3 := M2.put F3 hX O3; have hb3 := O3.blk hbx hTFn; have r0 : W3.cell? ⟨W1.heap.size, 0, none⟩ = some (.int .i64 0) := hb3.cell 0; have r1 : W3.cell? ⟨W1.heap.size, 1, none⟩ = some (.int .i64 0) := hb3.cell 1; have fr := hb3.frozen))
    all_goals
      clear M1 M2 M0 hbx q0 q1 q2 c2
      go_wp2_with fail
      first
        | (go_meet; exact ⟨_, rfl, rfl, E3.alloc _⟩)
        | (go_meet; exact ⟨_, rfl, rfl, E3.fill hne hXn hle⟩)
  case rest =>
    obtain ⟨H, rfl, rfl, E⟩ := hcut
    clear M1 M2 M0 hbx q0 q1 q2 c2
    go_wp2_with fail
    go_ret
    exact ⟨rfl, E.qi, E.on_⟩
end Go.Proofs.Ytcoibhmgblicfaa.Q
