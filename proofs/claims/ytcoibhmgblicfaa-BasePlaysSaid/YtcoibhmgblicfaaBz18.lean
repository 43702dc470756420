/- Lemmas and contracts for RowBasePlays, merged by program out of Bq. No condition. -/
import Derived.Test.YtcoibhmgblicfaaBz16
import Derived.Test.YtcoibhmgblicfaaBz17
import Derived.BigQuiet
import Derived.StillTailTactics
import Derived.Deep.RegionLaw
set_option linter.unusedVariables false
set_option linter.unusedSimpArgs false
/- BasePlays: whatever comes, goes, and is due, all is what a plain row tells: the walk. No condition. -/
set_option linter.unusedVariables false
set_option linter.unusedSimpArgs false
namespace Go.Proofs.Ytcoibhmgblicfaa.Ba
open Go.RowKit Go.Proofs.Ytcoibhmgblicfaa.Aid Go.Proofs.Ytcoibhmgblicfaa.Tr Go.Proofs.Ytcoibhmgblicfaa.Kt Go.Proofs.Ytcoibhmgblicfaa.Q
set_option maxHeartbeats 400000 in
set_option maxRecDepth 100000 in
theorem basePlays_big (A : Option Addr) (N cap : Nat) (off : Nat → Int) (hN : 60 < N) (hmx : N ≤ maxLen) (w : World) : Calls Try.prog 3 #[.slice A N cap, .agg (three off)] w fun e w' => e = .returned (.bool true) ∧ Below w.heap.size w w' := by
  have d : decide (((N : Nat) : Int) > 60) = true := decide_eq_true (by omega)
  have B0 := (Below.refl w.heap.size w).alloc (Nat.le_refl _) (.cells (three off) 23)
  unfold three at B0
  unfold three
  go_enter Try.func3, Try.ntmps3
  go_wp2_with fail
  refine (bfixed_any _).mono ?_
  rintro e w1 ⟨rfl, b1⟩
  have HB := Lib.hid (B0.trans (b1.mono B0.size))
  clear b1 B0
  go_wp2_with fail
  go_ret
  exact ⟨rfl, HB.out⟩
set_option maxHeartbeats 8000000 in
set_option maxRecDepth 100000 in
theorem basePlays_any (A : Option Addr) (N cap : Nat) (off : Nat → Int) (hN : N ≤ 60) (w : World) (hin : ActsB w w.heap.size A N) : Calls Try.prog 3 #[.slice A N cap, .agg (three off)] w fun e w' => e = .returned (.bool true) ∧ Below w.heap.size w w' := by
  have d : decide (((N : Nat) : Int) > 60) = false := decide_eq_false (by omega)
  have HK := Lib.hid hin
  have B0 := (Below.refl w.heap.size w).alloc (Nat.le_refl _) (.cells (three off) 23)
  have F0 := Blk.new w 23 (three off)
  clear hin
  unfold three at B0 F0
  unfold three
  go_enter Try.func3, Try.ntmps3
  go_upto_region 1 with fail
  generalize w.alloc (.cells #[.int .i64 (off 0), .int .i64 (off 1), .int .i64 (off 2)] 23) = V0 at B0 F0 ⊢
  obtain ⟨OB, hOB⟩ : ∃ q, w.heap.size = q := ⟨_, rfl⟩
  have HOB := Lib.hid hOB
  rw [hOB] at F0 ⊢
  clear hOB
  go_wp2_with fail
  refine (bfixed_any V0).mono ?_
  rintro e V1 ⟨rfl, b1⟩
  go_wp2_with fail
  refine (new_any V1).mono ?_
  rintro e W0 ⟨b, P, rfl, h0, f0, b0⟩
  have F1 := F0.below b1 F0.lt
  have F2 := F1.below b0 F1.lt
  have B1 := B0.trans (b1.mono B0.size)
  have S0 : LM w W0 b P (fun _ => []) W0.heap.size (.slice none 0 0) [] OB off (0 : Nat) :=
    ⟨⟨h0, B1.trans (b0.mono B1.size), fun x hx => Nat.le_trans B1.size (f0 x hx)⟩, rsl_nil _ _, F2, fun x hx => h0.foot_lt hx, (B1.trans (b0.mono B1.size)).size, Nat.le_refl _, F2.lt, fun e => by have := f0 _ e; have := F1.lt; omega⟩
  have hBW := (B1.trans (b0.mono B1.size)).size
  have S := Lib.hid (show BRl w b P W0.heap.size OB off N N (.slice none 0 0) (.int .i64 (0 : Nat)) W0 from ⟨0, fun _ => [], by omega, rfl, rfl, RI.nil, by simp [rowsU], S0⟩)
  clear h0 f0 b0 b1 F0 F1 F2 B0 B1 S0 d hBW
  generalize W0.heap.size = base at S
  go_wp2_with fail
  go_loopg [6, 35] N (fun m s6 s35 wr => BRl w b P base OB off N m s6 s35 wr)
  case atStart => exact S.out
  case round =>
    obtain ⟨k, rows, hk, rfl, rfl, RIh, hlen, HS⟩ := hrel
    clear S
    by_cases hlt : k < N
    · obtain ⟨x, rfl, a, hak, hid, hat⟩ := HK.out k hlt
      obtain ⟨q0, q1, q2, q3, q4, q5, q6, q7, q8⟩ := (hat _ HS.s.bl).all
      clear hat
      go_upto_region 10 with fail
      have hba := Blk.new wr 31 a.cells
      have H2 := HS.alloc (.cells a.cells 31)
      have hXF : ¬ BF b P wr.heap.size := fun e => Nat.lt_irrefl _ (HS.s.h.foot_lt e)
      have hX2 : base ≤ wr.heap.size := HS.d.2.2.1
      clear q0 q1 q2 q3 q4 q5 q6 q7 q8 HS
      unfold BA.cells at H2
      generalize hW2 : wr.alloc (.cells #[.int .u8 a.kind, .int .i64 a.t.id, .int .i64 a.t.clock, .int .i64 a.t.soft, .int .i64 a.t.hard, .bool a.t.lazy, .int .i64 (a.o 0), .int .i64 (a.o 1), .int .i64 (a.o 2)] 31) = W2 at H2 ⊢
      have hba : Blk W2 wr.heap.size 31 a.cells := hW2 ▸ hba
      clear hW2
      generalize wr.heap.size = X at hba hXF hX2 ⊢
      have HX := Lib.hid (And.intro hXF (And.intro hX2 (And.intro hid (And.intro RIh hlen))))
      have S := Lib.hid (show PRl w b P rows base u6 OB off k X a (rowsU rows 6).length (.int .i64 (-1)) (.int .i64 (0 : Nat)) W2 from ⟨0, -1, Nat.zero_le _, rfl, rfl, rfl, .inl ⟨rfl, fun i c hi => absurd hi (Nat.not_lt_zero _)⟩, H2, hba⟩)
      have hl60 : (rowsU rows 6).length ≤ 60 := by omega
      have hv := rsl_parts H2.r
      clear H2 hba hXF hX2 hid
      obtain ⟨RA, rc, rfl, hRA⟩ := hv
      have HRA := Lib.hid hRA
      clear hRA RIh hlen
      go_upto_block 2 with fail
      go_cut [9] (fun s9 wx => PCut w b P rows base (.slice RA (rowsU rows 6).length rc) OB off k X a s9 wx)
      case first =>
        as_aux_lemma =>
          go_wp2_with fail
          go_loopg [9, 41] (rowsU rows 6).length (fun m s9 s41 wr => PRl w b P rows base (.slice RA (rowsU rows 6).length rc) OB off k X a m s9 s41 wr)
          case atStart => exact S.out
          case round =>
            obtain ⟨j, r, hj, rfl, rfl, rfl, hr, LMj, xj⟩ := hrel
            clear S
            by_cases hjl : j < (rowsU rows 6).length
            · obtain ⟨c, hc⟩ : ∃ c, (rowsU rows 6)[j]? = some c := ⟨_, List.getElem?_eq_getElem hjl⟩
              obtain ⟨q, o, rfl⟩ := HRA.out j hjl
              obtain ⟨c0, c1, c2, c3, c4⟩ := rsl_tm LMj.r hc
              obtain ⟨ci, cc, cs, ch, cz⟩ := c
              have hbox := Blk.new wr 29 #[.int .i64 ci, .int .i64 cc, .int .i64 cs, .int .i64 ch, .bool cz]
              have L2 := LMj.alloc (.cells #[.int .i64 ci, .int .i64 cc, .int .i64 cs, .int .i64 ch, .bool cz] 29)
              have x2 := xj.alloc (.cells #[.int .i64 ci, .int .i64 cc, .int .i64 cs, .int .i64 ch, .bool cz] 29)
              have HR := Lib.hid (And.intro hr hc)
              clear hr hc LMj xj
              go_upto_region 14 with fail
              clear c0 c1 c2 c3 c4
              generalize wr.alloc (.cells #[.int .i64 ci, .int .i64 cc, .int .i64 cs, .int .i64 ch, .bool cz] 29) = W3 at hbox L2 x2 ⊢
              generalize wr.heap.size = ib at hbox ⊢
              have b2 : W3.cell? ⟨ib, 0, none⟩ = some (.int .i64 ci) := hbox.cell 0
              have b3 : W3.cell? ⟨X, 1, none⟩ = some (.int .i64 a.t.id) := x2.cell 1
              have HH := Lib.hid (And.intro L2 x2)
              clear hbox L2 x2
              by_cases e1 : ci = a.t.id
              · subst e1
                go_wp2_with fail
                go_roundg ((rowsU rows 6).length - (j + 1))
                case measure => omega
                case rel => exact ⟨j + 1, j, by omega, rfl, by go_num, rfl, .inr ⟨j, _, rfl, by omega, HR.out.2, rfl⟩, HH.out.1, HH.out.2⟩
              · have e3 := beq_i e1
                have HNE := Lib.hid e1
                go_wp2_with fail
                go_roundg ((rowsU rows 6).length - (j + 1))
                case measure => omega
                case rel =>
                  refine ⟨j + 1, r, by omega, rfl, by go_num, rfl, ?_, HH.out.1, HH.out.2⟩
                  rcases HR.out.1 with ⟨e, h⟩ | ⟨i, c, e, hi, h⟩
                  · refine .inl ⟨e, fun i c hi hc => ?_⟩
                    by_cases ej : i = j
                    · subst ej; rw [HR.out.2] at hc; injection hc with hc; subst hc; exact HNE.out
                    · exact h i c (by omega) hc
                  · exact .inr ⟨i, c, e, by omega, h⟩
            · have HH := Lib.hid (And.intro hr (And.intro LMj xj))
              clear hr LMj xj
              go_wp2_with fail
              go_meet
              exact ⟨r, rfl, plc_of (by omega) HH.out.1, HH.out.2.1, HH.out.2.2⟩
      case rest =>
        obtain ⟨r, rfl, hp, H3, x3⟩ := hcut
        clear S
        obtain ⟨a0, a1, a2, a3, a4, a5, a6, a7, a8⟩ := bx9 x3
        have HP := Lib.hid (And.intro H3 (And.intro x3 hp))
        clear H3 x3 hp
        go_upto_block 4 with fail
        have h3 : a.kind % 3 = 0 ∨ a.kind % 3 = 1 ∨ a.kind % 3 = 2 := by omega
        generalize hq : a.kind % 3 = q at h3 ⊢
        clear hq
        go_cut [6] (fun s6 wx => BCut w b P base OB off k s6 wx)
        case first =>
          rcases h3 with rfl | rfl | rfl
          · -- a timer comes
            as_aux_lemma =>
              obtain ⟨hXF, hX2, hid, RIh, hlen⟩ := HX.out
              have hM : ((k : Nat) : Int) ≤ 4611686018427387904 := by omega
              have SR := start_rows RIh a.t (by omega)
              have C := start_any wc HP.out.1.s.h a.t hid hM
              have hns := @startR_no rows a.t
              clear HRA a0 a6 a7 a8
              by_cases hc : a.t.clock < 0 ∨ 2 < a.t.clock
              · have e1 := SR.1 hc
                rw [e1, hns (by rw [e1]; decide)] at C
                unfold Tm.agg at C
                have HC := Lib.hid C
                clear C SR hns e1
                rcases hc with hc | hc
                · have d1 := decide_eq_true hc
                  go_wp2_with fail
                  refine HC.out.mono ?_
                  rintro e W4 ⟨rfl, h4, o4⟩
                  have H4 := Lib.hid (HP.out.1.goes h4 o4)
                  clear HC h4 o4 a1 a2 a3 a4 a5
                  go_wp2_with fail
                  go_meet
                  exact ⟨rows, RIh, by omega, H4.out.mono (by omega)⟩
                · have d0 : decide (a.t.clock < 0) = false := decide_eq_false (by omega)
                  have d1 : decide (a.t.clock > 2) = true := decide_eq_true hc
                  go_wp2_with fail
                  refine HC.out.mono ?_
                  rintro e W4 ⟨rfl, h4, o4⟩
                  have H4 := Lib.hid (HP.out.1.goes h4 o4)
                  clear HC h4 o4 a1 a2 a3 a4 a5
                  go_wp2_with fail
                  go_meet
                  exact ⟨rows, RIh, by omega, H4.out.mono (by omega)⟩
              · obtain ⟨S1, S2⟩ := SR.2 hc
                have d0 : decide (a.t.clock < 0) = false := decide_eq_false (by omega)
                have d1 : decide (a.t.clock > 2) = false := decide_eq_false (by omega)
                have n0 : ¬ a.t.clock < 0 := by omega
                have n1 : ¬ a.t.clock > 2 := by omega
                have HCL := Lib.hid (show 0 ≤ a.t.clock ∧ a.t.clock < 3 by omega)
                clear SR hc
                cases hy : hasB rows a.t.id with
                | true =>
                  obtain ⟨K, rfl, _⟩ := plc_yes HP.out.2.2 RIh.ids ((has_rows rows a.t.id).trans hy)
                  have e1 := S1 hy
                  rw [e1, hns (by rw [e1]; decide)] at C
                  unfold Tm.agg at C
                  have HC := Lib.hid C
                  clear C S1 S2 hns e1 hy
                  go_wp2_with fail
                  refine HC.out.mono ?_
                  rintro e W4 ⟨rfl, h4, o4⟩
                  have H4 := Lib.hid (HP.out.1.goes h4 o4)
                  clear HC h4 o4 a1 a2 a3 a4 a5
                  go_wp2_with fail
                  go_meet
                  exact ⟨rows, RIh, by omega, H4.out.mono (by omega)⟩
                | false =>
                  have hr := plc_no HP.out.2.2 ((has_rows rows a.t.id).trans hy)
                  subst hr
                  obtain ⟨T1, T2⟩ := S2 hy
                  by_cases c1 : a.t.hard < a.t.soft
                  · have e1 := T1 c1
                    rw [e1, hns (by rw [e1]; decide)] at C
                    unfold Tm.agg at C
                    have HC := Lib.hid C
                    clear C S1 S2 T1 T2 hns e1 hy
                    go_wp2_with fail
                    refine HC.out.mono ?_
                    rintro e W4 ⟨rfl, h4, o4⟩
                    have H4 := Lib.hid (HP.out.1.goes h4 o4)
                    clear HC h4 o4 a1 a2 a3 a4 a5
                    go_wp2_with fail
                    go_meet
                    exact ⟨rows, RIh, by omega, H4.out.mono (by omega)⟩
                  · have e1 := T2 c1
                    have c1' : decide (a.t.hard < a.t.soft) = false := decide_eq_false c1
                    have HY := Lib.hid (startR_yes RIh HCL.out e1 hy)
                    have HPT := Lib.hid (putB_law base (.slice RA (rowsU rows 6).length rc) (rowsU rows 6) a.t wc (by omega) HP.out.1.r)
                    have HE := Lib.hid e1
                    clear C S1 S2 T1 T2 hns e1 hy
                    go_wp2_with fail
                    refine HPT.out.mono ?_
                    rintro e W4 ⟨v', rfl, ho, b4⟩
                    rw [← putB_len a.t] at ho
                    have H4 := (HP.out.1.call b4).rowed (rsl_mono (rsl_own ho) HP.out.1.d.2.2.1)
                    have x4 := HP.out.2.1.below b4 HP.out.2.1.lt
                    clear a1 a2 a3 a4 a5 ho b4 HPT
                    obtain ⟨a0, a1, a2, a3, a4, a5, a6, a7, a8⟩ := bx9 x4
                    clear a0 a6 a7 a8
                    have HC := Lib.hid (start_any W4 H4.s.h a.t hid hM)
                    rw [HE.out] at HC
                    unfold Tm.agg at HC
                    have HH4 := Lib.hid H4
                    clear H4 x4 HE
                    go_wp2_with fail
                    refine HC.out.mono ?_
                    rintro e W5 ⟨rfl, h4, o4⟩
                    have H4 := HH4.out.goes h4 o4
                    rw [← HY.out.1] at H4
                    have hl : (rowsU (startR rows a.t) 6).length ≤ k + 1 := by rw [HY.out.1, putB_len]; omega
                    have H5 := Lib.hid H4
                    clear HC h4 o4 a1 a2 a3 a4 a5 HH4 H4
                    go_wp2_with fail
                    go_meet
                    exact ⟨startR rows a.t, HY.out.2, hl, H5.out.mono (by omega)⟩
          · -- one goes
            as_aux_lemma =>
              obtain ⟨hXF, hX2, hid, RIh, hlen⟩ := HX.out
              clear a0 a2 a3 a4 a5 a6 a7 a8
              have HC := Lib.hid (cancel_any wc HP.out.1.s.h a.t.id hid)
              go_wp2_with fail
              refine HC.out.mono ?_
              rintro e W4 ⟨gt, ok, rfl, hcn, o4⟩
              unfold Tm.agg
              cases hcn with
              | no hy h4 =>
                have hr := plc_no HP.out.2.2 ((has_rows rows a.t.id).trans hy)
                subst hr
                have H4 := (HP.out.1.goes h4 o4).alloc (.cells #[.int .i64 0, .int .i64 0, .int .i64 0, .int .i64 0, .bool false] 29)
                clear HC h4 o4 a1 hy HRA
                unfold zeroT
                go_upto_region 31 with fail
                generalize W4.alloc (.cells #[.int .i64 0, .int .i64 0, .int .i64 0, .int .i64 0, .bool false] 29) = W5 at H4 ⊢
                have HH4 := Lib.hid H4
                clear H4
                go_quiet (fail)
                go_wp2_with fail
                go_meet
                exact ⟨rows, RIh, by omega, (HH4.out.drewN _).mono (by omega)⟩
              | yes i hi hy hbf h4 =>
                obtain ⟨y1, y2, y3⟩ := del_rows hy hbf 6 hi
                obtain ⟨K, rfl, hKl, hK, hdl⟩ := plc_yes HP.out.2.2 RIh.ids y1
                rw [y2] at hK
                rw [y3] at hdl
                obtain ⟨q, o, rfl⟩ := HRA.out K hKl
                have RI' := RIh.del i a.t.id
                have hl' : (rowsU (fun j => if j = i then delT (rows i) a.t.id else rows j) 6).length ≤ k + 1 := by
                  rw [hdl, List.length_append, List.length_take, List.length_drop]; omega
                generalize getT (rows i) a.t.id = gt at hK ⊢
                have H4 := (HP.out.1.goes h4 o4).alloc (.cells #[.int .i64 gt.id, .int .i64 gt.clock, .int .i64 gt.soft, .int .i64 gt.hard, .bool gt.lazy] 29)
                have b4 := Blk.new W4 29 #[.int .i64 gt.id, .int .i64 gt.clock, .int .i64 gt.soft, .int .i64 gt.hard, .bool gt.lazy]
                clear HC h4 o4 a1 hy hbf y1 y2 y3 HRA
                go_upto_region 31 with fail
                generalize W4.alloc (.cells #[.int .i64 gt.id, .int .i64 gt.clock, .int .i64 gt.soft, .int .i64 gt.hard, .bool gt.lazy] 29) = W5 at H4 b4 ⊢
                generalize W4.heap.size = gb at b4 ⊢
                have g0 : W5.cell? ⟨gb, 0, none⟩ = some (.int .i64 gt.id) := b4.cell 0
                have g1 : W5.cell? ⟨gb, 1, none⟩ = some (.int .i64 gt.clock) := b4.cell 1
                have g2 : W5.cell? ⟨gb, 2, none⟩ = some (.int .i64 gt.soft) := b4.cell 2
                have g3 : W5.cell? ⟨gb, 3, none⟩ = some (.int .i64 gt.hard) := b4.cell 3
                have g4 : W5.cell? ⟨gb, 4, none⟩ = some (.bool gt.lazy) := b4.cell 4
                obtain ⟨f0, f1, f2, f3, f4⟩ := rsl_tm H4.r hK
                have HH4 := Lib.hid H4
                have HDL := Lib.hid (And.intro hdl (And.intro RI' hl'))
                clear H4 b4 hdl hK RI' hl'
                go_quiet (fail)
                have H6 := HH4.out.drewN nq
                clear g0 g1 g2 g3 g4 f0 f1 f2 f3 f4 HH4
                generalize W5.drewN nq = W6 at H6 ⊢
                have hcp := (rsl_cap H6.r).2
                have ST := H6.stands
                obtain ⟨j0, y0, hj0, hy0, hy1, hy2, hy3⟩ := infoTm'
                generalize hA' : (some (⟨q, o, none⟩ : Addr)) = A' at H6 ST ⊢
                have F1 := S10.start (e := 29) ST (W := W6) ⟨H6, Nat.le_refl _⟩
                have hKc : K ≤ rc := by omega
                have hKc1 : K + 1 ≤ rc := by omega
                have hw : IntKind.i64.wrap ((K : Int) + 1) = ((K + 1 : Nat) : Int) := by rw [IntKind.wrap_i64]; omega
                have hw2 : (K : Int) + 1 ≤ (((rowsU rows 6).length : Nat) : Int) := by omega
                have hw3 : 0 ≤ (K : Int) + 1 := by omega
                go_upto_region 34 with fail
                go_region_law (first
                  | (refine step_append_any _ (by rfl) _ _ _ (by rfl) W6.heap.size 29 j0 y0 5 40 Try.underlying27 hj0 hy0 hy2 hy3 hy1 (by decide) (Value.slice (some ⟨W6.heap.size, 0, none⟩) 0 0) 0 [] (by rfl) (by with_reducible exact own_empty F1.z F1.l) (Value.slice A' K rc) K ((tmc (rowsU rows 6)).take (K * 5)) (by rfl) (by with_reducible exact rsl_to F1.r.1.r (Nat.le_of_lt hKl)) ((tmc_ones _).take _) (by unfold maxLen; omega) (by omega) (by have := F1.r.2; omega) ?_; intro v5 w5 ho5 hg5 hb5; have H20 := F1.next ST ho5 hg5)
                  | (refine step_append_any _ (by rfl) _ _ _ (by rfl) W6.heap.size 29 j0 y0 5 40 Try.underlying27 hj0 hy0 hy2 hy3 hy1 (by decide) v5 (0 + K) ([] ++ (tmc (rowsU rows 6)).take (K * 5)) (by rfl) (by with_reducible exact H20.o) (Value.slice (if rc = K + 1 then A' else Option.map (fun x => x.add ((K + 1) * 5)) A') ((rowsU rows 6).length - (K + 1)) (rc - (K + 1))) ((rowsU rows 6).length - (K + 1)) ((tmc (rowsU rows 6)).drop ((K + 1) * 5)) (by rfl) (by with_reducible exact rsl_from H20.r.1.r (Nat.succ_le_of_lt hKl)) ((tmc_ones _).drop _) (by unfold maxLen; omega) (by omega) (by have := H20.r.2; omega) ?_; intro v6 w6 ho6 hg6 hb6; have H30 := H20.next ST ho6 hg6))
                all_goals
                  have en : 0 + K + ((rowsU rows 6).length - (K + 1)) = (rowsU (fun j => if j = i then delT (rows i) a.t.id else rows j) 6).length := by rw [HDL.out.1]; simp only [List.length_append, List.length_take, List.length_drop]; omega
                  have ey : [] ++ (tmc (rowsU rows 6)).take (K * 5) ++ (tmc (rowsU rows 6)).drop ((K + 1) * 5) = tmc (rowsU (fun j => if j = i then delT (rows i) a.t.id else rows j) 6) := by
                    rw [HDL.out.1, tmc_app, tmc_take, tmc_drop]; rfl
                  have ho := H30.o
                  rw [en, ey] at ho
                  have H9 := Lib.hid (H30.r.1.rowed (rsl_mono (rsl_own ho) H6.d.2.2.1))
                  clear F1 ST H30 ho ho5 ho6 hg5 hg6 hb5 hb6 en ey H20 H6
                  go_wp2_with fail
                  all_goals
                    subst hA'
                    try (have hrc : rc = K + 1 := by assumption
                         subst hrc)
                    go_meet
                    exact ⟨_, HDL.out.2.1, HDL.out.2.2, H9.out.mono (by omega)⟩
          · -- those that are due
            as_aux_lemma =>
              obtain ⟨hXF, hX2, hid, RIh, hlen⟩ := HX.out
              clear a0 a1 a2 a3 a4 a5 a6 a7 a8
              have hXw := HP.out.2.1.lt
              have hB0 := HP.out.1.d.2.2.1
              have hvB : ∀ q, (Value.slice RA (rowsU rows 6).length rc).ownBlock = some q → q < wc.heap.size := fun q hq => (rsl_block HP.out.1.r hq).2
              have S := Lib.hid (show ERl w b P rows base (.slice RA (rowsU rows 6).length rc) OB off k X wc.heap.size a (rowsU rows 6).length (.slice none 0 0) (.slice none 0 0) (.int .i64 (0 : Nat)) wc from
                ⟨0, Nat.zero_le _, rfl, rfl, HP.out.1, HP.out.2.1, own_zero _ _ _ _, own_zero _ _ _ _, fun q hq => (by cases hq), Nat.le_refl _⟩)
              have HB := Lib.hid (And.intro hXw (And.intro hB0 hvB))
              clear HP hXw hB0 hvB
              generalize wc.heap.size = B2 at S HB
              obtain ⟨i0, y0, hi0, hz0, hz1, hz2, hz3⟩ := infoTm'
              go_upto_block 6 with fail
              go_cut [15, 16] (fun s15 s16 wx => ECut w b P rows base (.slice RA (rowsU rows 6).length rc) OB off k X B2 a s15 s16 wx)
              case first =>
                as_aux_lemma =>
                  go_wp2_with fail
                  go_loopg [15, 16, 131] (rowsU rows 6).length (fun m s15 s16 s131 wr => ERl w b P rows base (.slice RA (rowsU rows 6).length rc) OB off k X B2 a m s15 s16 s131 wr)
                  case atStart => exact S.out
                  case round =>
                    obtain ⟨j, hj, rfl, rfl, LMj, xj, Tj⟩ := hrel
                    clear S
                    by_cases hjl : j < (rowsU rows 6).length
                    · obtain ⟨c, hc⟩ : ∃ c, (rowsU rows 6)[j]? = some c := ⟨_, List.getElem?_eq_getElem hjl⟩
                      obtain ⟨q, o, rfl⟩ := HRA.out j hjl
                      obtain ⟨c0, c1, c2, c3, c4⟩ := rsl_tm LMj.r hc
                      have hcm : c ∈ rowsU rows 6 := List.mem_of_getElem? hc
                      have hcc : 0 ≤ c.clock ∧ c.clock < 3 := by
                        obtain ⟨i, hi, hci⟩ := mem_rowsU.1 hcm
                        have := RIh.pl i hi c hci
                        exact ⟨this.1, this.2.1⟩
                      have hbox := Blk.new wr 29 #[.int .i64 c.id, .int .i64 c.clock, .int .i64 c.soft, .int .i64 c.hard, .bool c.lazy]
                      have L2 := LMj.alloc (.cells #[.int .i64 c.id, .int .i64 c.clock, .int .i64 c.soft, .int .i64 c.hard, .bool c.lazy] 29)
                      have x2 := xj.alloc (.cells #[.int .i64 c.id, .int .i64 c.clock, .int .i64 c.soft, .int .i64 c.hard, .bool c.lazy] 29)
                      have T2 := Tj.alloc (.cells #[.int .i64 c.id, .int .i64 c.clock, .int .i64 c.soft, .int .i64 c.hard, .bool c.lazy] 29)
                      have HE := Lib.hid (And.intro (filter_step (p := duL a.o a.t.lazy) hc) (show ((rowsU rows 6).take (j + 1)).filter (fun t => !duL a.o a.t.lazy t) = if (!duL a.o a.t.lazy c) = true then ((rowsU rows 6).take j).filter (fun t => !duL a.o a.t.lazy t) ++ [c] else ((rowsU rows 6).take j).filter (fun t => !duL a.o a.t.lazy t) from filter_step (p := fun t => !duL a.o a.t.lazy t) hc))
                      clear LMj xj Tj hc hcm
                      go_upto_region 40 with fail
                      clear c0 c1 c2 c3 c4
                      generalize wr.alloc (.cells #[.int .i64 c.id, .int .i64 c.clock, .int .i64 c.soft, .int .i64 c.hard, .bool c.lazy] 29) = W3 at hbox L2 x2 T2 ⊢
                      generalize wr.heap.size = ib at hbox ⊢
                      have hll1 : (((rowsU rows 6).take j).filter (duL a.o a.t.lazy)).length ≤ 60 := Nat.le_trans (List.length_filter_le _ _) (by rw [List.length_take]; omega)
                      have hll2 : (((rowsU rows 6).take j).filter (fun t => !duL a.o a.t.lazy t)).length ≤ 60 := Nat.le_trans (List.length_filter_le _ _) (by rw [List.length_take]; omega)
                      have hd : duL a.o a.t.lazy c = (decide (c.lazy = a.t.lazy) && dq (a.o c.clock.toNat) c) := rfl
                      obtain ⟨b0, b1, b2, b3, b4⟩ := bx5_cells hbox
                      obtain ⟨a0, a1, a2, a3, a4, a5, a6, a7, a8⟩ := bx9 x2
                      generalize hf1 : ((rowsU rows 6).take j).filter (duL a.o a.t.lazy) = l1 at T2 HE hll1
                      generalize hf2 : ((rowsU rows 6).take j).filter (fun t => !duL a.o a.t.lazy t) = l2 at T2 HE hll2
                      clear hf1 hf2
                      have HF := Lib.hid (And.intro L2 (And.intro x2 (And.intro T2 hbox)))
                      clear L2 x2 T2 hbox
                      by_cases e : c.lazy = a.t.lazy
                      · rw [decide_eq_true e, Bool.true_and] at hd
                        obtain ⟨dv, hdv⟩ : ∃ d, dq (a.o c.clock.toNat) c = d := ⟨_, rfl⟩
                        have C := due_law c a.o hcc W3
                        rw [hdv] at C hd
                        unfold Tm.agg three at C
                        rw [e] at C b4
                        have HC := Lib.hid C
                        have HDD := Lib.hid hd
                        have HEL := Lib.hid e
                        clear C hd hdv e hcc a0 a1 a2 a3 a4
                        cases dv with
                        | true =>
                          have HDU := Lib.hid (And.intro (HE.out.1.trans (by rw [HDD.out]; rfl)) (HE.out.2.trans (by rw [HDD.out]; rfl)) : _ = l1 ++ [c] ∧ _ = l2)
                          clear HDD HE
                          go_wp2_with fail
                          refine HC.out.mono ?_
                          rintro e W4 ⟨rfl, b9⟩
                          have HG := Lib.hid (And.intro (HF.out.1.call b9) (And.intro (HF.out.2.1.below b9 HF.out.2.1.lt) (And.intro (HF.out.2.2.1.call b9) (HF.out.2.2.2.below b9 HF.out.2.2.2.lt))))
                          clear b9 HC HF b0 b1 b2 b3 b4 a5 a6 a7 a8
                          go_upto_region 41 with fail
                          have T6 := (HG.out.2.2.1).alloc (.cells #[.int .i64 c.id, .int .i64 c.clock, .int .i64 c.soft, .int .i64 c.hard, .bool c.lazy] 29)
                          have s6 := Blk.new W4 29 #[.int .i64 c.id, .int .i64 c.clock, .int .i64 c.soft, .int .i64 c.hard, .bool c.lazy]
                          obtain ⟨b0, b1, b2, b3, b4⟩ := bx5_cells HG.out.2.2.2
                          have HT6 := Lib.hid (And.intro T6 s6)
                          clear T6 s6
                          go_wp2_with (first | (refine wpList_tm (by rfl) _ (by rfl) c (by rfl) ?_) | (at_builtin; refine wpList_append_any _ (by rfl) _ _ _ (by rfl) B2 29 i0 y0 5 40 Try.underlying27 hi0 hz0 hz2 hz3 hz1 (by decide) u15 l1.length (tmc l1) (by rfl) (by with_reducible exact HT6.out.1.o1) (Value.slice (some ⟨W4.heap.size, 0, none⟩) 1 1) 1 (Tm.list c) (by rfl) (by exact src_block HT6.out.2 rfl 1) (tm_ones _) (by unfold maxLen; omega) (by omega) (by exact HT6.out.1.b) ?_; intro v9 w9 ho9 hg9 hb9))
                          have L9 := (HG.out.1.alloc (.cells #[.int .i64 c.id, .int .i64 c.clock, .int .i64 c.soft, .int .i64 c.hard, .bool c.lazy] 29)).grown hg9 (B := B2) (fun q hq => (own_block HT6.out.1.o1 hq).1) (.inr ⟨HB.out.2.1, HB.out.2.2⟩)
                          have x9 := ((HG.out.2.1).alloc (.cells #[.int .i64 c.id, .int .i64 c.clock, .int .i64 c.soft, .int .i64 c.hard, .bool c.lazy] 29)).grown hg9 (fun e => by have := (own_block HT6.out.1.o1 e.symm).1; have := HB.out.1; omega)
                          rw [tmc_one, len_one _ c] at ho9
                          have T9 := HT6.out.1.put1 ho9 hg9 hb9
                          have F9 := Lib.hid (And.intro L9 (And.intro x9 T9))
                          clear L9 x9 T9 ho9 hg9 hb9 HT6 HG b0 b1 b2 b3 b4
                          go_wp2_with fail
                          go_roundg ((rowsU rows 6).length - (j + 1))
                          case measure => omega
                          case rel => exact ⟨j + 1, by omega, rfl, by go_num, F9.out.1, F9.out.2.1, by rw [HDU.out.1, HDU.out.2]; exact F9.out.2.2⟩
                        | false =>
                          have HDU := Lib.hid (And.intro (HE.out.1.trans (by rw [HDD.out]; rfl)) (HE.out.2.trans (by rw [HDD.out]; rfl)) : _ = l1 ∧ _ = l2 ++ [c])
                          clear HDD HE
                          go_wp2_with fail
                          refine HC.out.mono ?_
                          rintro e W4 ⟨rfl, b9⟩
                          have HG := Lib.hid (And.intro (HF.out.1.call b9) (And.intro (HF.out.2.1.below b9 HF.out.2.1.lt) (And.intro (HF.out.2.2.1.call b9) (HF.out.2.2.2.below b9 HF.out.2.2.2.lt))))
                          clear b9 HC HF b0 b1 b2 b3 b4 a5 a6 a7 a8
                          go_upto_region 42 with fail
                          have T6 := (HG.out.2.2.1).alloc (.cells #[.int .i64 c.id, .int .i64 c.clock, .int .i64 c.soft, .int .i64 c.hard, .bool c.lazy] 29)
                          have s6 := Blk.new W4 29 #[.int .i64 c.id, .int .i64 c.clock, .int .i64 c.soft, .int .i64 c.hard, .bool c.lazy]
                          obtain ⟨b0, b1, b2, b3, b4⟩ := bx5_cells HG.out.2.2.2
                          have HT6 := Lib.hid (And.intro T6 s6)
                          clear T6 s6
                          go_wp2_with (first | (refine wpList_tm (by rfl) _ (by rfl) c (by rfl) ?_) | (at_builtin; refine wpList_append_any _ (by rfl) _ _ _ (by rfl) B2 29 i0 y0 5 40 Try.underlying27 hi0 hz0 hz2 hz3 hz1 (by decide) u16 l2.length (tmc l2) (by rfl) (by with_reducible exact HT6.out.1.o2) (Value.slice (some ⟨W4.heap.size, 0, none⟩) 1 1) 1 (Tm.list c) (by rfl) (by exact src_block HT6.out.2 rfl 1) (tm_ones _) (by unfold maxLen; omega) (by omega) (by exact HT6.out.1.b) ?_; intro v9 w9 ho9 hg9 hb9))
                          have L9 := (HG.out.1.alloc (.cells #[.int .i64 c.id, .int .i64 c.clock, .int .i64 c.soft, .int .i64 c.hard, .bool c.lazy] 29)).grown hg9 (B := B2) (fun q hq => (own_block HT6.out.1.o2 hq).1) (.inr ⟨HB.out.2.1, HB.out.2.2⟩)
                          have x9 := ((HG.out.2.1).alloc (.cells #[.int .i64 c.id, .int .i64 c.clock, .int .i64 c.soft, .int .i64 c.hard, .bool c.lazy] 29)).grown hg9 (fun e => by have := (own_block HT6.out.1.o2 e.symm).1; have := HB.out.1; omega)
                          rw [tmc_one, len_one _ c] at ho9
                          have T9 := HT6.out.1.put2 ho9 hg9 hb9
                          have F9 := Lib.hid (And.intro L9 (And.intro x9 T9))
                          clear L9 x9 T9 ho9 hg9 hb9 HT6 HG b0 b1 b2 b3 b4
                          go_wp2_with fail
                          go_roundg ((rowsU rows 6).length - (j + 1))
                          case measure => omega
                          case rel => exact ⟨j + 1, by omega, rfl, by go_num, F9.out.1, F9.out.2.1, by rw [HDU.out.1, HDU.out.2]; exact F9.out.2.2⟩
                      · rw [decide_eq_false e, Bool.false_and] at hd
                        have HDU := Lib.hid (And.intro (HE.out.1.trans (by rw [hd]; rfl)) (HE.out.2.trans (by rw [hd]; rfl)) : _ = l1 ∧ _ = l2 ++ [c])
                        clear HE
                        have e3 : (c.lazy == a.t.lazy) = false := by simpa using e
                        have e4 : ¬ c.lazy = a.t.lazy := e
                        clear hd hcc a0 a1 a2 a3 a4 e
                        go_upto_region 42 with fail
                        have T6 := (HF.out.2.2.1).alloc (.cells #[.int .i64 c.id, .int .i64 c.clock, .int .i64 c.soft, .int .i64 c.hard, .bool c.lazy] 29)
                        have s6 := Blk.new W3 29 #[.int .i64 c.id, .int .i64 c.clock, .int .i64 c.soft, .int .i64 c.hard, .bool c.lazy]
                        obtain ⟨b0, b1, b2, b3, b4⟩ := bx5_cells HF.out.2.2.2
                        have HT6 := Lib.hid (And.intro T6 s6)
                        clear T6 s6
                        go_wp2_with (first | (refine wpList_tm (by rfl) _ (by rfl) c (by rfl) ?_) | (at_builtin; refine wpList_append_any _ (by rfl) _ _ _ (by rfl) B2 29 i0 y0 5 40 Try.underlying27 hi0 hz0 hz2 hz3 hz1 (by decide) u16 l2.length (tmc l2) (by rfl) (by with_reducible exact HT6.out.1.o2) (Value.slice (some ⟨W3.heap.size, 0, none⟩) 1 1) 1 (Tm.list c) (by rfl) (by exact src_block HT6.out.2 rfl 1) (tm_ones _) (by unfold maxLen; omega) (by omega) (by exact HT6.out.1.b) ?_; intro v9 w9 ho9 hg9 hb9))
                        have L9 := (HF.out.1.alloc (.cells #[.int .i64 c.id, .int .i64 c.clock, .int .i64 c.soft, .int .i64 c.hard, .bool c.lazy] 29)).grown hg9 (B := B2) (fun q hq => (own_block HT6.out.1.o2 hq).1) (.inr ⟨HB.out.2.1, HB.out.2.2⟩)
                        have x9 := ((HF.out.2.1).alloc (.cells #[.int .i64 c.id, .int .i64 c.clock, .int .i64 c.soft, .int .i64 c.hard, .bool c.lazy] 29)).grown hg9 (fun e => by have := (own_block HT6.out.1.o2 e.symm).1; have := HB.out.1; omega)
                        rw [tmc_one, len_one _ c] at ho9
                        have T9 := HT6.out.1.put2 ho9 hg9 hb9
                        have F9 := Lib.hid (And.intro L9 (And.intro x9 T9))
                        clear L9 x9 T9 ho9 hg9 hb9 HT6 HF b0 b1 b2 b3 b4
                        go_wp2_with fail
                        go_roundg ((rowsU rows 6).length - (j + 1))
                        case measure => omega
                        case rel => exact ⟨j + 1, by omega, rfl, by go_num, F9.out.1, F9.out.2.1, by rw [HDU.out.1, HDU.out.2]; exact F9.out.2.2⟩
                    · have hje : j = (rowsU rows 6).length := by omega
                      subst hje
                      rw [List.take_length] at Tj
                      have HH := Lib.hid (And.intro LMj (And.intro xj Tj))
                      clear LMj xj Tj
                      go_wp2_with fail
                      go_meet
                      exact HH.out
              case rest =>
                obtain ⟨H5, x5, T5⟩ := hcut
                clear S
                obtain ⟨A1, p1, rfl⟩ := own_val T5.o1
                obtain ⟨a0, a1, a2, a3, a4, a5, a6, a7, a8⟩ := bx9 x5
                have hE := exp_rows RIh a.o a.t.lazy 6 (Nat.le_refl _)
                have hn60 : ((rowsU rows 6).filter (duL a.o a.t.lazy)).length ≤ 60 := Nat.le_trans (List.length_filter_le _ _) (by omega)
                have hm60 : ((rowsU rows 6).filter (fun t => !duL a.o a.t.lazy t)).length ≤ k := Nat.le_trans (List.length_filter_le _ _) hlen
                have CD := bdue_any wc H5.s.h a.o a.t.lazy
                rw [due_rows RIh] at CD
                have CE := fun W (H : BHas W b P rows ((k : Nat) : Int)) => expire_any W H a.o a.t.lazy
                rw [← hE.1] at CE
                have HEL := Lib.hid (show rowsU (expR rows a.o a.t.lazy) 6 = (rowsU rows 6).filter (fun t => !duL a.o a.t.lazy t) from hE.2.symm)
                clear hE
                have HRI := Lib.hid (And.intro (RIh.exp a.o a.t.lazy) hm60)
                clear hm60
                generalize (rowsU rows 6).filter (duL a.o a.t.lazy) = wl at T5 CD CE hn60 ⊢
                generalize (rowsU rows 6).filter (fun t => !duL a.o a.t.lazy t) = ll at T5 HEL HRI
                obtain ⟨n1, hn1⟩ : ∃ n, wl.length = n := ⟨_, rfl⟩
                have HN := Lib.hid hn1
                rw [hn1] at CD hn60 ⊢
                rw [hn1] at T5
                simp only [hn1] at CE
                clear hn1
                obtain ⟨D, hD⟩ : ∃ D, decide (0 < n1) = D := ⟨_, rfl⟩
                have hD2 : decide (((n1 : Nat) : Int) > 0) = D := by rw [← hD]; exact decide_eq_decide.2 (by omega)
                rw [hD] at CD
                unfold three at CD CE
                have HCD := Lib.hid CD
                have HCE := Lib.hid CE
                have HF := Lib.hid (And.intro H5 (And.intro x5 T5))
                have hD3 : decide ((0 : Int) < ((n1 : Nat) : Int)) = D := hD2
                clear CD CE H5 x5 T5
                go_wp2_with fail
                refine HCD.out.mono ?_
                rintro e W4 ⟨rfl, b4⟩
                have H6 := HF.out.1.call b4
                have x6 := HF.out.2.1.below b4 HF.out.2.1.lt
                have T6 := HF.out.2.2.call b4
                clear a0 a1 a2 a3 a4 a5 a6 a7 a8 HF HCD b4
                obtain ⟨a0, a1, a2, a3, a4, a5, a6, a7, a8⟩ := bx9 x6
                have HC := Lib.hid (HCE.out W4 H6.s.h)
                have HG := Lib.hid (And.intro H6 (And.intro x6 T6))
                clear H6 x6 T6 HCE
                go_wp2_with fail
                refine HC.out.mono ?_
                rintro e W7 ⟨v19, rfl, h7, ow, o7⟩
                obtain ⟨A9, p9, rfl⟩ := own_val ow
                have H7 := HG.out.1.goes h7 o7
                have T7 := HG.out.2.2.only o7 (fun x hx e => by have := HG.out.1.d.1 x e; have := HB.out.2.1; omega)
                have R7 : RSl W7 B2 (.slice A9 n1 p9) wl := rsl_mono (rsl_own (by rw [HN.out]; exact ow)) (by have := HG.out.2.2.b; omega)
                clear a0 a1 a2 a3 a4 a5 a6 a7 a8 HG HC h7 ow o7 hD2 hD3 hD
                have S := Lib.hid (show CRl w b P (expR rows a.o a.t.lazy) base (.slice RA (rowsU rows 6).length rc) (rowsU rows 6) OB off k B2 (.slice A1 n1 p1) u16 (.slice A9 n1 p9) wl ll wl.length (.int .i64 (0 : Nat)) W7 from ⟨0, Nat.zero_le _, rfl, rfl, H7, T7, R7⟩)
                clear H7 T7 R7
                go_wp2_with fail
                go_loopg [181] n1 (fun m s181 wr => CRl w b P (expR rows a.o a.t.lazy) base (.slice RA (rowsU rows 6).length rc) (rowsU rows 6) OB off k B2 (.slice A1 n1 p1) u16 (.slice A9 n1 p9) wl ll m s181 wr)
                case atStart => rw [HN.out] at S; exact S.out
                case round =>
                  obtain ⟨j, hj, rfl, rfl, LMj, Tj, Rj⟩ := hrel
                  clear S
                  rw [HN.out] at hj
                  by_cases hjl : j < n1
                  · obtain ⟨c, hc⟩ : ∃ c, wl[j]? = some c := ⟨_, List.getElem?_eq_getElem (by rw [HN.out]; exact hjl)⟩
                    have Rk : RSl wr B2 (.slice A1 n1 p1) wl := rsl_own Tj.o1
                    obtain ⟨q9, o9, rfl⟩ := rsl_head Rj (by rw [HN.out]; exact hjl)
                    obtain ⟨q1, o1, rfl⟩ := rsl_head Rk (by rw [HN.out]; exact hjl)
                    obtain ⟨f0, f1, f2, f3, f4⟩ := rsl_tm Rj hc
                    obtain ⟨g0, g1, g2, g3, g4⟩ := rsl_tm Rk hc
                    have HH := Lib.hid (And.intro LMj (And.intro Tj Rj))
                    clear LMj Tj Rj Rk hc
                    go_upto_region 52 with fail
                    go_quiet (fail)
                    clear f0 f1 f2 f3 f4 g0 g1 g2 g3 g4
                    have H8 := Lib.hid (And.intro (HH.out.1.drewN nq) (And.intro (HH.out.2.1.drewN nq) (rsl_drewN HH.out.2.2 nq)))
                    clear HH
                    generalize wr.drewN nq = W8 at H8 ⊢
                    go_wp2_with fail
                    go_roundg (n1 - (j + 1))
                    case measure => have := HN.out; omega
                    case rel => exact ⟨j + 1, by rw [HN.out]; omega, by rw [HN.out], by go_num, H8.out.1, H8.out.2.1, H8.out.2.2⟩
                  · have hje : j = n1 := by omega
                    subst hje
                    have HH := Lib.hid (And.intro LMj Tj)
                    clear LMj Tj Rj
                    go_wp2_with fail
                    go_meet
                    exact ⟨expR rows a.o a.t.lazy, HRI.out.1, by rw [HEL.out]; have := HRI.out.2; omega, by rw [HEL.out]; exact (HH.out.1.rowed (rsl_mono (rsl_own HH.out.2.o2) HB.out.2.1)).mono (by omega)⟩
        case rest =>
          obtain ⟨rows', RI', hlen', H4⟩ := hcut
          clear HP HX HRA a0 a1 a2 a3 a4 a5 a6 a7 a8 h3
          as_aux_lemma =>
            have hv := rsl_parts H4.r
            have CA := all_any wc H4.s.h
            have CL := fun W (H : BHas W b P rows' ((k + 1 : Nat) : Int)) => len_any W H
            simp only [← rowsU_len] at CL
            have CN1 := fun W (H : BHas W b P rows' ((k + 1 : Nat) : Int)) => next_any W H off false
            have CN2 := fun W (H : BHas W b P rows' ((k + 1 : Nat) : Int)) => next_any W H off true
            simp only [← nx_rows RI' off _ 6 (Nat.le_refl _)] at CN1 CN2
            unfold three at CN1 CN2
            have HCN := Lib.hid (And.intro CN1 CN2)
            have hl60' : (rowsU rows' 6).length ≤ 60 := by omega
            obtain ⟨n, hn⟩ : ∃ n, (rowsU rows' 6).length = n := ⟨_, rfl⟩
            rw [hn] at hv hl60'
            obtain ⟨RB, rd, rfl, hRB⟩ := hv
            rw [hn] at CA
            simp only [hn] at CL
            have HN := Lib.hid hn
            have HCA := Lib.hid CA
            have HCL := Lib.hid CL
            have HF := Lib.hid (And.intro RI' (And.intro hlen' H4))
            clear CA CL CN1 CN2 hn hlen' H4 RI'
            go_wp2_with fail
            refine HCA.out.mono ?_
            rintro e W4 ⟨v21, rfl, ow, b4⟩
            obtain ⟨A2, p2, rfl⟩ := own_val ow
            have H5 := HF.out.2.2.call b4
            have R5 : RSl W4 base (.slice A2 n p2) (rowsU rows' 6) := rsl_mono (rsl_own (by rw [HN.out]; exact ow)) (by have := HF.out.2.2.d.2.2.1; omega)
            have HC := Lib.hid (HCL.out W4 H5.s.h)
            have HG := Lib.hid (And.intro H5 R5)
            clear H5 R5 ow b4 HCA HCL
            go_wp2_with fail
            refine HC.out.mono ?_
            rintro e W5 ⟨rfl, b5⟩
            have S := Lib.hid (show FRl w b P rows' base (.slice RB n rd) (.slice A2 n p2) OB off ((k + 1 : Nat) : Int) n (.int .i64 4611686018427387903) (.int .i64 4611686018427387903) (.int .i64 (0 : Nat)) W5 from
              ⟨0, Nat.zero_le _, by rw [HN.out]; rfl, rfl, rfl, rfl, HG.out.1.call b5, rsl_below HG.out.2 b5⟩)
            clear HG HC b5
            go_wp2_with fail
            go_loopg [22, 23, 211] n (fun m s22 s23 s211 wr => FRl w b P rows' base (.slice RB n rd) (.slice A2 n p2) OB off ((k + 1 : Nat) : Int) m s22 s23 s211 wr)
            case atStart => exact S.out
            case round =>
              obtain ⟨j, hj, rfl, rfl, rfl, rfl, LMj, Rj⟩ := hrel
              clear S
              rw [HN.out] at hj
              obtain ⟨x22, hx22⟩ : ∃ x, ((rowsU rows' 6).take j).foldl (nxF off false) 4611686018427387903 = x := ⟨_, rfl⟩
              obtain ⟨x23, hx23⟩ : ∃ x, ((rowsU rows' 6).take j).foldl (nxF off true) 4611686018427387903 = x := ⟨_, rfl⟩
              rw [hx22, hx23]
              have HXX := Lib.hid (And.intro hx22 hx23)
              clear hx22 hx23
              by_cases hjl : j < n
              · obtain ⟨c, hc⟩ : ∃ c, (rowsU rows' 6)[j]? = some c := ⟨_, List.getElem?_eq_getElem (by rw [HN.out]; exact hjl)⟩
                have hcm := List.mem_of_getElem? hc
                obtain ⟨i, hi, hci⟩ := mem_rowsU.1 hcm
                obtain ⟨p0, p3, _⟩ := HF.out.1.pl i hi c hci
                have hcid : I64 c.id := (LMj.s.h.q i hi).wf hci
                have hhas : hasB rows' c.id = true := by rw [← has_rows]; exact hasT_mem hcm
                have HST := Lib.hid (And.intro (fold_step (f := nxF off false) 4611686018427387903 hc) (fold_step (f := nxF off true) 4611686018427387903 hc))
                obtain ⟨q1, o1, rfl⟩ := rsl_head LMj.r (by rw [HN.out]; exact hjl)
                obtain ⟨q2, o2, rfl⟩ := rsl_head Rj (by rw [HN.out]; exact hjl)
                obtain ⟨f0, f1, f2, f3, f4⟩ := rsl_tm LMj.r hc
                have HCC := Lib.hid hc
                obtain ⟨ci, cc, cs, ch, cz⟩ := c
                obtain ⟨kc, rfl⟩ : ∃ kc : Nat, cc = kc := ⟨cc.toNat, by simp only at p0; omega⟩
                have hkc : kc < 3 := by simp only at p3; omega
                have H8 := LMj.alloc (.cells #[.int .i64 ci, .int .i64 (kc : Nat), .int .i64 cs, .int .i64 ch, .bool cz] 29)
                have V8 := rsl_alloc Rj (.cells #[.int .i64 ci, .int .i64 (kc : Nat), .int .i64 cs, .int .i64 ch, .bool cz] 29)
                have B8 := Blk.new wr 29 #[.int .i64 ci, .int .i64 (kc : Nat), .int .i64 cs, .int .i64 ch, .bool cz]
                clear LMj Rj hcm hci hc p0 p3
                go_upto_region 63 with fail
                clear f0 f1 f2 f3 f4
                generalize wr.alloc (.cells #[.int .i64 ci, .int .i64 (kc : Nat), .int .i64 cs, .int .i64 ch, .bool cz] 29) = W8 at H8 V8 B8 ⊢
                generalize wr.heap.size = ib at B8 ⊢
                have PD := H8.drew
                have VD : RSl W8.drew base (.slice (some ⟨q2, o2, none⟩) n p2) (rowsU rows' 6) := rsl_drewN V8 1
                obtain ⟨v0, v1, v2, v3, v4⟩ := rsl_tm VD HCC.out
                have BD := B8.drew
                have g0 : W8.drew.cell? ⟨ib, 0, none⟩ = some (.int .i64 ci) := BD.cell 0
                have g1 : W8.drew.cell? ⟨ib, 1, none⟩ = some (.int .i64 (kc : Nat)) := BD.cell 1
                have g2 : W8.drew.cell? ⟨ib, 2, none⟩ = some (.int .i64 cs) := BD.cell 2
                have g3 : W8.drew.cell? ⟨ib, 3, none⟩ = some (.int .i64 ch) := BD.cell 3
                have g4 : W8.drew.cell? ⟨ib, 4, none⟩ = some (.bool cz) := BD.cell 4
                have HHs := has_any W8.drew PD.s.h ci hcid
                rw [show hasB rows' ci = true from hhas] at HHs
                have HHs := Lib.hid HHs
                have HPD := Lib.hid (And.intro PD (And.intro VD BD))
                clear PD VD H8 V8 B8 BD hcid hhas
                refine wp_region_still_tail 10 (by kernel_rfl) (by kernel_rfl) ?_
                change wpStill _ _ W8.drew (fun a' => wpList _ _ _ _ a' W8.drew) _ _
                generalize W8.drew = V at v0 v1 v2 v3 v4 g0 g1 g2 g3 g4 HHs HPD ⊢
                simp only [List.take_succ_cons, List.take_zero, List.drop_succ_cons, List.drop_zero]
                still_step
                still_step
                still_step
                still_step
                still_step
                still_step
                still_step
                still_step
                still_step
                still_step
                refine wpStill_nil ?_
                clear v0 v1 v2 v3 v4 g0 g1 g2 g3 g4
                go_wp2_with fail
                refine HHs.out.mono ?_
                rintro e W9 ⟨rfl, b9⟩
                have H9 := HPD.out.1.call b9
                have V9 := rsl_below HPD.out.2.1 b9
                have B9 := HPD.out.2.2.below b9 HPD.out.2.2.lt
                clear HPD HHs b9
                have g1 : W9.cell? ⟨ib, 1, none⟩ = some (.int .i64 (kc : Nat)) := B9.cell 1
                have g2 : W9.cell? ⟨ib, 2, none⟩ = some (.int .i64 cs) := B9.cell 2
                have e1 : W9.cell? ⟨OB, kc, none⟩ = some (.int .i64 (off kc)) := (H9.f.cell kc).trans (three_at off kc hkc)
                have hk3 : ((kc : Nat) : Int) < 3 := by omega
                have hk0 : (0 : Int) ≤ ((kc : Nat) : Int) := by omega
                have HH := Lib.hid (And.intro H9 (And.intro V9 B9))
                clear H9 V9 B9
                go_upto_region 65 with fail
                go_quiet ((go_at_call 16; exact quiet_left (rsub_any _ _ _)))
                have H10 := HH.out.1.drewN nq
                have V10 := rsl_drewN HH.out.2.1 nq
                have B10 := HH.out.2.2.drewN nq
                clear g1 g2 e1 HH
                generalize W9.drewN nq = W10 at H10 V10 B10 ⊢
                have g4 : W10.cell? ⟨ib, 4, none⟩ = some (.bool cz) := B10.cell 4
                have HZ := Lib.hid (And.intro H10 V10)
                clear H10 V10 B10
                cases cz with
                | true =>
                  have E1 := Lib.hid ((HST.out.1.trans (congrArg (fun f => nxF off false f ⟨ci, (kc : Nat), cs, ch, true⟩) HXX.out.1)).trans (nxF_no off x22 ci cs ch kc))
                  have E2 := Lib.hid ((HST.out.2.trans (congrArg (fun f => nxF off true f ⟨ci, (kc : Nat), cs, ch, true⟩) HXX.out.2)).trans (nxF_yes off x23 ci cs ch kc true true rfl))
                  clear HST
                  go_wp2_with fail
                  all_goals
                    go_roundg (n - (j + 1))
                    case measure => have := HN.out; omega
                    case rel => exact ⟨j + 1, by rw [HN.out]; omega, by rw [HN.out], by go_num, by rw [E1.out], congrArg (Value.int .i64) (by rw [E2.out]; omega), HZ.out.1, HZ.out.2⟩
                | false =>
                  have E1 := Lib.hid ((HST.out.1.trans (congrArg (fun f => nxF off false f ⟨ci, (kc : Nat), cs, ch, false⟩) HXX.out.1)).trans (nxF_yes off x22 ci cs ch kc false false rfl))
                  have E2 := Lib.hid ((HST.out.2.trans (congrArg (fun f => nxF off true f ⟨ci, (kc : Nat), cs, ch, false⟩) HXX.out.2)).trans (nxF_yes off x23 ci cs ch kc false true rfl))
                  clear HST
                  go_wp2_with fail
                  all_goals
                    go_roundg (n - (j + 1))
                    case measure => have := HN.out; omega
                    case rel => exact ⟨j + 1, by rw [HN.out]; omega, by rw [HN.out], by go_num, congrArg (Value.int .i64) (by rw [E1.out]; omega), congrArg (Value.int .i64) (by rw [E2.out]; omega), HZ.out.1, HZ.out.2⟩
              · have hje : j = n := by omega
                subst hje
                have HZ := Lib.hid LMj
                have tk : (rowsU rows' 6).take j = rowsU rows' 6 := by rw [← HN.out, List.take_length]
                have HT := Lib.hid tk
                have e22 : (rowsU rows' 6).foldl (nxF off false) 4611686018427387903 = x22 := by have := HXX.out.1; rw [tk] at this; exact this
                have e23 : (rowsU rows' 6).foldl (nxF off true) 4611686018427387903 = x23 := by have := HXX.out.2; rw [tk] at this; exact this
                have C1 := HCN.out.1
                have C2 := HCN.out.2
                rw [e22] at C1
                rw [e23] at C2
                have HC1 := Lib.hid (C1 wr LMj.s.h)
                have HC2 := Lib.hid C2
                obtain ⟨o0, o1, o2⟩ := off_cells LMj.f
                clear C1 C2 e22 e23 tk LMj Rj HCN HXX
                go_wp2_with fail
                refine HC1.out.mono ?_
                rintro e W6 ⟨rfl, b6⟩
                have H6 := HZ.out.call b6
                clear o0 o1 o2 HC1 HZ b6
                obtain ⟨o0, o1, o2⟩ := off_cells H6.f
                have HC3 := Lib.hid (HC2.out W6 H6.s.h)
                have HZ := Lib.hid H6
                clear H6 HC2
                go_wp2_with fail
                refine HC3.out.mono ?_
                rintro e W7 ⟨rfl, b7⟩
                have H7 := Lib.hid (HZ.out.call b7)
                clear HC3 HZ b7 o0 o1 o2
                go_wp2_with fail
                go_roundg (N - (k + 1))
                case measure => omega
                case rel => exact ⟨k + 1, rows', by omega, rfl, by go_num, HF.out.1, HF.out.2.1, H7.out⟩
    · have hke : k = N := by omega
      subst hke
      have HB := Lib.hid HS
      clear HS
      go_wp2_with fail
      go_ret
      exact ⟨rfl, HB.out.s.bl⟩
end Go.Proofs.Ytcoibhmgblicfaa.Ba
