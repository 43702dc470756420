/- Lemmas and contracts for RowQueuePlays, merged by program out of Qw. No condition. -/
import Derived.Test.YtfoigflgglpobaaBQ14
import Derived.StillTailTactics
import Derived.Deep.RegionLaw
set_option linter.unusedVariables false
set_option linter.unusedSimpArgs false
/- QueuePlays: whatever comes, goes, and is due, all is what a plain row tells: the walk. No condition. -/
set_option linter.unusedVariables false
set_option linter.unusedSimpArgs false
namespace Go.Proofs.Ytfoigflgglpobaa.Q
open Go.RowKit Go.Proofs.Ytfoigflgglpobaa.Aid Go.Proofs.Ytfoigflgglpobaa.Tr Go.Proofs.Ytfoigflgglpobaa.Kt
set_option maxHeartbeats 400000 in
set_option maxRecDepth 100000 in
theorem queuePlays_big (A : Option Addr) (N cap : Nat) (hN : 150 < N) (hmx : N ≤ maxLen) (w : World) : Calls Try.prog 7 #[.slice A N cap] w fun e w' => e = .returned (.bool true) ∧ Below w.heap.size w w' := by
  have d : decide (((N : Nat) : Int) > 150) = true := decide_eq_true (by omega)
  go_enter Try.func7, Try.ntmps7
  go_wp2_with fail
  refine (qfixed_any w).mono ?_
  rintro e w1 ⟨rfl, b1⟩
  have HB := Lib.hid b1
  clear b1
  go_wp2_with fail
  go_ret
  exact ⟨rfl, HB.out⟩
set_option maxHeartbeats 8000000 in
set_option maxRecDepth 100000 in
theorem queuePlays_any (A : Option Addr) (N cap : Nat) (hN : N ≤ 150) (w : World) (hin : ActsQ w w.heap.size A N) : Calls Try.prog 7 #[.slice A N cap] w fun e w' => e = .returned (.bool true) ∧ Below w.heap.size w w' := by
  have d : decide (((N : Nat) : Int) > 150) = false := decide_eq_false (by omega)
  have HK := Lib.hid hin
  clear hin
  go_enter Try.func7, Try.ntmps7
  go_wp2_with fail
  refine (qfixed_any w).mono ?_
  rintro e V1 ⟨rfl, b1⟩
  go_wp2_with fail
  refine (QHas_new V1).mono ?_
  rintro e W0 ⟨P, rfl, h0, f0, b0⟩
  have s1 := b1.size
  have s0 := b0.size
  have S0 : LMd w W0 P [] W0.heap.size (.slice none 0 0) [] 0 :=
    ⟨⟨h0, b1.trans (b0.mono s1), fun b hb => by have := f0 b hb; omega⟩, rsl_nil _ _, fun b hb => h0.foot_lt hb, by omega, Nat.le_refl _⟩
  have S := Lib.hid (show QRl w P W0.heap.size N N (.slice none 0 0) (.int .i64 (0 : Nat)) W0 from ⟨0, [], by omega, rfl, rfl, S0⟩)
  clear h0 f0 b0 b1 s1 s0 S0 d
  generalize W0.heap.size = base at S
  go_wp2_with fail
  go_loopg [4, 27] N (fun m s4 s27 wr => QRl w P base N m s4 s27 wr)
  case atStart => exact S.out
  case round =>
    obtain ⟨k, row, hk, rfl, rfl, HS⟩ := hrel
    clear S
    by_cases hlt : k < N
    · obtain ⟨x, rfl, a, hak, hid, hat⟩ := HK.out k hlt
      obtain ⟨q0, q1, q2, q3, q4, q5, q6⟩ := hat _ HS.s.b
      clear hat
      have hTl : row.length ≤ 64 := HS.s.q.len
      go_upto_region 10 with fail
      have hba := Blk.new wr 67 a.cells
      have H2 := HS.alloc (.cells a.cells 67)
      have hXF : ¬ P.F wr.heap.size := fun e => Nat.lt_irrefl _ (HS.s.q.foot_lt e)
      have hX2 : base ≤ wr.heap.size := HS.d.2.2
      clear q0 q1 q2 q3 q4 q5 q6 HS
      unfold QA.cells at hba H2
      generalize wr.alloc (.cells #[.int .u8 a.kind, .int .i64 a.t.id, .int .i64 a.t.clock, .int .i64 a.t.soft, .int .i64 a.t.hard, .bool a.t.lazy, .int .i64 a.now] 67) = W2 at hba H2 ⊢
      generalize wr.heap.size = X at hba hXF hX2 ⊢
      have a1 : W2.cell? ⟨X, 1, none⟩ = some (.int .i64 a.t.id) := hba.cell 1
      have HPL := Lib.hid (place_law base u4 row a.t.id W2 (by omega) H2.r)
      have HH := Lib.hid (And.intro H2 hba)
      clear H2 hba
      go_wp2_with fail
      refine HPL.out.mono ?_
      rintro e W3 ⟨r, rfl, hp, b3⟩
      have H3 := HH.out.1.call b3
      have x3 := HH.out.2.below b3 HH.out.2.lt
      clear a1 HPL HH b3
      have a0 : W3.cell? ⟨X, 0, none⟩ = some (.int .u8 a.kind) := x3.cell 0
      have a1 : W3.cell? ⟨X, 1, none⟩ = some (.int .i64 a.t.id) := x3.cell 1
      have a2 : W3.cell? ⟨X, 2, none⟩ = some (.int .i64 a.t.clock) := x3.cell 2
      have a3 : W3.cell? ⟨X, 3, none⟩ = some (.int .i64 a.t.soft) := x3.cell 3
      have a4 : W3.cell? ⟨X, 4, none⟩ = some (.int .i64 a.t.hard) := x3.cell 4
      have a5 : W3.cell? ⟨X, 5, none⟩ = some (.bool a.t.lazy) := x3.cell 5
      have a6 : W3.cell? ⟨X, 6, none⟩ = some (.int .i64 a.now) := x3.cell 6
      have HP := Lib.hid (And.intro H3 (And.intro x3 (And.intro hp hid)))
      clear H3 x3 hp hid
      go_upto_block 2 with fail
      have h3 : a.kind % 3 = 0 ∨ a.kind % 3 = 1 ∨ a.kind % 3 = 2 := by omega
      generalize hq : a.kind % 3 = q at h3 ⊢
      clear hq
      go_cut [4] (fun s4 wx => QCut w P base k s4 wx)
      case first =>
        rcases h3 with rfl | rfl | rfl
        · -- a timer comes
          as_aux_lemma =>
            obtain ⟨RA, rc, rfl, hRA⟩ := rsl_parts HP.out.1.r
            clear hRA a0 a6
            by_cases c1 : a.t.hard < a.t.soft
            · have e1 : addE row a.t = 2 := by unfold addE; rw [if_pos c1]
              have e2 : addR row a.t = row := by unfold addR; rw [e1]; rfl
              have HC := Lib.hid (QHas_add HP.out.1.s.q a.t HP.out.2.2.2 (by omega))
              rw [e1, e2] at HC
              unfold Tm.agg at HC
              clear e1 e2
              go_wp2_with fail
              refine HC.out.mono ?_
              rintro e W4 ⟨rfl, h4, o4⟩
              have H4 := Lib.hid (HP.out.1.goes h4 o4)
              clear HC h4 o4 a1 a2 a3 a4 a5
              go_wp2_with fail
              go_meet
              exact ⟨row, H4.out.mono (by omega)⟩
            · have c1' : decide (a.t.hard < a.t.soft) = false := decide_eq_false c1
              cases hy : hasT row a.t.id with
              | true =>
                obtain ⟨K, rfl, hK⟩ := plc_yes HP.out.2.2.1 HP.out.1.s.q.ids hy
                have e1 : addE row a.t = 9 := by unfold addE; rw [if_neg c1, if_pos hy]
                have e2 : addR row a.t = row := by unfold addR; rw [e1]; rfl
                have HC := Lib.hid (QHas_add HP.out.1.s.q a.t HP.out.2.2.2 (by omega))
                rw [e1, e2] at HC
                unfold Tm.agg at HC
                clear e1 e2 hy hK
                go_wp2_with fail
                refine HC.out.mono ?_
                rintro e W4 ⟨rfl, h4, o4⟩
                have H4 := Lib.hid (HP.out.1.goes h4 o4)
                clear HC h4 o4 a1 a2 a3 a4 a5
                go_wp2_with fail
                go_meet
                exact ⟨row, H4.out.mono (by omega)⟩
              | false =>
                have hr := plc_no HP.out.2.2.1 hy
                subst hr
                by_cases c3 : row.length = 64
                · have e1 : addE row a.t = 3 := by unfold addE; rw [if_neg c1, hy, if_neg (by simp), if_pos c3]
                  have e2 : addR row a.t = row := by unfold addR; rw [e1]; rfl
                  have HC := Lib.hid (QHas_add HP.out.1.s.q a.t HP.out.2.2.2 (by omega))
                  rw [e1, e2] at HC
                  unfold Tm.agg at HC
                  have d1 : (((row.length : Nat) : Int) == 64) = true := by rw [c3]; rfl
                  have d2 : ((row.length : Nat) : Int) = 64 := by omega
                  clear e1 e2 hy
                  go_wp2_with fail
                  refine HC.out.mono ?_
                  rintro e W4 ⟨rfl, h4, o4⟩
                  have H4 := Lib.hid (HP.out.1.goes h4 o4)
                  clear HC h4 o4 a1 a2 a3 a4 a5
                  go_wp2_with fail
                  go_meet
                  exact ⟨row, by have h9 := H4.out.mono (M' := ((k + 1 : Nat) : Int)) (by omega); rw [c3] at h9; exact h9⟩
                · have e1 : addE row a.t = 0 := by unfold addE; rw [if_neg c1, hy, if_neg (by simp), if_neg c3]
                  have e2 : addR row a.t = insT a.t row := by unfold addR; rw [e1]; rfl
                  have d2 : ¬ ((row.length : Nat) : Int) = 64 := by omega
                  have d1 := beq_i d2
                  have HPT := Lib.hid (putT_law base (.slice RA row.length rc) row a.t W3 (by omega) HP.out.1.r)
                  have HE := Lib.hid (And.intro e1 e2)
                  clear e1 e2 hy
                  go_wp2_with fail
                  refine HPT.out.mono ?_
                  rintro e W4 ⟨v', rfl, ho, b4⟩
                  rw [← insT_len] at ho
                  have H4 := (HP.out.1.call b4).rowed (rsl_mono (rsl_own ho) HP.out.1.d.2.2)
                  have x4 := HP.out.2.1.below b4 HP.out.2.1.lt
                  clear a1 a2 a3 a4 a5 ho b4 HPT
                  have a1 : W4.cell? ⟨X, 1, none⟩ = some (.int .i64 a.t.id) := x4.cell 1
                  have a2 : W4.cell? ⟨X, 2, none⟩ = some (.int .i64 a.t.clock) := x4.cell 2
                  have a3 : W4.cell? ⟨X, 3, none⟩ = some (.int .i64 a.t.soft) := x4.cell 3
                  have a4 : W4.cell? ⟨X, 4, none⟩ = some (.int .i64 a.t.hard) := x4.cell 4
                  have a5 : W4.cell? ⟨X, 5, none⟩ = some (.bool a.t.lazy) := x4.cell 5
                  have HC := Lib.hid (QHas_add H4.s.q a.t HP.out.2.2.2 (by omega))
                  rw [HE.out.1, HE.out.2] at HC
                  unfold Tm.agg at HC
                  have HH4 := Lib.hid H4
                  clear H4 x4 HE
                  go_wp2_with fail
                  refine HC.out.mono ?_
                  rintro e W5 ⟨rfl, h4, o4⟩
                  have H4 := Lib.hid (HH4.out.goes h4 o4)
                  clear HC h4 o4 a1 a2 a3 a4 a5 HH4
                  go_wp2_with fail
                  go_meet
                  exact ⟨insT a.t row, H4.out.mono (by omega)⟩
        · -- one goes
          as_aux_lemma =>
            obtain ⟨RA, rc, rfl, hRA⟩ := rsl_parts HP.out.1.r
            have HRA := Lib.hid hRA
            clear hRA a0 a2 a3 a4 a5 a6
            have HC := Lib.hid (QHas_drop HP.out.1.s.q a.t.id HP.out.2.2.2)
            obtain ⟨gt, hgt⟩ : ∃ g, getT row a.t.id = g := ⟨_, rfl⟩
            rw [hgt] at HC
            unfold Tm.agg at HC
            cases hy : hasT row a.t.id with
            | false =>
              have hr := plc_no HP.out.2.2.1 hy
              subst hr
              rw [hy] at HC
              have HY := Lib.hid hy
              clear hy hgt
              go_wp2_with fail
              refine HC.out.mono ?_
              rintro e W4 ⟨rfl, h4, o4⟩
              have H4 := (HP.out.1.goes h4 o4).alloc (.cells #[.int .i64 gt.id, .int .i64 gt.clock, .int .i64 gt.soft, .int .i64 gt.hard, .bool gt.lazy] 65)
              rw [delT_no HY.out] at H4
              clear HC h4 o4 a1
              go_upto_region 25 with fail
              generalize W4.alloc (.cells #[.int .i64 gt.id, .int .i64 gt.clock, .int .i64 gt.soft, .int .i64 gt.hard, .bool gt.lazy] 65) = W5 at H4 ⊢
              have HH4 := Lib.hid H4
              clear H4
              go_quiet (fail)
              go_wp2_with fail
              go_meet
              exact ⟨row, (HH4.out.drewN _).mono (by omega)⟩
            | true =>
              obtain ⟨K, rfl, hKl, hK, hdl⟩ := plc_yes HP.out.2.2.1 HP.out.1.s.q.ids hy
              rw [hgt] at hK
              rw [hy] at HC
              rw [hdl] at HC
              obtain ⟨q, o, rfl⟩ := HRA.out K hKl
              clear hy hgt HRA
              go_wp2_with fail
              refine HC.out.mono ?_
              rintro e W4 ⟨rfl, h4, o4⟩
              have H4 := (HP.out.1.goes h4 o4).alloc (.cells #[.int .i64 gt.id, .int .i64 gt.clock, .int .i64 gt.soft, .int .i64 gt.hard, .bool gt.lazy] 65)
              have b4 := Blk.new W4 65 #[.int .i64 gt.id, .int .i64 gt.clock, .int .i64 gt.soft, .int .i64 gt.hard, .bool gt.lazy]
              clear HC h4 o4 a1
              go_upto_region 25 with fail
              generalize W4.alloc (.cells #[.int .i64 gt.id, .int .i64 gt.clock, .int .i64 gt.soft, .int .i64 gt.hard, .bool gt.lazy] 65) = W5 at H4 b4 ⊢
              generalize W4.heap.size = gb at b4 ⊢
              have g0 : W5.cell? ⟨gb, 0, none⟩ = some (.int .i64 gt.id) := b4.cell 0
              have g1 : W5.cell? ⟨gb, 1, none⟩ = some (.int .i64 gt.clock) := b4.cell 1
              have g2 : W5.cell? ⟨gb, 2, none⟩ = some (.int .i64 gt.soft) := b4.cell 2
              have g3 : W5.cell? ⟨gb, 3, none⟩ = some (.int .i64 gt.hard) := b4.cell 3
              have g4 : W5.cell? ⟨gb, 4, none⟩ = some (.bool gt.lazy) := b4.cell 4
              obtain ⟨f0, f1, f2, f3, f4⟩ := rsl_tm H4.r hK
              have HH4 := Lib.hid H4
              have HDL := Lib.hid hdl
              clear H4 b4 hdl hK
              go_quiet (fail)
              have H6 := HH4.out.drewN nq
              clear g0 g1 g2 g3 g4 f0 f1 f2 f3 f4 HH4
              generalize W5.drewN nq = W6 at H6 ⊢
              have hcp := (rsl_cap H6.r).2
              have ST := H6.stands
              obtain ⟨j0, y0, hj0, hy0, hy1, hy2, hy3⟩ := infoTm'
              generalize hA' : (some (⟨q, o, none⟩ : Addr)) = A' at H6 ST ⊢
              have F1 := S10.start (e := 65) ST (W := W6) ⟨H6, Nat.le_refl _⟩
              have hKc : K ≤ rc := by omega
              have hKc1 : K + 1 ≤ rc := by omega
              have hw : IntKind.i64.wrap ((K : Int) + 1) = ((K + 1 : Nat) : Int) := by rw [IntKind.wrap_i64]; omega
              have hw2 : (K : Int) + 1 ≤ ((row.length : Nat) : Int) := by omega
              have hw3 : 0 ≤ (K : Int) + 1 := by omega
              go_upto_region 28 with fail
              go_region_law (first
                | (refine step_append_any _ (by rfl) _ _ _ (by rfl) W6.heap.size 65 j0 y0 5 40 Try.underlying63 hj0 hy0 hy2 hy3 hy1 (by decide) (Value.slice (some ⟨W6.heap.size, 0, none⟩) 0 0) 0 [] (by rfl) (by with_reducible exact own_empty F1.z F1.l) (Value.slice A' K rc) K ((tmc row).take (K * 5)) (by rfl) (by with_reducible exact rsl_to F1.r.1.r (Nat.le_of_lt hKl)) ((tmc_ones _).take _) (by unfold maxLen; omega) (by omega) (by have := F1.r.2; omega) ?_; intro v5 w5 ho5 hg5 hb5; have H20 := F1.next ST ho5 hg5)
                | (refine step_append_any _ (by rfl) _ _ _ (by rfl) W6.heap.size 65 j0 y0 5 40 Try.underlying63 hj0 hy0 hy2 hy3 hy1 (by decide) v5 (0 + K) ([] ++ (tmc row).take (K * 5)) (by rfl) (by with_reducible exact H20.o) (Value.slice (if rc = K + 1 then A' else Option.map (fun x => x.add ((K + 1) * 5)) A') (row.length - (K + 1)) (rc - (K + 1))) (row.length - (K + 1)) ((tmc row).drop ((K + 1) * 5)) (by rfl) (by with_reducible exact rsl_from H20.r.1.r (Nat.succ_le_of_lt hKl)) ((tmc_ones _).drop _) (by unfold maxLen; omega) (by omega) (by have := H20.r.2; omega) ?_; intro v6 w6 ho6 hg6 hb6; have H30 := H20.next ST ho6 hg6))
              all_goals
                have en : 0 + K + (row.length - (K + 1)) = (row.take K ++ row.drop (K + 1)).length := by simp only [List.length_append, List.length_take, List.length_drop]; omega
                have ey : [] ++ (tmc row).take (K * 5) ++ (tmc row).drop ((K + 1) * 5) = tmc (row.take K ++ row.drop (K + 1)) := by
                  rw [tmc_app, tmc_take, tmc_drop]; rfl
                have ho := H30.o
                rw [en, ey] at ho
                have H9 := Lib.hid (H30.r.1.rowed (rsl_mono (rsl_own ho) H6.d.2.2))
                clear F1 ST H30 ho ho5 ho6 hg5 hg6 hb5 hb6 en ey H20 H6
                go_wp2_with fail
                all_goals
                  go_meet
                  exact ⟨_, H9.out.mono (by omega)⟩
        · -- those that are due
          as_aux_lemma =>
            obtain ⟨RA, rc, rfl, hRA⟩ := rsl_parts HP.out.1.r
            have HRA := Lib.hid hRA
            clear hRA a0 a1 a2 a3 a4 a5
            obtain ⟨n, hn⟩ : ∃ n, row.length = n := ⟨_, rfl⟩
            rw [hn] at HP ⊢
            cases row with
            | nil =>
              have hn0 : n = 0 := hn.symm
              subst hn0
              have HC := Lib.hid (show Calls Try.prog 32 #[P.v, .int .i64 a.now] W3 fun e w' => e = .returned (.tuple #[.agg #[.int .i64 0, .int .i64 0, .int .i64 0, .int .i64 0, .bool false], .bool false]) ∧ QHas w' P [] k ∧ Only P.F W3 w' from QHas_due HP.out.1.s.q a.now)
              go_wp2_with fail
              refine HC.out.mono ?_
              rintro e W4 ⟨rfl, h4, o4⟩
              have H4 := (HP.out.1.goes h4 o4).alloc (.cells #[.int .i64 0, .int .i64 0, .int .i64 0, .int .i64 0, .bool false] 65)
              clear HC h4 o4 a6
              go_upto_region 31 with fail
              generalize W4.alloc (.cells #[.int .i64 0, .int .i64 0, .int .i64 0, .int .i64 0, .bool false] 65) = W5 at H4 ⊢
              have HH4 := Lib.hid H4
              clear H4
              go_quiet (fail)
              have HH5 := Lib.hid (HH4.out.drewN nq)
              clear HH4
              generalize W5.drewN nq = W6 at HH5 ⊢
              go_upto_region 32 with fail
              go_quiet (fail)
              go_wp2_with fail
              go_meet
              exact ⟨[], (HH5.out.drewN _).mono (by omega)⟩
            | cons b l =>
              obtain ⟨q, o, rfl⟩ := HRA.out 0 (by simp)
              have hn0 : 0 < n := by simp at hn; omega
              have hl0 : (0 : Int) < ((n : Nat) : Int) := by omega
              have hl1 : (1 : Int) ≤ ((n : Nat) : Int) := by omega
              cases en : nev b.soft with
              | true =>
                have dn : decide (b.soft < 4611686018427387903) = false := decide_eq_false (by unfold nev at en; have := of_decide_eq_true en; omega)
                have HC := Lib.hid (show Calls Try.prog 32 #[P.v, .int .i64 a.now] W3 fun e w' => e = .returned (.tuple #[.agg #[.int .i64 0, .int .i64 0, .int .i64 0, .int .i64 0, .bool false], .bool false]) ∧ QHas w' P (b :: l) k ∧ Only P.F W3 w' from by
                  have C := QHas_due HP.out.1.s.q a.now
                  rw [show dueB (b :: l) a.now = false from (by show (!nev b.soft && _) = false; rw [en]; rfl)] at C
                  exact C)
                clear HRA
                go_wp2_with fail
                refine HC.out.mono ?_
                rintro e W4 ⟨rfl, h4, o4⟩
                have H4 := (HP.out.1.goes h4 o4).alloc (.cells #[.int .i64 0, .int .i64 0, .int .i64 0, .int .i64 0, .bool false] 65)
                have b4 := Blk.new W4 65 #[.int .i64 0, .int .i64 0, .int .i64 0, .int .i64 0, .bool false]
                have x4 := (o4.blk HP.out.2.1 hXF).alloc (.cells #[.int .i64 0, .int .i64 0, .int .i64 0, .int .i64 0, .bool false] 65)
                clear HC h4 o4 a6
                go_upto_region 31 with fail
                generalize W4.alloc (.cells #[.int .i64 0, .int .i64 0, .int .i64 0, .int .i64 0, .bool false] 65) = W5 at H4 b4 x4 ⊢
                generalize W4.heap.size = gb at b4 ⊢
                obtain ⟨f0, f1, f2, f3, f4⟩ := rsl_tm H4.r (j := 0) (a := b) rfl
                simp only [Nat.zero_mul, Nat.add_zero] at f0 f1 f2 f3 f4
                have HH4 := Lib.hid H4
                clear H4 b4 x4
                go_quiet (fail)
                clear f0 f1 f2 f3 f4
                have HH5 := Lib.hid (HH4.out.drewN nq)
                clear HH4
                generalize W5.drewN nq = W6 at HH5 ⊢
                go_upto_region 32 with fail
                go_quiet (fail)
                go_wp2_with fail
                go_meet
                exact ⟨b :: l, (HH5.out.drewN _).mono (by omega)⟩
              | false =>
                have dn : b.soft < 4611686018427387903 := by unfold nev at en; have := of_decide_eq_false en; omega
                by_cases hc : cl b.soft ≤ cl a.now
                · have HC := Lib.hid (show Calls Try.prog 32 #[P.v, .int .i64 a.now] W3 fun e w' => e = .returned (.tuple #[.agg #[.int .i64 b.id, .int .i64 b.clock, .int .i64 b.soft, .int .i64 b.hard, .bool b.lazy], .bool true]) ∧ QHas w' P (l) k ∧ Only P.F W3 w' from by
                    have C := QHas_due HP.out.1.s.q a.now
                    rw [show dueB (b :: l) a.now = true from (by show (!nev b.soft && _) = true; rw [en, decide_eq_true hc]; rfl)] at C
                    exact C)
                  clear HRA
                  go_wp2_with fail
                  refine HC.out.mono ?_
                  rintro e W4 ⟨rfl, h4, o4⟩
                  have H4 := (HP.out.1.goes h4 o4).alloc (.cells #[.int .i64 b.id, .int .i64 b.clock, .int .i64 b.soft, .int .i64 b.hard, .bool b.lazy] 65)
                  have b4 := Blk.new W4 65 #[.int .i64 b.id, .int .i64 b.clock, .int .i64 b.soft, .int .i64 b.hard, .bool b.lazy]
                  have x4 := (o4.blk HP.out.2.1 hXF).alloc (.cells #[.int .i64 b.id, .int .i64 b.clock, .int .i64 b.soft, .int .i64 b.hard, .bool b.lazy] 65)
                  clear HC h4 o4 a6
                  go_upto_region 31 with fail
                  generalize W4.alloc (.cells #[.int .i64 b.id, .int .i64 b.clock, .int .i64 b.soft, .int .i64 b.hard, .bool b.lazy] 65) = W5 at H4 b4 x4 ⊢
                  generalize W4.heap.size = gb at b4 ⊢
                  have PD := H4.drew
                  obtain ⟨f0, f1, f2, f3, f4⟩ := rsl_tm PD.r (j := 0) (a := b) rfl
                  simp only [Nat.zero_mul, Nat.add_zero] at f0 f1 f2 f3 f4
                  have a6 : W5.drew.cell? ⟨X, 6, none⟩ = some (.int .i64 a.now) := x4.drew.cell 6
                  have HH4 := Lib.hid (And.intro PD b4.drew)
                  clear H4 b4 x4 PD
                  refine wp_region_still_tail 18 (by kernel_rfl) (by kernel_rfl) ?_
                  change wpStill _ _ W5.drew (fun a' => wpList _ _ _ _ a' W5.drew) _ _
                  generalize W5.drew = V at f0 f1 f2 f3 f4 a6 HH4 ⊢
                  simp only [List.take_succ_cons, List.take_zero, List.drop_succ_cons, List.drop_zero]
                  still_step
                  still_step
                  still_step
                  still_step
                  still_step
                  still_step
                  still_step
                  still_step
                  still_step
                  still_step
                  still_step
                  still_step
                  still_step
                  still_step
                  still_step
                  still_call ((rclamp_any _ _).mono fun e w' h => ⟨h.1, h.2.symm⟩)
                  still_step
                  still_step
                  refine wpStill_nil ?_
                  clear a6 f0 f1 f2 f3 f4
                  go_wp2_with fail
                  refine (rclamp_any _ _).mono ?_
                  rintro e wz ⟨rfl, rfl⟩
                  all_goals
                    go_upto_region 32 with fail
                    obtain ⟨f0, f1, f2, f3, f4⟩ := rsl_tm HH4.out.1.r (j := 0) (a := b) rfl
                    simp only [Nat.zero_mul, Nat.add_zero] at f0 f1 f2 f3 f4
                    have b5 := HH4.out.2
                    have g0 : V.cell? ⟨gb, 0, none⟩ = some (.int .i64 b.id) := b5.cell 0
                    have g1 : V.cell? ⟨gb, 1, none⟩ = some (.int .i64 b.clock) := b5.cell 1
                    have g2 : V.cell? ⟨gb, 2, none⟩ = some (.int .i64 b.soft) := b5.cell 2
                    have g3 : V.cell? ⟨gb, 3, none⟩ = some (.int .i64 b.hard) := b5.cell 3
                    have g4 : V.cell? ⟨gb, 4, none⟩ = some (.bool b.lazy) := b5.cell 4
                    clear b5
                    go_quiet (fail)
                    clear f0 f1 f2 f3 f4 g0 g1 g2 g3 g4
                    have H6 := HH4.out.1.drewN nq
                    generalize V.drewN nq = W6 at H6 ⊢
                    have hcp := (rsl_cap H6.r).2
                    have H7 := H6.rowed (rsl_drop (k := 1) H6.r (by simp))
                    have HH7 := Lib.hid H7
                    have hc1 : 1 ≤ rc := by simp at hcp; omega
                    clear H6 H7
                    go_wp2_with fail
                    all_goals
                      go_meet
                      refine ⟨l, ?_⟩
                      have h9 := HH7.out.mono (M' := ((k + 1 : Nat) : Int)) (by omega)
                      have e9 : Option.map (fun x : Addr => x.add (1 * 5)) (some ⟨q, o, none⟩) = some ⟨q, o + 5, none⟩ := by show some ((⟨q, o, none⟩ : Addr).add (1 * 5)) = _; rw [add0]
                      rw [e9] at h9
                      first
                        | (rw [if_pos (by assumption)] at h9; exact h9)
                        | (rw [if_neg (by assumption)] at h9; exact h9)
                        | (have hrc : rc = 1 := by assumption
                           rw [if_pos hrc, hrc] at h9; exact h9)
                · have HC := Lib.hid (show Calls Try.prog 32 #[P.v, .int .i64 a.now] W3 fun e w' => e = .returned (.tuple #[.agg #[.int .i64 0, .int .i64 0, .int .i64 0, .int .i64 0, .bool false], .bool false]) ∧ QHas w' P (b :: l) k ∧ Only P.F W3 w' from by
                    have C := QHas_due HP.out.1.s.q a.now
                    rw [show dueB (b :: l) a.now = false from (by show (!nev b.soft && _) = false; rw [en, decide_eq_false hc]; rfl)] at C
                    exact C)
                  clear HRA
                  go_wp2_with fail
                  refine HC.out.mono ?_
                  rintro e W4 ⟨rfl, h4, o4⟩
                  have H4 := (HP.out.1.goes h4 o4).alloc (.cells #[.int .i64 0, .int .i64 0, .int .i64 0, .int .i64 0, .bool false] 65)
                  have b4 := Blk.new W4 65 #[.int .i64 0, .int .i64 0, .int .i64 0, .int .i64 0, .bool false]
                  have x4 := (o4.blk HP.out.2.1 hXF).alloc (.cells #[.int .i64 0, .int .i64 0, .int .i64 0, .int .i64 0, .bool false] 65)
                  clear HC h4 o4 a6
                  go_upto_region 31 with fail
                  generalize W4.alloc (.cells #[.int .i64 0, .int .i64 0, .int .i64 0, .int .i64 0, .bool false] 65) = W5 at H4 b4 x4 ⊢
                  generalize W4.heap.size = gb at b4 ⊢
                  have PD := H4.drew
                  obtain ⟨f0, f1, f2, f3, f4⟩ := rsl_tm PD.r (j := 0) (a := b) rfl
                  simp only [Nat.zero_mul, Nat.add_zero] at f0 f1 f2 f3 f4
                  have a6 : W5.drew.cell? ⟨X, 6, none⟩ = some (.int .i64 a.now) := x4.drew.cell 6
                  have HH4 := Lib.hid (And.intro PD b4.drew)
                  clear H4 b4 x4 PD
                  refine wp_region_still_tail 18 (by kernel_rfl) (by kernel_rfl) ?_
                  change wpStill _ _ W5.drew (fun a' => wpList _ _ _ _ a' W5.drew) _ _
                  generalize W5.drew = V at f0 f1 f2 f3 f4 a6 HH4 ⊢
                  simp only [List.take_succ_cons, List.take_zero, List.drop_succ_cons, List.drop_zero]
                  still_step
                  still_step
                  still_step
                  still_step
                  still_step
                  still_step
                  still_step
                  still_step
                  still_step
                  still_step
                  still_step
                  still_step
                  still_step
                  still_step
                  still_step
                  still_call ((rclamp_any _ _).mono fun e w' h => ⟨h.1, h.2.symm⟩)
                  still_step
                  still_step
                  refine wpStill_nil ?_
                  clear a6 f0 f1 f2 f3 f4
                  go_wp2_with fail
                  refine (rclamp_any _ _).mono ?_
                  rintro e wz ⟨rfl, rfl⟩
                  all_goals
                    go_upto_region 32 with fail
                    go_quiet (fail)
                    go_wp2_with fail
                    go_meet
                    exact ⟨b :: l, (HH4.out.1.drewN _).mono (by omega)⟩
      case rest =>
        as_aux_lemma =>
          obtain ⟨row', H1⟩ := hcut
          clear HP a0 a1 a2 a3 a4 a5 a6 hXF hX2 h3 hak hTl
          have hTl : row'.length ≤ 64 := H1.s.q.len
          have HAl := Lib.hid (QHas_all H1.s.q)
          have HH1 := Lib.hid H1
          clear H1
          go_wp2_with fail
          refine HAl.out.mono ?_
          rintro e W4 ⟨v14, rfl, ho, b4⟩
          have H4 := HH1.out.call b4
          have HF := Lib.hid (QHas_first H4.s.q)
          have HH4 := Lib.hid (And.intro H4 (rsl_mono (rsl_own ho) HH1.out.d.2.2))
          clear ho b4 HH1 HAl H4
          obtain ⟨RA, rc, rfl, hRA⟩ := rsl_parts HH4.out.1.r
          obtain ⟨VA, vc, rfl, hVA⟩ := rsl_parts HH4.out.2
          have HRA := Lib.hid (And.intro hRA hVA)
          clear hRA hVA
          obtain ⟨n, hn⟩ : ∃ n, row'.length = n := ⟨_, rfl⟩
          rw [hn] at HRA HH4 ⊢
          have hlen := Lib.hid (fun (W : World) (h : QHas W P row' ((k + 1 : Nat) : Int)) => QHas_len h)
          simp only [hn] at hlen
          cases row' with
          | nil =>
            have hn0 : n = 0 := hn.symm
            subst hn0
            have HC := Lib.hid (show Calls Try.prog 35 #[P.v] W4 fun e w' => e = .returned (.tuple #[.agg #[.int .i64 0, .int .i64 0, .int .i64 0, .int .i64 0, .bool false], .bool false]) ∧ Below W4.heap.size W4 w' from HF.out)
            go_wp2_with fail
            refine HC.out.mono ?_
            rintro e W5 ⟨rfl, b5⟩
            have H5 := Lib.hid ((HH4.out.1.call b5).alloc (.cells #[.int .i64 0, .int .i64 0, .int .i64 0, .int .i64 0, .bool false] 65))
            clear HC HF b5 HH4
            go_upto_region 38 with fail
            generalize W5.alloc (.cells #[.int .i64 0, .int .i64 0, .int .i64 0, .int .i64 0, .bool false] 65) = W6 at H5 ⊢
            go_quiet ((go_at_call 36; exact quiet_left (hlen.out _ (H5.out.drewN _).s.q)))
            have H6 := Lib.hid (H5.out.drewN nq)
            clear H5
            generalize W6.drewN nq = W7 at H6 ⊢
            go_wp2_with fail
            go_loopg [186] 0 (fun m s186 wr => s186 = .int .i64 0 ∧ LMd w wr P [] base (.slice RA 0 rc) [] ((k + 1 : Nat) : Int))
            case atStart => exact ⟨rfl, H6.out⟩
            case round =>
              obtain ⟨rfl, HJ⟩ := hrel
              have HJ2 := Lib.hid HJ
              clear HJ H6
              go_wp2_with fail
              go_roundg (N - (k + 1))
              case measure => omega
              case rel => exact ⟨k + 1, [], by omega, rfl, by go_num, HJ2.out⟩
          | cons b l =>
            have hn0 : 0 < n := by simp at hn; omega
            have hl0 : (0 : Int) < ((n : Nat) : Int) := by omega
            obtain ⟨q, o, rfl⟩ := HRA.out.1 0 hn0
            obtain ⟨q2, o2, rfl⟩ := HRA.out.2 0 hn0
            have HC := Lib.hid (show Calls Try.prog 35 #[P.v] W4 fun e w' => e = .returned (.tuple #[.agg #[.int .i64 b.id, .int .i64 b.clock, .int .i64 b.soft, .int .i64 b.hard, .bool b.lazy], .bool true]) ∧ Below W4.heap.size W4 w' from HF.out)
            clear HRA
            go_wp2_with fail
            refine HC.out.mono ?_
            rintro e W5 ⟨rfl, b5⟩
            have H5 := (HH4.out.1.call b5).alloc (.cells #[.int .i64 b.id, .int .i64 b.clock, .int .i64 b.soft, .int .i64 b.hard, .bool b.lazy] 65)
            have V5 := rsl_alloc (rsl_below HH4.out.2 b5) (.cells #[.int .i64 b.id, .int .i64 b.clock, .int .i64 b.soft, .int .i64 b.hard, .bool b.lazy] 65)
            have B5 := Blk.new W5 65 #[.int .i64 b.id, .int .i64 b.clock, .int .i64 b.soft, .int .i64 b.hard, .bool b.lazy]
            clear HC HF b5 HH4
            go_upto_region 38 with fail
            generalize W5.alloc (.cells #[.int .i64 b.id, .int .i64 b.clock, .int .i64 b.soft, .int .i64 b.hard, .bool b.lazy] 65) = W6 at H5 V5 B5 ⊢
            generalize W5.heap.size = gb at B5 ⊢
            have g0 : W6.cell? ⟨gb, 0, none⟩ = some (.int .i64 b.id) := B5.cell 0
            have g1 : W6.cell? ⟨gb, 1, none⟩ = some (.int .i64 b.clock) := B5.cell 1
            have g2 : W6.cell? ⟨gb, 2, none⟩ = some (.int .i64 b.soft) := B5.cell 2
            have g3 : W6.cell? ⟨gb, 3, none⟩ = some (.int .i64 b.hard) := B5.cell 3
            have g4 : W6.cell? ⟨gb, 4, none⟩ = some (.bool b.lazy) := B5.cell 4
            obtain ⟨f0, f1, f2, f3, f4⟩ := rsl_tm H5.r (j := 0) (a := b) rfl
            simp only [Nat.zero_mul, Nat.add_zero] at f0 f1 f2 f3 f4
            have HH5 := Lib.hid (And.intro H5 V5)
            clear H5 V5 B5
            go_quiet ((go_at_call 36; exact quiet_left (hlen.out _ (HH5.out.1.drewN _).s.q)))
            clear g0 g1 g2 g3 g4 f0 f1 f2 f3 f4
            have S2 := Lib.hid (show QIn w P (b :: l) base (.slice (some ⟨q, o, none⟩) n rc) (.slice (some ⟨q2, o2, none⟩) n vc) ((k + 1 : Nat) : Int) n (.int .i64 (0 : Nat)) (W6.drewN nq) from ⟨0, by omega, by omega, rfl, HH5.out.1.drewN nq, rsl_drewN HH5.out.2 nq⟩)
            clear HH5
            generalize W6.drewN nq = W7 at S2 ⊢
            go_wp2_with fail
            go_loopg [186] n (fun m s186 wr => QIn w P (b :: l) base (.slice (some ⟨q, o, none⟩) n rc) (.slice (some ⟨q2, o2, none⟩) n vc) ((k + 1 : Nat) : Int) m s186 wr)
            case atStart => exact S2.out
            case round =>
              obtain ⟨j, hj, rfl, rfl, HJ, VJ⟩ := hrel
              clear S2
              by_cases hjl : j < n
              · obtain ⟨c, hc⟩ : ∃ c, (b :: l)[j]? = some c := ⟨(b :: l)[j], List.getElem?_eq_getElem (by omega)⟩
                obtain ⟨f0, f1, f2, f3, f4⟩ := rsl_tm HJ.r hc
                have hcm : c ∈ b :: l := List.mem_of_getElem? hc
                have H8 := HJ.alloc (.cells #[.int .i64 c.id, .int .i64 c.clock, .int .i64 c.soft, .int .i64 c.hard, .bool c.lazy] 65)
                have V8 := rsl_alloc VJ (.cells #[.int .i64 c.id, .int .i64 c.clock, .int .i64 c.soft, .int .i64 c.hard, .bool c.lazy] 65)
                have B8 := Blk.new wr 65 #[.int .i64 c.id, .int .i64 c.clock, .int .i64 c.soft, .int .i64 c.hard, .bool c.lazy]
                clear HJ VJ
                go_upto_region 43 with fail
                clear f0 f1 f2 f3 f4
                generalize wr.alloc (.cells #[.int .i64 c.id, .int .i64 c.clock, .int .i64 c.soft, .int .i64 c.hard, .bool c.lazy] 65) = W8 at H8 V8 B8 ⊢
                generalize wr.heap.size = ib at B8 ⊢
                have PD := H8.drew
                have VD : RSl W8.drew base (.slice (some ⟨q2, o2, none⟩) n vc) (b :: l) := rsl_drewN V8 1
                obtain ⟨v0, v1, v2, v3, v4⟩ := rsl_tm VD hc
                have g0 : W8.drew.cell? ⟨ib, 0, none⟩ = some (.int .i64 c.id) := B8.drew.cell 0
                have g1 : W8.drew.cell? ⟨ib, 1, none⟩ = some (.int .i64 c.clock) := B8.drew.cell 1
                have g2 : W8.drew.cell? ⟨ib, 2, none⟩ = some (.int .i64 c.soft) := B8.drew.cell 2
                have g3 : W8.drew.cell? ⟨ib, 3, none⟩ = some (.int .i64 c.hard) := B8.drew.cell 3
                have g4 : W8.drew.cell? ⟨ib, 4, none⟩ = some (.bool c.lazy) := B8.drew.cell 4
                have HHs := Lib.hid (QHas_has PD.s.q c.id (PD.s.q.wf hcm))
                rw [hasT_mem hcm] at HHs
                have HPD := Lib.hid (And.intro PD VD)
                clear PD VD H8 V8 B8 hc hcm
                refine wp_region_still_tail 10 (by kernel_rfl) (by kernel_rfl) ?_
                change wpStill _ _ W8.drew (fun a' => wpList _ _ _ _ a' W8.drew) _ _
                generalize W8.drew = V at v0 v1 v2 v3 v4 g0 g1 g2 g3 g4 HHs HPD ⊢
                simp only [List.take_succ_cons, List.take_zero, List.drop_succ_cons, List.drop_zero]
                still_step
                still_step
                still_step
                still_step
                still_step
                still_step
                still_step
                still_step
                still_step
                still_step
                refine wpStill_nil ?_
                clear v0 v1 v2 v3 v4 g0 g1 g2 g3 g4
                go_wp2_with fail
                refine HHs.out.mono ?_
                rintro e W9 ⟨rfl, b9⟩
                have H9 := Lib.hid (And.intro (HPD.out.1.call b9) (rsl_below HPD.out.2 b9))
                clear HPD HHs b9
                go_wp2_with fail
                go_roundg (n - (j + 1))
                case measure => omega
                case rel => exact ⟨j + 1, by omega, by omega, by go_num, H9.out.1, H9.out.2⟩
              · have hje : j = n := by omega
                subst hje
                have HJ2 := Lib.hid HJ
                clear HJ VJ
                go_wp2_with fail
                go_roundg (N - (k + 1))
                case measure => omega
                case rel => exact ⟨k + 1, b :: l, by omega, rfl, by go_num, HJ2.out⟩
    · have hke : k = N := by omega
      subst hke
      have HB := Lib.hid HS
      clear HS
      go_wp2_with fail
      go_ret
      exact ⟨rfl, HB.out.s.b⟩
theorem queuePlays_walk (A : Option Addr) (N cap : Nat) (w : World) (hr : Leaf.Row w [.int .u8, .int .i64, .int .i64, .int .i64, .int .i64, .bool, .int .i64] A N) :
    Calls Try.prog 7 #[.slice A N cap] w fun e w' => e = .returned (.bool true) ∧ Below w.heap.size w w' := by
  by_cases h : 150 < N
  · exact queuePlays_big A N cap h (len_in hr) w
  · exact queuePlays_any A N cap (by omega) w (actsQ_of hr)
end Go.Proofs.Ytfoigflgglpobaa.Q
