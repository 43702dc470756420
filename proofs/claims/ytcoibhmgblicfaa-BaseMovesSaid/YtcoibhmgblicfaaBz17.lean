/- Lemmas and contracts for RowBaseMoves, merged by program out of Bs. No condition. -/
import Derived.Test.YtcoibhmgblicfaaBz16
import Derived.BigQuiet
import Derived.StillTailTactics
import Derived.Deep.RegionLaw
set_option linter.unusedVariables false
set_option linter.unusedSimpArgs false
/- BaseMoves: timers that are taken out, and come into another base, in order, come there in the same order: the walk. No condition. -/
set_option linter.unusedVariables false
set_option linter.unusedSimpArgs false
namespace Go.Proofs.Ytcoibhmgblicfaa.Ba
open Go.RowKit Go.Proofs.Ytcoibhmgblicfaa.Aid Go.Proofs.Ytcoibhmgblicfaa.Tr Go.Proofs.Ytcoibhmgblicfaa.Kt Go.Proofs.Ytcoibhmgblicfaa.Q
set_option maxHeartbeats 400000 in
set_option maxRecDepth 100000 in
theorem baseMoves_big (A : Option Addr) (N cap : Nat) (off : Nat → Int) (hN : 50 < N) (hmx : N ≤ maxLen) (w : World) : Calls Try.prog 4 #[.slice A N cap, .agg (three off)] w fun e w' => e = .returned (.bool true) ∧ Below w.heap.size w w' := by
  have d : decide (((N : Nat) : Int) > 50) = true := decide_eq_true (by omega)
  have B0 := (Below.refl w.heap.size w).alloc (Nat.le_refl _) (.cells (three off) 23)
  unfold three at B0
  unfold three
  go_enter Try.func4, Try.ntmps4
  go_wp2_with fail
  refine (bfixed_any _).mono ?_
  rintro e w1 ⟨rfl, b1⟩
  have HB := Lib.hid (B0.trans (b1.mono B0.size))
  clear b1 B0
  go_wp2_with fail
  go_ret
  exact ⟨rfl, HB.out⟩
set_option maxHeartbeats 8000000 in
set_option maxRecDepth 100000 in
theorem baseMoves_any (A : Option Addr) (N cap : Nat) (off : Nat → Int) (hN : N ≤ 50) (w : World) (hin : TmsB w w.heap.size A N) : Calls Try.prog 4 #[.slice A N cap, .agg (three off)] w fun e w' => e = .returned (.bool true) ∧ Below w.heap.size w w' := by
  have d : decide (((N : Nat) : Int) > 50) = false := decide_eq_false (by omega)
  have HK := Lib.hid hin
  have B0 := (Below.refl w.heap.size w).alloc (Nat.le_refl _) (.cells (three off) 23)
  have F0 := Blk.new w 23 (three off)
  clear hin
  unfold three at B0 F0
  unfold three
  go_enter Try.func4, Try.ntmps4
  go_upto_region 1 with fail
  generalize w.alloc (.cells #[.int .i64 (off 0), .int .i64 (off 1), .int .i64 (off 2)] 23) = V0 at B0 F0 ⊢
  obtain ⟨OB, hOB⟩ : ∃ q, w.heap.size = q := ⟨_, rfl⟩
  have HOB := Lib.hid hOB
  rw [hOB] at F0 ⊢
  clear hOB
  go_wp2_with fail
  refine (bfixed_any V0).mono ?_
  rintro e V1 ⟨rfl, b1⟩
  have F1 := F0.below b1 F0.lt
  have B1 := B0.trans (b1.mono B0.size)
  clear B0 F0 b1
  go_wp2_with fail
  refine (new_any V1).mono ?_
  rintro e W1 ⟨a, Pa, rfl, ha, fa, ba⟩
  have F2 := F1.below ba F1.lt
  have SA := (show BSt w W1 a Pa (fun _ => []) 0 from ⟨ha, B1.trans (ba.mono B1.size), fun x hx => Nat.le_trans B1.size (fa x hx)⟩)
  have lA := fun x (hx : BF a Pa x) => ha.foot_lt hx
  have nA : ¬ BF a Pa OB := fun e => by have := fa _ e; have := F1.lt; omega
  clear ha fa ba B1 F1
  go_wp2_with fail
  refine (new_any W1).mono ?_
  rintro e W2 ⟨b, Pb, rfl, hb, fb, bb⟩
  have F3 := F2.below bb F2.lt
  have SA2 := SA.call bb
  have SB := (show BSt w W2 b Pb (fun _ => []) 0 from ⟨hb, SA2.bl, fun x hx => Nat.le_trans SA.bl.size (fb x hx)⟩)
  have lB := fun x (hx : BF b Pb x) => hb.foot_lt hx
  have nB : ¬ BF b Pb OB := fun e => by have := fb _ e; have := F2.lt; omega
  have dAB : ∀ x, BF a Pa x → ¬ BF b Pb x := fun x h1 h2 => by have := lA x h1; have := fb x h2; omega
  have s12 := bb.size
  clear hb fb bb F2 SA
  go_wp2_with fail
  refine (new_any W2).mono ?_
  rintro e W3 ⟨c, Pc, rfl, hc, fc, bc⟩
  have s23 := bc.size
  have S0 : T3 w W3 a b c Pa Pb Pc (fun _ => []) (fun _ => []) (fun _ => []) W3.heap.size OB off (0 : Nat) :=
    ⟨SA2.call bc, SB.call bc, ⟨hc, (SB.call bc).bl, fun x hx => Nat.le_trans SB.bl.size (fc x hx)⟩, dAB,
      fun x h1 h2 => by have := lA x h1; have := fc x h2; omega, fun x h1 h2 => by have := lB x h1; have := fc x h2; omega, F3.below bc F3.lt,
      fun x hx => by have := lA x hx; omega, fun x hx => by have := lB x hx; omega, fun x hx => hc.foot_lt hx, (SB.call bc).bl.size, Nat.le_refl _, nA, nB, fun e => by have := fc _ e; have := F3.lt; omega⟩
  have S := Lib.hid (show L1 w a b c Pa Pb Pc W3.heap.size OB off N N (.int .i64 (0 : Nat)) W3 from ⟨0, fun _ => [], by omega, rfl, rfl, GI.nil, by simp [rowsU], S0⟩)
  clear hc fc bc F3 S0 SA2 SB lA lB nA nB dAB s12 s23 d
  generalize W3.heap.size = base at S
  go_upto_block 0 with fail
  go_cut [] (fun wx => ∃ R, GI R ∧ (rowsU R 6).length ≤ 50 ∧ T3 w wx a b c Pa Pb Pc R R (fun _ => []) base OB off 50)
  case first =>
    as_aux_lemma =>
      go_wp2_with fail
      go_loopg [29] N (fun m s29 wr => L1 w a b c Pa Pb Pc base OB off N m s29 wr)
      case atStart => exact S.out
      case round =>
        obtain ⟨k, R, hk, rfl, rfl, GR, hl, HS⟩ := hrel
        clear S
        by_cases hlt : k < N
        · obtain ⟨x, rfl, t, hid, hat⟩ := HK.out k hlt
          obtain ⟨q0, q1, q2, q3, q4⟩ := hat _ HS.sa.bl
          clear hat
          have hba := Blk.new wr 29 #[.int .i64 t.id, .int .i64 t.clock, .int .i64 t.soft, .int .i64 t.hard, .bool t.lazy]
          have H2 := HS.alloc (.cells #[.int .i64 t.id, .int .i64 t.clock, .int .i64 t.soft, .int .i64 t.hard, .bool t.lazy] 29)
          have nXa : ¬ BF a Pa wr.heap.size := fun e => Nat.lt_irrefl _ (HS.sa.h.foot_lt e)
          have nXb : ¬ BF b Pb wr.heap.size := fun e => Nat.lt_irrefl _ (HS.sb.h.foot_lt e)
          clear HS
          go_upto_region 9 with fail
          clear q0 q1 q2 q3 q4
          generalize wr.alloc (.cells #[.int .i64 t.id, .int .i64 t.clock, .int .i64 t.soft, .int .i64 t.hard, .bool t.lazy] 29) = W2 at hba H2 ⊢
          generalize wr.heap.size = X at hba nXa nXb ⊢
          have hD := H2.drew
          have CA := start_any W2.drew hD.sa.h t hid (by omega)
          have CB := fun (W : World) (H : BHas W b Pb R ((k : Nat) : Int)) => start_any W H t hid (by omega)
          unfold Tm.agg at CA CB
          obtain ⟨E, hE⟩ : ∃ e, startE R t = e := ⟨_, rfl⟩
          rw [hE] at CA
          simp only [hE] at CB
          have xD := hba.drew
          obtain ⟨g0, g1, g2, g3, g4⟩ := bx5_cells (a := t) xD
          have HH := Lib.hid (And.intro hD (And.intro xD (And.intro nXa nXb)))
          have HCA := Lib.hid CA
          have HCB := Lib.hid CB
          have HG := Lib.hid (GR.start t)
          clear hba H2 hD CA CB xD hE nXa nXb
          have STEP := Lib.hid (fun (W5 : World) (h5 : BHas W5 a Pa (startR R t) (((k : Nat) : Int) + 1)) (o5 : Only (BF a Pa) W2.drew W5) => (⟨HH.out.1.goA h5 o5 (by omega), bx5_cells (a := t) (o5.blk HH.out.2.1 HH.out.2.2.1), (HH.out.1.sb.only o5 (fun x hx e => HH.out.1.dab x e hx) HH.out.1.sa.f).h⟩ : _ ∧ _ ∧ _))
          go_region_with (first
            | (with_reducible refine HCA.out.mono ?_; rintro e W5 ⟨rfl, h5, o5⟩; obtain ⟨H5, ⟨g0, g1, g2, g3, g4⟩, hb5⟩ := STEP.out W5 h5 o5)
            | (with_reducible refine (HCB.out _ hb5).mono ?_; rintro e W6 ⟨rfl, h6, o6⟩; have H6 := Lib.hid (H5.goB h6 o6 (by omega))))
          all_goals
            clear g0 g1 g2 g3 g4 hb5 H5 h5 o5 h6 o6 HCA HCB STEP HH
            go_wp2_with fail
            go_roundg (N - (k + 1))
            case measure => omega
            case rel => exact ⟨k + 1, startR R t, by omega, rfl, by go_num, HG.out.1, by have := HG.out.2; omega, H6.out.mono (by omega)⟩
        · have hke : k = N := by omega
          subst hke
          have HH := Lib.hid HS
          clear HS
          go_wp2_with fail
          go_meet
          exact ⟨R, GR, by omega, HH.out.mono (by omega)⟩
  case rest =>
    obtain ⟨R, GR, hl, H3⟩ := hcut
    clear S
    obtain ⟨n, hn⟩ : ∃ n, (rowsU R 6).length = n := ⟨_, rfl⟩
    have HN := Lib.hid hn
    have CA := all_any wc H3.sa.h
    rw [hn] at CA hl
    have HCA := Lib.hid CA
    have HF := Lib.hid (And.intro GR H3)
    clear CA hn GR H3
    go_wp2_with fail
    refine HCA.out.mono ?_
    rintro e W4 ⟨v42, rfl, ow, b4⟩
    obtain ⟨A2, p2, rfl⟩ := own_val ow
    have R5 : RSl W4 base (.slice A2 n p2) (rowsU R 6) := rsl_mono (rsl_own (by rw [HN.out]; exact ow)) (by have := HF.out.2.l1; omega)
    have S := Lib.hid (show L2 w a b c Pa Pb Pc base OB off R (.slice A2 n p2) n (.int .i64 (0 : Nat)) W4 from
      ⟨0, R, fun _ => [], Nat.zero_le _, by rw [HN.out]; rfl, rfl, HF.out.1.r, rfl, RI.nil, rfl, HF.out.2.call b4, R5⟩)
    clear R5 ow b4 HCA
    go_upto_block 2 with fail
    go_cut [] (fun wx => ∃ ra, rowsU ra 6 = [] ∧ T3 w wx a b c Pa Pb Pc ra R R base OB off 100)
    case first =>
      as_aux_lemma =>
        go_wp2_with fail
        go_loopg [44] n (fun m s44 wr => L2 w a b c Pa Pb Pc base OB off R (.slice A2 n p2) m s44 wr)
        case atStart => exact S.out
        case round =>
          obtain ⟨j, ra, rc, hj, rfl, rfl, Ra, ea, Rc, ec, HJ, VJ⟩ := hrel
          clear S
          rw [HN.out] at hj
          by_cases hjl : j < n
          · obtain ⟨t, ht⟩ : ∃ t, (rowsU R 6)[j]? = some t := ⟨_, List.getElem?_eq_getElem (by rw [HN.out]; exact hjl)⟩
            have hx : (rowsU R 6).drop j = t :: (rowsU R 6).drop (j + 1) := by
              have hj' : j < (rowsU R 6).length := by rw [HN.out]; exact hjl
              rw [List.drop_eq_getElem_cons hj']
              rw [List.getElem?_eq_getElem hj'] at ht
              injection ht with ht
              rw [ht]
            rw [hx] at ea
            obtain ⟨z0, z1, z2⟩ := put_last HF.out.1 Rc ec ht (by rw [HN.out]; exact hl)
            have hhb := has_head ea
            have hid : I64 t.id := by
              obtain ⟨i, hi, hm⟩ := mem_rowsU.1 (List.mem_of_getElem? ht)
              exact (HF.out.2.sa.h.q i hi).wf hm
            obtain ⟨q, o, rfl⟩ := rsl_head VJ (by rw [HN.out]; exact hjl)
            obtain ⟨f0, f1, f2, f3, f4⟩ := rsl_tm VJ ht
            have hba := Blk.new wr 29 #[.int .i64 t.id, .int .i64 t.clock, .int .i64 t.soft, .int .i64 t.hard, .bool t.lazy]
            have H2 := HJ.alloc (.cells #[.int .i64 t.id, .int .i64 t.clock, .int .i64 t.soft, .int .i64 t.hard, .bool t.lazy] 29)
            have V2 := rsl_alloc VJ (.cells #[.int .i64 t.id, .int .i64 t.clock, .int .i64 t.soft, .int .i64 t.hard, .bool t.lazy] 29)
            have nXa : ¬ BF a Pa wr.heap.size := fun e => Nat.lt_irrefl _ (HJ.sa.h.foot_lt e)
            have nXc : ¬ BF c Pc wr.heap.size := fun e => Nat.lt_irrefl _ (HJ.sc.h.foot_lt e)
            have HP := Lib.hid (And.intro Ra (And.intro ea (And.intro Rc (And.intro ec (And.intro z0 (And.intro z1 z2))))))
            clear HJ VJ ht hx Ra ea Rc ec z0 z1 z2
            go_upto_region 15 with fail
            clear f0 f1 f2 f3 f4
            generalize wr.alloc (.cells #[.int .i64 t.id, .int .i64 t.clock, .int .i64 t.soft, .int .i64 t.hard, .bool t.lazy] 29) = W5 at hba H2 V2 ⊢
            generalize wr.heap.size = X at hba nXa nXc ⊢
            have g0 : W5.cell? ⟨X, 0, none⟩ = some (.int .i64 t.id) := hba.cell 0
            have HC := Lib.hid (cancel_any W5 H2.sa.h t.id hid)
            have HH := Lib.hid (And.intro H2 (And.intro V2 (And.intro hba (And.intro nXa nXc))))
            clear H2 V2 hba nXa nXc
            go_wp2_with fail
            refine HC.out.mono ?_
            rintro e W6 ⟨gt, ok, rfl, hcn, o6⟩
            clear HC g0
            cases hcn with
            | no hy _ => exact absurd (hhb.symm.trans hy) (by simp)
            | yes i hi hy hbf h6 =>
              obtain ⟨y1, y2, y3⟩ := canc_head HP.out.1 HP.out.2.1 hi hy hbf
              rw [y1]
              unfold Tm.agg
              have H6 := (HH.out.1.goA h6 o6 (Int.le_refl _)).alloc (.cells #[.int .i64 t.id, .int .i64 t.clock, .int .i64 t.soft, .int .i64 t.hard, .bool t.lazy] 29)
              have V6 := rsl_alloc (rsl_only HH.out.2.1 o6 (fun x hx hF => by have := HH.out.1.la x hF; omega)) (.cells #[.int .i64 t.id, .int .i64 t.clock, .int .i64 t.soft, .int .i64 t.hard, .bool t.lazy] 29)
              have x6 := (o6.blk HH.out.2.2.1 HH.out.2.2.2.1).alloc (.cells #[.int .i64 t.id, .int .i64 t.clock, .int .i64 t.soft, .int .i64 t.hard, .bool t.lazy] 29)
              have b6 := Blk.new W6 29 #[.int .i64 t.id, .int .i64 t.clock, .int .i64 t.soft, .int .i64 t.hard, .bool t.lazy]
              have HY := Lib.hid (And.intro y2 y3)
              have nXc := HH.out.2.2.2.2
              clear y1 y2 y3 hy hbf h6 o6 HH hhb
              go_upto_region 16 with fail
              generalize W6.alloc (.cells #[.int .i64 t.id, .int .i64 t.clock, .int .i64 t.soft, .int .i64 t.hard, .bool t.lazy] 29) = W7 at H6 V6 x6 b6 ⊢
              generalize W6.heap.size = X2 at b6 ⊢
              obtain ⟨g0, g1, g2, g3, g4⟩ := bx5_cells (a := t) x6
              obtain ⟨k0, k1, k2, k3, k4⟩ := bx5_cells (a := t) b6
              have CC := start_any W7 H6.sc.h t hid (by omega)
              rw [HP.out.2.2.2.2.1] at CC
              unfold Tm.agg at CC
              have HC := Lib.hid CC
              have HH := Lib.hid (And.intro H6 V6)
              clear CC H6 V6 x6 b6
              go_wp2_with fail
              refine HC.out.mono ?_
              rintro e W8 ⟨rfl, h8, o8⟩
              have H8 := Lib.hid (And.intro (HH.out.1.goC h8 o8 (by omega)) (rsl_only HH.out.2 o8 (fun x hx hF => by have := HH.out.1.lc x hF; omega)))
              clear HC h8 o8 HH g0 g1 g2 g3 g4 k0 k1 k2 k3 k4
              go_wp2_with fail
              go_roundg (n - (j + 1))
              case measure => have := HN.out; omega
              case rel => exact ⟨j + 1, _, startR rc t, by rw [HN.out]; omega, by rw [HN.out], by go_num, HY.out.2, HY.out.1, HP.out.2.2.2.2.2.2, HP.out.2.2.2.2.2.1, H8.out.1.mono (by omega), H8.out.2⟩
          · have hje : j = n := by omega
            subst hje
            have e1 : rowsU ra 6 = [] := by rw [ea, ← HN.out, List.drop_length]
            have e2 : rowsU rc 6 = rowsU R 6 := by rw [ec, ← HN.out, List.take_length]
            have HH := Lib.hid (And.intro e1 ((HJ.congrC (rows_eq Rc HF.out.1.r e2)).mono (M' := 100) (by omega)))
            clear HJ VJ e1 e2 ea ec
            go_wp2_with fail
            go_meet
            exact ⟨ra, HH.out.1, HH.out.2⟩
    case rest =>
      obtain ⟨ra, era, H4⟩ := hcut
      clear S HF
      have hbb := Blk.new wc 4 #[.bool false, .bool true]
      have H5 := H4.alloc (.cells #[.bool false, .bool true] 4)
      have hHB : base ≤ wc.heap.size := H4.l1
      clear H4
      go_upto_block 4 with fail
      generalize wc.alloc (.cells #[.bool false, .bool true] 4) = W5 at hbb H5 ⊢
      generalize wc.heap.size = HB at hbb hHB ⊢
      have S := Lib.hid (show L3 w a b c Pa Pb Pc base OB off ra R HB 2 (.int .i64 (0 : Nat)) W5 from ⟨0, by omega, rfl, rfl, H5, hbb⟩)
      clear hbb H5
      go_cut [] (fun wx => ∃ R', T3 w wx a b c Pa Pb Pc ra R' R' base OB off 100)
      case first =>
        as_aux_lemma =>
          go_wp2_with fail
          go_loopg [71] 2 (fun m s71 wr => L3 w a b c Pa Pb Pc base OB off ra R HB m s71 wr)
          case atStart => exact S.out
          case round =>
            obtain ⟨k, hk, rfl, rfl, HJ, hb⟩ := hrel
            clear S
            by_cases hk2 : k < 2
            · rcases (by omega : k = 0 ∨ k = 1) with rfl | rfl
              · have hle := lenU_le HJ.sb.h 6 (Nat.le_refl _)
                have hlt := lenU_mono (expT_le (XR R off 0) off false) 6
                rw [← rowsU_len] at hlt
                have hD := HJ.drew
                have hbD := hb.drew
                have CB := expire_any wr.drew hD.sb.h off false
                have CC := fun W (H : BHas W c Pc (XR R off 0) 100) => expire_any W H off false
                have e0 := hb.cell 0
                have HE := Lib.hid (And.intro hD (And.intro hbD (And.intro hHB (And.intro hle hlt))))
                have o9 := off_cells hD.f
                clear hk hk2 HJ hb hle hlt hD hbD
                generalize hL : rowsU (expT (XR R off 0) off false) 6 = l at CB CC HE
                clear hL
                obtain ⟨n, hn⟩ : ∃ n, l.length = n := ⟨_, rfl⟩
                have HN := Lib.hid hn
                rw [hn] at CB
                simp only [hn] at CC
                unfold three at CB CC
                have HCB := Lib.hid CB
                have HCC := Lib.hid CC
                have STEP := Lib.hid (fun (W5 : World) (h5 : BHas W5 b Pb (expR (XR R off 0) off false) 100) (o5 : Only (BF b Pb) wr.drew W5) => (⟨HE.out.1.goB h5 o5 (Int.le_refl _), off_cells (o5.blk HE.out.1.f HE.out.1.nb), (HE.out.1.sc.only o5 (fun x hx e => HE.out.1.dbc x e hx) HE.out.1.sb.f).h⟩ : _ ∧ _ ∧ _))
                clear CB CC hn
                go_upto_region 22 with fail
                go_cut [16, 17] (fun s16 s17 wx => T3 w wx a b c Pa Pb Pc ra (XR R off (0 + 1)) (XR R off (0 + 1)) base OB off 100 ∧ Blk wx HB 4 #[.bool false, .bool true] ∧ RSl wx base s16 l ∧ RSl wx base s17 l)
                case first =>
                  obtain ⟨o0, o1, o2⟩ := o9
                  clear e0
                  go_region_with (first
                    | (with_reducible refine HCB.out.mono ?_; rintro e W5 ⟨v5, rfl, h5, ow5, o5⟩; obtain ⟨A5, p5, rfl⟩ := own_val ow5; obtain ⟨H5, ⟨o0, o1, o2⟩, hc5⟩ := STEP.out W5 h5 o5)
                    | (with_reducible refine (HCC.out _ hc5).mono ?_; rintro e W6 ⟨v6, rfl, h6, ow6, o6⟩; obtain ⟨A6, p6, rfl⟩ := own_val ow6; have H6 := H5.goC h6 o6 (Int.le_refl _)))
                  all_goals
                    have hbs := HE.out.1.l1
                    have R5 : RSl W5 base (.slice A5 n p5) l := rsl_mono (rsl_own (by rw [HN.out]; exact ow5)) (by omega)
                    have R6 : RSl W6 base (.slice A6 n p6) l := rsl_mono (rsl_own (by rw [HN.out]; exact ow6)) (by have := H5.l1; omega)
                    have R7 := rsl_only R5 o6 (fun x hx hF => by have := H5.lc x hF; omega)
                    have b5 := o5.blk HE.out.2.1 (fun e => by have := HE.out.1.lb _ e; have := HE.out.2.2.1; omega)
                    have b6 := o6.blk b5 (fun e => by have := H5.lc _ e; have := HE.out.2.2.1; omega)
                    have FIN := Lib.hid (And.intro H6 (And.intro b6 (And.intro R7 R6)))
                    clear o0 o1 o2 H5 hc5 h5 o5 h6 o6 ow5 ow6 R5 R6 R7 b5 b6 H6 HCB HCC STEP
                    go_wp2_with fail
                    go_meet
                    exact ⟨FIN.out.1, FIN.out.2.1, FIN.out.2.2.1, FIN.out.2.2.2⟩
                case rest =>
                  obtain ⟨H6, b6, R6, R7⟩ := hcut
                  have hl400 : n ≤ 400 := by have := HE.out.2.2.2; have := HN.out; omega
                  obtain ⟨A6, c6, rfl, h6⟩ := rsl_parts R6
                  obtain ⟨A7, c7, rfl, h7⟩ := rsl_parts R7
                  rw [HN.out] at h6 h7 R6 R7 ⊢
                  have S := Lib.hid (show L4 w a b c Pa Pb Pc base OB off ra (XR R off (0 + 1)) HB (.slice A6 n c6) (.slice A7 n c7) l n (.int .i64 (0 : Nat)) wc from ⟨0, Nat.zero_le _, by rw [HN.out]; rfl, rfl, H6, b6, R6, R7⟩)
                  clear H6 b6 R6 R7 h6 h7 e0 o9 HCB HCC STEP HE
                  go_wp2_with fail
                  go_loopg [90] n (fun m s90 wr => L4 w a b c Pa Pb Pc base OB off ra (XR R off (0 + 1)) HB (.slice A6 n c6) (.slice A7 n c7) l m s90 wr)
                  case atStart => exact S.out
                  case round =>
                    obtain ⟨j, hj, rfl, rfl, Hj, bj, R6, R7⟩ := hrel
                    clear S
                    rw [HN.out] at hj
                    by_cases hjl : j < n
                    · obtain ⟨t, ht⟩ : ∃ t, l[j]? = some t := ⟨_, List.getElem?_eq_getElem (by rw [HN.out]; exact hjl)⟩
                      obtain ⟨q6, o6, rfl⟩ := rsl_head R6 (by rw [HN.out]; exact hjl)
                      obtain ⟨q7, o7, rfl⟩ := rsl_head R7 (by rw [HN.out]; exact hjl)
                      obtain ⟨f0, f1, f2, f3, f4⟩ := rsl_tm R6 ht
                      obtain ⟨g0, g1, g2, g3, g4⟩ := rsl_tm R7 ht
                      have HH := Lib.hid (And.intro Hj (And.intro bj (And.intro R6 R7)))
                      clear Hj bj R6 R7 ht
                      go_upto_region 28 with fail
                      go_quiet (fail)
                      clear f0 f1 f2 f3 f4 g0 g1 g2 g3 g4
                      have H8 := Lib.hid (And.intro (HH.out.1.drewN nq) (And.intro (HH.out.2.1.drewN nq) (And.intro (rsl_drewN HH.out.2.2.1 nq) (rsl_drewN HH.out.2.2.2 nq))))
                      clear HH
                      go_wp2_with fail
                      go_roundg (n - (j + 1))
                      case measure => have := HN.out; omega
                      case rel => exact ⟨j + 1, by rw [HN.out]; omega, by rw [HN.out], by go_num, H8.out.1, H8.out.2.1, H8.out.2.2.1, H8.out.2.2.2⟩
                    · have hje : j = n := by omega
                      subst hje
                      have HH := Lib.hid (And.intro Hj bj)
                      clear Hj bj R6 R7
                      go_wp2_with fail
                      go_roundg (2 - (0 + 1))
                      case measure => omega
                      case rel => exact ⟨0 + 1, by omega, rfl, by go_num, HH.out.1, HH.out.2⟩
              · have hle := lenU_le HJ.sb.h 6 (Nat.le_refl _)
                have hlt := lenU_mono (expT_le (XR R off 1) off true) 6
                rw [← rowsU_len] at hlt
                have hD := HJ.drew
                have hbD := hb.drew
                have CB := expire_any wr.drew hD.sb.h off true
                have CC := fun W (H : BHas W c Pc (XR R off 1) 100) => expire_any W H off true
                have e0 := hb.cell 1
                have HE := Lib.hid (And.intro hD (And.intro hbD (And.intro hHB (And.intro hle hlt))))
                have o9 := off_cells hD.f
                clear hk hk2 HJ hb hle hlt hD hbD
                generalize hL : rowsU (expT (XR R off 1) off true) 6 = l at CB CC HE
                clear hL
                obtain ⟨n, hn⟩ : ∃ n, l.length = n := ⟨_, rfl⟩
                have HN := Lib.hid hn
                rw [hn] at CB
                simp only [hn] at CC
                unfold three at CB CC
                have HCB := Lib.hid CB
                have HCC := Lib.hid CC
                have STEP := Lib.hid (fun (W5 : World) (h5 : BHas W5 b Pb (expR (XR R off 1) off true) 100) (o5 : Only (BF b Pb) wr.drew W5) => (⟨HE.out.1.goB h5 o5 (Int.le_refl _), off_cells (o5.blk HE.out.1.f HE.out.1.nb), (HE.out.1.sc.only o5 (fun x hx e => HE.out.1.dbc x e hx) HE.out.1.sb.f).h⟩ : _ ∧ _ ∧ _))
                clear CB CC hn
                go_upto_region 22 with fail
                go_cut [16, 17] (fun s16 s17 wx => T3 w wx a b c Pa Pb Pc ra (XR R off (1 + 1)) (XR R off (1 + 1)) base OB off 100 ∧ Blk wx HB 4 #[.bool false, .bool true] ∧ RSl wx base s16 l ∧ RSl wx base s17 l)
                case first =>
                  obtain ⟨o0, o1, o2⟩ := o9
                  clear e0
                  go_region_with (first
                    | (with_reducible refine HCB.out.mono ?_; rintro e W5 ⟨v5, rfl, h5, ow5, o5⟩; obtain ⟨A5, p5, rfl⟩ := own_val ow5; obtain ⟨H5, ⟨o0, o1, o2⟩, hc5⟩ := STEP.out W5 h5 o5)
                    | (with_reducible refine (HCC.out _ hc5).mono ?_; rintro e W6 ⟨v6, rfl, h6, ow6, o6⟩; obtain ⟨A6, p6, rfl⟩ := own_val ow6; have H6 := H5.goC h6 o6 (Int.le_refl _)))
                  all_goals
                    have hbs := HE.out.1.l1
                    have R5 : RSl W5 base (.slice A5 n p5) l := rsl_mono (rsl_own (by rw [HN.out]; exact ow5)) (by omega)
                    have R6 : RSl W6 base (.slice A6 n p6) l := rsl_mono (rsl_own (by rw [HN.out]; exact ow6)) (by have := H5.l1; omega)
                    have R7 := rsl_only R5 o6 (fun x hx hF => by have := H5.lc x hF; omega)
                    have b5 := o5.blk HE.out.2.1 (fun e => by have := HE.out.1.lb _ e; have := HE.out.2.2.1; omega)
                    have b6 := o6.blk b5 (fun e => by have := H5.lc _ e; have := HE.out.2.2.1; omega)
                    have FIN := Lib.hid (And.intro H6 (And.intro b6 (And.intro R7 R6)))
                    clear o0 o1 o2 H5 hc5 h5 o5 h6 o6 ow5 ow6 R5 R6 R7 b5 b6 H6 HCB HCC STEP
                    go_wp2_with fail
                    go_meet
                    exact ⟨FIN.out.1, FIN.out.2.1, FIN.out.2.2.1, FIN.out.2.2.2⟩
                case rest =>
                  obtain ⟨H6, b6, R6, R7⟩ := hcut
                  have hl400 : n ≤ 400 := by have := HE.out.2.2.2; have := HN.out; omega
                  obtain ⟨A6, c6, rfl, h6⟩ := rsl_parts R6
                  obtain ⟨A7, c7, rfl, h7⟩ := rsl_parts R7
                  rw [HN.out] at h6 h7 R6 R7 ⊢
                  have S := Lib.hid (show L4 w a b c Pa Pb Pc base OB off ra (XR R off (1 + 1)) HB (.slice A6 n c6) (.slice A7 n c7) l n (.int .i64 (0 : Nat)) wc from ⟨0, Nat.zero_le _, by rw [HN.out]; rfl, rfl, H6, b6, R6, R7⟩)
                  clear H6 b6 R6 R7 h6 h7 e0 o9 HCB HCC STEP HE
                  go_wp2_with fail
                  go_loopg [90] n (fun m s90 wr => L4 w a b c Pa Pb Pc base OB off ra (XR R off (1 + 1)) HB (.slice A6 n c6) (.slice A7 n c7) l m s90 wr)
                  case atStart => exact S.out
                  case round =>
                    obtain ⟨j, hj, rfl, rfl, Hj, bj, R6, R7⟩ := hrel
                    clear S
                    rw [HN.out] at hj
                    by_cases hjl : j < n
                    · obtain ⟨t, ht⟩ : ∃ t, l[j]? = some t := ⟨_, List.getElem?_eq_getElem (by rw [HN.out]; exact hjl)⟩
                      obtain ⟨q6, o6, rfl⟩ := rsl_head R6 (by rw [HN.out]; exact hjl)
                      obtain ⟨q7, o7, rfl⟩ := rsl_head R7 (by rw [HN.out]; exact hjl)
                      obtain ⟨f0, f1, f2, f3, f4⟩ := rsl_tm R6 ht
                      obtain ⟨g0, g1, g2, g3, g4⟩ := rsl_tm R7 ht
                      have HH := Lib.hid (And.intro Hj (And.intro bj (And.intro R6 R7)))
                      clear Hj bj R6 R7 ht
                      go_upto_region 28 with fail
                      go_quiet (fail)
                      clear f0 f1 f2 f3 f4 g0 g1 g2 g3 g4
                      have H8 := Lib.hid (And.intro (HH.out.1.drewN nq) (And.intro (HH.out.2.1.drewN nq) (And.intro (rsl_drewN HH.out.2.2.1 nq) (rsl_drewN HH.out.2.2.2 nq))))
                      clear HH
                      go_wp2_with fail
                      go_roundg (n - (j + 1))
                      case measure => have := HN.out; omega
                      case rel => exact ⟨j + 1, by rw [HN.out]; omega, by rw [HN.out], by go_num, H8.out.1, H8.out.2.1, H8.out.2.2.1, H8.out.2.2.2⟩
                    · have hje : j = n := by omega
                      subst hje
                      have HH := Lib.hid (And.intro Hj bj)
                      clear Hj bj R6 R7
                      go_wp2_with fail
                      go_roundg (2 - (1 + 1))
                      case measure => omega
                      case rel => exact ⟨1 + 1, by omega, rfl, by go_num, HH.out.1, HH.out.2⟩
            · have hke : k = 2 := by omega
              subst hke
              have HH := Lib.hid HJ
              clear HJ hb
              go_wp2_with fail
              go_meet
              exact ⟨_, HH.out⟩
      case rest =>
        obtain ⟨R', H6⟩ := hcut
        clear S
        have CA := len_any wc H6.sa.h
        rw [← rowsU_len, era] at CA
        have HCA := Lib.hid (show Calls Try.prog 14 #[.pointer (some ⟨a, 0, none⟩)] wc fun e w' => e = .returned (.int .i64 0) ∧ Below wc.heap.size wc w' from CA)
        have HH := Lib.hid H6
        clear CA H6
        go_wp2_with fail
        refine HCA.out.mono ?_
        rintro e W7 ⟨rfl, b7⟩
        have H7 := HH.out.call b7
        have HCB := Lib.hid (len_any W7 H7.sb.h)
        have HH7 := Lib.hid H7
        clear H7 HCA b7 HH
        go_wp2_with fail
        refine HCB.out.mono ?_
        rintro e W8 ⟨rfl, b8⟩
        have H8 := HH7.out.call b8
        have HCC := Lib.hid (len_any W8 H8.sc.h)
        have HH8 := Lib.hid H8
        clear H8 HCB b8 HH7
        go_wp2_with fail
        refine HCC.out.mono ?_
        rintro e W9 ⟨rfl, b9⟩
        have H9 := Lib.hid (HH8.out.call b9)
        clear HCC b9 HH8
        go_wp2_with fail
        go_ret
        exact ⟨rfl, H9.out.sa.bl⟩
end Go.Proofs.Ytcoibhmgblicfaa.Ba
