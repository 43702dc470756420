/- Lemmas and contracts for RowTtlPlays, merged by program out of Trh, Trb, Tdp. No condition. -/
import Derived.Test.YtfoigflgglpobaaBW0
import Derived.Test.YtfoigflgglpobaaProg
import Derived.StillTailTactics
set_option linter.unusedVariables false
set_option linter.unusedSimpArgs false
/- The contract of mending. No condition but that memory holds a tree. -/
set_option linter.unusedVariables false
set_option linter.unusedSimpArgs false
namespace Go.Proofs.Ytfoigflgglpobaa.Tr
open Go.RowKit Go.Proofs.Ytfoigflgglpobaa.Aid
def MdFr (g x : Nat) (a : Act) : Prop := ∃ u : Nat → Value, a = { tmps := #[.pointer (some ⟨g, 0, none⟩), .int .i64 x, u 2, u 3, u 4, u 5, u 6, u 7, u 8, u 9, u 10, u 11, u 12, u 13, u 14, u 15, u 16, u 17, u 18, u 19, u 20, u 21, u 22, u 23, u 24, u 25, u 26, u 27, u 28, u 29, u 30, u 31, u 32, u 33, u 34, u 35, u 36, u 37, u 38, u 39, u 40, u 41, u 42, u 43, u 44, u 45, u 46, u 47, u 48, u 49, u 50, u 51, u 52, u 53, u 54, u 55, u 56, u 57, u 58, u 59, u 60, u 61, u 62, u 63, u 64, u 65, u 66, u 67, u 68, u 69, u 70, u 71, u 72, u 73, u 74, u 75, u 76, u 77, u 78, u 79, u 80, u 81, u 82, u 83, u 84, u 85, u 86, u 87, u 88, u 89, u 90, u 91, u 92, u 93, u 94, u 95, u 96, u 97, u 98, u 99, u 100, u 101, u 102, u 103, u 104, u 105, u 106, u 107, u 108, u 109, u 110, u 111, u 112, u 113, u 114, u 115, u 116, u 117, u 118, u 119, u 120, u 121, u 122, u 123], defers := [] }
set_option maxRecDepth 100000 in
theorem MdFr.mk (g x : Nat) (v2 v3 v4 v5 v6 v7 v8 v9 v10 v11 v12 v13 v14 v15 v16 v17 v18 v19 v20 v21 v22 v23 v24 v25 v26 v27 v28 v29 v30 v31 v32 v33 v34 v35 v36 v37 v38 v39 v40 v41 v42 v43 v44 v45 v46 v47 v48 v49 v50 v51 v52 v53 v54 v55 v56 v57 v58 v59 v60 v61 v62 v63 v64 v65 v66 v67 v68 v69 v70 v71 v72 v73 v74 v75 v76 v77 v78 v79 v80 v81 v82 v83 v84 v85 v86 v87 v88 v89 v90 v91 v92 v93 v94 v95 v96 v97 v98 v99 v100 v101 v102 v103 v104 v105 v106 v107 v108 v109 v110 v111 v112 v113 v114 v115 v116 v117 v118 v119 v120 v121 v122 v123 : Value) : MdFr g x { tmps := #[.pointer (some ⟨g, 0, none⟩), .int .i64 x, v2, v3, v4, v5, v6, v7, v8, v9, v10, v11, v12, v13, v14, v15, v16, v17, v18, v19, v20, v21, v22, v23, v24, v25, v26, v27, v28, v29, v30, v31, v32, v33, v34, v35, v36, v37, v38, v39, v40, v41, v42, v43, v44, v45, v46, v47, v48, v49, v50, v51, v52, v53, v54, v55, v56, v57, v58, v59, v60, v61, v62, v63, v64, v65, v66, v67, v68, v69, v70, v71, v72, v73, v74, v75, v76, v77, v78, v79, v80, v81, v82, v83, v84, v85, v86, v87, v88, v89, v90, v91, v92, v93, v94, v95, v96, v97, v98, v99, v100, v101, v102, v103, v104, v105, v106, v107, v108, v109, v110, v111, v112, v113, v114, v115, v116, v117, v118, v119, v120, v121, v122, v123], defers := [] } := ⟨fun n => ([(.bool false), (.bool false), v2, v3, v4, v5, v6, v7, v8, v9, v10, v11, v12, v13, v14, v15, v16, v17, v18, v19, v20, v21, v22, v23, v24, v25, v26, v27, v28, v29, v30, v31, v32, v33, v34, v35, v36, v37, v38, v39, v40, v41, v42, v43, v44, v45, v46, v47, v48, v49, v50, v51, v52, v53, v54, v55, v56, v57, v58, v59, v60, v61, v62, v63, v64, v65, v66, v67, v68, v69, v70, v71, v72, v73, v74, v75, v76, v77, v78, v79, v80, v81, v82, v83, v84, v85, v86, v87, v88, v89, v90, v91, v92, v93, v94, v95, v96, v97, v98, v99, v100, v101, v102, v103, v104, v105, v106, v107, v108, v109, v110, v111, v112, v113, v114, v115, v116, v117, v118, v119, v120, v121, v122, v123] : List Value).getD n (.bool false), rfl⟩
def MdRel (g gl : Nat) (s0 : TS) (I : List Nat) (w : World) (m : Nat) (a : Act) (wr : World) : Prop :=
  ∃ p k x kx, IsT wr g gl (s0.with p) ∧ MdSt s0 I p k x kx ∧ Only (TF g gl) w wr ∧ k.len ≤ m ∧ MdFr g x a
theorem MdSt.split {s0 : TS} {I : List Nat} {p : (Nat → Nd) × Nat} {k : Cx} {x : Nat} {kx : Bool → Sh} (h : MdSt s0 I p k x kx) (hz : 0 < s0.sz) :
    (∃ U, (p.1 x).u = U ∧ (p.1 U).red = false ∧ U < s0.sz ∧ MdEnd s0 I (setC p.1 p.2 false, p.2)) ∨ ∃ q s sib cg gg sg unc k', k = .fr true q s sib (.fr cg gg sg unc k') := by
  have hu : (p.1 x).u = k.up := by obtain ⟨n, b, hm⟩ := h.md; exact hm.rt.2.2.1
  cases k with
  | top => exact .inl ⟨0, hu, h.c0, hz, h.top⟩
  | fr c q s sib k =>
    cases c with
    | false =>
      have hr : (p.1 q).red = false := by obtain ⟨n, b, hm⟩ := h.md; exact hm.rc.2.1
      exact .inl ⟨q, hu, hr, h.st.lt q (h.memk (by simp [Cx.all])), h.black⟩
    | true =>
      cases k with
      | top => exact (h.nottop).elim
      | fr cg gg sg unc k => exact .inr ⟨q, s, sib, cg, gg, sg, unc, k, rfl⟩
theorem nat_beq {a b : Nat} {c : Bool} (h : decide (a = b) = c) : (((a : Nat) : Int) == ((b : Nat) : Int)) = c := by
  rw [← h]
  by_cases e : a = b
  · subst e; simp
  · rw [decide_eq_false e]; exact beq_i (by omega)
set_option maxHeartbeats 1000000 in
set_option maxRecDepth 100000 in
theorem mend_any (g gl : Nat) (s0 : TS) (w : World) (h : IsT w g gl s0) (I : List Nat) (k : Cx) (x : Nat) (kx : Bool → Sh) (M : MdSt s0 I (s0.f, s0.root) k x kx) :
    Calls Try.prog 54 #[.pointer (some ⟨g, 0, none⟩), .int .i64 x] w fun e w' => e = .returned (.tuple #[]) ∧ ∃ p, IsT w' g gl (s0.with p) ∧ MdEnd s0 I p ∧ Only (TF g gl) w w' := by
  have S : Hid (∀ a, MdFr g x a → MdRel g gl s0 I w k.len a w) := Lib.hid fun a ha => ⟨(s0.f, s0.root), k, x, kx, h, M, Only.refl _ _, Nat.le_refl _, ha⟩
  have HS := Lib.hid h.sz
  clear h M
  go_enter Try.func54, Try.ntmps54
  refine wp_scope_again (MdRel g gl s0 I w) k.len (S.out _ (MdFr.mk _ _ _ _ _ _ _ _ _ _ _ _ _ _ _ _ _ _ _ _ _ _ _ _ _ _ _ _ _ _ _ _ _ _ _ _ _ _ _ _ _ _ _ _ _ _ _ _ _ _ _ _ _ _ _ _ _ _ _ _ _ _ _ _ _ _ _ _ _ _ _ _ _ _ _ _ _ _ _ _ _ _ _ _ _ _ _ _ _ _ _ _ _ _ _ _ _ _ _ _ _ _ _ _ _ _ _ _ _ _ _ _ _ _ _ _ _ _ _ _ _ _ _ _)) ?_
  clear S
  rintro m a' wr ⟨p, k', x', kx', hT, M, O, hm, ⟨u, rfl⟩⟩ J K hJ hK
  have HM := Lib.hid hm
  have HJ := Lib.hid hJ
  have HK := Lib.hid hK
  have HT := Lib.hid hT
  have HO := Lib.hid O
  have hs := HS.out
  have hx : x' < s0.sz := M.st.lt _ M.memx
  have q0 := hT.hc.1
  have q1 := hT.hc.2.1
  have fz := hT.n.frozen
  simp only [TS.with] at q0 q1
  clear hm hJ hK hT O
  rcases M.split (by have := HS.out; omega) with ⟨U, hU, hUr, hUl, E⟩ | ⟨q, s, sib, cg, gg, sg, unc, k2, rfl⟩
  · have cu : wr.cell? ⟨gl, x' * 8 + 4, none⟩ = some (.int .i64 U) := by rw [← hU]; exact HT.out.u hx
    have cc : wr.cell? ⟨gl, U * 8 + 5, none⟩ = some (.bool false) := by rw [← hUr]; exact HT.out.c hUl
    have hR : p.2 < s0.sz := M.st.root
    have cr := HT.out.c hR
    have F := Lib.hid (show IsT (wr.setCell ⟨gl, p.2 * 8 + 5, none⟩ (.bool false)) g gl (s0.with (setC p.1 p.2 false, p.2)) from HT.out.setC hR false)
    have O2 := Lib.hid (HO.out.setCell (p := ⟨gl, p.2 * 8 + 5, none⟩) (.inl (.inr rfl)) (.bool false))
    have HE := Lib.hid E
    clear hU hUr E M
    generalize p.2 = R at q1 hR cr F O2 HE
    go_upto_region 2 with fail
    go_region
    all_goals
      go_wp2
      rw [jump_ret]
      exact bodyPost_ret (v := .tuple #[]) (by simp [results, Try.results54, go_sem]) rfl ⟨rfl, _, F.out.drew, HE.out, O2.out.drew⟩
  · obtain ⟨hxu, hqr, hqu, hrt, hch, hur, hqc, d1, d2, d3, z1, z2, z3, i1, i2, i3, i4⟩ := M.facts
    have Lq0 : q < s0.sz := M.st.lt q i2
    have Lg : gg < s0.sz := M.st.lt gg i3
    have Lu : unc.root < s0.sz := by
      rcases i4 with e | e
      · rw [e]; omega
      · exact M.st.lt _ e
    have cu : wr.cell? ⟨gl, x' * 8 + 4, none⟩ = some (.int .i64 q) := by rw [← hxu]; exact HT.out.u hx
    have cc : wr.cell? ⟨gl, q * 8 + 5, none⟩ = some (.bool true) := by rw [← hqr]; exact HT.out.c Lq0
    have cqu : wr.cell? ⟨gl, q * 8 + 4, none⟩ = some (.int .i64 gg) := by rw [← hqu]; exact HT.out.u Lq0
    obtain ⟨gr, hgr⟩ : ∃ r, (p.1 gg).r = r := ⟨_, rfl⟩
    have cgr : wr.cell? ⟨gl, gg * 8 + 3, none⟩ = some (.int .i64 gr) := by rw [← hgr]; exact HT.out.r Lg
    rw [hgr] at hrt
    have hrt' := nat_beq hrt
    have cgu : wr.cell? ⟨gl, gg * 8 + off (!sg), none⟩ = some (.int .i64 unc.root) := by rw [← hch]; exact HT.out.sd Lg (!sg)
    have cuc : wr.cell? ⟨gl, unc.root * 8 + 5, none⟩ = some (.bool unc.red) := by rw [← hur]; exact HT.out.c Lu
    obtain ⟨qc, hqc'⟩ : ∃ r, ch p.1 q (!sg) = r := ⟨_, rfl⟩
    have cqc : wr.cell? ⟨gl, q * 8 + off (!sg), none⟩ = some (.int .i64 qc) := by rw [← hqc']; exact HT.out.sd Lq0 (!sg)
    rw [hqc'] at hqc
    have hqx := nat_beq hqc
    have HH := Lib.hid M
    clear hxu hqr hqu hgr hrt hch hur hqc hqc' M q1 i1 i2 i3 i4
    cases hu : unc.red with
    | true =>
      cases unc with
      | nil => cases hu
      | node cU uu ku =>
        have hcU : cU = true := hu
        subst hcU
        have er : (Sh.node true uu ku).root = uu := rfl
        have ec : (Sh.node true uu ku).red = true := rfl
        rw [er] at cgu cuc Lu d1 d2
        rw [ec] at cuc
        have cg5 := HT.out.c Lg
        obtain ⟨kx2, M2⟩ := HH.out.uncle
        have HM2 := Lib.hid M2
        have TA : IsT (wr.setCell ⟨gl, q * 8 + 5, none⟩ (.bool false)) g gl (s0.with (setC p.1 q false, p.2)) := HT.out.setC Lq0 false
        have TB : IsT ((wr.setCell ⟨gl, q * 8 + 5, none⟩ (.bool false)).setCell ⟨gl, uu * 8 + 5, none⟩ (.bool false)) g gl (s0.with (setC (setC p.1 q false) uu false, p.2)) := TA.setC Lu false
        have TD := Lib.hid (show IsT (((wr.setCell ⟨gl, q * 8 + 5, none⟩ (.bool false)).setCell ⟨gl, uu * 8 + 5, none⟩ (.bool false)).setCell ⟨gl, gg * 8 + 5, none⟩ (.bool true)) g gl (s0.with (setC (setC (setC p.1 q false) uu false) gg true, p.2)) from TB.setC Lg true)
        have OD := Lib.hid (((HO.out.setCell (p := ⟨gl, q * 8 + 5, none⟩) (.inl (.inr rfl)) (.bool false)).setCell (p := ⟨gl, uu * 8 + 5, none⟩) (.inl (.inr rfl)) (.bool false)).setCell (p := ⟨gl, gg * 8 + 5, none⟩) (.inl (.inr rfl)) (.bool true))
        have n1 : q * 8 + 5 ≠ uu * 8 + 5 := by omega
        have n2 : q * 8 + 5 ≠ gg * 8 + 5 := by omega
        have n3 : uu * 8 + 5 ≠ gg * 8 + 5 := by omega
        clear hu er ec TA TB M2
        go_wp2_with fail
        refine (child_any g gl _ wr HT.out gg Lg (!sg)).mono ?_
        rintro e w1 ⟨rfl, rfl⟩
        go_upto_region 7 with fail
        go_region
        all_goals
          have TE := TD.out.drew
          have OE := Lib.hid OD.out.drew
          generalize (((wr.setCell ⟨gl, q * 8 + 5, none⟩ (.bool false)).setCell ⟨gl, uu * 8 + 5, none⟩ (.bool false)).setCell ⟨gl, gg * 8 + 5, none⟩ (.bool true)).drew = W2 at TE OE ⊢
          have HTE := Lib.hid TE
          clear TE
          go_wp2_with fail
          go_step3
          refine ⟨rfl, HK.out _ _ (Handed.intro k2.len (by have := HM.out; simp only [Cx.len] at this; omega) (HJ.out _ _ _ ⟨_, _, _, _, HTE.out, HM2.out, OE.out, Nat.le_refl _, (MdFr.mk _ _ _ _ _ _ _ _ _ _ _ _ _ _ _ _ _ _ _ _ _ _ _ _ _ _ _ _ _ _ _ _ _ _ _ _ _ _ _ _ _ _ _ _ _ _ _ _ _ _ _ _ _ _ _ _ _ _ _ _ _ _ _ _ _ _ _ _ _ _ _ _ _ _ _ _ _ _ _ _ _ _ _ _ _ _ _ _ _ _ _ _ _ _ _ _ _ _ _ _ _ _ _ _ _ _ _ _ _ _ _ _ _ _ _ _ _ _ _ _ _ _ _ _)⟩))⟩
    | false =>
      rw [hu] at cuc
      have HU := Lib.hid hu
      generalize unc.root = ur at cgu cuc Lu d1 d2
      by_cases hs2 : s = !sg
      · rw [decide_eq_true hs2] at hqx
        subst hs2
        obtain ⟨sib1, kx1, M1⟩ := HH.out.inner
        have HM1 := Lib.hid M1
        clear hu M1
        go_wp2_with fail
        refine (child_any g gl _ wr HT.out gg Lg (!sg)).mono ?_
        rintro e w1 ⟨rfl, rfl⟩
        go_wp2_with fail
        refine (child_any g gl _ wr HT.out q Lq0 (!sg)).mono ?_
        rintro e w1 ⟨rfl, rfl⟩
        go_wp2_with fail
        refine (turn_any g gl (s0.with p) wr HT.out HH.out.st.lk HH.out.st.root q Lq0 sg).mono ?_
        rintro e W1 ⟨rfl, T1, O3⟩
        have O1 := HO.out.then O3
        have M1 := HM1.out
        have hu := HU.out
        clear HM1 O3
        have T1' : IsT W1 g gl (s0.with (turnF p.1 p.2 q sg)) := T1
        clear T1
        have T1 := T1'
        clear T1'
        generalize turnF p.1 p.2 q sg = p1 at T1 M1
        have Lq : x' < s0.sz := M1.st.lt _ (M1.memk (by simp [Cx.all]))
        have qv := T1.hc.1
        have cq := T1.c Lq
        have cgg := T1.c Lg
        have fz := T1.n.frozen
        simp only [TS.with] at qv
        have TA : IsT (W1.setCell ⟨gl, x' * 8 + 5, none⟩ (.bool false)) g gl (s0.with (setC p1.1 x' false, p1.2)) := T1.setC Lq false
        have TB := Lib.hid (show IsT ((W1.setCell ⟨gl, x' * 8 + 5, none⟩ (.bool false)).setCell ⟨gl, gg * 8 + 5, none⟩ (.bool true)) g gl (s0.with (setC (setC p1.1 x' false) gg true, p1.2)) from TA.setC Lg true)
        have OB := Lib.hid ((O1.setCell (p := ⟨gl, x' * 8 + 5, none⟩) (.inl (.inr rfl)) (.bool false)).setCell (p := ⟨gl, gg * 8 + 5, none⟩) (.inl (.inr rfl)) (.bool true))
        obtain ⟨sib2, M2⟩ := M1.outer hu
        have hqg : x' * 8 + 5 ≠ gg * 8 + 5 := by have := M1.facts.2.2.2.2.2.2.2.2.2.1; omega
        have SS := ((M1.st.col (M1.memk (z := x') (by simp [Cx.all])) false).col (M1.memk (z := gg) (by simp [Cx.all])) true)
        have HSS := Lib.hid SS
        have HM2 := Lib.hid M2
        clear T1 M1 O1 TA SS M2
        go_upto_region 12 with fail
        go_region
        all_goals
          have TC := TB.out.drew
          have OC := Lib.hid OB.out.drew
          generalize ((W1.setCell ⟨gl, x' * 8 + 5, none⟩ (.bool false)).setCell ⟨gl, gg * 8 + 5, none⟩ (.bool true)).drew = W2 at TC OC ⊢
          have HTC := Lib.hid TC
          clear TC
          go_wp2_with fail
          refine (turn_any g gl (s0.with (setC (setC p1.1 x' false) gg true, p1.2)) W2 HTC.out HSS.out.lk HSS.out.root gg Lg (!sg)).mono ?_
          rintro e W3 ⟨rfl, T3, O3⟩
          go_wp2_with fail
          go_step3
          refine ⟨rfl, HK.out _ _ (Handed.intro (k2.len + 1) (by have := HM.out; simp only [Cx.len] at this; omega) (HJ.out _ _ _ ⟨_, _, _, _, T3, HM2.out, OC.out.then O3, Nat.le_refl _, (MdFr.mk _ _ _ _ _ _ _ _ _ _ _ _ _ _ _ _ _ _ _ _ _ _ _ _ _ _ _ _ _ _ _ _ _ _ _ _ _ _ _ _ _ _ _ _ _ _ _ _ _ _ _ _ _ _ _ _ _ _ _ _ _ _ _ _ _ _ _ _ _ _ _ _ _ _ _ _ _ _ _ _ _ _ _ _ _ _ _ _ _ _ _ _ _ _ _ _ _ _ _ _ _ _ _ _ _ _ _ _ _ _ _ _ _ _ _ _ _ _ _ _ _ _ _ _)⟩))⟩
      · rw [decide_eq_false hs2] at hqx
        have hs3 : s = sg := by cases s <;> cases sg <;> simp_all
        subst hs3
        have T1 := HT.out
        have M1 := HH.out
        have O1 := HO.out
        clear hs2
        go_wp2_with fail
        refine (child_any g gl _ wr HT.out gg Lg (!s)).mono ?_
        rintro e w1 ⟨rfl, rfl⟩
        go_wp2_with fail
        refine (child_any g gl _ wr HT.out q Lq0 (!s)).mono ?_
        rintro e w1 ⟨rfl, rfl⟩
        have Lq : q < s0.sz := M1.st.lt _ (M1.memk (by simp [Cx.all]))
        have qv := T1.hc.1
        have cq := T1.c Lq
        have cgg := T1.c Lg
        have fz := T1.n.frozen
        simp only [TS.with] at qv
        have TA : IsT (wr.setCell ⟨gl, q * 8 + 5, none⟩ (.bool false)) g gl (s0.with (setC p.1 q false, p.2)) := T1.setC Lq false
        have TB := Lib.hid (show IsT ((wr.setCell ⟨gl, q * 8 + 5, none⟩ (.bool false)).setCell ⟨gl, gg * 8 + 5, none⟩ (.bool true)) g gl (s0.with (setC (setC p.1 q false) gg true, p.2)) from TA.setC Lg true)
        have OB := Lib.hid ((O1.setCell (p := ⟨gl, q * 8 + 5, none⟩) (.inl (.inr rfl)) (.bool false)).setCell (p := ⟨gl, gg * 8 + 5, none⟩) (.inl (.inr rfl)) (.bool true))
        obtain ⟨sib2, M2⟩ := M1.outer hu
        have hqg : q * 8 + 5 ≠ gg * 8 + 5 := by have := M1.facts.2.2.2.2.2.2.2.2.2.1; omega
        have SS := ((M1.st.col (M1.memk (z := q) (by simp [Cx.all])) false).col (M1.memk (z := gg) (by simp [Cx.all])) true)
        have HSS := Lib.hid SS
        have HM2 := Lib.hid M2
        clear T1 M1 O1 TA SS M2
        go_upto_region 12 with fail
        go_region
        all_goals
          have TC := TB.out.drew
          have OC := Lib.hid OB.out.drew
          generalize ((wr.setCell ⟨gl, q * 8 + 5, none⟩ (.bool false)).setCell ⟨gl, gg * 8 + 5, none⟩ (.bool true)).drew = W2 at TC OC ⊢
          have HTC := Lib.hid TC
          clear TC
          go_wp2_with fail
          refine (turn_any g gl (s0.with (setC (setC p.1 q false) gg true, p.2)) W2 HTC.out HSS.out.lk HSS.out.root gg Lg (!s)).mono ?_
          rintro e W3 ⟨rfl, T3, O3⟩
          go_wp2_with fail
          go_step3
          refine ⟨rfl, HK.out _ _ (Handed.intro (k2.len + 1) (by have := HM.out; simp only [Cx.len] at this; omega) (HJ.out _ _ _ ⟨_, _, _, _, T3, HM2.out, OC.out.then O3, Nat.le_refl _, (MdFr.mk _ _ _ _ _ _ _ _ _ _ _ _ _ _ _ _ _ _ _ _ _ _ _ _ _ _ _ _ _ _ _ _ _ _ _ _ _ _ _ _ _ _ _ _ _ _ _ _ _ _ _ _ _ _ _ _ _ _ _ _ _ _ _ _ _ _ _ _ _ _ _ _ _ _ _ _ _ _ _ _ _ _ _ _ _ _ _ _ _ _ _ _ _ _ _ _ _ _ _ _ _ _ _ _ _ _ _ _ _ _ _ _ _ _ _ _ _ _ _ _ _ _ _ _)⟩))⟩
end Go.Proofs.Ytfoigflgglpobaa.Tr
/- The contracts of what orders a tree's keys. No condition. -/
set_option linter.unusedVariables false
set_option linter.unusedSimpArgs false
namespace Go.Proofs.Ytfoigflgglpobaa.Tr
open Go.RowKit Go.Proofs.Ytfoigflgglpobaa.Aid
def cmpI (x y : Int) : Int := if x < y then -1 else if y < x then 1 else 0
theorem cmpI_bd (x y : Int) : -1 ≤ cmpI x y ∧ cmpI x y ≤ 1 := by unfold cmpI; omega
def orI (a b : Int) : Int := if a = 0 then b else a
def ordK (t1 s1 t2 s2 : Int) : Int := orI (cmpI t1 t2) (cmpI s1 s2)
theorem ordK_ge {t1 s1 t2 s2 : Int} : 0 ≤ ordK t1 s1 t2 s2 ↔ (t2 < t1 ∨ t2 = t1 ∧ s2 ≤ s1) := by unfold ordK orI cmpI; omega
theorem ordK_bd (t1 s1 t2 s2 : Int) : -1 ≤ ordK t1 s1 t2 s2 ∧ ordK t1 s1 t2 s2 ≤ 1 := by unfold ordK orI cmpI; omega
set_option maxHeartbeats 1000000 in
theorem isNaN_any (x : Int) (w : World) : Calls Try.prog 77 #[.int .i64 x] w fun e w' => e = .returned (.bool false) ∧ w = w' := by
  go_enter Try.func77, Try.ntmps77
  go_wp2
  go_ret
  exact ⟨ret_bool (by simp), rfl⟩
set_option maxHeartbeats 1000000 in
theorem Compare_any (x y : Int) (w : World) : Calls Try.prog 71 #[.int .i64 x, .int .i64 y] w fun e w' => e = .returned (.int .i64 (cmpI x y)) ∧ w = w' := by
  go_enter Try.func71, Try.ntmps71
  go_wp2_with (go_at_call 77; refine (isNaN_any _ _).mono ?_; rintro e w1 ⟨rfl, rfl⟩)
  all_goals
    go_ret
    exact ⟨ret_int (by unfold cmpI; omega), rfl⟩
set_option maxHeartbeats 1000000 in
theorem Or_any (b : Nat) (cap : Nat) (x y : Int) (w : World) (h0 : w.cell? ⟨b, 0, none⟩ = some (.int .i64 x)) (h1 : w.cell? ⟨b, 1, none⟩ = some (.int .i64 y)) :
    Calls Try.prog 70 #[.slice (some ⟨b, 0, none⟩) 2 cap] w fun e w' => e = .returned (.int .i64 (orI x y)) ∧ w = w' := by
  go_enter Try.func70, Try.ntmps70
  go_wp2
  go_loop [5, 8] (fun v i => ∃ k : Nat, k ≤ 2 ∧ i = .int .i64 k ∧ (0 < k → x = 0) ∧ (1 < k → y = 0)) (fun _ i => 2 - (intOf i).toNat)
  case atStart => exact ⟨0, by omega, rfl, by omega, by omega⟩
  case round =>
    obtain ⟨k, hk, rfl, hx, hy⟩ := hrel
    by_cases k0 : k = 0
    · subst k0
      clear hx hy
      by_cases e : x = 0
      · have e' := Lib.hid e
        subst e
        go_wp2
        all_goals
          go_round
          case rel => exact ⟨1, by omega, by go_num, by simp, by simp⟩
          case measure => simp [intOf]
      · go_wp2
        go_ret
        exact ⟨ret_int (by unfold orI; omega), rfl⟩
    · have hx0 := hx (by omega)
      subst hx0
      by_cases k1 : k = 1
      · subst k1
        clear hx hy
        by_cases e : y = 0
        · subst e
          go_wp2
          all_goals
            go_round
            case rel => exact ⟨2, by omega, by go_num, by simp, by simp⟩
            case measure => simp [intOf]
        · go_wp2
          go_ret
          exact ⟨ret_int (by unfold orI; omega), rfl⟩
      · have hk2 : k = 2 := by omega
        subst hk2
        have hy0 := hy (by omega)
        subst hy0
        clear hx hy
        go_wp2
        go_ret
        exact ⟨ret_int (by unfold orI; omega), rfl⟩
theorem Or_new (W : World) (x y : Int) : Calls Try.prog 70 #[.slice (some ⟨W.heap.size, 0, none⟩) 2 2] ((W.alloc (.cells #[.int .i64 x, .int .i64 y] 3)).drew) fun e w' => e = .returned (.int .i64 (orI x y)) ∧ (W.alloc (.cells #[.int .i64 x, .int .i64 y] 3)).drew = w' := by
  have h : Blk (W.alloc (.cells #[.int .i64 x, .int .i64 y] 3)).drew W.heap.size 3 #[.int .i64 x, .int .i64 y] := (Blk.new W _ _).drew
  have h0 := h.cell 0
  have h1 := h.cell 1
  simp only [List.getElem?_toArray, List.getElem?_cons_zero, List.getElem?_cons_succ] at h0 h1
  exact Or_any _ _ _ _ _ h0 h1
theorem Or_new' (W : World) (x y : Int) : Calls Try.prog 70 #[.slice (some ⟨W.heap.size, 0, none⟩) 2 2] (W.alloc (.cells #[.int .i64 x, .int .i64 y] 3)) fun e w' => e = .returned (.int .i64 (orI x y)) ∧ (W.alloc (.cells #[.int .i64 x, .int .i64 y] 3)) = w' := by
  have h : Blk (W.alloc (.cells #[.int .i64 x, .int .i64 y] 3)) W.heap.size 3 #[.int .i64 x, .int .i64 y] := (Blk.new W _ _)
  have h0 := h.cell 0
  have h1 := h.cell 1
  simp only [List.getElem?_toArray, List.getElem?_cons_zero, List.getElem?_cons_succ] at h0 h1
  exact Or_any _ _ _ _ _ h0 h1
set_option maxRecDepth 100000 in
set_option maxHeartbeats 400000 in
theorem order_any (t1 s1 t2 s2 : Int) (w : World) :
    Calls Try.prog 53 #[.agg #[.int .i64 t1, .int .i64 s1], .agg #[.int .i64 t2, .int .i64 s2]] w fun e w' => e = .returned (.int .i64 (ordK t1 s1 t2 s2)) ∧ Below w.heap.size w w' := by
  go_enter Try.func53, Try.ntmps53
  go_upto_region 1 with fail
  have e1 : (w.alloc (.cells #[.int .i64 t1, .int .i64 s1] 27)).heap.size = w.heap.size + 1 := by simp
  have h1 := (Blk.new w 27 #[.int .i64 t1, .int .i64 s1]).alloc (.cells #[.int .i64 t2, .int .i64 s2] 27)
  have h2 := Blk.new (w.alloc (.cells #[.int .i64 t1, .int .i64 s1] 27)) 27 #[.int .i64 t2, .int .i64 s2]
  rw [e1] at h2
  have B : Below w.heap.size w ((w.alloc (.cells #[.int .i64 t1, .int .i64 s1] 27)).alloc (.cells #[.int .i64 t2, .int .i64 s2] 27)) := ((Below.refl w.heap.size w).alloc (Nat.le_refl _) _).alloc (by simp) _
  have R0 : w.heap.size ≤ w.heap.size + 1 := by omega
  generalize w.heap.size + 1 = g2 at h2 R0 ⊢
  generalize (w.alloc (.cells #[.int .i64 t1, .int .i64 s1] 27)).alloc (.cells #[.int .i64 t2, .int .i64 s2] 27) = W at h1 h2 B ⊢
  have c0 := h1.cell 0
  have c1 := h1.cell 1
  have c2 := h2.cell 0
  have c3 := h2.cell 1
  simp only [List.getElem?_toArray, List.getElem?_cons_zero, List.getElem?_cons_succ] at c0 c1 c2 c3
  have l1 := h1.lt
  have l2 := h2.lt
  have BF : Hid (Below w.heap.size w ((W.alloc (.cells #[.int .i64 (cmpI t1 t2), .int .i64 (cmpI s1 s2)] 3)).drew)) := Lib.hid (below_drewN (B.alloc B.size _) 1)
  clear e1
  refine wp_region_still_tail 10 (by kernel_rfl) (by kernel_rfl) ?_
  change wpStill _ _ W.drew _ _ _
  have c0' : W.drew.cell? ⟨w.heap.size, 0, none⟩ = some (.int .i64 t1) := c0
  have c1' : W.drew.cell? ⟨w.heap.size, 1, none⟩ = some (.int .i64 s1) := c1
  have c2' : W.drew.cell? ⟨g2, 0, none⟩ = some (.int .i64 t2) := c2
  have c3' : W.drew.cell? ⟨g2, 1, none⟩ = some (.int .i64 s2) := c3
  have b1 : Below w.heap.size w W.drew := below_drewN B 1
  clear c0 c1 c2 c3 B h1 h2 l1 l2
  generalize W.drew = W1 at c0' c1' c2' c3' b1 ⊢
  simp only [List.take_succ_cons, List.take_zero, List.drop_succ_cons, List.drop_zero]
  still_step
  still_step
  still_step
  still_step
  still_call ((Compare_any t1 t2 W1).mono fun e w' h => ⟨h.1, h.2.symm⟩)
  still_step
  still_step
  still_step
  still_step
  still_call ((Compare_any s1 s2 W1).mono fun e w' h => ⟨h.1, h.2.symm⟩)
  refine wpStill_nil ?_
  clear c0' c1' c2' c3' b1
  go_wp2_with fail
  refine (Or_new W _ _).mono ?_
  rintro e w1 ⟨rfl, rfl⟩
  go_wp2_with fail
  go_ret
  exact ⟨rfl, BF.out⟩
end Go.Proofs.Ytfoigflgglpobaa.Tr
/- The contract of tree's Put. No condition but that memory holds a tree. -/
set_option linter.unusedVariables false
set_option linter.unusedSimpArgs false
namespace Go.Proofs.Ytfoigflgglpobaa.Tr
open Go.RowKit Go.Proofs.Ytfoigflgglpobaa.Aid
set_option maxHeartbeats 2000000 in
set_option maxRecDepth 100000 in
theorem Put_no (g gl : Nat) (s : TS) (T : Sh) (fl : List Nat) (w : World) (h : Full w g gl s T fl) (kt ks : Int) (hn : T.ino.length = s.most) :
    Calls Try.prog 13 #[.pointer (some ⟨g, 0, none⟩), .agg #[.int .i64 kt, .int .i64 ks]] w fun e w' => e = .returned (.tuple #[.agg #[.int .i64 0, .int .i64 0], .int .i64 3]) ∧ Full w' g gl s T fl ∧ Only (TF g gl) w w' := by
  have e1 : (w.alloc (.cells #[.int .i64 kt, .int .i64 ks] 27)).heap.size = w.heap.size + 1 := by simp
  have hgl := h.m.n.lt
  have hg := h.m.b.lt
  have h2 := Blk.new (w.alloc (.cells #[.int .i64 kt, .int .i64 ks] 27)) 29 (two_ 0 0)
  rw [e1] at h2
  have B : Below w.heap.size w ((w.alloc (.cells #[.int .i64 kt, .int .i64 ks] 27)).alloc (.cells (two_ 0 0) 29)) := ((Below.refl w.heap.size w).alloc (Nat.le_refl _) _).alloc (by rw [e1]; omega) _
  have HA := Lib.hid (h.below B)
  have HO := Lib.hid ((Only.refl (TF g gl) w).below B)
  have hb : ¬ TF g gl (w.heap.size + 1) := by rintro (e | e) <;> omega
  have HF := Lib.hid h
  clear h B e1
  go_enter Try.func13, Try.ntmps13
  go_upto_region 1 with fail
  change Blk ((w.alloc (.cells #[.int .i64 kt, .int .i64 ks] 27)).alloc (.cells #[.int .i64 0, .int .i64 0] 29)) _ _ _ at h2
  change Hid (Full ((w.alloc (.cells #[.int .i64 kt, .int .i64 ks] 27)).alloc (.cells #[.int .i64 0, .int .i64 0] 29)) _ _ _ _ _) at HA
  change Hid (Only _ w ((w.alloc (.cells #[.int .i64 kt, .int .i64 ks] 27)).alloc (.cells #[.int .i64 0, .int .i64 0] 29))) at HO
  generalize (w.alloc (.cells #[.int .i64 kt, .int .i64 ks] 27)).alloc (.cells #[.int .i64 0, .int .i64 0] 29) = W at h2 HA HO ⊢
  have hbs : w.heap.size ≤ w.heap.size + 1 := by omega
  have HBS := Lib.hid hbs
  clear hbs
  generalize hB : w.heap.size + 1 = b at h2 hb HBS ⊢
  go_wp2_with fail
  refine (place_no g gl s T fl W HA.out hn).mono ?_
  rintro e W1 ⟨rfl, T1, O1⟩
  have h3 := O1.blk h2 hb
  have HO1 := Lib.hid (HO.out.then O1)
  have HT1 := Lib.hid T1
  obtain ⟨r0, r1⟩ := two_cells h3
  have f0 := h3.frozen
  clear T1 O1 hB
  go_wp2_with fail
  clear r0 r1
  obtain ⟨r0, r1⟩ := two_cells (two_set h3 0 0)
  have hg' : g ≠ b := fun e => hb (.inl e.symm)
  have hgl' : gl ≠ b := fun e => hb (.inr e.symm)
  have hm : IsT ((W1.setCell ⟨b, 0, none⟩ (.int .i64 0)).setCell ⟨b, 1, none⟩ (.int .i64 0)) g gl s := (HT1.out.far (p := ⟨b, 0, none⟩) hb _).far (p := ⟨b, 1, none⟩) hb _
  have ho : Only (TF g gl) w ((W1.setCell ⟨b, 0, none⟩ (.int .i64 0)).setCell ⟨b, 1, none⟩ (.int .i64 0)) := (HO1.out.setCell (p := ⟨b, 0, none⟩) (.inr HBS.out) _).setCell (p := ⟨b, 1, none⟩) (.inr HBS.out) _
  have F := HF.out
  exact bodyPost_ret (v := .tuple #[.agg #[.int .i64 0, .int .i64 0], .int .i64 3]) (by simp [results, Try.results13, go_sem, r0, r1]) rfl ⟨rfl, ⟨hm, F.rb, F.lt, F.lk, F.srt, F.tak, F.z0, F.free, F.fpl, F.fnd, F.cnt, F.n, F.cap⟩, ho⟩
end Go.Proofs.Ytfoigflgglpobaa.Tr
