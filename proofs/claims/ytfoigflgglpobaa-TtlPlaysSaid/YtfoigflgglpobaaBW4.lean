/- Lemmas and contracts for RowTtlPlays, merged by program out of Tde. No condition. -/
import Derived.Test.YtfoigflgglpobaaBW3
import Derived.Test.YtfoigflgglpobaaBW1
set_option linter.unusedVariables false
set_option linter.unusedSimpArgs false
/- The contract of tree's filling. No condition but that memory holds its state. -/
set_option linter.unusedVariables false
set_option linter.unusedSimpArgs false
namespace Go.Proofs.Ytfoigflgglpobaa.Tr
open Go.RowKit Go.Proofs.Ytfoigflgglpobaa.Aid
def FdFr (g x : Nat) (a : Act) : Prop := ∃ u : Nat → Value, a = { tmps := #[.pointer (some ⟨g, 0, none⟩), .int .i64 x, u 2, u 3, u 4, u 5, u 6, u 7, u 8, u 9, u 10, u 11, u 12, u 13, u 14, u 15, u 16, u 17, u 18, u 19, u 20, u 21, u 22, u 23, u 24, u 25, u 26, u 27, u 28, u 29, u 30, u 31, u 32, u 33, u 34, u 35, u 36, u 37, u 38, u 39, u 40, u 41, u 42, u 43, u 44, u 45, u 46, u 47, u 48, u 49, u 50, u 51, u 52, u 53, u 54, u 55, u 56, u 57, u 58, u 59, u 60, u 61, u 62, u 63, u 64, u 65, u 66, u 67, u 68, u 69, u 70, u 71, u 72, u 73, u 74, u 75, u 76, u 77, u 78, u 79, u 80, u 81, u 82, u 83, u 84, u 85, u 86, u 87, u 88, u 89, u 90, u 91, u 92, u 93, u 94, u 95, u 96, u 97, u 98, u 99, u 100, u 101, u 102, u 103, u 104, u 105, u 106, u 107, u 108, u 109, u 110, u 111, u 112, u 113, u 114, u 115, u 116, u 117, u 118, u 119, u 120, u 121, u 122, u 123, u 124, u 125, u 126, u 127, u 128, u 129, u 130, u 131, u 132, u 133, u 134, u 135, u 136, u 137, u 138, u 139, u 140, u 141, u 142, u 143, u 144, u 145, u 146, u 147, u 148, u 149, u 150, u 151, u 152, u 153, u 154, u 155, u 156, u 157, u 158, u 159, u 160, u 161, u 162, u 163, u 164, u 165, u 166, u 167, u 168, u 169, u 170, u 171, u 172, u 173, u 174, u 175, u 176, u 177, u 178, u 179, u 180, u 181, u 182, u 183, u 184, u 185, u 186, u 187, u 188, u 189, u 190, u 191, u 192, u 193, u 194, u 195, u 196, u 197, u 198, u 199, u 200, u 201, u 202], defers := [] }
set_option maxRecDepth 100000 in
theorem FdFr.mk (g x : Nat) (v2 v3 v4 v5 v6 v7 v8 v9 v10 v11 v12 v13 v14 v15 v16 v17 v18 v19 v20 v21 v22 v23 v24 v25 v26 v27 v28 v29 v30 v31 v32 v33 v34 v35 v36 v37 v38 v39 v40 v41 v42 v43 v44 v45 v46 v47 v48 v49 v50 v51 v52 v53 v54 v55 v56 v57 v58 v59 v60 v61 v62 v63 v64 v65 v66 v67 v68 v69 v70 v71 v72 v73 v74 v75 v76 v77 v78 v79 v80 v81 v82 v83 v84 v85 v86 v87 v88 v89 v90 v91 v92 v93 v94 v95 v96 v97 v98 v99 v100 v101 v102 v103 v104 v105 v106 v107 v108 v109 v110 v111 v112 v113 v114 v115 v116 v117 v118 v119 v120 v121 v122 v123 v124 v125 v126 v127 v128 v129 v130 v131 v132 v133 v134 v135 v136 v137 v138 v139 v140 v141 v142 v143 v144 v145 v146 v147 v148 v149 v150 v151 v152 v153 v154 v155 v156 v157 v158 v159 v160 v161 v162 v163 v164 v165 v166 v167 v168 v169 v170 v171 v172 v173 v174 v175 v176 v177 v178 v179 v180 v181 v182 v183 v184 v185 v186 v187 v188 v189 v190 v191 v192 v193 v194 v195 v196 v197 v198 v199 v200 v201 v202 : Value) : FdFr g x { tmps := #[.pointer (some ⟨g, 0, none⟩), .int .i64 x, v2, v3, v4, v5, v6, v7, v8, v9, v10, v11, v12, v13, v14, v15, v16, v17, v18, v19, v20, v21, v22, v23, v24, v25, v26, v27, v28, v29, v30, v31, v32, v33, v34, v35, v36, v37, v38, v39, v40, v41, v42, v43, v44, v45, v46, v47, v48, v49, v50, v51, v52, v53, v54, v55, v56, v57, v58, v59, v60, v61, v62, v63, v64, v65, v66, v67, v68, v69, v70, v71, v72, v73, v74, v75, v76, v77, v78, v79, v80, v81, v82, v83, v84, v85, v86, v87, v88, v89, v90, v91, v92, v93, v94, v95, v96, v97, v98, v99, v100, v101, v102, v103, v104, v105, v106, v107, v108, v109, v110, v111, v112, v113, v114, v115, v116, v117, v118, v119, v120, v121, v122, v123, v124, v125, v126, v127, v128, v129, v130, v131, v132, v133, v134, v135, v136, v137, v138, v139, v140, v141, v142, v143, v144, v145, v146, v147, v148, v149, v150, v151, v152, v153, v154, v155, v156, v157, v158, v159, v160, v161, v162, v163, v164, v165, v166, v167, v168, v169, v170, v171, v172, v173, v174, v175, v176, v177, v178, v179, v180, v181, v182, v183, v184, v185, v186, v187, v188, v189, v190, v191, v192, v193, v194, v195, v196, v197, v198, v199, v200, v201, v202], defers := [] } := ⟨fun n => ([(.bool false), (.bool false), v2, v3, v4, v5, v6, v7, v8, v9, v10, v11, v12, v13, v14, v15, v16, v17, v18, v19, v20, v21, v22, v23, v24, v25, v26, v27, v28, v29, v30, v31, v32, v33, v34, v35, v36, v37, v38, v39, v40, v41, v42, v43, v44, v45, v46, v47, v48, v49, v50, v51, v52, v53, v54, v55, v56, v57, v58, v59, v60, v61, v62, v63, v64, v65, v66, v67, v68, v69, v70, v71, v72, v73, v74, v75, v76, v77, v78, v79, v80, v81, v82, v83, v84, v85, v86, v87, v88, v89, v90, v91, v92, v93, v94, v95, v96, v97, v98, v99, v100, v101, v102, v103, v104, v105, v106, v107, v108, v109, v110, v111, v112, v113, v114, v115, v116, v117, v118, v119, v120, v121, v122, v123, v124, v125, v126, v127, v128, v129, v130, v131, v132, v133, v134, v135, v136, v137, v138, v139, v140, v141, v142, v143, v144, v145, v146, v147, v148, v149, v150, v151, v152, v153, v154, v155, v156, v157, v158, v159, v160, v161, v162, v163, v164, v165, v166, v167, v168, v169, v170, v171, v172, v173, v174, v175, v176, v177, v178, v179, v180, v181, v182, v183, v184, v185, v186, v187, v188, v189, v190, v191, v192, v193, v194, v195, v196, v197, v198, v199, v200, v201, v202] : List Value).getD n (.bool false), rfl⟩
def FdRel (g gl : Nat) (s0 : TS) (I : List Nat) (w : World) (m : Nat) (a : Act) (wr : World) : Prop :=
  ∃ p E t, IsT wr g gl (s0.with p) ∧ FSt s0 I p E t ∧ Only (TF g gl) w wr ∧ fm E t ≤ m ∧ FdFr g t.root a
theorem fm_fr {c : Bool} {q : Nat} {s : Bool} {sib : Sh} {k : Cx} {t : Sh} (ht : t.red = false) : fm (.fr c q s sib k) t = if c then 1 else 2 * k.len + 2 := by
  show (if t.red = true then 0 else if c = true then 1 else 2 * k.len + 2) = _
  rw [ht]; rfl
theorem dec_ne {a b : Nat} (h : a ≠ b) : (((a : Nat) : Int) == ((b : Nat) : Int)) = false := beq_i (by omega)
section
variable {s0 : TS} {I : List Nat} {p : (Nat → Nd) × Nat} {c s : Bool} {q w : Nat} {cw : Bool} {kw : Bool → Sh} {k : Cx} {t sib : Sh} {E : Cx}
theorem FSt.mem_q (h : FSt s0 I p (.fr c q s sib k) t) : q ∈ I := (h.mem q).2 (.inr (by simp [Cx.all]))
theorem FSt.mem_s (h : FSt s0 I p (.fr c q s sib k) t) {z : Nat} (hz : z ∈ sib.ino) : z ∈ I := (h.mem z).2 (.inr (by simp [Cx.all, hz]))
theorem FSt.mem_w (h : FSt s0 I p (.fr c q s (.node cw w kw) k) t) : w ∈ I := h.mem_s ((mem_node false).2 (.inl rfl))
theorem FSt.mem_v (h : FSt s0 I p (.fr c q s (.node cw w kw) k) t) (σ : Bool) {cv : Bool} {v : Nat} {kv : Bool → Sh} (e : kw σ = .node cv v kv) : v ∈ I := h.mem_s (mem_ino_side σ (by rw [e]; exact (mem_node false).2 (.inl rfl)))
end
set_option maxHeartbeats 2000000 in
set_option maxRecDepth 100000 in
theorem fill_any (g gl : Nat) (s0 : TS) (w : World) (h : IsT w g gl s0) (I : List Nat) (E : Cx) (t : Sh) (M : FSt s0 I (s0.f, s0.root) E t) :
    Calls Try.prog 75 #[.pointer (some ⟨g, 0, none⟩), .int .i64 t.root] w fun e w' => e = .returned (.tuple #[]) ∧ ∃ p, IsT w' g gl (s0.with p) ∧ MdEnd s0 I p ∧ Only (TF g gl) w w' := by
  have S : Hid (∀ a, FdFr g t.root a → FdRel g gl s0 I w (fm E t) a w) := Lib.hid fun a ha => ⟨(s0.f, s0.root), E, t, h, M, Only.refl _ _, Nat.le_refl _, ha⟩
  have HS := Lib.hid h.sz
  clear h M
  go_enter Try.func75, Try.ntmps75
  refine wp_scope_again (FdRel g gl s0 I w) (fm E t) (S.out _ (FdFr.mk _ _ _ _ _ _ _ _ _ _ _ _ _ _ _ _ _ _ _ _ _ _ _ _ _ _ _ _ _ _ _ _ _ _ _ _ _ _ _ _ _ _ _ _ _ _ _ _ _ _ _ _ _ _ _ _ _ _ _ _ _ _ _ _ _ _ _ _ _ _ _ _ _ _ _ _ _ _ _ _ _ _ _ _ _ _ _ _ _ _ _ _ _ _ _ _ _ _ _ _ _ _ _ _ _ _ _ _ _ _ _ _ _ _ _ _ _ _ _ _ _ _ _ _ _ _ _ _ _ _ _ _ _ _ _ _ _ _ _ _ _ _ _ _ _ _ _ _ _ _ _ _ _ _ _ _ _ _ _ _ _ _ _ _ _ _ _ _ _ _ _ _ _ _ _ _ _ _ _ _ _ _ _ _ _ _ _ _ _ _ _ _ _ _ _ _ _ _ _ _ _ _ _)) ?_
  clear S
  rintro m a' wr ⟨p, E', t', hT, M, O, hm, ⟨u, rfl⟩⟩ J K hJ hK
  have HM := Lib.hid hm
  have HJ := Lib.hid hJ
  have HK := Lib.hid hK
  have HT := Lib.hid hT
  have HO := Lib.hid O
  have hs := HS.out
  have q0 := hT.hc.1
  have q1 := hT.hc.2.1
  have fz := hT.n.frozen
  simp only [TS.with] at q0 q1
  clear hm hJ hK hT O
  have hx : t'.root < s0.sz := by
    by_cases e : t'.root = 0
    · rw [e]; have := HS.out; omega
    · exact M.st.lt _ (M.rt0 e)
  have cc := HT.out.c hx
  simp only [TS.with] at cc
  rcases M.split with ⟨rfl, hroot⟩ | ⟨htr, hpr⟩ | ⟨htr, c, q, s, cw, ww, kw, k, rfl⟩
  · -- at the top
    have hE := M.stop (.inl rfl)
    have F := Lib.hid (show IsT (wr.setCell ⟨gl, t'.root * 8 + 5, none⟩ (.bool false)) g gl (s0.with (setC p.1 t'.root false, p.2)) from HT.out.setC hx false)
    have O2 := Lib.hid (HO.out.setCell (p := ⟨gl, t'.root * 8 + 5, none⟩) (.inl (.inr rfl)) (.bool false))
    have HE := Lib.hid hE
    rw [← hroot] at q1
    clear hE M hroot
    generalize t'.root = R at q1 hx cc F O2 HE
    go_wp2
    rw [jump_ret]
    exact bodyPost_ret (v := .tuple #[]) (by simp [results, Try.results75, go_sem]) rfl ⟨rfl, _, F.out, HE.out, O2.out⟩
  · -- a red place
    have hE := M.stop (.inr htr)
    have F := Lib.hid (show IsT (wr.setCell ⟨gl, t'.root * 8 + 5, none⟩ (.bool false)) g gl (s0.with (setC p.1 t'.root false, p.2)) from HT.out.setC hx false)
    have O2 := Lib.hid (HO.out.setCell (p := ⟨gl, t'.root * 8 + 5, none⟩) (.inl (.inr rfl)) (.bool false))
    have HE := Lib.hid hE
    rw [hpr] at cc
    clear hE M hpr htr
    generalize t'.root = R at hx cc F O2 HE
    generalize p.2 = P2 at q1
    by_cases e : R = P2
    · subst e
      go_wp2
      rw [jump_ret]
      exact bodyPost_ret (v := .tuple #[]) (by simp [results, Try.results75, go_sem]) rfl ⟨rfl, _, F.out, HE.out, O2.out⟩
    · have d := dec_ne e
      have d' : ¬ ((R : Nat) : Int) = ((P2 : Nat) : Int) := by omega
      clear e
      go_wp2
      rw [jump_ret]
      exact bodyPost_ret (v := .tuple #[]) (by simp [results, Try.results75, go_sem]) rfl ⟨rfl, _, F.out, HE.out, O2.out⟩
  · have FF := M.facts htr
    have Lq := FF.q_lt
    have Lw := FF.w_lt
    have Ln := FF.n_lt
    have Lf := FF.f_lt
    have d := dec_ne FF.xr
    have d' : ¬ ((t'.root : Nat) : Int) = ((p.2 : Nat) : Int) := by have := FF.xr; omega
    rw [FF.xc] at cc
    have cu : wr.cell? ⟨gl, t'.root * 8 + 4, none⟩ = some (.int .i64 q) := by rw [← FF.xu]; exact HT.out.u hx
    obtain ⟨qr, hqr⟩ : ∃ r, (p.1 q).r = r := ⟨_, rfl⟩
    have cqr : wr.cell? ⟨gl, q * 8 + 3, none⟩ = some (.int .i64 qr) := by rw [← hqr]; exact HT.out.r Lq
    have hside := FF.side
    rw [hqr] at hside
    have hrt := nat_beq hside
    have cqw : wr.cell? ⟨gl, q * 8 + off (!s), none⟩ = some (.int .i64 ww) := by rw [← FF.qw]; exact HT.out.sd Lq (!s)
    have cwc : wr.cell? ⟨gl, ww * 8 + 5, none⟩ = some (.bool cw) := by rw [← FF.wc]; exact HT.out.c Lw
    have n1 : ww * 8 + 5 ≠ q * 8 + 5 := by have := FF.wq; omega
    have HH := Lib.hid M
    have HFF := Lib.hid FF
    clear hqr hside M FF
    cases cw with
    | true =>
      obtain ⟨hc, M2⟩ := HH.out.redw
      subst hc
      have HM2 := Lib.hid M2
      have cq5 := HT.out.c Lq
      have TA : IsT (wr.setCell ⟨gl, ww * 8 + 5, none⟩ (.bool false)) g gl (s0.with (setC p.1 ww false, p.2)) := HT.out.setC Lw false
      have TB := Lib.hid (show IsT ((wr.setCell ⟨gl, ww * 8 + 5, none⟩ (.bool false)).setCell ⟨gl, q * 8 + 5, none⟩ (.bool true)) g gl (s0.with (setC (setC p.1 ww false) q true, p.2)) from TA.setC Lq true)
      have OB := Lib.hid ((HO.out.setCell (p := ⟨gl, ww * 8 + 5, none⟩) (.inl (.inr rfl)) (.bool false)).setCell (p := ⟨gl, q * 8 + 5, none⟩) (.inl (.inr rfl)) (.bool true))
      have SS := Lib.hid ((HH.out.st.col HH.out.mem_w false).col HH.out.mem_q true)
      clear TA M2 Ln Lf
      go_wp2_with fail
      refine (child_any g gl _ wr HT.out q Lq (!s)).mono ?_
      rintro e w1 ⟨rfl, rfl⟩
      go_upto_region 6 with fail
      go_region
      all_goals
        have TC := TB.out.drew
        have OC := Lib.hid OB.out.drew
        generalize ((wr.setCell ⟨gl, ww * 8 + 5, none⟩ (.bool false)).setCell ⟨gl, q * 8 + 5, none⟩ (.bool true)).drew = W2 at TC OC ⊢
        have HTC := Lib.hid TC
        clear TC
        go_wp2_with fail
        refine (turn_any g gl (s0.with (setC (setC p.1 ww false) q true, p.2)) W2 HTC.out SS.out.lk SS.out.root q Lq s).mono ?_
        rintro e W3 ⟨rfl, T3, O3⟩
        go_wp2_with fail
        go_step3
        refine ⟨rfl, HK.out _ _ (Handed.intro (1) (by have := HM.out; rw [fm_fr htr] at this; (have h2 := fm_fr (c := true) (q := q) (s := s) (sib := kw s) (k := .fr false ww s (kw (!s)) k) htr; simp at this; omega)) (HJ.out _ _ _ ⟨_, _, _, T3, HM2.out, OC.out.then O3, by rw [fm_fr htr]; simp, (FdFr.mk _ _ _ _ _ _ _ _ _ _ _ _ _ _ _ _ _ _ _ _ _ _ _ _ _ _ _ _ _ _ _ _ _ _ _ _ _ _ _ _ _ _ _ _ _ _ _ _ _ _ _ _ _ _ _ _ _ _ _ _ _ _ _ _ _ _ _ _ _ _ _ _ _ _ _ _ _ _ _ _ _ _ _ _ _ _ _ _ _ _ _ _ _ _ _ _ _ _ _ _ _ _ _ _ _ _ _ _ _ _ _ _ _ _ _ _ _ _ _ _ _ _ _ _ _ _ _ _ _ _ _ _ _ _ _ _ _ _ _ _ _ _ _ _ _ _ _ _ _ _ _ _ _ _ _ _ _ _ _ _ _ _ _ _ _ _ _ _ _ _ _ _ _ _ _ _ _ _ _ _ _ _ _ _ _ _ _ _ _ _ _ _ _ _ _ _ _ _ _ _ _ _ _)⟩))⟩
    | false =>
      have wn : wr.cell? ⟨gl, ww * 8 + off s, none⟩ = some (.int .i64 (kw s).root) := by rw [← HFF.out.wn]; exact HT.out.sd Lw s
      have wf : wr.cell? ⟨gl, ww * 8 + off (!s), none⟩ = some (.int .i64 (kw (!s)).root) := by rw [← HFF.out.wf]; exact HT.out.sd Lw (!s)
      have hnc := HFF.out.nc
      have hfc := HFF.out.fc
      obtain ⟨cn, hcn⟩ : ∃ c, (kw s).red = c := ⟨_, rfl⟩
      obtain ⟨cf, hcf⟩ : ∃ c, (kw (!s)).red = c := ⟨_, rfl⟩
      rw [hcn] at hnc
      rw [hcf] at hfc
      have HCN := Lib.hid hcn
      have HCF := Lib.hid hcf
      have nw : (kw s).root * 8 + 5 ≠ ww * 8 + 5 := by have := HFF.out.nw; omega
      obtain ⟨R, hR⟩ : ∃ R, t'.root = R := ⟨_, rfl⟩
      obtain ⟨near, hnear⟩ : ∃ R, (kw s).root = R := ⟨_, rfl⟩
      obtain ⟨far, hfar⟩ : ∃ R, (kw (!s)).root = R := ⟨_, rfl⟩
      rw [hnear] at wn hnc Ln nw
      rw [hfar] at wf hfc Lf
      rw [hR] at hx cc d d' cu hrt ⊢
      have HNR := Lib.hid hnear
      have HFR := Lib.hid hfar
      have HRR := Lib.hid hR
      clear hcn hcf hR hnear hfar
      go_wp2_with fail
      refine (child_any g gl _ wr HT.out q Lq (!s)).mono ?_
      rintro e w1 ⟨rfl, rfl⟩
      go_upto_region 8 with fail
      go_quiet (first | (go_at_call_of 52 (Value.bool s); exact quiet_left (child_any g gl _ _ (HT.out.drewN _) ww Lw s)) | (go_at_call_of 52 (Value.bool (!s)); exact quiet_left (child_any g gl _ _ (HT.out.drewN _) ww Lw (!s))))
      have T1 := HT.out.drewN nq
      have O1 := HO.out.drewN nq
      generalize wr.drewN nq = W at T1 O1 ⊢
      have HT1 := Lib.hid T1
      have HO1 := Lib.hid O1
      have cnc : W.cell? ⟨gl, near * 8 + 5, none⟩ = some (.bool cn) := by rw [← hnc]; exact T1.c Ln
      have cfc : W.cell? ⟨gl, far * 8 + 5, none⟩ = some (.bool cf) := by rw [← hfc]; exact T1.c Lf
      have qv := T1.hc.1
      simp only [TS.with] at qv
      have fz := T1.n.frozen
      clear wn wf hnc hfc cqr cqw cwc cu cc q0 q1 T1 O1 HT HO d d' hrt
      cases cf with
      | false =>
        cases cn with
        | false =>
          have cw5 := HT1.out.c Lw
          simp only [TS.with] at cw5
          have TA := Lib.hid (show IsT (W.setCell ⟨gl, ww * 8 + 5, none⟩ (.bool true)) g gl (s0.with (setC p.1 ww true, p.2)) from HT1.out.setC Lw true)
          have OA := Lib.hid (HO1.out.setCell (p := ⟨gl, ww * 8 + 5, none⟩) (.inl (.inr rfl)) (.bool true))
          have HM2 := Lib.hid (HH.out.blacks htr (fun σ => by
            by_cases e : σ = s
            · subst e; exact HCN.out
            · have e' := side_ne e; subst e'; exact HCF.out))
          go_wp2_with fail
          go_step3
          refine ⟨rfl, HK.out _ _ (Handed.intro (fm k (.node c q (two s t' (.node true ww kw)))) (by have := HM.out; rw [fm_fr htr] at this; (have h3 := fm_le k (.node c q (two s t' (.node true ww kw))); have h4 : c = true → fm k (.node c q (two s t' (.node true ww kw))) = 0 := (fun e => by subst e; cases k <;> rfl); cases c with | true => (have := h4 rfl; simp at *; omega) | false => (simp at *; omega))) (HJ.out _ _ _ ⟨_, _, _, TA.out, HM2.out, OA.out, Nat.le_refl _, (FdFr.mk _ _ _ _ _ _ _ _ _ _ _ _ _ _ _ _ _ _ _ _ _ _ _ _ _ _ _ _ _ _ _ _ _ _ _ _ _ _ _ _ _ _ _ _ _ _ _ _ _ _ _ _ _ _ _ _ _ _ _ _ _ _ _ _ _ _ _ _ _ _ _ _ _ _ _ _ _ _ _ _ _ _ _ _ _ _ _ _ _ _ _ _ _ _ _ _ _ _ _ _ _ _ _ _ _ _ _ _ _ _ _ _ _ _ _ _ _ _ _ _ _ _ _ _ _ _ _ _ _ _ _ _ _ _ _ _ _ _ _ _ _ _ _ _ _ _ _ _ _ _ _ _ _ _ _ _ _ _ _ _ _ _ _ _ _ _ _ _ _ _ _ _ _ _ _ _ _ _ _ _ _ _ _ _ _ _ _ _ _ _ _ _ _ _ _ _ _ _ _ _ _ _ _)⟩))⟩
        | true =>
          have hkv : ∃ v kv, kw s = .node true v kv := by
            have h1 := HCN.out
            cases hk : kw s with
            | nil => rw [hk] at h1; cases h1
            | node cv v kv => rw [hk] at h1; have h2 : cv = true := h1; subst h2; exact ⟨v, kv, rfl⟩
          obtain ⟨v0, kv0, hv0⟩ := hkv
          have e0 : near = v0 := by rw [← HNR.out, hv0]; rfl
          subst e0
          have M1 := HH.out.inner hv0 HCF.out
          have SS := Lib.hid ((HH.out.st.col (HH.out.mem_v s hv0) false).col HH.out.mem_w true)
          have TA : IsT (W.setCell ⟨gl, near * 8 + 5, none⟩ (.bool false)) g gl (s0.with (setC p.1 near false, p.2)) := HT1.out.setC Ln false
          have TB := Lib.hid (show IsT ((W.setCell ⟨gl, near * 8 + 5, none⟩ (.bool false)).setCell ⟨gl, ww * 8 + 5, none⟩ (.bool true)) g gl (s0.with (setC (setC p.1 near false) ww true, p.2)) from TA.setC Lw true)
          have OB := Lib.hid ((HO1.out.setCell (p := ⟨gl, near * 8 + 5, none⟩) (.inl (.inr rfl)) (.bool false)).setCell (p := ⟨gl, ww * 8 + 5, none⟩) (.inl (.inr rfl)) (.bool true))
          have cw5 := HT1.out.c Lw
          simp only [TS.with] at cw5
          have HM1 := Lib.hid M1
          clear TA M1 HT1 HO1 hv0
          go_upto_region 13 with fail
          go_region
          all_goals
            have TC := TB.out.drew
            have OC := Lib.hid OB.out.drew
            generalize ((W.setCell ⟨gl, near * 8 + 5, none⟩ (.bool false)).setCell ⟨gl, ww * 8 + 5, none⟩ (.bool true)).drew = W2 at TC OC ⊢
            have HTC := Lib.hid TC
            clear TC cnc cfc qv fz cw5
            go_wp2_with fail
            refine (turn_any g gl (s0.with (setC (setC p.1 near false) ww true, p.2)) W2 HTC.out SS.out.lk SS.out.root ww Lw (!s)).mono ?_
            rintro e W3 ⟨rfl, T3, O3⟩
            have T3' : IsT W3 g gl (s0.with (turnF (setC (setC p.1 near false) ww true) p.2 ww (!s))) := T3
            clear T3
            have HO1 := Lib.hid (OC.out.then O3)
            obtain ⟨p1, hp1⟩ : ∃ p1, turnF (setC (setC p.1 near false) ww true) p.2 ww (!s) = p1 := ⟨_, rfl⟩
            rw [hp1] at T3' HM1
            have F1 := HM1.out.facts htr
            have f1 := F1.qw
            have f2 := F1.wf
            rw [two_other] at f2
            have f2' : ch p1.1 near (!s) = ww := f2
            have c1 : W3.cell? ⟨gl, q * 8 + off (!s), none⟩ = some (.int .i64 near) := by rw [← f1]; exact T3'.sd Lq (!s)
            have c2 : W3.cell? ⟨gl, near * 8 + off (!s), none⟩ = some (.int .i64 ww) := by rw [← f2']; exact T3'.sd Ln (!s)
            have HT1 := Lib.hid T3'
            have hv1 := Lib.hid (two_other s (kv0 s) (Sh.node true ww (two s (kv0 (!s)) (kw (!s)))))
            generalize two s (kv0 s) (Sh.node true ww (two s (kv0 (!s)) (kw (!s)))) = kw1 at HM1 hv1
            generalize two s (kv0 (!s)) (kw (!s)) = kv at hv1
            clear f1 f2 f2' F1 T3' hp1 HTC OC O3 SS TB OB
            obtain ⟨v, hvw⟩ : ∃ v, v = ww := ⟨_, rfl⟩
            rw [← hvw] at hv1 c2
            obtain ⟨w1, hw1⟩ : ∃ v, v = near := ⟨_, rfl⟩
            rw [← hw1] at HM1 c1
            rw [← hw1] at c2
            have Lw1' : w1 < s0.sz := by rw [hw1]; exact Ln
            have HV := Lib.hid (And.intro hvw hw1)
            clear hvw hw1
            go_wp2_with fail
            refine (child_any g gl _ W3 HT1.out q Lq (!s)).mono ?_
            rintro e W4 ⟨rfl, rfl⟩
            go_wp2_with fail
            refine (child_any g gl _ W3 HT1.out w1 Lw1' (!s)).mono ?_
            rintro e W4 ⟨rfl, rfl⟩
            clear Lw1'
            generalize W3 = W at HT1 HO1 c1 c2 ⊢
            have FF := HM1.out.facts htr
            rw [hv1.out] at FF
            have Lv1 : v < s0.sz := FF.f_lt
            have Lw1 : w1 < s0.sz := FF.w_lt
            have cq5 : W.cell? ⟨gl, q * 8 + 5, none⟩ = some (.bool c) := by rw [← FF.qc]; exact HT1.out.c Lq
            have cw5 := HT1.out.c Lw1
            have cv5 := HT1.out.c Lv1
            have qv := HT1.out.hc.1
            have fz := HT1.out.n.frozen
            simp only [TS.with] at qv cw5 cv5
            have n1 : w1 * 8 + 5 ≠ q * 8 + 5 := by have := FF.wq; omega
            have n2 : v * 8 + 5 ≠ w1 * 8 + 5 := by have := FF.fw; simp only [Sh.root] at this; omega
            have n3 : v * 8 + 5 ≠ q * 8 + 5 := by have := FF.fq; simp only [Sh.root] at this; omega
            have TA : IsT (W.setCell ⟨gl, w1 * 8 + 5, none⟩ (.bool c)) g gl (s0.with (setC p1.1 w1 c, p1.2)) := HT1.out.setC Lw1 c
            have TB : IsT ((W.setCell ⟨gl, w1 * 8 + 5, none⟩ (.bool c)).setCell ⟨gl, q * 8 + 5, none⟩ (.bool false)) g gl (s0.with (setC (setC p1.1 w1 c) q false, p1.2)) := TA.setC Lq false
            have TD := Lib.hid (show IsT (((W.setCell ⟨gl, w1 * 8 + 5, none⟩ (.bool c)).setCell ⟨gl, q * 8 + 5, none⟩ (.bool false)).setCell ⟨gl, v * 8 + 5, none⟩ (.bool false)) g gl (s0.with (setC (setC (setC p1.1 w1 c) q false) v false, p1.2)) from TB.setC Lv1 false)
            have OD := Lib.hid (((HO1.out.setCell (p := ⟨gl, w1 * 8 + 5, none⟩) (.inl (.inr rfl)) (.bool c)).setCell (p := ⟨gl, q * 8 + 5, none⟩) (.inl (.inr rfl)) (.bool false)).setCell (p := ⟨gl, v * 8 + 5, none⟩) (.inl (.inr rfl)) (.bool false))
            have SS := Lib.hid (((HM1.out.st.col HM1.out.mem_w c).col HM1.out.mem_q false).col (HM1.out.mem_v (!s) hv1.out) false)
            have HM2 := Lib.hid (HM1.out.outer htr hv1.out)
            clear FF TA TB
            go_upto_region 17 with fail
            go_region
            all_goals
              have TE := TD.out.drew
              have OE := Lib.hid OD.out.drew
              generalize (((W.setCell ⟨gl, w1 * 8 + 5, none⟩ (.bool c)).setCell ⟨gl, q * 8 + 5, none⟩ (.bool false)).setCell ⟨gl, v * 8 + 5, none⟩ (.bool false)).drew = W2 at TE OE ⊢
              have HTE := Lib.hid TE
              clear TE cq5 cw5 cv5 qv fz
              go_wp2_with fail
              refine (turn_any g gl (s0.with (setC (setC (setC p1.1 w1 c) q false) v false, p1.2)) W2 HTE.out SS.out.lk SS.out.root q Lq s).mono ?_
              rintro e W3 ⟨rfl, T3, O3⟩
              have T3' := Lib.hid (show IsT W3 g gl (s0.with (turnF (setC (setC (setC p1.1 w1 c) q false) v false) p1.2 q s)) from T3)
              clear T3
              have M2 := HM2.out
              obtain ⟨p2, hp2⟩ : ∃ p2, turnF (setC (setC (setC p1.1 w1 c) q false) v false) p1.2 q s = p2 := ⟨_, rfl⟩
              rw [hp2] at T3' M2
              generalize Cx.plug k (Sh.node c w1 (two s (Sh.node false q (two s t' (kw1 s))) (Sh.node false v kv))) = T' at M2
              have q1 : W3.cell? ⟨g, 1, none⟩ = some (.int .i64 T'.root) := by rw [← show p2.2 = T'.root from M2.rc]; exact T3'.out.hc.2.1
              have HM3 := Lib.hid M2
              clear M2 hp2 HM2 HM1 HT1 SS TD OD HTE
              go_wp2_with fail
              go_step3
              refine ⟨rfl, HK.out _ _ (Handed.intro (0) (by have := HM.out; rw [fm_fr htr] at this; (first | (split at this <;> omega) | omega)) (HJ.out _ _ _ ⟨_, _, _, T3'.out, HM3.out, OE.out.then O3, Nat.le_refl _, (FdFr.mk _ _ _ _ _ _ _ _ _ _ _ _ _ _ _ _ _ _ _ _ _ _ _ _ _ _ _ _ _ _ _ _ _ _ _ _ _ _ _ _ _ _ _ _ _ _ _ _ _ _ _ _ _ _ _ _ _ _ _ _ _ _ _ _ _ _ _ _ _ _ _ _ _ _ _ _ _ _ _ _ _ _ _ _ _ _ _ _ _ _ _ _ _ _ _ _ _ _ _ _ _ _ _ _ _ _ _ _ _ _ _ _ _ _ _ _ _ _ _ _ _ _ _ _ _ _ _ _ _ _ _ _ _ _ _ _ _ _ _ _ _ _ _ _ _ _ _ _ _ _ _ _ _ _ _ _ _ _ _ _ _ _ _ _ _ _ _ _ _ _ _ _ _ _ _ _ _ _ _ _ _ _ _ _ _ _ _ _ _ _ _ _ _ _ _ _ _ _ _ _ _ _ _)⟩))⟩
      | true =>
        have hkv : ∃ v kv, kw (!s) = .node true v kv := by
          have h1 := HCF.out
          cases hk : kw (!s) with
          | nil => rw [hk] at h1; cases h1
          | node cv v kv => rw [hk] at h1; have h2 : cv = true := h1; subst h2; exact ⟨v, kv, rfl⟩
        obtain ⟨v, kv, hv1'⟩ := hkv
        have e0 : far = v := by rw [← HFR.out, hv1']; rfl
        subst e0
        have hv1 := Lib.hid hv1'
        clear hv1'
        have HM1 := HH
        clear HH
        obtain ⟨w1, hw1⟩ : ∃ v, v = ww := ⟨_, rfl⟩
        obtain ⟨p1, hp1⟩ : ∃ v, v = p := ⟨_, rfl⟩
        obtain ⟨kw1, hkw1⟩ : ∃ v, v = kw := ⟨_, rfl⟩
        obtain ⟨v, hvv⟩ : ∃ v, v = far := ⟨_, rfl⟩
        subst hw1 hp1 hkw1 hvv
        clear nw n1
        cases cn with
        | false =>
          have FF := HM1.out.facts htr
          rw [hv1.out] at FF
          have Lv1 : v < s0.sz := FF.f_lt
          have Lw1 : w1 < s0.sz := FF.w_lt
          have cq5 : W.cell? ⟨gl, q * 8 + 5, none⟩ = some (.bool c) := by rw [← FF.qc]; exact HT1.out.c Lq
          have cw5 := HT1.out.c Lw1
          have cv5 := HT1.out.c Lv1
          have qv := HT1.out.hc.1
          have fz := HT1.out.n.frozen
          simp only [TS.with] at qv cw5 cv5
          have n1 : w1 * 8 + 5 ≠ q * 8 + 5 := by have := FF.wq; omega
          have n2 : v * 8 + 5 ≠ w1 * 8 + 5 := by have := FF.fw; simp only [Sh.root] at this; omega
          have n3 : v * 8 + 5 ≠ q * 8 + 5 := by have := FF.fq; simp only [Sh.root] at this; omega
          have TA : IsT (W.setCell ⟨gl, w1 * 8 + 5, none⟩ (.bool c)) g gl (s0.with (setC p1.1 w1 c, p1.2)) := HT1.out.setC Lw1 c
          have TB : IsT ((W.setCell ⟨gl, w1 * 8 + 5, none⟩ (.bool c)).setCell ⟨gl, q * 8 + 5, none⟩ (.bool false)) g gl (s0.with (setC (setC p1.1 w1 c) q false, p1.2)) := TA.setC Lq false
          have TD := Lib.hid (show IsT (((W.setCell ⟨gl, w1 * 8 + 5, none⟩ (.bool c)).setCell ⟨gl, q * 8 + 5, none⟩ (.bool false)).setCell ⟨gl, v * 8 + 5, none⟩ (.bool false)) g gl (s0.with (setC (setC (setC p1.1 w1 c) q false) v false, p1.2)) from TB.setC Lv1 false)
          have OD := Lib.hid (((HO1.out.setCell (p := ⟨gl, w1 * 8 + 5, none⟩) (.inl (.inr rfl)) (.bool c)).setCell (p := ⟨gl, q * 8 + 5, none⟩) (.inl (.inr rfl)) (.bool false)).setCell (p := ⟨gl, v * 8 + 5, none⟩) (.inl (.inr rfl)) (.bool false))
          have SS := Lib.hid (((HM1.out.st.col HM1.out.mem_w c).col HM1.out.mem_q false).col (HM1.out.mem_v (!s) hv1.out) false)
          have HM2 := Lib.hid (HM1.out.outer htr hv1.out)
          clear FF TA TB
          go_upto_region 17 with fail
          go_region
          all_goals
            have TE := TD.out.drew
            have OE := Lib.hid OD.out.drew
            generalize (((W.setCell ⟨gl, w1 * 8 + 5, none⟩ (.bool c)).setCell ⟨gl, q * 8 + 5, none⟩ (.bool false)).setCell ⟨gl, v * 8 + 5, none⟩ (.bool false)).drew = W2 at TE OE ⊢
            have HTE := Lib.hid TE
            clear TE cq5 cw5 cv5 qv fz
            go_wp2_with fail
            refine (turn_any g gl (s0.with (setC (setC (setC p1.1 w1 c) q false) v false, p1.2)) W2 HTE.out SS.out.lk SS.out.root q Lq s).mono ?_
            rintro e W3 ⟨rfl, T3, O3⟩
            have T3' := Lib.hid (show IsT W3 g gl (s0.with (turnF (setC (setC (setC p1.1 w1 c) q false) v false) p1.2 q s)) from T3)
            clear T3
            have M2 := HM2.out
            obtain ⟨p2, hp2⟩ : ∃ p2, turnF (setC (setC (setC p1.1 w1 c) q false) v false) p1.2 q s = p2 := ⟨_, rfl⟩
            rw [hp2] at T3' M2
            generalize Cx.plug k (Sh.node c w1 (two s (Sh.node false q (two s t' (kw1 s))) (Sh.node false v kv))) = T' at M2
            have q1 : W3.cell? ⟨g, 1, none⟩ = some (.int .i64 T'.root) := by rw [← show p2.2 = T'.root from M2.rc]; exact T3'.out.hc.2.1
            have HM3 := Lib.hid M2
            clear M2 hp2 HM2 HM1 HT1 SS TD OD HTE
            go_wp2_with fail
            go_step3
            refine ⟨rfl, HK.out _ _ (Handed.intro (0) (by have := HM.out; rw [fm_fr htr] at this; (first | (split at this <;> omega) | omega)) (HJ.out _ _ _ ⟨_, _, _, T3'.out, HM3.out, OE.out.then O3, Nat.le_refl _, (FdFr.mk _ _ _ _ _ _ _ _ _ _ _ _ _ _ _ _ _ _ _ _ _ _ _ _ _ _ _ _ _ _ _ _ _ _ _ _ _ _ _ _ _ _ _ _ _ _ _ _ _ _ _ _ _ _ _ _ _ _ _ _ _ _ _ _ _ _ _ _ _ _ _ _ _ _ _ _ _ _ _ _ _ _ _ _ _ _ _ _ _ _ _ _ _ _ _ _ _ _ _ _ _ _ _ _ _ _ _ _ _ _ _ _ _ _ _ _ _ _ _ _ _ _ _ _ _ _ _ _ _ _ _ _ _ _ _ _ _ _ _ _ _ _ _ _ _ _ _ _ _ _ _ _ _ _ _ _ _ _ _ _ _ _ _ _ _ _ _ _ _ _ _ _ _ _ _ _ _ _ _ _ _ _ _ _ _ _ _ _ _ _ _ _ _ _ _ _ _ _ _ _ _ _ _)⟩))⟩
        | true =>
          have FF := HM1.out.facts htr
          rw [hv1.out] at FF
          have Lv1 : v < s0.sz := FF.f_lt
          have Lw1 : w1 < s0.sz := FF.w_lt
          have cq5 : W.cell? ⟨gl, q * 8 + 5, none⟩ = some (.bool c) := by rw [← FF.qc]; exact HT1.out.c Lq
          have cw5 := HT1.out.c Lw1
          have cv5 := HT1.out.c Lv1
          have qv := HT1.out.hc.1
          have fz := HT1.out.n.frozen
          simp only [TS.with] at qv cw5 cv5
          have n1 : w1 * 8 + 5 ≠ q * 8 + 5 := by have := FF.wq; omega
          have n2 : v * 8 + 5 ≠ w1 * 8 + 5 := by have := FF.fw; simp only [Sh.root] at this; omega
          have n3 : v * 8 + 5 ≠ q * 8 + 5 := by have := FF.fq; simp only [Sh.root] at this; omega
          have TA : IsT (W.setCell ⟨gl, w1 * 8 + 5, none⟩ (.bool c)) g gl (s0.with (setC p1.1 w1 c, p1.2)) := HT1.out.setC Lw1 c
          have TB : IsT ((W.setCell ⟨gl, w1 * 8 + 5, none⟩ (.bool c)).setCell ⟨gl, q * 8 + 5, none⟩ (.bool false)) g gl (s0.with (setC (setC p1.1 w1 c) q false, p1.2)) := TA.setC Lq false
          have TD := Lib.hid (show IsT (((W.setCell ⟨gl, w1 * 8 + 5, none⟩ (.bool c)).setCell ⟨gl, q * 8 + 5, none⟩ (.bool false)).setCell ⟨gl, v * 8 + 5, none⟩ (.bool false)) g gl (s0.with (setC (setC (setC p1.1 w1 c) q false) v false, p1.2)) from TB.setC Lv1 false)
          have OD := Lib.hid (((HO1.out.setCell (p := ⟨gl, w1 * 8 + 5, none⟩) (.inl (.inr rfl)) (.bool c)).setCell (p := ⟨gl, q * 8 + 5, none⟩) (.inl (.inr rfl)) (.bool false)).setCell (p := ⟨gl, v * 8 + 5, none⟩) (.inl (.inr rfl)) (.bool false))
          have SS := Lib.hid (((HM1.out.st.col HM1.out.mem_w c).col HM1.out.mem_q false).col (HM1.out.mem_v (!s) hv1.out) false)
          have HM2 := Lib.hid (HM1.out.outer htr hv1.out)
          clear FF TA TB
          go_upto_region 17 with fail
          go_region
          all_goals
            have TE := TD.out.drew
            have OE := Lib.hid OD.out.drew
            generalize (((W.setCell ⟨gl, w1 * 8 + 5, none⟩ (.bool c)).setCell ⟨gl, q * 8 + 5, none⟩ (.bool false)).setCell ⟨gl, v * 8 + 5, none⟩ (.bool false)).drew = W2 at TE OE ⊢
            have HTE := Lib.hid TE
            clear TE cq5 cw5 cv5 qv fz
            go_wp2_with fail
            refine (turn_any g gl (s0.with (setC (setC (setC p1.1 w1 c) q false) v false, p1.2)) W2 HTE.out SS.out.lk SS.out.root q Lq s).mono ?_
            rintro e W3 ⟨rfl, T3, O3⟩
            have T3' := Lib.hid (show IsT W3 g gl (s0.with (turnF (setC (setC (setC p1.1 w1 c) q false) v false) p1.2 q s)) from T3)
            clear T3
            have M2 := HM2.out
            obtain ⟨p2, hp2⟩ : ∃ p2, turnF (setC (setC (setC p1.1 w1 c) q false) v false) p1.2 q s = p2 := ⟨_, rfl⟩
            rw [hp2] at T3' M2
            generalize Cx.plug k (Sh.node c w1 (two s (Sh.node false q (two s t' (kw1 s))) (Sh.node false v kv))) = T' at M2
            have q1 : W3.cell? ⟨g, 1, none⟩ = some (.int .i64 T'.root) := by rw [← show p2.2 = T'.root from M2.rc]; exact T3'.out.hc.2.1
            have HM3 := Lib.hid M2
            clear M2 hp2 HM2 HM1 HT1 SS TD OD HTE
            go_wp2_with fail
            go_step3
            refine ⟨rfl, HK.out _ _ (Handed.intro (0) (by have := HM.out; rw [fm_fr htr] at this; (first | (split at this <;> omega) | omega)) (HJ.out _ _ _ ⟨_, _, _, T3'.out, HM3.out, OE.out.then O3, Nat.le_refl _, (FdFr.mk _ _ _ _ _ _ _ _ _ _ _ _ _ _ _ _ _ _ _ _ _ _ _ _ _ _ _ _ _ _ _ _ _ _ _ _ _ _ _ _ _ _ _ _ _ _ _ _ _ _ _ _ _ _ _ _ _ _ _ _ _ _ _ _ _ _ _ _ _ _ _ _ _ _ _ _ _ _ _ _ _ _ _ _ _ _ _ _ _ _ _ _ _ _ _ _ _ _ _ _ _ _ _ _ _ _ _ _ _ _ _ _ _ _ _ _ _ _ _ _ _ _ _ _ _ _ _ _ _ _ _ _ _ _ _ _ _ _ _ _ _ _ _ _ _ _ _ _ _ _ _ _ _ _ _ _ _ _ _ _ _ _ _ _ _ _ _ _ _ _ _ _ _ _ _ _ _ _ _ _ _ _ _ _ _ _ _ _ _ _ _ _ _ _ _ _ _ _ _ _ _ _ _)⟩))⟩
end Go.Proofs.Ytfoigflgglpobaa.Tr
