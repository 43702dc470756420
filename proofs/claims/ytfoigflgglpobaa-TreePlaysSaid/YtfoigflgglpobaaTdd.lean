/- What Drop leaves, and what filling reads, in plain Lean. No program in sight; no condition. -/
import Derived.Test.YtfoigflgglpobaaTdc
import Derived.Test.YtfoigflgglpobaaTrz
set_option linter.unusedVariables false
namespace Go.Proofs.Ytfoigflgglpobaa.Tr
open Go.RowKit Go.Proofs.Ytfoigflgglpobaa.Aid
def freeNd (l : Nat) (tn : Int) : Nd := ⟨0, 0, l, 0, 0, false, false, tn⟩
/-- numbers behind a Drop -/
def TS.dropped (s : TS) (p : (Nat → Nd) × Nat) (z : Nat) : TS := { s with f := repN (repN p.1 z (freeNd s.free (s.f z).turn)) 0 zeroN, root := p.2, free := z, n := s.n - 1 }
structure DropRes (s : TS) (T : Sh) (z : Nat) (s' : TS) (T' : Sh) (pre post : List Nat) : Prop where
  ino : T.ino = pre ++ z :: post
  ino' : T'.ino = pre ++ post
  old : ∀ w, w ≠ z → (s'.f w).t = (s.f w).t ∧ (s'.f w).s = (s.f w).s
  turn : ∀ w, (s'.f w).turn = (s.f w).turn
  sz : s'.sz = s.sz
  most : s'.most = s.most
section
variable {w W : World} {g gl : Nat} {s : TS} {T : Sh} {fl : List Nat} {z : Nat} {pre post : List Nat} {p : (Nat → Nd) × Nat}
theorem drop_full (h : Full w g gl s T fl) (hT : T.ino = pre ++ z :: post) (M : CutMid s T p) {T' : Sh} (rb : RB p.1 p.2 T') (hT' : T'.ino = pre ++ post) (hm : IsT W g gl (s.dropped p z)) :
    Full W g gl (s.dropped p z) T' (z :: fl) ∧ DropRes s T z (s.dropped p z) T' pre post := by
  have hzT : z ∈ T.ino := by rw [hT]; simp
  have hz := h.lt z hzT
  have z0 := h.rd.ne0 hzT
  have hsub := sub_nodup (by rw [← hT]; exact h.rb.nd)
  have hin : ∀ v, v ∈ T'.ino → v ∈ T.ino := fun v hv => by rw [hT'] at hv; rw [hT]; simp only [List.mem_append, List.mem_cons] at hv ⊢; exact hv.elim .inl fun e => .inr (.inr e)
  have hout : ∀ v, v ∈ T.ino → v ≠ z → v ∈ T'.ino := fun v hv hne => by rw [hT] at hv; rw [hT']; simp only [List.mem_append, List.mem_cons] at hv ⊢; exact hv.elim .inl fun e => .inr (e.resolve_left hne)
  have hzT' : z ∉ T'.ino := by rw [hT']; exact hsub.2
  have h0T' : 0 ∉ T'.ino := fun e => h.rd.ne0 (hin 0 e) rfl
  have fo : ∀ v, v ≠ 0 → v ≠ z → (s.dropped p z).f v = p.1 v := fun v h1 h2 => by show repN (repN p.1 z (freeNd s.free (s.f z).turn)) 0 zeroN v = _; rw [repN_ne h1, repN_ne h2]
  have f0 : (s.dropped p z).f 0 = zeroN := by show repN (repN p.1 z (freeNd s.free (s.f z).turn)) 0 zeroN 0 = _; rw [repN_same]
  have fz : (s.dropped p z).f z = freeNd s.free (s.f z).turn := by show repN (repN p.1 z (freeNd s.free (s.f z).turn)) 0 zeroN z = _; rw [repN_ne z0, repN_same]
  have fin : ∀ v, v ∈ T'.ino → (s.dropped p z).f v = p.1 v := fun v hv => fo v (fun e => h0T' (e ▸ hv)) (fun e => hzT' (e ▸ hv))
  have hs1 := h.m.sz.1
  have hfree : s.free < s.sz := by
    have h1 := h.free
    have h2 := h.fpl
    cases fl with
    | nil => have h3 : s.free = 0 := h1; omega
    | cons a l => rw [h1.1]; exact (h2 a (by simp)).2.1
  have hzf : z ∉ fl := fun e => (h.fpl z e).2.2 hzT
  have hkeep : ∀ v, v ≠ 0 → v ≠ z → ((s.dropped p z).f v).t = (s.f v).t ∧ ((s.dropped p z).f v).s = (s.f v).s ∧ ((s.dropped p z).f v).tak = (s.f v).tak ∧ ((s.dropped p z).f v).turn = (s.f v).turn := fun v h1 h2 => by rw [fo v h1 h2]; exact M.keep v
  refine ⟨⟨hm, ⟨rb.rep.frame _ fun v hv => same_eq (fin v hv), rb.root, rb.nrr, rb.red, rb.bal, rb.nd⟩, fun v hv => h.lt v (hin v hv), fun v hv => ?_, ?_, fun v hv => ?_, f0, ⟨rfl, ?_⟩, fun v hv => ?_, List.nodup_cons.2 ⟨hzf, h.fnd⟩, ?_, ?_, h.cap⟩, ⟨hT, hT', fun v hv => ?_, fun v => ?_, rfl, rfl⟩⟩
  · have hv' : v < s.sz := hv
    show _ < s.sz ∧ _ < s.sz ∧ _ < s.sz
    by_cases e0 : v = 0
    · subst e0; rw [f0]; exact ⟨hs1, hs1, hs1⟩
    · by_cases ez : v = z
      · subst ez; rw [fz]; exact ⟨hfree, hs1, hs1⟩
      · rw [fo v e0 ez]; exact M.lk v hv'
  · have h1 : Srt s.f T'.ino := by
      rw [hT']
      refine List.Pairwise.sublist ?_ (hT ▸ h.srt)
      exact List.Sublist.append (List.Sublist.refl _) (List.sublist_cons_self _ _)
    refine srt_keep h1 fun v hv => ?_
    have := hkeep v (fun e => h0T' (e ▸ hv)) (fun e => hzT' (e ▸ hv))
    exact ⟨this.1, this.2.1⟩
  · have hv' : v < s.sz := hv
    by_cases e0 : v = 0
    · subst e0; rw [f0]; exact ⟨fun e => (by cases e), fun e => absurd e h0T'⟩
    · by_cases ez : v = z
      · subst ez; rw [fz]; exact ⟨fun e => (by cases e), fun e => absurd e hzT'⟩
      · rw [(hkeep v e0 ez).2.2.1, h.tak v hv']
        exact ⟨fun e => hout v e ez, hin v⟩
  · show Chain (s.dropped p z).f ((s.dropped p z).f z).l fl
    rw [fz]
    refine chain_keep _ _ h.free fun v hv => ?_
    have h1 := h.fpl v hv
    rw [fo v h1.1 (fun e => hzf (e ▸ hv)), M.away v h1.2.2 h1.1]
  · rcases List.mem_cons.1 hv with rfl | hv
    · exact ⟨z0, hz, hzT'⟩
    · exact ⟨(h.fpl v hv).1, (h.fpl v hv).2.1, fun e => (h.fpl v hv).2.2 (hin v e)⟩
  · have := h.cnt
    rw [hT] at this
    rw [hT']
    simp only [List.length_append, List.length_cons] at this ⊢
    show _ = s.sz
    omega
  · have := h.n
    rw [hT] at this
    rw [hT']
    simp only [List.length_append, List.length_cons] at this ⊢
    show s.n - 1 = _
    omega
  · by_cases e0 : v = 0
    · subst e0; rw [f0, h.z0]; exact ⟨rfl, rfl⟩
    · exact ⟨(hkeep v e0 hv).1, (hkeep v e0 hv).2.1⟩
  · by_cases e0 : v = 0
    · subst e0; rw [f0, h.z0]
    · by_cases ez : v = z
      · subst ez; rw [fz]; rfl
      · exact (hkeep v e0 ez).2.2.2
end
section
variable {s0 : TS} {I : List Nat} {p : (Nat → Nd) × Nat} {c s : Bool} {q w : Nat} {cw : Bool} {kw : Bool → Sh} {k : Cx} {t sib : Sh} {E : Cx}
theorem plug_root_mem (K : Cx) : ∀ (u : Sh), K ≠ .top → (K.plug u).root ∈ K.all := by
  induction K with
  | top => intro u e; exact absurd rfl e
  | fr c3 x3 s3 sib3 K3 ih3 =>
    intro u _
    cases K3 with
    | top => simp [Cx.plug, Sh.root, Cx.all]
    | fr c4 x4 s4 sib4 K4 =>
      have := ih3 (.node c3 x3 (two s3 u sib3)) (by simp)
      simp only [Cx.all, List.mem_cons, List.mem_append] at this ⊢
      exact .inr (.inr this)
/-- filling stops, or there is a place above and one on the other side -/
theorem FSt.split (h : FSt s0 I p E t) : (E = .top ∧ t.root = p.2) ∨ (t.red = true ∧ (p.1 t.root).red = true) ∨ (t.red = false ∧ ∃ c q s cw w kw k, E = .fr c q s (.node cw w kw) k) := by
  cases E with
  | top => exact .inl ⟨rfl, h.rc.symm⟩
  | fr c q s sib k =>
    cases hr : t.red with
    | true =>
      refine .inr (.inl ⟨rfl, ?_⟩)
      cases t with
      | nil => cases hr
      | node c' x k' => exact h.rt.2.1.trans hr
    | false =>
      refine .inr (.inr ⟨rfl, ?_⟩)
      obtain ⟨n, b, _, h1, _⟩ := h.bal
      cases sib with
      | nil => exact absurd (show n + 1 = 0 from h1) (by omega)
      | node cw w kw => exact ⟨c, q, s, cw, w, kw, k, rfl⟩
structure FFacts (s0 : TS) (p : (Nat → Nd) × Nat) (x q : Nat) (s : Bool) (cw : Bool) (w : Nat) (near far : Nat) (cn cf : Bool) (c : Bool) : Prop where
  xr : x ≠ p.2
  xc : (p.1 x).red = false
  xu : (p.1 x).u = q
  side : decide ((p.1 q).r = x) = s
  qw : ch p.1 q (!s) = w
  wc : (p.1 w).red = cw
  wn : ch p.1 w s = near
  wf : ch p.1 w (!s) = far
  nc : (p.1 near).red = cn
  fc : (p.1 far).red = cf
  qc : (p.1 q).red = c
  x_lt : x < s0.sz
  q_lt : q < s0.sz
  w_lt : w < s0.sz
  n_lt : near < s0.sz
  f_lt : far < s0.sz
  wq : w ≠ q
  nw : near ≠ w
  fw : far ≠ w
  nq : near ≠ q
  fq : far ≠ q
theorem FSt.facts (h : FSt s0 I p (.fr c q s (.node cw w kw) k) t) (ht : t.red = false) : FFacts s0 p t.root q s cw w (kw s).root (kw (!s)).root (kw s).red (kw (!s)).red c := by
  obtain ⟨b1, b2, b3, b4⟩ := h.big
  obtain ⟨n1, n2, n3⟩ := List.nodup_append.1 ((plug_perm k _).nodup_iff.1 b4)
  obtain ⟨g1, g2, g3⟩ := nodup_node n1 s
  obtain ⟨v1, v2, v3⟩ := nodup_node n1 (!s)
  rw [Bool.not_not] at v3
  rw [two_same] at g1 g2 g3 v3
  rw [two_other] at g3 v1 v2 v3
  have mI : ∀ z, z ∈ (Sh.node c q (two s t (.node cw w kw))).ino → z ∈ I := fun z hz => by rw [← b3, (plug_perm k _).mem_iff]; exact List.mem_append_left _ hz
  have hw : w ∈ (Sh.node cw w kw).ino := (mem_node s).2 (.inl rfl)
  have mw : w ∈ I := mI w (mem_big (.inl hw))
  have mq : q ∈ I := mI q (mem_big (.inr (.inl rfl)))
  obtain ⟨a0, a1, a2, a3, a4⟩ := b1
  have qs := a3 s
  have qo := a3 (!s)
  rw [two_same] at qs
  rw [two_other] at qo
  have rw_ := a4 (!s)
  rw [two_other] at rw_
  obtain ⟨w0, w1, w2, w3, w4⟩ := rw_
  have hsz : 0 < s0.sz := hz_pos (h.st.lt q mq)
  have hx : t.root = 0 ∨ t.root ∈ I := by
    by_cases e : t.root = 0
    · exact .inl e
    · exact .inr (h.rt0 e)
  have hkid : ∀ σ, (kw σ).root ≠ 0 → (kw σ).root ∈ (Sh.node cw w kw).ino := fun σ e => mem_ino_side σ (root_mem e)
  have kidlt : ∀ σ, (kw σ).root < s0.sz := fun σ => by
    by_cases e : (kw σ).root = 0
    · rw [e]; exact hsz
    · exact h.st.lt _ (mI _ (mem_big (.inl (hkid σ e))))
  have kidred : ∀ σ, (p.1 (kw σ).root).red = (kw σ).red := fun σ => by
    have r := w4 σ
    cases hk : kw σ with
    | nil => exact h.c0
    | node c' x' k' => rw [hk] at r; exact r.2.1
  have kidw : ∀ σ, (kw σ).root ≠ w := fun σ => by
    by_cases e : (kw σ).root = 0
    · rw [e]; exact Ne.symm w0
    · exact fun e2 => (nodup_node v2 σ).1 (by rw [← e2]; exact root_mem e)
  have kidq : ∀ σ, (kw σ).root ≠ q := fun σ => by
    by_cases e : (kw σ).root = 0
    · rw [e]; exact Ne.symm a0
    · exact fun e2 => v1 (by rw [← e2]; exact hkid σ e)
  refine ⟨?_, ?_, h.up, ?_, qo, w1, w3 s, w3 (!s), kidred s, kidred (!s), a1, ?_, h.st.lt q mq, h.st.lt w mw, kidlt s, kidlt (!s), fun e => v1 (e ▸ hw), kidw s, kidw (!s), kidq s, kidq (!s)⟩
  · intro e
    obtain ⟨z1, z2⟩ := plug_rep _ h.rt h.rc
    have hroot : p.2 ∈ (Cx.fr c q s (.node cw w kw) k).all := by rw [z2]; exact plug_root_mem _ t (by simp)
    have n0 := repC_no0 _ h.rc
    have nd := h.nd
    rw [← h.ino] at nd
    obtain ⟨_, _, m3⟩ := List.nodup_append.1 ((plug_perm _ t).nodup_iff.1 nd)
    by_cases e2 : t.root = 0
    · exact n0 (by rw [← e2, e]; exact hroot)
    · exact m3 _ (root_mem e2) _ hroot e
  · cases t with
    | nil => exact h.c0
    | node c' x' k' => exact h.rt.2.1.trans ht
  · cases s with
    | true => rw [show (p.1 q).r = t.root from qs]; simp
    | false =>
      rw [show (p.1 q).r = w from qo]
      refine decide_eq_false fun e => ?_
      by_cases e2 : t.root = 0
      · exact w0 (e.trans e2)
      · exact v3 w hw (by rw [e]; exact root_mem e2)
  · rcases hx with e | e
    · rw [e]; exact hsz
    · exact h.st.lt _ e
end
end Go.Proofs.Ytfoigflgglpobaa.Tr
