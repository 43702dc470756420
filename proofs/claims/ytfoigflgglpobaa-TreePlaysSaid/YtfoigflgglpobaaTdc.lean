/- What cutting a place out of a tree does, in plain Lean. No program in sight; no condition. -/
import Derived.Test.YtfoigflgglpobaaTdb
import Derived.Test.YtfoigflgglpobaaTrn
set_option linter.unusedVariables false
namespace Go.Proofs.Ytfoigflgglpobaa.Tr
open Go.RowKit Go.Proofs.Ytfoigflgglpobaa.Aid
theorem rep_no0 {f : Nat → Nd} (t : Sh) : ∀ {up : Nat}, Rep f t up → 0 ∉ t.ino := by
  induction t with
  | nil => intro up _ h; cases h
  | node c x k ih =>
    intro up h hm
    rcases (mem_node false).1 hm with e | e | e
    · exact h.1 e.symm
    · exact ih false (h.2.2.2.2 false) e
    · exact ih true (h.2.2.2.2 true) e
theorem repC_no0 {f : Nat → Nd} {root : Nat} (k : Cx) : ∀ {h : Nat}, RepC f root k h → 0 ∉ k.all := by
  induction k with
  | top => intro h _ hm; cases hm
  | fr c x s sib k ih =>
    intro h hr hm
    obtain ⟨h0, h1, h2, h3, h4, h5, h6⟩ := hr
    simp only [Cx.all, List.mem_cons, List.mem_append] at hm
    rcases hm with e | e | e
    · exact h0 e.symm
    · exact rep_no0 sib h5 e
    · exact ih h6 e
/-- one child hangs where its parent did -/
theorem hang_sub {f : Nat → Nd} {root z : Nat} {C : Cx} {c : Bool} {kz : Bool → Sh} (hR : Rep f (.node c z kz) C.up) (hC : RepC f root C z) (hnd : (C.plug (.node c z kz)).ino.Nodup) (r : Bool) :
    Rep (hangF f root z (kz r).root).1 (kz r) C.up ∧ RepC (hangF f root z (kz r).root).1 (hangF f root z (kz r).root).2 C (kz r).root ∧ ((hangF f root z (kz r).root).1 (kz r).root).u = C.up ∧
    (∀ w, w ∉ (C.plug (.node c z kz)).ino → w ≠ 0 → (hangF f root z (kz r).root).1 w = f w) := by
  obtain ⟨n1, n2, n3⟩ := List.nodup_append.1 ((plug_perm C (.node c z kz)).nodup_iff.1 hnd)
  have mz : z ∈ (Sh.node c z kz).ino := (mem_node false).2 (.inl rfl)
  have hx : (kz r).root ≠ 0 → (kz r).root ∈ (Sh.node c z kz).ino := fun e => mem_ino_side r (root_mem e)
  have hxC : (kz r).root ∉ C.all := by
    by_cases e : (kz r).root = 0
    · rw [e]; exact repC_no0 C hC
    · exact fun e2 => n3 _ (hx e) _ e2 rfl
  have hR' := hR
  obtain ⟨r0, r1, r2, r3, r4⟩ := hR
  obtain ⟨a1, a2, a3, a4, a5⟩ := hang_rep n2 hC r2 r0 (fun e => n3 z mz z e rfl) hxC
  have dis := nodup_node n1 r
  have hup : ∀ w, w ∈ (Sh.node c z kz).ino → C.up = 0 ∨ w ≠ C.up := fun w hw => by
    by_cases e : C.up = 0
    · exact .inl e
    · exact .inr fun e2 => n3 w hw w (e2 ▸ RepC.up_mem hC e) rfl
  refine ⟨Rep.rebase dis.2.1 (r4 r) (fun w hw hwr => same_eq (a2 w hwr (hup w (mem_ino_side r hw)))) (fun e => ⟨a3 false (hup _ (hx e)), a3 true (hup _ (hx e)), a5, a4⟩), a1, a4, fun w hw h0 => a2 w (fun e => ?_) ?_⟩
  · by_cases e2 : (kz r).root = 0
    · rw [e2] at e; exact h0 e
    · exact hw ((plug_perm C _).mem_iff.2 (List.mem_append_left _ (e ▸ hx e2)))
  · by_cases e : C.up = 0
    · exact .inl e
    · exact .inr fun e2 => hw ((plug_perm C _).mem_iff.2 (List.mem_append_right _ (e2 ▸ RepC.up_mem hC e)))
theorem app_top (d : Cx) : d.app .top = d := by
  induction d with
  | top => rfl
  | fr c x s sib d ih => show Cx.fr c x s sib (d.app .top) = _; rw [ih]
theorem app_pre (d k : Cx) : (d.app k).pre = k.pre ++ d.pre := by
  induction d with
  | top => simp [Cx.app, Cx.pre]
  | fr c x s sib d ih => simp only [Cx.app, Cx.pre]; rw [ih, List.append_assoc]
theorem app_mem {d k : Cx} {z : Nat} (h : z ∈ k.all) : z ∈ (d.app k).all := by
  induction d with
  | top => exact h
  | fr c x s sib d ih => simp only [Cx.app, Cx.all, List.mem_cons, List.mem_append]; exact .inr (.inr ih)
/-- the way to the first place -/
theorem fst_way {f : Nat → Nd} (t : Sh) : ∀ {up : Nat}, Rep f t up → t.root ≠ 0 → ∃ D cy y ky, t = Cx.plug D (.node cy y ky) ∧ ky false = .nil ∧ t.fst = y ∧ D.pre = [] := by
  induction t with
  | nil => intro up _ h; exact absurd rfl h
  | node c x k ih =>
    intro up h _
    by_cases e : (k false).root = 0
    · exact ⟨.top, c, x, k, rfl, rep_root (h.2.2.2.2 false) e, by unfold Sh.fst; rw [if_pos e], rfl⟩
    · obtain ⟨D, cy, y, ky, h1, h2, h3, h4⟩ := ih false (h.2.2.2.2 false) e
      refine ⟨D.app (.fr c x false (k true) .top), cy, y, ky, ?_, h2, by unfold Sh.fst; rw [if_neg e]; exact h3, by rw [app_pre, h4]; rfl⟩
      rw [app_plug, ← h1]
      show _ = Sh.node c x (two false (k false) (k true))
      rw [show two false (k false) (k true) = k from two_eta k false]
/-- all that cutting does, if the place that goes is another one's -/
def cutF (f : Nat → Nd) (root z y x : Nat) : (Nat → Nd) × Nat :=
  let h := hangF f root y x
  let k := takeF h.1 h.2 z y
  (setU k.1 x (if (h.1 x).u = z then y else (h.1 x).u), k.2)
theorem setU_id {f : Nat → Nd} {z v : Nat} (h : (f z).u = v) : setU f z v = f := by
  funext y
  unfold setU
  split
  · rename_i e; subst e; rw [← h]
  · rfl
theorem cutB_rep {f : Nat → Nd} {root z y : Nat} {C D : Cx} {c cy : Bool} {sz : Sh} {ky : Bool → Sh} (hR : Rep f (.node cy y ky) (D.app (.fr c z true sz C)).up) (hC : RepC f root (D.app (.fr c z true sz C)) y)
    (hnd : ((D.app (.fr c z true sz C)).plug (.node cy y ky)).ino.Nodup) :
    Rep (cutF f root z y (ky true).root).1 (ky true) (D.app (.fr c y true sz C)).up ∧ RepC (cutF f root z y (ky true).root).1 (cutF f root z y (ky true).root).2 (D.app (.fr c y true sz C)) (ky true).root ∧
    ((cutF f root z y (ky true).root).1 (ky true).root).u = (D.app (.fr c y true sz C)).up ∧ (∀ w, w ∉ ((D.app (.fr c z true sz C)).plug (.node cy y ky)).ino → w ≠ 0 → (cutF f root z y (ky true).root).1 w = f w) := by
  obtain ⟨n1, n2, n3⟩ := List.nodup_append.1 ((plug_perm (D.app (.fr c z true sz C)) (.node cy y ky)).nodup_iff.1 hnd)
  obtain ⟨s1, s2, s3, s4⟩ := hang_sub hR hC hnd true
  have y0 : y ≠ 0 := hR.1
  have my : y ∈ (Sh.node cy y ky).ino := (mem_node false).2 (.inl rfl)
  obtain ⟨d1, d2, d3⟩ := nodup_node n1 true
  obtain ⟨p1, p2⟩ := replug D s1 s2
  obtain ⟨q1, q2⟩ := RepC.down (x := z) p1 p2
  have hpl : ((D.app (.fr c z true sz C)).plug (ky true)).ino.Perm ((ky true).ino ++ (D.app (.fr c z true sz C)).all) := plug_perm _ _
  have e1 : (D.app (.fr c z true sz C)).plug (ky true) = C.plug (.node c z (two true (D.plug (ky true)) sz)) := app_plug _ _ _
  rw [e1] at hpl
  have hnd2 : (C.plug (.node c z (two true (D.plug (ky true)) sz))).ino.Nodup := hpl.nodup_iff.2 (List.nodup_append.2 ⟨d2, n2, fun a ha b hb => n3 a (mem_ino_side true ha) b hb⟩)
  have hy2 : y ∉ (C.plug (.node c z (two true (D.plug (ky true)) sz))).ino := fun e => by
    rcases List.mem_append.1 (hpl.mem_iff.1 e) with e | e
    · exact d1 e
    · exact n3 y my y e rfl
  have h02 : 0 ∉ (C.plug (.node c z (two true (D.plug (ky true)) sz))).ino := fun e => by
    rcases List.mem_append.1 (hpl.mem_iff.1 e) with e | e
    · exact rep_no0 _ s1 e
    · exact repC_no0 _ hC e
  obtain ⟨t1, t2, t3⟩ := take_rep q1 q2 hnd2 hy2 y0 h02
  obtain ⟨u1, u2⟩ := unbig t1 t2
  obtain ⟨v1, v2⟩ := unplug D (k := .fr c y true sz C) u1 u2
  have hat : (if ((hangF f root y (ky true).root).1 (ky true).root).u = z then y else ((hangF f root y (ky true).root).1 (ky true).root).u) = (D.app (.fr c y true sz C)).up := by
    rw [s3]
    cases D with
    | top => exact if_pos rfl
    | fr c' x' s' sib' d =>
      have hne : x' ≠ z := fun e => by
        have h1 := (List.nodup_cons.1 n2).1
        refine h1 (List.mem_append_right _ (app_mem ?_))
        rw [e]; simp [Cx.all]
      exact if_neg hne
  obtain ⟨E, hE⟩ : ∃ E, D.app (.fr c y true sz C) = E := ⟨_, rfl⟩
  have ef : cutF f root z y (ky true).root = (setU (takeF (hangF f root y (ky true).root).1 (hangF f root y (ky true).root).2 z y).1 (ky true).root E.up, (takeF (hangF f root y (ky true).root).1 (hangF f root y (ky true).root).2 z y).2) := by
    unfold cutF; dsimp only; rw [hat, hE]
  rw [hE] at v1 v2 ⊢
  rw [ef]
  refine ⟨?_, ?_, setU_u _ _ _, fun w h1 h2 => ?_⟩
  · by_cases e : (ky true).root = 0
    · have e2 := rep_root v1 e
      rw [e2]; trivial
    · have h5 : ((takeF (hangF f root y (ky true).root).1 (hangF f root y (ky true).root).2 z y).1 (ky true).root).u = E.up := by
        cases hk : ky true with
        | nil => rw [hk] at e; exact absurd rfl e
        | node c' x' k' => rw [hk] at v1; exact v1.2.2.1
      show Rep (setU _ _ _) _ _
      rw [setU_id h5]; exact v1
  · by_cases e : (ky true).root = 0
    · refine v2.frame _ fun w hw => same_eq (setU_ne ?_)
      rw [e]
      exact fun e2 => repC_no0 _ v2 (e2 ▸ hw)
    · have h5 : ((takeF (hangF f root y (ky true).root).1 (hangF f root y (ky true).root).2 z y).1 (ky true).root).u = E.up := by
        cases hk : ky true with
        | nil => rw [hk] at e; exact absurd rfl e
        | node c' x' k' => rw [hk] at v1; exact v1.2.2.1
      show RepC (setU _ _ _) _ _ _
      rw [setU_id h5]; exact v2
  · have hw : ∀ v, v ∈ (Sh.node cy y ky).ino ∨ v ∈ (D.app (.fr c z true sz C)).all → w ≠ v := fun v hv e => h1 ((plug_perm _ _).mem_iff.2 (List.mem_append.2 (e ▸ hv)))
    show setU _ _ _ w = _
    have a1 : w ≠ (ky true).root := by
      by_cases e : (ky true).root = 0
      · rw [e]; exact h2
      · exact hw _ (.inl (mem_ino_side true (root_mem e)))
    have a2 : w ∉ (C.plug (.node c z (two true (D.plug (ky true)) sz))).ino := fun e => by
      rcases List.mem_append.1 (hpl.mem_iff.1 e) with e | e
      · exact hw w (.inl (mem_ino_side true e)) rfl
      · exact hw w (.inr e) rfl
    rw [setU_ne a1, t3 w a2 (hw y (.inl my)), s4 w h1 h2]
theorem hang_red (f : Nat → Nd) (root old x w : Nat) : ((hangF f root old x).1 w).red = (f w).red := by
  unfold hangF
  dsimp only
  rw [setU_red]
  split
  · rfl
  · split <;> rw [setCh_red]
theorem take_red {f : Nat → Nd} {root z y w : Nat} (h : w ≠ y) : ((takeF f root z y).1 w).red = (f w).red := by
  have h1 : (repN (hangF f root z y).1 y { (hangF f root z y).1 y with l := ((hangF f root z y).1 z).l, r := ((hangF f root z y).1 z).r, red := ((hangF f root z y).1 z).red } w).red = (f w).red := by rw [repN_ne h]; exact hang_red _ _ _ _ _
  unfold takeF
  dsimp only
  split
  · split
    · exact h1
    · rw [setU_red]; exact h1
  · split
    · rw [setU_red]; exact h1
    · rw [setU_red, setU_red]; exact h1
theorem Lk.take {f : Nat → Nd} {sz root : Nat} (h : Lk f sz) (hr : root < sz) {z y : Nat} (hz : z < sz) (hy : y < sz) : Lk (takeF f root z y).1 sz ∧ (takeF f root z y).2 < sz := by
  obtain ⟨h1, h2⟩ := h.hang hr hz hy
  have h3 : Lk (repN (hangF f root z y).1 y { (hangF f root z y).1 y with l := ((hangF f root z y).1 z).l, r := ((hangF f root z y).1 z).r, red := ((hangF f root z y).1 z).red }) sz := fun w hw => by
    by_cases e : w = y
    · subst e; rw [repN_same]
      exact ⟨(h1 z hz).1, (h1 z hz).2.1, (h1 w hw).2.2⟩
    · rw [repN_ne e]; exact h1 w hw
  refine ⟨?_, h2⟩
  unfold takeF
  dsimp only
  split
  · split
    · exact h3
    · exact h3.setU _ hy
  · split
    · exact h3.setU _ hy
    · exact (h3.setU _ hy).setU _ hy
/-- what cutting has done to a tree's numbers -/
structure CutMid (s : TS) (T : Sh) (p : (Nat → Nd) × Nat) : Prop where
  keep : Keep s.f p.1
  away : ∀ w, w ∉ T.ino → w ≠ 0 → p.1 w = s.f w
  red0 : (p.1 0).red = false
  lk : Lk p.1 s.sz
  root : p.2 < s.sz
theorem CutMid.stay {s : TS} {T : Sh} {p : (Nat → Nd) × Nat} (h : CutMid s T p) {I : List Nat} (z0 : 0 ∉ I) (lt : ∀ z, z ∈ I → z < s.sz) : Stay (s.with p) I p := ⟨z0, lt, Keep.refl _, fun _ _ => rfl, h.lk, h.root⟩
theorem CutMid.end {s : TS} {T : Sh} {p q : (Nat → Nd) × Nat} (h : CutMid s T p) {I : List Nat} (hI : ∀ z, z ∈ I → z ∈ T.ino) (e : MdEnd (s.with p) I q) : CutMid s T q ∧ ∃ T', RB q.1 q.2 T' ∧ T'.ino = I := by
  obtain ⟨st, e⟩ := e
  refine ⟨⟨h.keep.trans st.keep, fun w h1 h2 => (st.away w fun e => h1 (hI w e)).trans (h.away w h1 h2), ?_, st.lk, st.root⟩, e⟩
  rw [st.away 0 st.z0]; exact h.red0
section
variable {w : World} {g gl : Nat} {s : TS} {T : Sh} {fl : List Nat} {z : Nat} {pre post : List Nat}
theorem Full.rootlt (h : Full w g gl s T fl) : s.root < s.sz := by
  rw [h.rb.root]
  by_cases e : T.root = 0
  · rw [e]; exact hz_pos (Nat.lt_of_lt_of_le h.m.sz.1 (Nat.le_refl _))
  · exact h.lt _ (root_mem e)
theorem sub_nodup {pre post : List Nat} {z : Nat} (h : (pre ++ z :: post).Nodup) : (pre ++ post).Nodup ∧ z ∉ pre ++ post := by
  have := (List.perm_middle.nodup_iff).1 h
  obtain ⟨a, b⟩ := List.nodup_cons.1 this
  exact ⟨b, a⟩
/-- the place itself goes -/
theorem cutA (h : Full w g gl s T fl) (hT : T.ino = pre ++ z :: post) {C : Cx} {c : Bool} {kz : Bool → Sh} (hR : Rep s.f (.node c z kz) C.up) (hC : RepC s.f s.root C z) (hpl : C.plug (.node c z kz) = T) (r : Bool) (hr : kz (!r) = .nil) :
    CutMid s T (hangF s.f s.root z (kz r).root) ∧ (c = false → FSt (s.with (hangF s.f s.root z (kz r).root)) (pre ++ post) (hangF s.f s.root z (kz r).root) C (kz r)) ∧
    (c = true → MdEnd (s.with (hangF s.f s.root z (kz r).root)) (pre ++ post) (hangF s.f s.root z (kz r).root)) := by
  have hnd := h.rb.nd
  rw [← hpl] at hnd
  obtain ⟨s1, s2, s3, s4⟩ := hang_sub hR hC hnd r
  have hzT : z ∈ T.ino := by rw [hT]; simp
  have hz := h.lt z hzT
  have hlx := h.lk.ch hz r
  rw [hR.2.2.2.1 r] at hlx
  have hl := h.lk.hang h.rootlt hz hlx
  have M : CutMid s T (hangF s.f s.root z (kz r).root) := by
    refine ⟨keep_hang _ _ _ _, fun w h1 h2 => s4 w (by rw [hpl]; exact h1) h2, ?_, hl.1, hl.2⟩
    rw [hang_red, h.z0]; rfl
  have hI : (C.plug (kz r)).ino = pre ++ post := by
    have h1 := plug_list C c z kz
    rw [hpl, hT] at h1
    obtain ⟨rfl, rfl⟩ := split_eq h1 (by rw [← hT]; exact h.rb.nd)
    rw [plug_ino]
    cases r with
    | false => rw [show kz true = .nil from hr]; simp [Sh.ino]
    | true => rw [show kz false = .nil from hr]; simp [Sh.ino]
  have hsub := sub_nodup (by rw [← hT]; exact h.rb.nd)
  have hin : ∀ v, v ∈ pre ++ post → v ∈ T.ino := fun v hv => by rw [hT]; simp only [List.mem_append, List.mem_cons] at hv ⊢; exact hv.elim .inl fun e => .inr (.inr e)
  have st := M.stay (I := pre ++ post) (fun e => h.rd.ne0 (hin 0 e) rfl) (fun v hv => h.lt v (hin v hv))
  obtain ⟨b, hb⟩ := h.rb.bal
  have hnr := h.rb.nrr
  have hrd := h.rb.red
  rw [← hpl] at hb hnr hrd
  obtain ⟨n, hbn, hcb⟩ := bal_split C hb
  obtain ⟨nz, nr⟩ := nrr_split C hnr
  have cn := cnrr_of C hnr hrd
  refine ⟨M, fun hc => ?_, fun hc => ?_⟩
  · subst hc
    obtain ⟨m, rfl, hm⟩ := hbn
    exact ⟨st, M.red0, s1, s2, s3, hI, hsub.1, ⟨m, b, hm r, hcb⟩, nrrK_of (nz.2 r), cn⟩
  · subst hc
    obtain ⟨q1, q2⟩ := plug_rep C s1 s2
    have hblk := nz.1 rfl r
    exact ⟨st, _, ⟨q1, q2, plug_nrr C (nz.2 r) cn (fun _ => hblk), plug_red C cn (fun _ => hblk), ⟨b, plug_bal C (hbn r) hcb⟩, by rw [hI]; exact hsub.1⟩, hI⟩
/-- another place goes, and comes in its place -/
theorem cutB (h : Full w g gl s T fl) (hT : T.ino = pre ++ z :: post) {C D : Cx} {c cy : Bool} {y : Nat} {kz ky : Bool → Sh} (hpl : C.plug (.node c z kz) = T) (hD : kz true = D.plug (.node cy y ky)) (hk : ky false = .nil) (hpre : D.pre = []) :
    CutMid s T (cutF s.f s.root z y (ky true).root) ∧ (s.f y).red = cy ∧ (s.f y).l = 0 ∧ (s.f y).r = (ky true).root ∧ y ≠ z ∧ y ∈ T.ino ∧ z ∈ T.ino ∧ (cy = false → FSt (s.with (cutF s.f s.root z y (ky true).root)) (pre ++ post) (cutF s.f s.root z y (ky true).root) (D.app (.fr c y true (kz false) C)) (ky true)) ∧
    (cy = true → MdEnd (s.with (cutF s.f s.root z y (ky true).root)) (pre ++ post) (cutF s.f s.root z y (ky true).root)) := by
  have hK : (D.app (.fr c z true (kz false) C)).plug (.node cy y ky) = T := by
    rw [app_plug]
    show C.plug (.node c z (two true (D.plug (.node cy y ky)) (kz false))) = T
    rw [← hD, show two true (kz true) (kz false) = kz from two_eta kz true]; exact hpl
  have hnd := h.rb.nd
  rw [← hK] at hnd
  have hrep := h.rb.rep
  have hroot := h.rb.root
  rw [← hK] at hrep hroot
  obtain ⟨r1, r2⟩ := unplug (k := .top) (D.app (.fr c z true (kz false) C)) hrep hroot
  rw [app_top] at r1 r2
  obtain ⟨s1, s2, s3, s4⟩ := cutB_rep r1 r2 hnd
  have hzT : z ∈ T.ino := by rw [hT]; simp
  have hz := h.lt z hzT
  have hyT : y ∈ T.ino := by rw [← hK, (plug_perm _ _).mem_iff]; exact List.mem_append_left _ ((mem_node false).2 (.inl rfl))
  have hy := h.lt y hyT
  have hyz : y ≠ z := fun e => by
    obtain ⟨_, _, n3⟩ := List.nodup_append.1 ((plug_perm _ _).nodup_iff.1 hnd)
    exact n3 y ((mem_node false).2 (.inl rfl)) z (app_mem (by simp [Cx.all])) e
  have hlx := h.lk.ch hy true
  rw [r1.2.2.2.1 true] at hlx
  have hl := h.lk.hang h.rootlt hy hlx
  have hl2 := hl.1.take hl.2 hz hy
  have hin : ∀ v, v ∈ pre ++ post → v ∈ T.ino := fun v hv => by rw [hT]; simp only [List.mem_append, List.mem_cons] at hv ⊢; exact hv.elim .inl fun e => .inr (.inr e)
  have M : CutMid s T (cutF s.f s.root z y (ky true).root) := by
    refine ⟨((keep_hang _ _ _ _).trans (keep_take _ _ _ _)).trans (keep_u _ _ _), fun w h1 h2 => s4 w (by rw [hK]; exact h1) h2, ?_, ?_, hl2.2⟩
    · show (setU _ _ _ 0).red = false
      rw [setU_red, take_red (fun e => h.rd.ne0 hyT e.symm), hang_red, h.z0]; rfl
    · refine hl2.1.setU _ ?_
      split
      · exact hy
      · exact (hl.1 _ hlx).2.2
  have hI : ((D.app (.fr c y true (kz false) C)).plug (ky true)).ino = pre ++ post := by
    have h1 := plug_list C c z kz
    rw [hpl, hT] at h1
    obtain ⟨rfl, rfl⟩ := split_eq h1 (by rw [← hT]; exact h.rb.nd)
    rw [app_plug]
    show (C.plug (.node c y (two true (D.plug (ky true)) (kz false)))).ino = _
    have e1 : (two true (D.plug (ky true)) (kz false) true) = D.plug (ky true) := rfl
    have e2 : (two true (D.plug (ky true)) (kz false) false) = kz false := rfl
    rw [plug_list, hD, e1, e2, plug_ino D, plug_ino D, hpre]
    simp [Sh.ino, hk]
  have hsub := sub_nodup (by rw [← hT]; exact h.rb.nd)
  have st := M.stay (I := pre ++ post) (fun e => h.rd.ne0 (hin 0 e) rfl) (fun v hv => h.lt v (hin v hv))
  obtain ⟨b, hb⟩ := h.rb.bal
  have hnr := h.rb.nrr
  have hrd := h.rb.red
  rw [← hK] at hb hnr hrd
  obtain ⟨n, hbn, hcb⟩ := bal_split _ hb
  obtain ⟨nz, nr⟩ := nrr_split _ hnr
  have cn := cnrr_name (y := y) D (cnrr_of _ hnr hrd)
  have hcb2 := cbal_name (y := y) D hcb
  refine ⟨M, r1.2.1, ?_, r1.2.2.2.1 true, hyz, hyT, hzT, fun hc => ?_, fun hc => ?_⟩
  · have := r1.2.2.2.1 false
    rw [hk] at this; exact this
  · subst hc
    obtain ⟨m, rfl, hm⟩ := hbn
    exact ⟨st, M.red0, s1, s2, s3, hI, hsub.1, ⟨m, b, hm true, hcb2⟩, nrrK_of (nz.2 true), cn⟩
  · subst hc
    obtain ⟨q1, q2⟩ := plug_rep _ s1 s2
    have hblk := nz.1 rfl true
    exact ⟨st, _, ⟨q1, q2, plug_nrr _ (nz.2 true) cn (fun _ => hblk), plug_red _ cn (fun _ => hblk), ⟨b, plug_bal _ (hbn true) hcb2⟩, by rw [hI]; exact hsub.1⟩, hI⟩
end
end Go.Proofs.Ytfoigflgglpobaa.Tr
