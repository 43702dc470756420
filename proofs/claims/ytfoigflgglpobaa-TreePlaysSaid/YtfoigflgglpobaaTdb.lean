/- What filling stands on and does, step by step, in plain Lean. No program in sight; no condition. -/
import Derived.Test.YtfoigflgglpobaaTda
set_option linter.unusedVariables false
namespace Go.Proofs.Ytfoigflgglpobaa.Tr
open Go.RowKit Go.Proofs.Ytfoigflgglpobaa.Aid
def NrrK : Sh → Prop
  | .nil => True
  | .node _ _ k => ∀ s, Nrr (k s)
theorem nrrK_of {t : Sh} (h : Nrr t) : NrrK t := by
  cases t with
  | nil => trivial
  | node c x k => exact h.2
theorem nrr_of {t : Sh} (h : NrrK t) (hr : t.red = false) : Nrr t := by
  cases t with
  | nil => trivial
  | node c x k =>
    have hc : c = false := hr
    subst hc
    exact ⟨fun e => (by cases e), h⟩
/-- filling's state: ways through what hangs at the end of a way down lack one black place -/
structure FSt (s0 : TS) (I : List Nat) (p : (Nat → Nd) × Nat) (E : Cx) (t : Sh) : Prop where
  st : Stay s0 I p
  red0 : (s0.f 0).red = false
  rt : Rep p.1 t E.up
  rc : RepC p.1 p.2 E t.root
  up : (p.1 t.root).u = E.up
  ino : (E.plug t).ino = I
  nd : I.Nodup
  bal : ∃ n b, Bal t n ∧ CBal E (n + 1) b
  nrr : NrrK t
  cn : CNrr E
def fm : Cx → Sh → Nat
  | .top, _ => 0
  | .fr c _ _ _ k, t => if t.red then 0 else if c then 1 else 2 * k.len + 2
theorem fm_le (k : Cx) (t : Sh) : fm k t ≤ 2 * k.len := by
  cases k with
  | top => exact Nat.zero_le _
  | fr c x s sib k =>
    simp only [fm, Cx.len]
    split
    · omega
    · split <;> omega
section
variable {s0 : TS} {I : List Nat} {p : (Nat → Nd) × Nat}
theorem FSt.c0 {E : Cx} {t : Sh} (h : FSt s0 I p E t) : (p.1 0).red = false := by rw [h.st.away 0 h.st.z0]; exact h.red0
theorem FSt.mem {E : Cx} {t : Sh} (h : FSt s0 I p E t) (z : Nat) : z ∈ I ↔ z ∈ t.ino ∨ z ∈ E.all := by rw [← h.ino, (plug_perm E t).mem_iff, List.mem_append]
theorem FSt.rt0 {E : Cx} {t : Sh} (h : FSt s0 I p E t) (hr : t.root ≠ 0) : t.root ∈ I := (h.mem _).2 (.inl (root_mem hr))
/-- black, whatever it was -/
def Sh.black : Sh → Sh
  | .nil => .nil
  | .node _ x k => .node false x k
theorem black_ino (t : Sh) : t.black.ino = t.ino := by cases t <;> rfl
theorem black_root (t : Sh) : t.black.root = t.root := by cases t <;> rfl
theorem black_red (t : Sh) : t.black.red = false := by cases t <;> rfl
theorem setC_id {f : Nat → Nd} {z : Nat} {c : Bool} (h : (f z).red = c) : setC f z c = f := by
  funext y
  unfold setC
  split
  · rename_i e; subst e; rw [← h]
  · rfl
theorem FSt.stop {E : Cx} {t : Sh} (h : FSt s0 I p E t) (he : E = .top ∨ t.red = true) : MdEnd s0 I (setC p.1 t.root false, p.2) := by
  have nd := h.nd
  rw [← h.ino] at nd
  obtain ⟨n1, n2, n3⟩ := List.nodup_append.1 ((plug_perm E t).nodup_iff.1 nd)
  obtain ⟨n, b, hb, hc⟩ := h.bal
  have hst : Stay s0 I (setC p.1 t.root false, p.2) := by
    by_cases e : t.root = 0
    · rw [e, setC_id h.c0]; exact h.st
    · exact h.st.col (h.rt0 e) false
  have h1 : Rep (setC p.1 t.root false) t.black E.up := by
    cases t with
    | nil => trivial
    | node c x k => exact h.rt.recol n1
  have h2 : RepC (setC p.1 t.root false) p.2 E t.root := by
    by_cases e : t.root = 0
    · have e2 : setC p.1 t.root false = p.1 := by rw [e, setC_id h.c0]
      rw [e2]; exact h.rc
    · exact h.rc.away (fun e2 => n3 _ (root_mem e) _ e2 rfl)
  have hnr : Nrr t.black := by
    cases t with
    | nil => trivial
    | node c x k => exact ⟨fun e => (by cases e), h.nrr⟩
  have h2' : RepC (setC p.1 t.root false) p.2 E t.black.root := by rw [black_root]; exact h2
  obtain ⟨r1, r2⟩ := plug_rep E h1 h2'
  have hi : (E.plug t.black).ino = I := by rw [plug_ino, black_ino, ← plug_ino]; exact h.ino
  refine ⟨hst, E.plug t.black, ⟨r1, r2, plug_nrr E hnr h.cn (fun _ => black_red t), plug_red E h.cn (fun _ => black_red t), ?_, by rw [hi]; exact h.nd⟩, hi⟩
  rcases he with rfl | he
  · cases t with
    | nil => exact ⟨0, rfl⟩
    | node c x k =>
      cases c with
      | true => exact ⟨n + 1, n, rfl, hb⟩
      | false => exact ⟨n, hb⟩
  · cases t with
    | nil => cases he
    | node c x k =>
      have hc1 : c = true := he
      subst hc1
      exact ⟨b, plug_bal E (t := .node false x k) ⟨n, rfl, hb⟩ hc⟩
variable {c s : Bool} {q w : Nat} {cw : Bool} {kw : Bool → Sh} {k : Cx} {t : Sh}
/-- the place above, with both that hang on it -/
theorem FSt.big {sib : Sh} (h : FSt s0 I p (.fr c q s sib k) t) : Rep p.1 (.node c q (two s t sib)) k.up ∧ RepC p.1 p.2 k q ∧ (k.plug (.node c q (two s t sib))).ino = I ∧ (k.plug (.node c q (two s t sib))).ino.Nodup := by
  obtain ⟨h1, h2⟩ := RepC.down h.rt h.rc
  exact ⟨h1, h2, h.ino, by rw [show (k.plug (.node c q (two s t sib))).ino = I from h.ino]; exact h.nd⟩
theorem unbig {f : Nat → Nd} {root : Nat} {sib : Sh} (h1 : Rep f (.node c q (two s t sib)) k.up) (h2 : RepC f root k q) : Rep f t q ∧ RepC f root (.fr c q s sib k) t.root := by
  obtain ⟨a, b⟩ := RepC.over s h1 h2
  rw [two_same] at a b
  rw [two_other] at b
  exact ⟨a, b⟩
theorem two_root {s s' : Bool} {t u u' : Sh} (h : u.root = u'.root) : (two s t u s').root = (two s t u' s').root := by unfold two; split; rfl; exact h
/-- the other child has another colour -/
theorem recolS {f : Nat → Nd} {up : Nat} {c' : Bool} (h : Rep f (.node c q (two s t (.node cw w kw))) up) (hn : (Sh.node c q (two s t (.node cw w kw))).ino.Nodup) : Rep (setC f w c') (.node c q (two s t (.node c' w kw))) up := by
  obtain ⟨r0, r1, r2, r3, r4⟩ := h
  obtain ⟨g1, g2, g3⟩ := nodup_node hn s
  obtain ⟨v1, v2, v3⟩ := nodup_node hn (!s)
  rw [Bool.not_not] at v3
  rw [two_same] at g1 g2 g3 v3
  rw [two_other] at g3 v1 v2 v3
  have hw : w ∈ (Sh.node cw w kw).ino := (mem_node s).2 (.inl rfl)
  have hqw : q ≠ w := fun e => v1 (e ▸ hw)
  refine ⟨r0, by rw [setC_ne hqw]; exact r1, by rw [setC_u]; exact r2, fun s' => ?_, fun s' => ?_⟩
  · rw [setC_ch, r3 s']; exact two_root rfl
  · by_cases e : s' = s
    · subst e
      have := r4 s'
      rw [two_same] at this ⊢
      exact this.away (v3 w hw)
    · have e' := side_ne e; subst e'
      have := r4 (!s)
      rw [two_other] at this ⊢
      exact this.recol v2
theorem mem_big {sib : Sh} {z : Nat} (hz : z ∈ sib.ino ∨ z = q ∨ z ∈ t.ino) : z ∈ (Sh.node c q (two s t sib)).ino := by
  refine (mem_node s).2 ?_
  rw [two_same, two_other]
  rcases hz with h | h | h
  · exact .inr (.inr h)
  · exact .inl h
  · exact .inr (.inl h)
theorem ino_recol {sib sib' : Sh} {c c' : Bool} (h : sib.ino = sib'.ino) : (Sh.node c q (two s t sib)).ino = (Sh.node c' q (two s t sib')).ino := by
  cases s <;> simp [Sh.ino, two, h]
theorem root_ne_mem {f : Nat → Nd} {z : Nat} (h : FSt s0 I p k t) (hz : z ∈ I) : z ≠ 0 := fun e => h.st.z0 (e ▸ hz)
theorem away0 {f f' : Nat → Nd} {U : Nat} (t : Sh) (h1 : t.root ≠ 0 → Rep f' t U) (h2 : t.root = 0 → (f' 0).u = U) : (f' t.root).u = U := by
  cases t with
  | nil => exact h2 rfl
  | node c x k =>
    by_cases e : x = 0
    · subst e; exact h2 rfl
    · exact (h1 e).2.2.1
/-- a red place on the other side: it comes up -/
theorem FSt.redw (h : FSt s0 I p (.fr c q s (.node true w kw) k) t) : c = false ∧ FSt s0 I (turnF (setC (setC p.1 w false) q true) p.2 q s) (.fr true q s (kw s) (.fr false w s (kw (!s)) k)) t := by
  obtain ⟨b1, b2, b3, b4⟩ := h.big
  obtain ⟨c1, c2, c3, c4⟩ := h.cn
  have hc : c = false := by
    cases c with
    | false => rfl
    | true => cases c1 rfl
  subst hc
  refine ⟨rfl, ?_⟩
  obtain ⟨n1, n2, n3⟩ := List.nodup_append.1 ((plug_perm k _).nodup_iff.1 b4)
  have hw : w ∈ (Sh.node true w kw).ino := (mem_node s).2 (.inl rfl)
  have mw : w ∈ (Sh.node false q (two s t (.node true w kw))).ino := mem_big (.inl hw)
  have mq : q ∈ (Sh.node false q (two s t (.node true w kw))).ino := mem_big (.inr (.inl rfl))
  have r1 := recolS (c' := false) b1 n1
  have e1 : (Sh.node false q (two s t (.node false w kw))).ino = (Sh.node false q (two s t (.node true w kw))).ino := ino_recol rfl
  have r2 : Rep (setC (setC p.1 w false) q true) (.node true q (two s t (.node false w kw))) k.up := r1.recol (by rw [e1]; exact n1)
  have d2 : RepC (setC (setC p.1 w false) q true) p.2 k q := (b2.away (fun e => n3 _ mw _ e rfl)).away (fun e => n3 _ mq _ e rfl)
  have e2 : (Sh.node true q (two s t (.node false w kw))).ino = (Sh.node false q (two s t (.node true w kw))).ino := ino_recol rfl
  have e3 : (k.plug (.node true q (two s t (.node false w kw)))).ino = I := by rw [plug_ino, e2, ← plug_ino]; exact b3
  obtain ⟨t1, t2, t3⟩ := turn_rep s (two_other _ _ _) r2 d2 (by rw [e3]; exact h.nd)
  have et : turned s true q (two s t (.node false w kw)) false w kw = .node false w (two s (.node true q (two s t (kw s))) (kw (!s))) := by unfold turned; rw [two_same]
  have ei := turned_ino s true q (two s t (.node false w kw)) false w kw (two_other _ _ _)
  rw [et] at t1 ei
  obtain ⟨u1, u2⟩ := unbig t1 t2
  obtain ⟨v1, v2⟩ := unbig u1 u2
  obtain ⟨n, b, hb, hcb1, hcb2⟩ := h.bal
  have mI : ∀ z, z ∈ (Sh.node false q (two s t (.node true w kw))).ino → z ∈ I := fun z hz => by rw [← b3, (plug_perm k _).mem_iff]; exact List.mem_append_left _ hz
  have S2 := (h.st.col (mI w mw) false).col (mI q mq) true
  refine ⟨S2.turn (p := (setC (setC p.1 w false) q true, p.2)) (h.st.lt q (mI q mq)) s (fun z hz => t3 z (by rw [e3]; exact hz)), h.red0, v1, v2, ?_, ?_, h.nd, ⟨n, b, hb, hcb1 s, hcb1 (!s), hcb2⟩, h.nrr, ⟨fun _ => c2.1 rfl s, c2.2 s, ⟨fun e => (by cases e), c2.2 (!s), c3, ?_⟩, fun _ => rfl⟩⟩
  · show ((turnF (setC (setC p.1 w false) q true) p.2 q s).1 t.root).u = q
    refine away0 (f := p.1) t (fun _ => v1) (fun e => ?_)
    rw [t3 0 (by rw [e3]; exact h.st.z0), setC_u, setC_u]
    have := h.up
    rw [e] at this; exact this
  · show (k.plug (.node false w (two s (.node true q (two s t (kw s))) (kw (!s))))).ino = I
    rw [plug_ino, ei, ← plug_ino]; exact e3
  · cases k with
    | top => rfl
    | fr c' x' s' sib' k' => intro e; cases e
/-- both that hang on the other side are black: it turns red, and the lack goes up -/
theorem FSt.blacks (h : FSt s0 I p (.fr c q s (.node false w kw) k) t) (ht : t.red = false) (hk : ∀ s', (kw s').red = false) : FSt s0 I (setC p.1 w true, p.2) k (.node c q (two s t (.node true w kw))) := by
  obtain ⟨b1, b2, b3, b4⟩ := h.big
  obtain ⟨c1, c2, c3, c4⟩ := h.cn
  obtain ⟨n1, n2, n3⟩ := List.nodup_append.1 ((plug_perm k _).nodup_iff.1 b4)
  have hw : w ∈ (Sh.node false w kw).ino := (mem_node s).2 (.inl rfl)
  have mw : w ∈ (Sh.node c q (two s t (.node false w kw))).ino := mem_big (.inl hw)
  have r1 := recolS (c' := true) b1 n1
  have e1 : (Sh.node c q (two s t (.node true w kw))).ino = (Sh.node c q (two s t (.node false w kw))).ino := ino_recol rfl
  have mI : w ∈ I := by rw [← b3, (plug_perm k _).mem_iff]; exact List.mem_append_left _ mw
  obtain ⟨n, b, hb, hcb1, hcb2⟩ := h.bal
  obtain ⟨m, hm, hm2⟩ := hcb1
  obtain rfl : m = n := by omega
  have hbw : Bal (.node true w kw) m := hm2
  refine ⟨h.st.col mI true, h.red0, r1, b2.away (fun e => n3 _ mw _ e rfl), r1.2.2.1, by rw [plug_ino, e1, ← plug_ino]; exact b3, h.nd, ?_, fun s' => nrr_two (nrr_of h.nrr ht) (show Nrr (.node true w kw) from ⟨fun _ s'' => hk s'', c2.2⟩) s', c3⟩
  cases c with
  | true => exact ⟨m, b, bal_two hb hbw, hcb2⟩
  | false => exact ⟨m + 1, b, ⟨m, rfl, bal_two hb hbw⟩, hcb2⟩
/-- the near one is red alone: it comes up on the other side -/
theorem FSt.inner {v : Nat} {kv : Bool → Sh} (h : FSt s0 I p (.fr c q s (.node false w kw) k) t) (hv : kw s = .node true v kv) (hf : (kw (!s)).red = false) :
    FSt s0 I (turnF (setC (setC p.1 v false) w true) p.2 w (!s)) (.fr c q s (.node false v (two s (kv s) (.node true w (two s (kv (!s)) (kw (!s)))))) k) t := by
  obtain ⟨b1, b2, b3, b4⟩ := h.big
  obtain ⟨c1, c2, c3, c4⟩ := h.cn
  obtain ⟨n1, n2, n3⟩ := List.nodup_append.1 ((plug_perm k _).nodup_iff.1 b4)
  have hkw : kw = two (!s) (kw (!s)) (.node true v kv) := by rw [← hv]; have := two_eta kw (!s); rw [Bool.not_not] at this; exact this.symm
  have hw : w ∈ (Sh.node false w kw).ino := (mem_node s).2 (.inl rfl)
  have mw : w ∈ (Sh.node c q (two s t (.node false w kw))).ino := mem_big (.inl hw)
  have hvv : v ∈ (Sh.node true v kv).ino := (mem_node s).2 (.inl rfl)
  have hvw : v ∈ (Sh.node false w kw).ino := mem_ino_side s (by rw [hv]; exact hvv)
  have mv : v ∈ (Sh.node c q (two s t (.node false w kw))).ino := mem_big (.inl hvw)
  have mq : q ∈ (Sh.node c q (two s t (.node false w kw))).ino := mem_big (.inr (.inl rfl))
  obtain ⟨g1, g2, g3⟩ := nodup_node n1 s
  obtain ⟨v1, v2, v3⟩ := nodup_node n1 (!s)
  rw [Bool.not_not] at v3
  rw [two_same] at g1 g2 g3 v3
  rw [two_other] at g3 v1 v2 v3
  -- the other side alone, on a way of one frame more
  obtain ⟨o1, o2⟩ := RepC.over (!s) b1 b2
  rw [two_other] at o1 o2
  rw [Bool.not_not, two_same] at o2
  have hqw : q ≠ w := fun e => v1 (e ▸ hw)
  have hqv : q ≠ v := fun e => v1 (e ▸ hvw)
  have away2 : ∀ z, z ∈ (Sh.node false w kw).ino → z ∉ (Cx.fr c q (!s) t k).all := fun z hz => by
    simp only [Cx.all, List.mem_cons, List.mem_append, not_or]
    exact ⟨fun e => v1 (e ▸ hz), v3 z hz, fun e => n3 _ (mem_big (.inl hz)) _ e rfl⟩
  have o3 : RepC (setC (setC p.1 v false) w true) p.2 (.fr c q (!s) t k) w := (o2.away (away2 v hvw)).away (away2 w hw)
  have p0 : Rep p.1 (.node false w (two (!s) (kw (!s)) (.node true v kv))) q := by rw [← hkw]; exact o1
  have v2' : (Sh.node false w (two (!s) (kw (!s)) (.node true v kv))).ino.Nodup := by rw [← hkw]; exact v2
  have p1 := recolS (c' := false) p0 v2'
  have e1 : (Sh.node false w (two (!s) (kw (!s)) (.node false v kv))).ino = (Sh.node false w (two (!s) (kw (!s)) (.node true v kv))).ino := ino_recol rfl
  have p2 : Rep (setC (setC p.1 v false) w true) (.node true w (two (!s) (kw (!s)) (.node false v kv))) q := p1.recol (by rw [e1]; exact v2')
  have e2 : (Sh.node true w (two (!s) (kw (!s)) (.node false v kv))).ino = (Sh.node false w kw).ino := by
    have e3 : (Sh.node true w (two (!s) (kw (!s)) (.node false v kv))).ino = (Sh.node false w (two (!s) (kw (!s)) (.node true v kv))).ino := ino_recol rfl
    rw [e3, ← hkw]
  have ei0 : (Cx.fr c q (!s) t k).plug (.node false w kw) = k.plug (.node c q (two s t (.node false w kw))) := by
    show k.plug _ = k.plug _
    congr 2
    funext s'
    cases s <;> cases s' <;> rfl
  have e4 : ((Cx.fr c q (!s) t k).plug (.node true w (two (!s) (kw (!s)) (.node false v kv)))).ino = I := by
    rw [plug_ino, e2, ← plug_ino, ei0]; exact b3
  obtain ⟨t1, t2, t3⟩ := turn_rep (k := .fr c q (!s) t k) (!s) (two_other _ _ _) p2 o3 (by rw [e4]; exact h.nd)
  have et : turned (!s) true w (two (!s) (kw (!s)) (.node false v kv)) false v kv = .node false v (two s (kv s) (.node true w (two s (kv (!s)) (kw (!s))))) := by
    unfold turned
    rw [two_same, Bool.not_not]
    congr 1
    funext s'
    cases s <;> cases s' <;> simp [two] <;> (funext s''; cases s'' <;> rfl)
  have ei := turned_ino (!s) true w (two (!s) (kw (!s)) (.node false v kv)) false v kv (two_other _ _ _)
  rw [et] at t1 ei
  obtain ⟨d1, d2⟩ := RepC.down t1 t2
  have d1' : Rep (turnF (setC (setC p.1 v false) w true) p.2 w (!s)).1 (.node c q (two s t (.node false v (two s (kv s) (.node true w (two s (kv (!s)) (kw (!s)))))))) k.up := by
    have e5 : two (!s) (Sh.node false v (two s (kv s) (.node true w (two s (kv (!s)) (kw (!s)))))) t = two s t (.node false v (two s (kv s) (.node true w (two s (kv (!s)) (kw (!s)))))) := by
      funext s'; cases s <;> cases s' <;> rfl
    rw [← e5]; exact d1
  obtain ⟨u1, u2⟩ := unbig d1' d2
  have mI : ∀ z, z ∈ (Sh.node c q (two s t (.node false w kw))).ino → z ∈ I := fun z hz => by rw [← b3, (plug_perm k _).mem_iff]; exact List.mem_append_left _ hz
  have S2 := (h.st.col (mI v mv) false).col (mI w mw) true
  obtain ⟨n, b, hb, hcb1, hcb2⟩ := h.bal
  obtain ⟨m, hm, hm2⟩ := hcb1
  obtain rfl : m = n := by omega
  have bv : ∀ s', Bal (kv s') m := by have := hm2 s; rw [hv] at this; exact this
  have nv := c2.2 s
  rw [hv] at nv
  refine ⟨S2.turn (p := (setC (setC p.1 v false) w true, p.2)) (h.st.lt w (mI w mw)) (!s) (fun z hz => t3 z (by rw [e4]; exact hz)), h.red0, u1, u2, ?_, ?_, h.nd, ⟨m, b, hb, ⟨m, rfl, bal_two (bv s) (show Bal (.node true w _) m from bal_two (bv (!s)) (hm2 (!s)))⟩, hcb2⟩, h.nrr, ⟨fun _ => rfl, ⟨fun e => (by cases e), nrr_two (nv.2 s) ⟨fun _ s' => ?_, nrr_two (nv.2 (!s)) (c2.2 (!s))⟩⟩, c3, c4⟩⟩
  · show ((turnF (setC (setC p.1 v false) w true) p.2 w (!s)).1 t.root).u = q
    refine away0 (f := p.1) t (fun _ => u1) (fun e => ?_)
    rw [t3 0 (by rw [e4]; exact h.st.z0), setC_u, setC_u]
    have := h.up
    rw [e] at this; exact this
  · show (k.plug (.node c q (two s t (.node false v (two s (kv s) (.node true w (two s (kv (!s)) (kw (!s))))))))).ino = I
    have e6 : (Sh.node c q (two s t (.node false v (two s (kv s) (.node true w (two s (kv (!s)) (kw (!s)))))))).ino = (Sh.node c q (two s t (.node false w kw))).ino := ino_recol (ei.trans e2)
    rw [plug_ino, e6, ← plug_ino]; exact b3
  · unfold two; split
    · exact nv.1 rfl (!s)
    · exact hf
/-- the far one is red: the other side comes up, and nothing lacks -/
theorem FSt.outer {v : Nat} {kv : Bool → Sh} (h : FSt s0 I p (.fr c q s (.node false w kw) k) t) (ht : t.red = false) (hv : kw (!s) = .node true v kv) :
    FSt s0 I (turnF (setC (setC (setC p.1 w c) q false) v false) p.2 q s) .top (k.plug (.node c w (two s (.node false q (two s t (kw s))) (.node false v kv)))) := by
  obtain ⟨b1, b2, b3, b4⟩ := h.big
  obtain ⟨c1, c2, c3, c4⟩ := h.cn
  obtain ⟨n1, n2, n3⟩ := List.nodup_append.1 ((plug_perm k _).nodup_iff.1 b4)
  have hkw : kw = two s (kw s) (.node true v kv) := by rw [← hv]; exact (two_eta kw s).symm
  have hw : w ∈ (Sh.node false w kw).ino := (mem_node s).2 (.inl rfl)
  have hvv : v ∈ (Sh.node true v kv).ino := (mem_node s).2 (.inl rfl)
  have hvw : v ∈ (Sh.node false w kw).ino := mem_ino_side (!s) (by rw [hv]; exact hvv)
  have mw : w ∈ (Sh.node c q (two s t (.node false w kw))).ino := mem_big (.inl hw)
  have mv : v ∈ (Sh.node c q (two s t (.node false w kw))).ino := mem_big (.inl hvw)
  have mq : q ∈ (Sh.node c q (two s t (.node false w kw))).ino := mem_big (.inr (.inl rfl))
  have r1 := recolS (c' := c) b1 n1
  have e1 : (Sh.node c q (two s t (.node c w kw))).ino = (Sh.node c q (two s t (.node false w kw))).ino := ino_recol rfl
  have r2 : Rep (setC (setC p.1 w c) q false) (.node false q (two s t (.node c w kw))) k.up := r1.recol (by rw [e1]; exact n1)
  have e2 : (Sh.node false q (two s t (.node c w kw))).ino = (Sh.node c q (two s t (.node false w kw))).ino := ino_recol rfl
  obtain ⟨g1, g2, g3⟩ := nodup_node (c := false) (x := q) (k := two s t (.node c w kw)) (by rw [e2]; exact n1) s
  obtain ⟨x1, x2, x3⟩ := nodup_node (c := false) (x := q) (k := two s t (.node c w kw)) (by rw [e2]; exact n1) (!s)
  rw [Bool.not_not] at x3
  rw [two_same] at g1 g2 g3 x3
  rw [two_other] at g3 x1 x2 x3
  -- the far one turns black, deep down
  have hvc : v ∈ (Sh.node c w kw).ino := hvw
  have r3 : Rep (setC (setC (setC p.1 w c) q false) v false) (.node false q (two s t (.node c w (two s (kw s) (.node false v kv))))) k.up := by
    obtain ⟨a0, a1, a2, a3, a4⟩ := r2
    have hqv : q ≠ v := fun e => x1 (e ▸ hvc)
    refine ⟨a0, by rw [setC_ne hqv]; exact a1, by rw [setC_u]; exact a2, fun s' => ?_, fun s' => ?_⟩
    · rw [setC_ch, a3 s']; exact two_root rfl
    · by_cases e : s' = s
      · subst e
        have := a4 s'
        rw [two_same] at this ⊢
        exact this.away (x3 v hvc)
      · have e' := side_ne e; subst e'
        have := a4 (!s)
        rw [two_other] at this ⊢
        rw [hkw] at this
        have hx2 : (Sh.node c w (two s (kw s) (.node true v kv))).ino.Nodup := by rw [← hkw]; exact x2
        exact recolS this hx2
  have d3 : RepC (setC (setC (setC p.1 w c) q false) v false) p.2 k q := ((b2.away (fun e => n3 _ mw _ e rfl)).away (fun e => n3 _ mq _ e rfl)).away (fun e => n3 _ mv _ e rfl)
  have e3 : (Sh.node c w (two s (kw s) (.node false v kv))).ino = (Sh.node false w kw).ino := by
    have a : (Sh.node c w (two s (kw s) (.node false v kv))).ino = (Sh.node c w (two s (kw s) (.node true v kv))).ino := ino_recol rfl
    rw [a, ← hkw]; rfl
  have e4 : (Sh.node false q (two s t (.node c w (two s (kw s) (.node false v kv))))).ino = (Sh.node c q (two s t (.node false w kw))).ino := ino_recol e3
  have e5 : (k.plug (.node false q (two s t (.node c w (two s (kw s) (.node false v kv)))))).ino = I := by rw [plug_ino, e4, ← plug_ino]; exact b3
  obtain ⟨t1, t2, t3⟩ := turn_rep s (two_other _ _ _) r3 d3 (by rw [e5]; exact h.nd)
  have et : turned s false q (two s t (.node c w (two s (kw s) (.node false v kv)))) c w (two s (kw s) (.node false v kv)) = .node c w (two s (.node false q (two s t (kw s))) (.node false v kv)) := by
    unfold turned; rw [two_same, two_same, two_other]
  have ei := turned_ino s false q (two s t (.node c w (two s (kw s) (.node false v kv)))) c w (two s (kw s) (.node false v kv)) (two_other _ _ _)
  rw [et] at t1 ei
  have t2' : RepC (turnF (setC (setC (setC p.1 w c) q false) v false) p.2 q s).1 (turnF (setC (setC (setC p.1 w c) q false) v false) p.2 q s).2 k (Sh.node c w (two s (.node false q (two s t (kw s))) (.node false v kv))).root := t2
  obtain ⟨z1, z2⟩ := plug_rep k t1 t2'
  have mI : ∀ z, z ∈ (Sh.node c q (two s t (.node false w kw))).ino → z ∈ I := fun z hz => by rw [← b3, (plug_perm k _).mem_iff]; exact List.mem_append_left _ hz
  have S2 := ((h.st.col (mI w mw) c).col (mI q mq) false).col (mI v mv) false
  obtain ⟨n, b, hb, hcb1, hcb2⟩ := h.bal
  obtain ⟨m, hm, hm2⟩ := hcb1
  obtain rfl : m = n := by omega
  have bv : ∀ s', Bal (kv s') m := by have := hm2 (!s); rw [hv] at this; exact this
  have nv := c2.2 (!s)
  rw [hv] at nv
  have ht2 : Nrr t := nrr_of h.nrr ht
  have hB : Bal (.node c w (two s (.node false q (two s t (kw s))) (.node false v kv))) (if c then m + 1 else m + 1 + 1) := by
    have ba : ∀ s', Bal (two s (.node false q (two s t (kw s))) (.node false v kv) s') (m + 1) := bal_two ⟨m, rfl, bal_two hb (hm2 s)⟩ ⟨m, rfl, bv⟩
    cases c with
    | true => exact ba
    | false => exact ⟨m + 1, rfl, ba⟩
  have hN : Nrr (.node c w (two s (.node false q (two s t (kw s))) (.node false v kv))) := by
    refine ⟨fun _ s' => ?_, nrr_two ⟨fun e => (by cases e), nrr_two ht2 (c2.2 s)⟩ ⟨fun e => (by cases e), nv.2⟩⟩
    unfold two; split <;> rfl
  have hlink : k.red = true → c = false := fun e => by
    cases k with
    | top => cases e
    | fr c' x' s' sib' k' =>
      cases hc : c with
      | false => rfl
      | true => have h5 : c' = false := c4 hc; have h6 : c' = true := e; rw [h5] at h6; cases h6
  have hb2 := plug_bal k hB hcb2
  have hi : (k.plug (.node c w (two s (.node false q (two s t (kw s))) (.node false v kv)))).ino = I := by rw [plug_ino, ei, ← plug_ino]; exact e5
  generalize hT : k.plug (.node c w (two s (.node false q (two s t (kw s))) (.node false v kv))) = T at z1 z2 hb2 hi
  have hT0 : T.root ≠ 0 := by
    cases T with
    | nil => have := mI w mw; rw [← hi] at this; cases this
    | node c' x' k' => exact z1.1
  refine ⟨S2.turn (p := (setC (setC (setC p.1 w c) q false) v false, p.2)) (h.st.lt q (mI q mq)) s (fun z hz => t3 z (by rw [e5]; exact hz)), h.red0, z1, z2, away0 (f := p.1) T (fun _ => z1) (fun e => absurd e hT0), hi, h.nd, ?_, ?_, trivial⟩
  · refine ⟨b, b + 1, hb2, rfl⟩
  · rw [← hT]; exact nrrK_of (plug_nrr k hN c3 hlink)
end
end Go.Proofs.Ytfoigflgglpobaa.Tr
