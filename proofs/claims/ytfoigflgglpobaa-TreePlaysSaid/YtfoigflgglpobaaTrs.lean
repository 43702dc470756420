/- What mending does, step by step, in plain Lean. No program in sight; no condition. -/
import Derived.Test.YtfoigflgglpobaaTrr
set_option linter.unusedVariables false
namespace Go.Proofs.Ytfoigflgglpobaa.Tr
theorem Rep.away {f : Nat → Nd} {t : Sh} {up z : Nat} {c : Bool} (h : Rep f t up) (hz : z ∉ t.ino) : Rep (setC f z c) t up := h.frame _ fun y hy => same_eq (setC_ne (fun e => hz (e ▸ hy)))
theorem RepC.away {f : Nat → Nd} {root : Nat} {k : Cx} {h z : Nat} {c : Bool} (hr : RepC f root k h) (hz : z ∉ k.all) : RepC (setC f z c) root k h := hr.frame _ fun y hy => same_eq (setC_ne (fun e => hz (e ▸ hy)))
/-- a node's own colour -/
theorem Rep.recol {f : Nat → Nd} {c c' : Bool} {x up : Nat} {k : Bool → Sh} (h : Rep f (.node c x k) up) (hn : (Sh.node c x k).ino.Nodup) : Rep (setC f x c') (.node c' x k) up := by
  obtain ⟨h0, h1, h2, h3, h4⟩ := h
  exact ⟨h0, setC_red _ _ _, (setC_u _ _ _ _).trans h2, fun s => (setC_ch _ _ _ _ _).trans (h3 s), fun s => (h4 s).away (nodup_node hn s).1⟩
theorem ino_col (c c' : Bool) (x : Nat) (k : Bool → Sh) : (Sh.node c x k).ino = (Sh.node c' x k).ino := rfl
/-- one frame less: what hangs with its place is a tree -/
theorem RepC.down {f : Nat → Nd} {root : Nat} {c : Bool} {x : Nat} {s : Bool} {sib t : Sh} {k : Cx} (h : Rep f t x) (hr : RepC f root (.fr c x s sib k) t.root) : Rep f (.node c x (two s t sib)) k.up ∧ RepC f root k x := by
  obtain ⟨h0, h1, h2, h3, h4, h5, h6⟩ := hr
  refine ⟨⟨h0, h1, h2, fun s' => ?_, fun s' => ?_⟩, h6⟩
  · by_cases e : s' = s
    · subst e; rw [two_same]; exact h3
    · have e' := side_ne e; subst e'; rw [two_other]; exact h4
  · by_cases e : s' = s
    · subst e; rw [two_same]; exact h
    · have e' := side_ne e; subst e'; rw [two_other]; exact h5
/-- one frame more -/
theorem RepC.over {f : Nat → Nd} {root : Nat} {c : Bool} {x : Nat} {kx : Bool → Sh} {k : Cx} (s : Bool) (h : Rep f (.node c x kx) k.up) (hr : RepC f root k x) : Rep f (kx s) x ∧ RepC f root (.fr c x s (kx (!s)) k) (kx s).root := by
  obtain ⟨h0, h1, h2, h3, h4⟩ := h
  exact ⟨h4 s, h0, h1, h2, h3 s, h3 (!s), h4 (!s), hr⟩
theorem plug_rep {f : Nat → Nd} {root : Nat} (k : Cx) : ∀ {t : Sh}, Rep f t k.up → RepC f root k t.root → Rep f (k.plug t) 0 ∧ root = (k.plug t).root := by
  induction k with
  | top => intro t h hr; exact ⟨h, hr⟩
  | fr c x s sib k ih =>
    intro t h hr
    obtain ⟨h1, h2⟩ := RepC.down h hr
    exact ih h1 h2
def Cx.len : Cx → Nat
  | .top => 0
  | .fr _ _ _ _ k => k.len + 1
/-- a tree as memory holds it, red and black as it should be -/
structure RB (f : Nat → Nd) (root : Nat) (T : Sh) : Prop where
  rep : Rep f T 0
  root : root = T.root
  nrr : Nrr T
  red : T.red = false
  bal : ∃ b, Bal T b
  nd : T.ino.Nodup
/-- mending's state: a red place hangs at the end of a way down -/
structure Mend (f : Nat → Nd) (root : Nat) (k : Cx) (x : Nat) (kx : Bool → Sh) (n b : Nat) : Prop where
  rt : Rep f (.node true x kx) k.up
  rc : RepC f root k x
  nd : (k.plug (.node true x kx)).ino.Nodup
  ch : ∀ s, (kx s).red = false ∧ Nrr (kx s)
  bal : ∀ s, Bal (kx s) n
  cb : CBal k n b
  cn : CNrr k
theorem Mend.parts {f : Nat → Nd} {root : Nat} {k : Cx} {x : Nat} {kx : Bool → Sh} {n b : Nat} (h : Mend f root k x kx n b) : (Sh.node true x kx).ino.Nodup ∧ k.all.Nodup ∧ ∀ z, z ∈ (Sh.node true x kx).ino → z ∉ k.all := by
  obtain ⟨h1, h2, h3⟩ := List.nodup_append.1 ((plug_perm k _).nodup_iff.1 h.nd)
  exact ⟨h1, h2, fun z hz hz' => h3 z hz z hz' rfl⟩
/-- at the top: it turns black -/
theorem Mend.top {f : Nat → Nd} {root x : Nat} {kx : Bool → Sh} {n b : Nat} (h : Mend f root .top x kx n b) : RB (setC f root false) root (.node false x kx) := by
  have hx : root = x := h.rc
  subst hx
  obtain ⟨h1, _, _⟩ := h.parts
  exact ⟨h.rt.recol h1, rfl, ⟨fun e => (by cases e), fun s => (h.ch s).2⟩, rfl, ⟨n + 1, n, rfl, h.bal⟩, h1⟩
/-- its parent is black: nothing is to be done -/
theorem Mend.black {f : Nat → Nd} {root p : Nat} {s : Bool} {sib : Sh} {k : Cx} {x : Nat} {kx : Bool → Sh} {n b : Nat} (h : Mend f root (.fr false p s sib k) x kx n b) : RB (setC f root false) root ((Cx.fr false p s sib k).plug (.node true x kx)) := by
  obtain ⟨h1, h2⟩ := plug_rep _ h.rt (show RepC f root (.fr false p s sib k) (Sh.node true x kx).root from h.rc)
  have hred : ((Cx.fr false p s sib k).plug (.node true x kx)).red = false := plug_red _ h.cn (fun e => by cases e)
  have hnr : Nrr ((Cx.fr false p s sib k).plug (.node true x kx)) := plug_nrr _ ⟨fun _ s' => (h.ch s').1, fun s' => (h.ch s').2⟩ h.cn (fun e => by cases e)
  have hba : Bal ((Cx.fr false p s sib k).plug (.node true x kx)) b := plug_bal _ (show Bal (.node true x kx) n from h.bal) h.cb
  have hnd := h.nd
  generalize (Cx.fr false p s sib k).plug (.node true x kx) = T at h1 h2 hred hnr hba hnd
  refine ⟨h1.frame _ fun z hz => ?_, h2, hnr, hred, ⟨b, hba⟩, hnd⟩
  by_cases e : z = root
  · subst e
    refine same_of (fun s => setC_ch _ _ _ _ _) (setC_u _ _ _ _) ?_
    rw [setC_red]
    cases T with
    | nil => cases hz
    | node c y ky =>
      have hy : z = y := h2
      subst hy
      have hc : c = false := hred
      rw [h1.2.1, hc]
  · exact same_eq (setC_ne e)
theorem nrr_two {s : Bool} {t u : Sh} (ht : Nrr t) (hu : Nrr u) (s' : Bool) : Nrr (two s t u s') := by unfold two; split; exact ht; exact hu
theorem bal_two {s : Bool} {t u : Sh} {n : Nat} (ht : Bal t n) (hu : Bal u n) (s' : Bool) : Bal (two s t u s') n := by unfold two; split; exact ht; exact hu
/-- what a mending with a red parent stands on: the grandparent, whole -/
theorem Mend.big {f : Nat → Nd} {root p g : Nat} {s sg cg : Bool} {sib unc : Sh} {k : Cx} {x : Nat} {kx : Bool → Sh} {n b : Nat} (h : Mend f root (.fr true p s sib (.fr cg g sg unc k)) x kx n b) :
    cg = false ∧ Rep f (.node false g (two sg (.node true p (two s (.node true x kx) sib)) unc)) k.up ∧ RepC f root k g ∧ (k.plug (.node false g (two sg (.node true p (two s (.node true x kx) sib)) unc))).ino.Nodup ∧
    sib.red = false ∧ Nrr sib ∧ Nrr unc ∧ Bal sib n ∧ Bal unc n ∧ CBal k (n + 1) b ∧ CNrr k := by
  obtain ⟨c1, c2, ⟨c3, c4, c5, c6⟩, c7⟩ := h.cn
  have hcg : cg = false := c7 rfl
  subst hcg
  obtain ⟨b1, b2, b3⟩ := h.cb
  obtain ⟨d1, d2⟩ := RepC.down (x := p) h.rt (show RepC f root (.fr true p s sib (.fr false g sg unc k)) (Sh.node true x kx).root from h.rc)
  obtain ⟨e1, e2⟩ := RepC.down d1 d2
  exact ⟨rfl, e1, e2, h.nd, c1 rfl, c2, c4, b1, b2, b3, c5⟩
/-- a red uncle: both turn black, the grandparent red, and it goes on from there -/
theorem Mend.uncle {f : Nat → Nd} {root p g u : Nat} {s sg cg : Bool} {sib : Sh} {ku : Bool → Sh} {k : Cx} {x : Nat} {kx : Bool → Sh} {n b : Nat} (h : Mend f root (.fr true p s sib (.fr cg g sg (.node true u ku) k)) x kx n b) :
    Mend (setC (setC (setC f p false) u false) g true) root k g (two sg (.node false p (two s (.node true x kx) sib)) (.node false u ku)) (n + 1) b ∧
    (k.plug (.node true g (two sg (.node false p (two s (.node true x kx) sib)) (.node false u ku)))).ino = ((Cx.fr true p s sib (.fr cg g sg (.node true u ku) k)).plug (.node true x kx)).ino := by
  obtain ⟨hcg, hR, hC, hnd, s1, s2, u2, s3, u3, hb, hn⟩ := h.big
  subst hcg
  obtain ⟨n1, n2, n3⟩ := List.nodup_append.1 ((plug_perm k _).nodup_iff.1 hnd)
  obtain ⟨g1, g2, g3⟩ := nodup_node n1 sg
  obtain ⟨v1, v2, v3⟩ := nodup_node n1 (!sg)
  rw [Bool.not_not] at v3
  rw [two_same] at g1 g2 g3 v3
  rw [two_other] at g3 v1 v2 v3
  obtain ⟨r0, r1, r2, r3, r4⟩ := hR
  have rp := r4 sg
  have ru := r4 (!sg)
  rw [two_same] at rp
  rw [two_other] at ru
  have hpP : p ∈ (Sh.node true p (two s (.node true x kx) sib)).ino := (mem_node s).2 (.inl rfl)
  have huU : u ∈ (Sh.node true u ku).ino := (mem_node s).2 (.inl rfl)
  -- p black
  have p1 := rp.recol (c' := false) g2
  have q1 : Rep (setC f p false) (.node true u ku) g := ru.away (g3 p hpP)
  -- the uncle black
  have p2 : Rep (setC (setC f p false) u false) (.node false p (two s (.node true x kx) sib)) g := p1.away (v3 u huU)
  have q2 := q1.recol (c' := false) v2
  -- the grandparent red
  have p3 : Rep (setC (setC (setC f p false) u false) g true) (.node false p (two s (.node true x kx) sib)) g := p2.away g1
  have q3 : Rep (setC (setC (setC f p false) u false) g true) (.node false u ku) g := q2.away v1
  have hgp : g ≠ p := fun e => g1 (e ▸ hpP)
  have hgu : g ≠ u := fun e => v1 (e ▸ huU)
  have ku2 : ∀ z, z ∈ (Sh.node false g (two sg (.node true p (two s (.node true x kx) sib)) (.node true u ku))).ino → z ∉ k.all := fun z hz hz' => n3 z hz z hz' rfl
  have mg := (mem_node (c := false) (x := g) (z := g) (k := two sg (.node true p (two s (.node true x kx) sib)) (.node true u ku)) sg).2 (.inl rfl)
  have mp := (mem_node (c := false) (x := g) (z := p) (k := two sg (.node true p (two s (.node true x kx) sib)) (.node true u ku)) sg).2 (.inr (.inl (by rw [two_same]; exact hpP)))
  have mu := (mem_node (c := false) (x := g) (z := u) (k := two sg (.node true p (two s (.node true x kx) sib)) (.node true u ku)) sg).2 (.inr (.inr (by rw [two_other]; exact huU)))
  have e0 : (Sh.node true g (two sg (.node false p (two s (.node true x kx) sib)) (.node false u ku))).ino = (Sh.node false g (two sg (.node true p (two s (.node true x kx) sib)) (.node true u ku))).ino := by
    cases sg <;> simp [Sh.ino, two]
  have e1 : (k.plug (.node true g (two sg (.node false p (two s (.node true x kx) sib)) (.node false u ku)))).ino = (k.plug (.node false g (two sg (.node true p (two s (.node true x kx) sib)) (.node true u ku)))).ino := by rw [plug_ino, plug_ino, e0]
  refine ⟨⟨⟨r0, setC_red _ _ _, ?_, fun s' => ?_, fun s' => ?_⟩, ?_, by rw [e1]; exact hnd, fun s' => ?_, fun s' => ?_, hb, hn⟩, e1⟩
  · rw [setC_u, setC_u, setC_u]; exact r2
  · rw [setC_ch, setC_ch, setC_ch, r3 s']
    unfold two; split <;> rfl
  · unfold two; split
    · exact p3
    · exact q3
  · exact ((hC.away (ku2 p mp)).away (ku2 u mu)).away (ku2 g mg)
  · unfold two; split
    · exact ⟨rfl, fun e => (by cases e), fun s'' => nrr_two (show Nrr (.node true x kx) from ⟨fun _ s3 => (h.ch s3).1, fun s3 => (h.ch s3).2⟩) s2 s''⟩
    · exact ⟨rfl, fun e => (by cases e), u2.2⟩
  · unfold two; split
    · exact ⟨n, rfl, fun s'' => bal_two (show Bal (.node true x kx) n from h.bal) s3 s''⟩
    · exact ⟨n, rfl, u3⟩
/-- the lower turn: the red place comes up to its parent's place -/
theorem Mend.inner {f : Nat → Nd} {root p g : Nat} {s sg cg : Bool} {sib unc : Sh} {k : Cx} {x : Nat} {kx : Bool → Sh} {n b : Nat} (h : Mend f root (.fr true p s sib (.fr cg g sg unc k)) x kx n b) (hs : s = !sg) :
    Mend (turnF f root p sg).1 (turnF f root p sg).2 (.fr true x sg (kx (!sg)) (.fr cg g sg unc k)) p (two sg sib (kx sg)) n b ∧
    ((Cx.fr true x sg (kx (!sg)) (.fr cg g sg unc k)).plug (.node true p (two sg sib (kx sg)))).ino = ((Cx.fr true p s sib (.fr cg g sg unc k)).plug (.node true x kx)).ino := by
  subst hs
  obtain ⟨c1, c2, c3, c7⟩ := h.cn
  obtain ⟨b1, b2⟩ := h.cb
  obtain ⟨d1, d2⟩ := RepC.down (x := p) h.rt (show RepC f root (.fr true p (!sg) sib (.fr cg g sg unc k)) (Sh.node true x kx).root from h.rc)
  obtain ⟨t1, t2, t3⟩ := turn_rep sg (kx := two (!sg) (.node true x kx) sib) (cy := true) (y := x) (ky := kx) (two_same _ _ _) d1 d2 h.nd
  have e1 : two (!sg) (Sh.node true x kx) sib sg = sib := by have := two_other (!sg) (Sh.node true x kx) sib; rwa [Bool.not_not] at this
  have et : turned sg true p (two (!sg) (.node true x kx) sib) true x kx = .node true x (two sg (.node true p (two sg sib (kx sg))) (kx (!sg))) := by unfold turned; rw [e1]
  have ei := turned_ino sg true p (two (!sg) (.node true x kx) sib) true x kx (two_same _ _ _)
  rw [et] at t1 ei
  obtain ⟨o1, o2⟩ := RepC.over sg t1 t2
  rw [two_same] at o1 o2
  rw [two_other] at o2
  have e2 : ((Cx.fr true x sg (kx (!sg)) (.fr cg g sg unc k)).plug (.node true p (two sg sib (kx sg)))).ino = ((Cx.fr true p (!sg) sib (.fr cg g sg unc k)).plug (.node true x kx)).ino := by
    show ((Cx.fr cg g sg unc k).plug (.node true x (two sg (.node true p (two sg sib (kx sg))) (kx (!sg))))).ino = ((Cx.fr cg g sg unc k).plug (.node true p (two (!sg) (.node true x kx) sib))).ino
    rw [plug_ino, plug_ino, ei]
  refine ⟨⟨o1, o2, by rw [e2]; exact h.nd, fun s' => ?_, fun s' => ?_, ⟨h.bal _, b2⟩, ⟨fun _ => (h.ch _).1, (h.ch _).2, c3, c7⟩⟩, e2⟩
  · unfold two; split
    · exact ⟨c1 rfl, c2⟩
    · exact h.ch _
  · exact bal_two b1 (h.bal _) s'
/-- the upper turn: the parent comes up, black -/
theorem Mend.outer {f : Nat → Nd} {root p g : Nat} {s sg cg : Bool} {sib unc : Sh} {k : Cx} {x : Nat} {kx : Bool → Sh} {n b : Nat} (h : Mend f root (.fr true p s sib (.fr cg g sg unc k)) x kx n b) (hs : s = sg) (hu : unc.red = false) :
    Mend (turnF (setC (setC f p false) g true) root g (!sg)).1 (turnF (setC (setC f p false) g true) root g (!sg)).2 (.fr false p sg (.node true g (two (!sg) unc sib)) k) x kx n b ∧
    ((Cx.fr false p sg (.node true g (two (!sg) unc sib)) k).plug (.node true x kx)).ino = ((Cx.fr true p s sib (.fr cg g sg unc k)).plug (.node true x kx)).ino ∧
    (∀ z, z ∉ ((Cx.fr true p s sib (.fr cg g sg unc k)).plug (.node true x kx)).ino → (turnF (setC (setC f p false) g true) root g (!sg)).1 z = setC (setC f p false) g true z) := by
  obtain ⟨hcg, hR, hC, hnd, s1, s2, u2, s3, u3, hb, hn⟩ := h.big
  subst hcg hs
  obtain ⟨n1, n2, n3⟩ := List.nodup_append.1 ((plug_perm k _).nodup_iff.1 hnd)
  obtain ⟨g1, g2, g3⟩ := nodup_node n1 s
  obtain ⟨v1, v2, v3⟩ := nodup_node n1 (!s)
  rw [two_same] at g1 g2 g3
  rw [two_other] at g3 v1
  obtain ⟨r0, r1, r2, r3, r4⟩ := hR
  have rp := r4 s
  have ru := r4 (!s)
  rw [two_same] at rp
  rw [two_other] at ru
  have hpP : p ∈ (Sh.node true p (two s (.node true x kx) sib)).ino := (mem_node s).2 (.inl rfl)
  have p1 := rp.recol (c' := false) g2
  have q1 : Rep (setC f p false) unc g := ru.away (g3 p hpP)
  have p3 : Rep (setC (setC f p false) g true) (.node false p (two s (.node true x kx) sib)) g := p1.away g1
  have q3 : Rep (setC (setC f p false) g true) unc g := q1.away v1
  have ku2 : ∀ z, z ∈ (Sh.node false g (two s (.node true p (two s (.node true x kx) sib)) unc)).ino → z ∉ k.all := fun z hz hz' => n3 z hz z hz' rfl
  have mg := (mem_node (c := false) (x := g) (z := g) (k := two s (.node true p (two s (.node true x kx) sib)) unc) s).2 (.inl rfl)
  have mp := (mem_node (c := false) (x := g) (z := p) (k := two s (.node true p (two s (.node true x kx) sib)) unc) s).2 (.inr (.inl (by rw [two_same]; exact hpP)))
  have hR2 : Rep (setC (setC f p false) g true) (.node true g (two s (.node false p (two s (.node true x kx) sib)) unc)) k.up := by
    refine ⟨r0, setC_red _ _ _, ?_, fun s' => ?_, fun s' => ?_⟩
    · rw [setC_u, setC_u]; exact r2
    · rw [setC_ch, setC_ch, r3 s']
      unfold two; split <;> rfl
    · unfold two; split
      · exact p3
      · exact q3
  have hC2 : RepC (setC (setC f p false) g true) root k g := (hC.away (ku2 p mp)).away (ku2 g mg)
  have e0 : (Sh.node true g (two s (.node false p (two s (.node true x kx) sib)) unc)).ino = (Sh.node false g (two s (.node true p (two s (.node true x kx) sib)) unc)).ino := by
    cases s <;> simp [Sh.ino, two]
  have hnd2 : (k.plug (.node true g (two s (.node false p (two s (.node true x kx) sib)) unc))).ino.Nodup := by
    rw [plug_ino, e0, ← plug_ino]; exact hnd
  have hk2 : two s (Sh.node false p (two s (.node true x kx) sib)) unc (!(!s)) = .node false p (two s (.node true x kx) sib) := by rw [Bool.not_not, two_same]
  obtain ⟨t1, t2, t3⟩ := turn_rep (!s) hk2 hR2 hC2 hnd2
  have ei := turned_ino (!s) true g (two s (.node false p (two s (.node true x kx) sib)) unc) false p (two s (.node true x kx) sib) hk2
  have et : turned (!s) true g (two s (.node false p (two s (.node true x kx) sib)) unc) false p (two s (.node true x kx) sib) = .node false p (two (!s) (.node true g (two (!s) unc sib)) (.node true x kx)) := by
    unfold turned; rw [Bool.not_not, two_same, two_other, two_other]
  rw [et] at t1 ei
  obtain ⟨o1, o2⟩ := RepC.over s t1 t2
  have e3 : two (!s) (Sh.node true g (two (!s) unc sib)) (.node true x kx) s = .node true x kx := by have := two_other (!s) (Sh.node true g (two (!s) unc sib)) (.node true x kx); rwa [Bool.not_not] at this
  rw [e3, two_same] at o2
  rw [e3] at o1
  have e4 : Sh.node false p (two s (.node true x kx) (.node true g (two (!s) unc sib))) = .node false p (two (!s) (.node true g (two (!s) unc sib)) (.node true x kx)) := by
    congr 1; funext s'; cases s <;> cases s' <;> rfl
  have e2 : ((Cx.fr false p s (.node true g (two (!s) unc sib)) k).plug (.node true x kx)).ino = ((Cx.fr true p s sib (.fr false g s unc k)).plug (.node true x kx)).ino := by
    show (k.plug (.node false p (two s (.node true x kx) (.node true g (two (!s) unc sib))))).ino = (k.plug (.node false g (two s (.node true p (two s (.node true x kx) sib)) unc))).ino
    rw [plug_ino, plug_ino, e4, ei, e0]
  refine ⟨⟨o1, o2, by rw [e2]; exact h.nd, h.ch, h.bal, ⟨bal_two u3 s3, hb⟩, ⟨fun e => (by cases e), ⟨fun _ s' => ?_, fun s' => nrr_two u2 s2 s'⟩, hn, ?_⟩⟩, e2, fun z hz => t3 z (by rw [plug_ino, e0, ← plug_ino]; exact hz)⟩
  · unfold two; split
    · exact hu
    · exact s1
  · cases k with
    | top => rfl
    | fr c' x' s' sib' k' => intro e; cases e
end Go.Proofs.Ytfoigflgglpobaa.Tr
