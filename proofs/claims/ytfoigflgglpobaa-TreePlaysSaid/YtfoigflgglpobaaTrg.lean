/- What a mending stands on and does, in plain Lean, with all that stays. No program in sight; no condition. -/
import Derived.Test.YtfoigflgglpobaaTrd
set_option linter.unusedVariables false
namespace Go.Proofs.Ytfoigflgglpobaa.Tr
open Go.RowKit Go.Proofs.Ytfoigflgglpobaa.Aid
/-- what stays of a tree's numbers, whatever is mended -/
structure Stay (s0 : TS) (I : List Nat) (p : (Nat → Nd) × Nat) : Prop where
  z0 : 0 ∉ I
  lt : ∀ z, z ∈ I → z < s0.sz
  keep : Keep s0.f p.1
  away : ∀ z, z ∉ I → p.1 z = s0.f z
  lk : Lk p.1 s0.sz
  root : p.2 < s0.sz
theorem Stay.col {s0 : TS} {I : List Nat} {p : (Nat → Nd) × Nat} (h : Stay s0 I p) {z : Nat} (hz : z ∈ I) (c : Bool) : Stay s0 I (setC p.1 z c, p.2) :=
  ⟨h.z0, h.lt, h.keep.trans (keep_c _ _ _), fun y hy => (setC_ne (show y ≠ z from fun e => hy (e ▸ hz))).trans (h.away y hy), h.lk.setC z c, h.root⟩
theorem Stay.turn {s0 : TS} {I : List Nat} {p : (Nat → Nd) × Nat} (h : Stay s0 I p) {x : Nat} (hx : x < s0.sz) (r : Bool) (ha : ∀ z, z ∉ I → (turnF p.1 p.2 x r).1 z = p.1 z) : Stay s0 I (turnF p.1 p.2 x r) :=
  ⟨h.z0, h.lt, h.keep.trans (keep_turn _ _ _ _), fun y hy => (ha y hy).trans (h.away y hy), (h.lk.turn h.root hx r).1, (h.lk.turn h.root hx r).2⟩
structure MdSt (s0 : TS) (I : List Nat) (p : (Nat → Nd) × Nat) (k : Cx) (x : Nat) (kx : Bool → Sh) : Prop where
  st : Stay s0 I p
  red0 : (s0.f 0).red = false
  md : ∃ n b, Mend p.1 p.2 k x kx n b
  ino : (k.plug (.node true x kx)).ino = I
def MdEnd (s0 : TS) (I : List Nat) (p : (Nat → Nd) × Nat) : Prop := Stay s0 I p ∧ ∃ T, RB p.1 p.2 T ∧ T.ino = I
theorem MdSt.memx {s0 : TS} {I : List Nat} {p : (Nat → Nd) × Nat} {k : Cx} {x : Nat} {kx : Bool → Sh} (h : MdSt s0 I p k x kx) : x ∈ I := by
  rw [← h.ino, (plug_perm k _).mem_iff]
  exact List.mem_append_left _ ((mem_node true).2 (.inl rfl))
theorem MdSt.memk {s0 : TS} {I : List Nat} {p : (Nat → Nd) × Nat} {k : Cx} {x : Nat} {kx : Bool → Sh} (h : MdSt s0 I p k x kx) {z : Nat} (hz : z ∈ k.all) : z ∈ I := by
  rw [← h.ino, (plug_perm k _).mem_iff]
  exact List.mem_append_right _ hz
theorem MdSt.c0 {s0 : TS} {I : List Nat} {p : (Nat → Nd) × Nat} {k : Cx} {x : Nat} {kx : Bool → Sh} (h : MdSt s0 I p k x kx) : (p.1 0).red = false := by rw [h.st.away 0 h.st.z0]; exact h.red0
theorem MdSt.rootI {s0 : TS} {I : List Nat} {p : (Nat → Nd) × Nat} {k : Cx} {x : Nat} {kx : Bool → Sh} (h : MdSt s0 I p k x kx) : p.2 ∈ I := by
  obtain ⟨n, b, hm⟩ := h.md
  obtain ⟨h1, h2⟩ := plug_rep k hm.rt (show RepC p.1 p.2 k (Sh.node true x kx).root from hm.rc)
  rw [← h.ino, h2]
  cases hT : k.plug (.node true x kx) with
  | nil =>
    have := (plug_perm k (.node true x kx)).length_eq
    rw [hT] at this
    simp [Sh.ino] at this
  | node c y ky => exact root_mem (by rw [hT] at h1; exact h1.1)
theorem MdSt.top {s0 : TS} {I : List Nat} {p : (Nat → Nd) × Nat} {x : Nat} {kx : Bool → Sh} (h : MdSt s0 I p .top x kx) : MdEnd s0 I (setC p.1 p.2 false, p.2) := by
  obtain ⟨n, b, hm⟩ := h.md
  exact ⟨h.st.col h.rootI false, _, hm.top, h.ino⟩
theorem MdSt.black {s0 : TS} {I : List Nat} {p : (Nat → Nd) × Nat} {q : Nat} {s : Bool} {sib : Sh} {k : Cx} {x : Nat} {kx : Bool → Sh} (h : MdSt s0 I p (.fr false q s sib k) x kx) : MdEnd s0 I (setC p.1 p.2 false, p.2) := by
  obtain ⟨n, b, hm⟩ := h.md
  exact ⟨h.st.col h.rootI false, _, hm.black, h.ino⟩
theorem MdSt.nottop {s0 : TS} {I : List Nat} {p : (Nat → Nd) × Nat} {q : Nat} {s : Bool} {sib : Sh} {x : Nat} {kx : Bool → Sh} (h : MdSt s0 I p (.fr true q s sib .top) x kx) : False := by
  obtain ⟨n, b, hm⟩ := h.md
  exact absurd hm.cn.2.2.2 (by simp)
section
variable {s0 : TS} {I : List Nat} {p : (Nat → Nd) × Nat} {q gg u : Nat} {s sg cg : Bool} {sib unc : Sh} {ku : Bool → Sh} {k : Cx} {x : Nat} {kx : Bool → Sh}
theorem MdSt.uncle (h : MdSt s0 I p (.fr true q s sib (.fr cg gg sg (.node true u ku) k)) x kx) :
    ∃ kx', MdSt s0 I (setC (setC (setC p.1 q false) u false) gg true, p.2) k gg kx' := by
  obtain ⟨n, b, hm⟩ := h.md
  obtain ⟨m1, m2⟩ := hm.uncle
  refine ⟨_, ((h.st.col (h.memk ?_) false).col (h.memk ?_) false).col (h.memk ?_) true, h.red0, ⟨_, _, m1⟩, m2.trans h.ino⟩
  · simp [Cx.all]
  · simp only [Cx.all, List.mem_cons, List.mem_append]
    exact .inr (.inr (.inr (.inl ((mem_node true).2 (.inl rfl)))))
  · simp [Cx.all]
theorem MdSt.inner (h : MdSt s0 I p (.fr true q (!sg) sib (.fr cg gg sg unc k)) x kx) :
    ∃ sib' kx', MdSt s0 I (turnF p.1 p.2 q sg) (.fr true x sg sib' (.fr cg gg sg unc k)) q kx' := by
  obtain ⟨n, b, hm⟩ := h.md
  obtain ⟨m1, m2⟩ := hm.inner rfl
  have hq : q ∈ I := h.memk (by simp [Cx.all])
  refine ⟨_, _, h.st.turn (h.st.lt q hq) sg ?_, h.red0, ⟨_, _, m1⟩, m2.trans h.ino⟩
  obtain ⟨h1, h2⟩ := RepC.down hm.rt (show RepC p.1 p.2 _ (Sh.node true x kx).root from hm.rc)
  have hnd : ((Cx.fr cg gg sg unc k).plug (.node true q (two (!sg) (.node true x kx) sib))).ino.Nodup := hm.nd
  have h3 := (turn_rep (k := .fr cg gg sg unc k) sg (two_same _ _ _) h1 h2 hnd).2.2
  intro z hz
  refine h3 z ?_
  rw [← h.ino] at hz
  exact hz
theorem MdSt.outer (h : MdSt s0 I p (.fr true q sg sib (.fr cg gg sg unc k)) x kx) (hu : unc.red = false) :
    ∃ sib', MdSt s0 I (turnF (setC (setC p.1 q false) gg true) p.2 gg (!sg)) (.fr false q sg sib' k) x kx := by
  obtain ⟨n, b, hm⟩ := h.md
  obtain ⟨m1, m2, m3⟩ := hm.outer rfl hu
  have hq : q ∈ I := h.memk (by simp [Cx.all])
  have hg : gg ∈ I := h.memk (by simp [Cx.all])
  have S2 := (h.st.col hq false).col hg true
  refine ⟨_, S2.turn (p := (setC (setC p.1 q false) gg true, p.2)) (h.st.lt gg hg) (!sg) ?_, h.red0, ⟨_, _, m1⟩, m2.trans h.ino⟩
  exact fun z hz => m3 z (by rw [h.ino]; exact hz)
/-- what a mending with a red parent reads -/
theorem MdSt.facts (h : MdSt s0 I p (.fr true q s sib (.fr cg gg sg unc k)) x kx) :
    (p.1 x).u = q ∧ (p.1 q).red = true ∧ (p.1 q).u = gg ∧ decide ((p.1 gg).r = q) = sg ∧ ch p.1 gg (!sg) = unc.root ∧ (p.1 unc.root).red = unc.red ∧ decide (ch p.1 q (!sg) = x) = decide (s = !sg) ∧ unc.root ≠ q ∧ unc.root ≠ gg ∧ q ≠ gg ∧ q ≠ 0 ∧ gg ≠ 0 ∧ x ≠ 0 ∧ x ∈ I ∧ q ∈ I ∧ gg ∈ I ∧ (unc.root = 0 ∨ unc.root ∈ I) := by
  have hc0 := h.c0
  obtain ⟨n, b, hm⟩ := h.md
  obtain ⟨p1, p2, p3⟩ := hm.parts
  obtain ⟨a0, a1, a2, a3, a4, a5, b0, b1, b2, b3, b4, b5, b6⟩ := hm.rc
  have hx0 : x ≠ 0 := hm.rt.1
  have hxu : (p.1 x).u = q := hm.rt.2.2.1
  have hxk := p3 x ((mem_node true).2 (.inl rfl))
  simp only [Cx.all, List.mem_cons, List.mem_append, not_or] at hxk
  obtain ⟨x1, x2, x3, x4, x5⟩ := hxk
  have p2' := p2
  simp only [Cx.all] at p2'
  obtain ⟨q1, q2⟩ := List.nodup_cons.1 p2'
  simp only [List.mem_cons, List.mem_append, not_or] at q1
  obtain ⟨q3, q4, q5, q6⟩ := q1
  obtain ⟨_, g1, _⟩ := List.nodup_append.1 q2
  obtain ⟨g2, g3⟩ := List.nodup_cons.1 g1
  simp only [List.mem_append, not_or] at g2
  have hur : unc.root ≠ 0 → unc.root ∈ unc.ino := fun e => root_mem e
  have u1 : unc.root ≠ q := by
    by_cases e : unc.root = 0
    · rw [e]; exact Ne.symm a0
    · intro e2; exact q5 (e2 ▸ hur e)
  have u2 : unc.root ≠ gg := by
    by_cases e : unc.root = 0
    · rw [e]; exact Ne.symm b0
    · intro e2; exact g2.1 (e2 ▸ hur e)
  refine ⟨hxu, a1, a2, ?_, b4, ?_, ?_, u1, u2, q4, a0, b0, hx0, h.memx, h.memk (by simp [Cx.all]), h.memk (by simp [Cx.all]), ?_⟩
  · cases sg
    · have : (p.1 gg).r = unc.root := b4
      rw [this]; exact decide_eq_false u1
    · have : (p.1 gg).r = q := b3
      rw [this]; simp
  · cases unc with
    | nil => exact hc0
    | node c y ky => exact b5.2.1
  · by_cases e : s = !sg
    · subst e; rw [a3]; simp
    · have e2 : sg = s := by cases s <;> cases sg <;> simp_all
      subst e2
      rw [a4]
      have : sib.root ≠ x := by
        by_cases e3 : sib.root = 0
        · rw [e3]; exact Ne.symm hx0
        · intro e4; exact x2 (e4 ▸ root_mem e3)
      simp [this]
  · by_cases e : unc.root = 0
    · exact .inl e
    · exact .inr (h.memk (by simp only [Cx.all, List.mem_cons, List.mem_append]; exact .inr (.inr (.inr (.inl (hur e))))))
end
end Go.Proofs.Ytfoigflgglpobaa.Tr
