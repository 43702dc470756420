/- Ways down put together, and a place that takes another one's, in plain Lean. No program in sight; no condition. -/
import Derived.Test.YtfoigflgglpobaaTrx
set_option linter.unusedVariables false
namespace Go.Proofs.Ytfoigflgglpobaa.Tr
open Go.RowKit Go.Proofs.Ytfoigflgglpobaa.Aid
/-- one way down behind another one: the first is the lower -/
def Cx.app : Cx → Cx → Cx
  | .top, k => k
  | .fr c x s sib d, k => .fr c x s sib (d.app k)
theorem app_plug (d : Cx) : ∀ (k : Cx) (t : Sh), (d.app k).plug t = k.plug (d.plug t) := by
  induction d with
  | top => intro k t; rfl
  | fr c x s sib d ih => intro k t; exact ih k _
theorem app_up (d k : Cx) : (d.app k).up = (match d with | .top => k.up | .fr _ x _ _ _ => x) := by
  cases d with
  | top => rfl
  | fr c x s sib d => rfl
/-- down to the end of a way: what hangs there -/
theorem unplug {f : Nat → Nd} {root : Nat} {k : Cx} (d : Cx) : ∀ {t : Sh}, Rep f (d.plug t) k.up → RepC f root k (d.plug t).root → Rep f t (d.app k).up ∧ RepC f root (d.app k) t.root := by
  induction d with
  | top => intro t h hc; exact ⟨h, hc⟩
  | fr c x s sib d ih =>
    intro t h hc
    obtain ⟨h1, h2⟩ := ih (t := .node c x (two s t sib)) h hc
    obtain ⟨h3, h4⟩ := RepC.over s h1 h2
    rw [two_same] at h3 h4
    rw [two_other] at h4
    exact ⟨h3, h4⟩
theorem replug {f : Nat → Nd} {root : Nat} {k : Cx} (d : Cx) : ∀ {t : Sh}, Rep f t (d.app k).up → RepC f root (d.app k) t.root → Rep f (d.plug t) k.up ∧ RepC f root k (d.plug t).root := by
  induction d with
  | top => intro t h hc; exact ⟨h, hc⟩
  | fr c x s sib d ih =>
    intro t h hc
    obtain ⟨h1, h2⟩ := RepC.down h hc
    exact ih h1 h2
/-- what a way down in a tree is, read off the tree -/
theorem bal_split (d : Cx) : ∀ {t : Sh} {m : Nat}, Bal (d.plug t) m → ∃ n, Bal t n ∧ CBal d n m := by
  induction d with
  | top => intro t m h; exact ⟨m, h, rfl⟩
  | fr c x s sib d ih =>
    intro t m h
    obtain ⟨n, h1, h2⟩ := ih (t := .node c x (two s t sib)) h
    cases c with
    | true =>
      have a := h1 s
      have b := h1 (!s)
      rw [two_same] at a
      rw [two_other] at b
      exact ⟨n, a, b, h2⟩
    | false =>
      obtain ⟨n', rfl, h1⟩ := h1
      have a := h1 s
      have b := h1 (!s)
      rw [two_same] at a
      rw [two_other] at b
      exact ⟨n', a, b, h2⟩
theorem nrr_split (d : Cx) : ∀ {t : Sh}, Nrr (d.plug t) → Nrr t ∧ (d.red = true → t.red = false) := by
  induction d with
  | top => intro t h; exact ⟨h, fun e => by cases e⟩
  | fr c x s sib d ih =>
    intro t h
    obtain ⟨⟨h1, h2⟩, h4⟩ := ih (t := .node c x (two s t sib)) h
    have a := h2 s
    rw [two_same] at a
    refine ⟨a, fun e => ?_⟩
    have := h1 e s; rwa [two_same] at this
theorem cnrr_of (d : Cx) : ∀ {t : Sh}, Nrr (d.plug t) → (d.plug t).red = false → CNrr d := by
  induction d with
  | top => intro t _ _; trivial
  | fr c x s sib d ih =>
    intro t h hr
    have h0 : Nrr (d.plug (.node c x (two s t sib))) := h
    have h3 := ih h0 hr
    obtain ⟨⟨h1, h2⟩, h4⟩ := nrr_split d h0
    have b := h2 (!s)
    rw [two_other] at b
    refine ⟨fun e => ?_, b, h3, ?_⟩
    · have := h1 e (!s); rwa [two_other] at this
    · cases d with
      | top => exact hr
      | fr c' x' s' sib' d' =>
        intro e
        show c' = false
        cases hc : c' with
        | false => rfl
        | true =>
          have h5 : c = false := h4 hc
          rw [h5] at e; cases e
/-- a frame's place has no say in colours -/
theorem cnrr_name (d : Cx) {c : Bool} {z y : Nat} {s : Bool} {sib : Sh} {k : Cx} : CNrr (d.app (.fr c z s sib k)) → CNrr (d.app (.fr c y s sib k)) := by
  induction d with
  | top => exact fun h => h
  | fr c' x' s' sib' d ih =>
    intro h
    obtain ⟨h1, h2, h3, h4⟩ := h
    refine ⟨h1, h2, ih h3, ?_⟩
    cases d with
    | top => exact h4
    | fr c2 x2 s2 sib2 d2 => exact h4
theorem cbal_name (d : Cx) {c : Bool} {z y : Nat} {s : Bool} {sib : Sh} {k : Cx} : ∀ {n b : Nat}, CBal (d.app (.fr c z s sib k)) n b → CBal (d.app (.fr c y s sib k)) n b := by
  induction d with
  | top => exact fun h => h
  | fr c' x' s' sib' d ih => exact fun h => ⟨h.1, ih h.2⟩
/-- a place takes another one's: its node, what hangs on it, and where it hangs -/
def takeF (f : Nat → Nd) (root z y : Nat) : (Nat → Nd) × Nat :=
  let h := hangF f root z y
  let f2 := repN h.1 y { h.1 y with l := (h.1 z).l, r := (h.1 z).r, red := (h.1 z).red }
  let f3 := if (h.1 z).l = 0 then f2 else setU f2 (h.1 z).l y
  (if (h.1 z).r = 0 then f3 else setU f3 (h.1 z).r y, h.2)
theorem keep_take (f : Nat → Nd) (root z y : Nat) : Keep f (takeF f root z y).1 := by
  have h1 := keep_hang f root z y
  have h2 : Keep (hangF f root z y).1 (repN (hangF f root z y).1 y { (hangF f root z y).1 y with l := ((hangF f root z y).1 z).l, r := ((hangF f root z y).1 z).r, red := ((hangF f root z y).1 z).red }) := fun w => by
    by_cases e : w = y
    · subst e; rw [repN, if_pos rfl]; exact ⟨rfl, rfl, rfl, rfl⟩
    · rw [repN, if_neg e]; exact ⟨rfl, rfl, rfl, rfl⟩
  have h3 := h1.trans h2
  unfold takeF
  dsimp only
  split
  · split
    · exact h3
    · exact h3.trans (keep_u _ _ _)
  · split
    · exact h3.trans (keep_u _ _ _)
    · exact (h3.trans (keep_u _ _ _)).trans (keep_u _ _ _)
theorem take_rep {f : Nat → Nd} {root z y : Nat} {C : Cx} {c : Bool} {kk : Bool → Sh} (hR : Rep f (.node c z kk) C.up) (hC : RepC f root C z) (hnd : (C.plug (.node c z kk)).ino.Nodup) (hy : y ∉ (C.plug (.node c z kk)).ino) (y0 : y ≠ 0) (z0 : 0 ∉ (C.plug (.node c z kk)).ino) :
    Rep (takeF f root z y).1 (.node c y kk) C.up ∧ RepC (takeF f root z y).1 (takeF f root z y).2 C y ∧ ∀ w, w ∉ (C.plug (.node c z kk)).ino → w ≠ y → (takeF f root z y).1 w = f w := by
  have hp := plug_perm C (.node c z kk)
  obtain ⟨n1, n2, n3⟩ := List.nodup_append.1 (hp.nodup_iff.1 hnd)
  have hmem : ∀ w, w ∈ (C.plug (.node c z kk)).ino ↔ w ∈ (Sh.node c z kk).ino ∨ w ∈ C.all := fun w => by rw [hp.mem_iff, List.mem_append]
  have hyn : y ∉ (Sh.node c z kk).ino := fun e => hy ((hmem y).2 (.inl e))
  have hyc : y ∉ C.all := fun e => hy ((hmem y).2 (.inr e))
  have mz : z ∈ (Sh.node c z kk).ino := (mem_node false).2 (.inl rfl)
  obtain ⟨r0, r1, r2, r3, r4⟩ := hR
  obtain ⟨a1, a2, a3, a4, a5⟩ := hang_rep n2 hC r2 r0 (fun e => n3 z mz z e rfl) hyc
  have hin : ∀ w, w ∈ (Sh.node c z kk).ino → (hangF f root z y).1 w = f w := fun w hw => a2 w (fun e => hyn (e ▸ hw)) (by
    by_cases e : C.up = 0
    · exact .inl e
    · exact .inr fun e2 => n3 w hw w (e2 ▸ RepC.up_mem hC e) rfl)
  have hz := hin z mz
  have el : ((hangF f root z y).1 z).l = (kk false).root := by rw [hz]; exact r3 false
  have er : ((hangF f root z y).1 z).r = (kk true).root := by rw [hz]; exact r3 true
  have ec : ((hangF f root z y).1 z).red = c := by rw [hz]; exact r1
  have ml : (kk false).root ≠ 0 → (kk false).root ∈ (Sh.node c z kk).ino := fun e => mem_ino_side false (root_mem e)
  have mr : (kk true).root ≠ 0 → (kk true).root ∈ (Sh.node c z kk).ino := fun e => mem_ino_side true (root_mem e)
  have nlr : (kk false).root ≠ 0 → (kk false).root ≠ (kk true).root := fun e e2 => by
    have h1 := (nodup_node n1 false).2.2 _ (root_mem e)
    exact h1 (by rw [e2]; exact root_mem (e2 ▸ e))
  have nyl : y ≠ (kk false).root := by
    by_cases e : (kk false).root = 0
    · rw [e]; exact y0
    · exact fun e2 => hyn (e2 ▸ ml e)
  have nyr : y ≠ (kk true).root := by
    by_cases e : (kk true).root = 0
    · rw [e]; exact y0
    · exact fun e2 => hyn (e2 ▸ mr e)
  obtain ⟨F, hF⟩ : ∃ F, takeF f root z y = F := ⟨_, rfl⟩
  have F2 : F.2 = (hangF f root z y).2 := by rw [← hF]; rfl
  have Fo : ∀ w, w ≠ y → ((kk false).root = 0 ∨ w ≠ (kk false).root) → ((kk true).root = 0 ∨ w ≠ (kk true).root) → F.1 w = (hangF f root z y).1 w := fun w h1 h2 h3 => by
    rw [← hF]; unfold takeF; dsimp only; rw [el, er]
    have e1 : repN (hangF f root z y).1 y { (hangF f root z y).1 y with l := (kk false).root, r := (kk true).root, red := ((hangF f root z y).1 z).red } w = (hangF f root z y).1 w := by rw [repN, if_neg h1]
    by_cases b1 : (kk false).root = 0
    · rw [if_pos b1]
      by_cases b2 : (kk true).root = 0
      · rw [if_pos b2, e1]
      · rw [if_neg b2, setU_ne (h3.resolve_left b2), e1]
    · rw [if_neg b1]
      by_cases b2 : (kk true).root = 0
      · rw [if_pos b2, setU_ne (h2.resolve_left b1), e1]
      · rw [if_neg b2, setU_ne (h3.resolve_left b2), setU_ne (h2.resolve_left b1), e1]
  have Fy : F.1 y = { (hangF f root z y).1 y with l := (kk false).root, r := (kk true).root, red := c } := by
    rw [← hF]; unfold takeF; dsimp only; rw [el, er, ec]
    have e1 : repN (hangF f root z y).1 y { (hangF f root z y).1 y with l := (kk false).root, r := (kk true).root, red := c } y = { (hangF f root z y).1 y with l := (kk false).root, r := (kk true).root, red := c } := by rw [repN, if_pos rfl]
    split
    · split
      · exact e1
      · rw [setU_ne nyl]; exact e1
    · split
      · rw [setU_ne nyr]; exact e1
      · rw [setU_ne nyr, setU_ne nyl]; exact e1
  have Fl : (kk false).root ≠ 0 → F.1 (kk false).root = { f (kk false).root with u := y } := fun e => by
    rw [← hF]; unfold takeF; dsimp only; rw [el, er, ec, if_neg e]
    have e1 : repN (hangF f root z y).1 y { (hangF f root z y).1 y with l := (kk false).root, r := (kk true).root, red := c } (kk false).root = f (kk false).root := by rw [repN, if_neg nyl.symm, hin _ (ml e)]
    have e2 : setU (repN (hangF f root z y).1 y { (hangF f root z y).1 y with l := (kk false).root, r := (kk true).root, red := c }) (kk false).root y (kk false).root = { f (kk false).root with u := y } := by rw [setU, if_pos rfl, e1]
    split
    · exact e2
    · rw [setU_ne (nlr e)]; exact e2
  have Fr : (kk true).root ≠ 0 → F.1 (kk true).root = { f (kk true).root with u := y } := fun e => by
    rw [← hF]; unfold takeF; dsimp only; rw [el, er, ec, if_neg e]
    have e1 : repN (hangF f root z y).1 y { (hangF f root z y).1 y with l := (kk false).root, r := (kk true).root, red := c } (kk true).root = f (kk true).root := by rw [repN, if_neg nyr.symm, hin _ (mr e)]
    rw [setU, if_pos rfl]
    split
    · rw [e1]
    · rename_i h5
      rw [setU_ne (fun e2 => nlr h5 e2.symm), e1]
  rw [hF]
  refine ⟨⟨y0, by rw [Fy], by rw [Fy]; exact a4, fun s => ?_, fun s => ?_⟩, ?_, fun w h1 h2 => ?_⟩
  · unfold ch; rw [Fy]
    cases s <;> rfl
  · have hdis := nodup_node n1 s
    refine Rep.rebase hdis.2.1 (r4 s) (fun w hw hwr => same_eq ?_) (fun e => ?_)
    · have hwn := mem_ino_side (c := c) (x := z) (k := kk) s hw
      rw [Fo w (fun e => hyn (e ▸ hwn)) ?_ ?_, hin w hwn]
      · by_cases b : (kk false).root = 0
        · exact .inl b
        · refine .inr fun e => ?_
          cases s with
          | false => exact hwr e
          | true => exact hdis.2.2 w hw (by show w ∈ (kk false).ino; rw [e]; exact root_mem b)
      · by_cases b : (kk true).root = 0
        · exact .inl b
        · refine .inr fun e => ?_
          cases s with
          | true => exact hwr e
          | false => exact hdis.2.2 w hw (by show w ∈ (kk true).ino; rw [e]; exact root_mem b)
    · cases s with
      | false => rw [Fl e]; exact ⟨rfl, rfl, rfl, rfl⟩
      | true => rw [Fr e]; exact ⟨rfl, rfl, rfl, rfl⟩
  · rw [F2]
    refine a1.frame _ fun w hw => same_eq (Fo w (fun e => hyc (e ▸ hw)) ?_ ?_)
    · by_cases b : (kk false).root = 0
      · exact .inl b
      · exact .inr fun e => n3 w (e ▸ ml b) w hw rfl
    · by_cases b : (kk true).root = 0
      · exact .inl b
      · exact .inr fun e => n3 w (e ▸ mr b) w hw rfl
  · have h3 : w ∉ (Sh.node c z kk).ino := fun e => h1 ((hmem w).2 (.inl e))
    have h4 : w ∉ C.all := fun e => h1 ((hmem w).2 (.inr e))
    rw [Fo w h2 ?_ ?_, a2 w h2 ?_]
    · by_cases e : C.up = 0
      · exact .inl e
      · exact .inr fun e2 => h4 (e2 ▸ RepC.up_mem hC e)
    · by_cases b : (kk false).root = 0
      · exact .inl b
      · exact .inr fun e => h3 (e ▸ ml b)
    · by_cases b : (kk true).root = 0
      · exact .inl b
      · exact .inr fun e => h3 (e ▸ mr b)
end Go.Proofs.Ytfoigflgglpobaa.Tr
