/- What a turn does to a tree of places, in plain Lean. No program in sight; no condition. -/
import Derived.Test.YtfoigflgglpobaaTrp
set_option linter.unusedVariables false
namespace Go.Proofs.Ytfoigflgglpobaa.Tr
theorem side_ne {s r : Bool} (h : ¬ s = r) : s = !r := by cases s <;> cases r <;> simp_all
theorem setCh_ne {f : Nat → Nd} {x y v : Nat} {s : Bool} (h : y ≠ x) : setCh f x s v y = f y := by unfold setCh; rw [if_neg h]
theorem setU_ne {f : Nat → Nd} {x y v : Nat} (h : y ≠ x) : setU f x v y = f y := by unfold setU; rw [if_neg h]
theorem setC_ne {f : Nat → Nd} {x y : Nat} {c : Bool} (h : y ≠ x) : setC f x c y = f y := by unfold setC; rw [if_neg h]
theorem setCh_ch (f : Nat → Nd) (x v : Nat) (s : Bool) : ch (setCh f x s v) x s = v := by cases s <;> simp [ch, setCh]
theorem setCh_other (f : Nat → Nd) (x v : Nat) (s : Bool) : ch (setCh f x s v) x (!s) = ch f x (!s) := by cases s <;> simp [ch, setCh]
theorem setCh_u (f : Nat → Nd) (x y v : Nat) (s : Bool) : (setCh f x s v y).u = (f y).u := by unfold setCh; split <;> (cases s <;> simp_all)
theorem setCh_red (f : Nat → Nd) (x y v : Nat) (s : Bool) : (setCh f x s v y).red = (f y).red := by unfold setCh; split <;> (cases s <;> simp_all)
theorem setU_ch (f : Nat → Nd) (x y v : Nat) (s : Bool) : ch (setU f x v) y s = ch f y s := by unfold ch setU; split <;> (split <;> simp_all)
theorem setU_u (f : Nat → Nd) (x v : Nat) : (setU f x v x).u = v := by simp [setU]
theorem setU_red (f : Nat → Nd) (x y v : Nat) : (setU f x v y).red = (f y).red := by unfold setU; split <;> simp_all
theorem setC_ch (f : Nat → Nd) (x y : Nat) (c : Bool) (s : Bool) : ch (setC f x c) y s = ch f y s := by unfold ch setC; split <;> (split <;> simp_all)
theorem setC_u (f : Nat → Nd) (x y : Nat) (c : Bool) : (setC f x c y).u = (f y).u := by unfold setC; split <;> simp_all
theorem setC_red (f : Nat → Nd) (x : Nat) (c : Bool) : (setC f x c x).red = c := by simp [setC]
theorem same_eq {f f' : Nat → Nd} {z : Nat} (h : f' z = f z) : Same f f' z := by unfold Same; rw [h]; exact ⟨rfl, rfl, rfl, rfl⟩
theorem same_of {f f' : Nat → Nd} {z : Nat} (h : ∀ s, Tr.ch f' z s = Tr.ch f z s) (hu : (f' z).u = (f z).u) (hr : (f' z).red = (f z).red) : Same f f' z := ⟨h false, h true, hu, hr⟩
/-- what isn't the tree's stays: keys, whether a place is taken, its turn -/
def Keep (f f' : Nat → Nd) : Prop := ∀ z, (f' z).t = (f z).t ∧ (f' z).s = (f z).s ∧ (f' z).tak = (f z).tak ∧ (f' z).turn = (f z).turn
theorem Keep.refl (f : Nat → Nd) : Keep f f := fun z => ⟨rfl, rfl, rfl, rfl⟩
theorem Keep.trans {f g h : Nat → Nd} (a : Keep f g) (b : Keep g h) : Keep f h := fun z => ⟨(b z).1.trans (a z).1, (b z).2.1.trans (a z).2.1, (b z).2.2.1.trans (a z).2.2.1, (b z).2.2.2.trans (a z).2.2.2⟩
theorem keep_ch (f : Nat → Nd) (x v : Nat) (s : Bool) : Keep f (setCh f x s v) := fun z => by unfold setCh; split <;> (cases s <;> simp_all)
theorem keep_u (f : Nat → Nd) (x v : Nat) : Keep f (setU f x v) := fun z => by unfold setU; split <;> simp_all
theorem keep_c (f : Nat → Nd) (x : Nat) (c : Bool) : Keep f (setC f x c) := fun z => by unfold setC; split <;> simp_all
/-- a place hangs where another one did -/
def hangF (f : Nat → Nd) (root old x : Nat) : (Nat → Nd) × Nat :=
  (setU (if (f old).u = 0 then f else if (f (f old).u).l = old then setCh f (f old).u false x else setCh f (f old).u true x) x (f old).u, if (f old).u = 0 then x else root)
theorem keep_hang (f : Nat → Nd) (root old x : Nat) : Keep f (hangF f root old x).1 := by
  unfold hangF
  refine Keep.trans ?_ (keep_u _ _ _)
  split
  · exact Keep.refl _
  · split <;> exact keep_ch _ _ _ _
/-- the frame's own place knows what hangs at its hole -/
theorem RepC.side {f : Nat → Nd} {root : Nat} {c : Bool} {x : Nat} {s : Bool} {sib : Sh} {k : Cx} {h : Nat} (hr : RepC f root (.fr c x s sib k) h) (h0 : h ≠ 0) (hh : h ∉ sib.ino) : (if (f x).l = h then false else true) = s := by
  obtain ⟨_, _, _, h3, h4, _, _⟩ := hr
  cases s
  · rw [if_pos (show (f x).l = h from h3)]
  · rw [if_neg]
    intro e
    have h5 : (f x).l = sib.root := h4
    rw [e] at h5
    exact hh (by rw [h5]; exact root_mem (by rw [← h5]; exact h0))
theorem hang_rep {f : Nat → Nd} {root old x : Nat} {k : Cx} (hnd : k.all.Nodup) (hr : RepC f root k old) (hu : (f old).u = k.up) (h0 : old ≠ 0) (ho : old ∉ k.all) (hx : x ∉ k.all) :
    RepC (hangF f root old x).1 (hangF f root old x).2 k x ∧ (∀ z, z ≠ x → (k.up = 0 ∨ z ≠ k.up) → (hangF f root old x).1 z = f z) ∧ (∀ s, k.up = 0 ∨ x ≠ k.up → ch (hangF f root old x).1 x s = ch f x s) ∧ ((hangF f root old x).1 x).u = k.up ∧ ((hangF f root old x).1 x).red = (f x).red := by
  cases k with
  | top =>
    have e : (f old).u = 0 := hu
    unfold hangF
    simp only [e, if_true]
    exact ⟨rfl, fun z hz _ => setU_ne hz, fun s _ => setU_ch _ _ _ _ _, setU_u _ _ _, setU_red _ _ _ _⟩
  | fr c p s sib k =>
    have e : (f old).u = p := hu
    have hp : p ≠ 0 := hr.1
    have hs := RepC.side hr h0 (fun h => ho (by simp [Cx.all, h]))
    have hxp : x ≠ p := fun h => hx (by simp [Cx.all, h])
    have ef : hangF f root old x = (setU (setCh f p s x) x p, root) := by
      unfold hangF
      rw [e, if_neg hp, if_neg hp]
      by_cases h : (f p).l = old
      · rw [if_pos h] at hs ⊢; subst hs; rfl
      · rw [if_neg h] at hs ⊢; subst hs; rfl
    rw [ef]
    dsimp only
    refine ⟨RepC.rehang hnd hr (fun z hz hzu => same_eq ?_) (fun h => absurd h hp) (fun _ => rfl) (fun s' c' x' sib' kk hk => ?_), fun z hz hzu => ?_, fun s' _ => ?_, setU_u _ _ _, ?_⟩
    · rw [setU_ne (fun h => hx (by rw [← h]; exact hz))]; exact setCh_ne hzu
    · cases hk
      refine ⟨?_, ?_, ?_, ?_⟩
      · rw [setU_ch, setCh_ch]
      · rw [setU_ch, setCh_other]
      · rw [setU_ne (Ne.symm hxp), setCh_u]
      · rw [setU_red, setCh_red]
    · rw [setU_ne hz]; exact setCh_ne (hzu.resolve_left hp)
    · rw [setU_ch]; unfold ch; rw [setCh_ne hxp]
    · rw [setU_red, setCh_red]
/-- a place goes down to a side: its other child comes up -/
def turnF (f : Nat → Nd) (root x : Nat) (r : Bool) : (Nat → Nd) × Nat :=
  let y := ch f x (!r)
  let inner := ch f y r
  let f1 := setCh f x (!r) inner
  let f2 := if inner = 0 then f1 else setU f1 inner x
  let h := hangF f2 root x y
  (setU (setCh h.1 y r x) x y, h.2)
theorem keep_turn (f : Nat → Nd) (root x : Nat) (r : Bool) : Keep f (turnF f root x r).1 := by
  unfold turnF
  refine ((Keep.trans ?_ (keep_hang _ _ _ _)).trans (keep_ch _ _ _ _)).trans (keep_u _ _ _)
  split
  · exact keep_ch _ _ _ _
  · exact (keep_ch _ _ _ _).trans (keep_u _ _ _)
theorem ino_perm (c : Bool) (x : Nat) (k : Bool → Sh) (s : Bool) : (Sh.node c x k).ino.Perm (x :: ((k s).ino ++ (k (!s)).ino)) := by
  cases s
  · simp only [Sh.ino, Bool.not_false]
    exact List.perm_middle
  · simp only [Sh.ino, Bool.not_true]
    exact List.perm_middle.trans (List.Perm.cons _ List.perm_append_comm)
theorem plug_perm (k : Cx) : ∀ t, (k.plug t).ino.Perm (t.ino ++ k.all) := by
  induction k with
  | top => intro t; simp [Cx.plug, Cx.all]
  | fr c x s sib k ih =>
    intro t
    refine (ih _).trans ?_
    refine ((ino_perm c x (two s t sib) s).append_right _).trans ?_
    rw [two_same, two_other]
    simp only [Cx.all, List.cons_append, List.append_assoc]
    exact List.perm_middle.symm
/-- what is apart in a node -/
theorem nodup_node {c : Bool} {x : Nat} {k : Bool → Sh} (h : (Sh.node c x k).ino.Nodup) (s : Bool) : x ∉ (k s).ino ∧ (k s).ino.Nodup ∧ ∀ z, z ∈ (k s).ino → z ∉ (k (!s)).ino := by
  have h1 := (ino_perm c x k s).nodup_iff.1 h
  obtain ⟨h2, h3⟩ := List.nodup_cons.1 h1
  obtain ⟨h4, h5, h6⟩ := List.nodup_append.1 h3
  exact ⟨fun hz => h2 (List.mem_append_left _ hz), h4, fun z hz hz' => h6 z hz z hz' rfl⟩
theorem mem_node {c : Bool} {x z : Nat} {k : Bool → Sh} (s : Bool) : z ∈ (Sh.node c x k).ino ↔ z = x ∨ z ∈ (k s).ino ∨ z ∈ (k (!s)).ino := by
  rw [(ino_perm c x k s).mem_iff]; simp
/-- the tree behind a turn -/
def turned (r : Bool) (cx : Bool) (x : Nat) (kx : Bool → Sh) (cy : Bool) (y : Nat) (ky : Bool → Sh) : Sh := .node cy y (two r (.node cx x (two r (kx r) (ky r))) (ky (!r)))
theorem turned_ino (r cx : Bool) (x : Nat) (kx : Bool → Sh) (cy : Bool) (y : Nat) (ky : Bool → Sh) (hk : kx (!r) = .node cy y ky) : (turned r cx x kx cy y ky).ino = (Sh.node cx x kx).ino := by
  cases r
  · simp only [Bool.not_false] at hk
    simp [turned, Sh.ino, two, hk]
  · simp only [Bool.not_true] at hk
    simp [turned, Sh.ino, two, hk]
set_option maxHeartbeats 1000000 in
theorem turn_rep {f : Nat → Nd} {root : Nat} {k : Cx} (r : Bool) {cx : Bool} {x : Nat} {kx : Bool → Sh} {cy : Bool} {y : Nat} {ky : Bool → Sh} (hk : kx (!r) = .node cy y ky)
    (ht : Rep f (.node cx x kx) k.up) (hc : RepC f root k x) (hnd : (k.plug (.node cx x kx)).ino.Nodup) :
    Rep (turnF f root x r).1 (turned r cx x kx cy y ky) k.up ∧ RepC (turnF f root x r).1 (turnF f root x r).2 k y ∧ ∀ z, z ∉ (k.plug (.node cx x kx)).ino → (turnF f root x r).1 z = f z := by
  have hp := (plug_perm k (.node cx x kx)).nodup_iff.1 hnd
  obtain ⟨n1, n2, n3⟩ := List.nodup_append.1 hp
  obtain ⟨a1, a2, a3⟩ := nodup_node n1 r
  obtain ⟨b1, b2, b3⟩ := nodup_node n1 (!r)
  rw [hk] at b1 b2 b3 a3
  rw [Bool.not_not] at b3
  obtain ⟨c1, c2, c3⟩ := nodup_node b2 r
  obtain ⟨d1, d2, d3⟩ := nodup_node b2 (!r)
  rw [Bool.not_not] at d3
  have mx : x ∈ (Sh.node cx x kx).ino := (mem_node r).2 (.inl rfl)
  have my : ∀ z, z ∈ (Sh.node cy y ky).ino → z ∈ (Sh.node cx x kx).ino := fun z hz => (mem_node r).2 (.inr (.inr (by rw [hk]; exact hz)))
  have ka : ∀ z, z ∈ (Sh.node cx x kx).ino → z ∉ k.all := fun z hz hz' => n3 z hz z hz' rfl
  have myy : y ∈ (Sh.node cy y ky).ino := (mem_node r).2 (.inl rfl)
  have hxy : x ≠ y := fun h => b1 (h ▸ myy)
  obtain ⟨x0, x1, x2, x3, x4⟩ := ht
  have e1 : ch f x (!r) = y := by rw [x3, hk]; rfl
  have hy := x4 (!r)
  rw [hk] at hy
  obtain ⟨y0, y1, y2, y3, y4⟩ := hy
  obtain ⟨I, hI⟩ : ∃ I, (ky r).root = I := ⟨_, rfl⟩
  have e2 : ch f y r = I := by rw [y3, hI]
  have iI : I ≠ 0 → I ∈ (ky r).ino := fun h => by rw [← hI] at h ⊢; exact root_mem h
  have iI2 : I ≠ 0 → I ∈ (Sh.node cy y ky).ino := fun h => (mem_node r).2 (.inr (.inl (iI h)))
  have hIx : I ≠ 0 → I ≠ x := fun h e => b1 (e ▸ iI2 h)
  have hIy : I ≠ 0 → I ≠ y := fun h e => c1 (e ▸ iI h)
  have hIk : I ≠ 0 → I ∉ k.all := fun h => ka _ (my _ (iI2 h))
  have hxk := ka x mx
  have hyk := ka y (my y myy)
  -- memory ahead of the hanging
  obtain ⟨f2, hf2⟩ : ∃ f2, (if I = 0 then setCh f x (!r) I else setU (setCh f x (!r) I) I x) = f2 := ⟨_, rfl⟩
  have g1 : ∀ z, z ≠ x → (I = 0 ∨ z ≠ I) → f2 z = f z := fun z hz hzi => by
    rw [← hf2]
    by_cases h : I = 0
    · rw [if_pos h, setCh_ne hz]
    · rw [if_neg h, setU_ne (hzi.resolve_left h), setCh_ne hz]
  have g2 : ch f2 x r = ch f x r ∧ ch f2 x (!r) = I ∧ (f2 x).u = (f x).u ∧ (f2 x).red = (f x).red := by
    have hrr : ch (setCh f x (!r) I) x r = ch f x r := by have := setCh_other f x I (!r); rwa [Bool.not_not] at this
    rw [← hf2]
    by_cases h : I = 0
    · rw [if_pos h]
      exact ⟨hrr, setCh_ch _ _ _ _, setCh_u _ _ _ _ _, setCh_red _ _ _ _ _⟩
    · rw [if_neg h]
      refine ⟨by rw [setU_ch]; exact hrr, by rw [setU_ch, setCh_ch], ?_, by rw [setU_red, setCh_red]⟩
      rw [setU_ne (Ne.symm (hIx h)), setCh_u]
  have g3 : I ≠ 0 → (∀ s, ch f2 I s = ch f I s) ∧ (f2 I).u = x ∧ (f2 I).red = (f I).red := fun h => by
    rw [← hf2, if_neg h]
    refine ⟨fun s => ?_, setU_u _ _ _, ?_⟩
    · rw [setU_ch]; unfold ch; rw [setCh_ne (hIx h)]
    · rw [setU_red, setCh_red]
  have hc2 : RepC f2 root k x := hc.frame _ fun z hz => same_eq (g1 z (fun e => hxk (e ▸ hz)) (by by_cases h : I = 0; exact .inl h; exact .inr fun e => hIk h (e ▸ hz)))
  obtain ⟨h1, h2, h3, h4, h5⟩ := hang_rep (x := y) n2 hc2 (g2.2.2.1.trans x2) x0 hxk hyk
  have hF : turnF f root x r = (setU (setCh (hangF f2 root x y).1 y r x) x y, (hangF f2 root x y).2) := by
    unfold turnF
    simp only [e1, e2, hf2]
  rw [hF]
  generalize hangF f2 root x y = H at h1 h2 h3 h4 h5 ⊢
  obtain ⟨f3, root3⟩ := H
  simp only at h1 h2 h3 h4 h5 ⊢
  have kup : ∀ z, z ∈ (Sh.node cx x kx).ino → k.up = 0 ∨ z ≠ k.up := fun z hz => by
    by_cases h : k.up = 0
    · exact .inl h
    · exact .inr fun e => ka z hz (e ▸ RepC.up_mem hc h)
  have fin : ∀ z, z ≠ x → z ≠ y → setU (setCh f3 y r x) x y z = f3 z := fun z hz hz' => by rw [setU_ne hz, setCh_ne hz']
  have hxu : x ≠ k.up := fun e => by
    have : k.up ≠ 0 := e ▸ x0
    exact hxk (e ▸ RepC.up_mem hc this)
  have f3x : f3 x = f2 x := h2 x hxy (.inr hxu)
  have f2y : f2 y = f y := g1 y (Ne.symm hxy) (by by_cases h : I = 0; exact .inl h; exact .inr fun e => hIy h e.symm)
  have hyup : y ≠ k.up := by
    rcases kup y (my y myy) with h | h
    · rw [h]; exact y0
    · exact h
  have f3y : ∀ s, ch f3 y s = ch f y s := fun s => by rw [h3 s (.inr hyup)]; unfold ch; rw [f2y]
  -- what hangs below
  have low : ∀ z, z ∈ (Sh.node cx x kx).ino → z ≠ x → z ≠ y → (I = 0 ∨ z ≠ I) → Same f (setU (setCh f3 y r x) x y) z := fun z hz hzx hzy hzi => by
    refine same_eq ?_
    rw [fin z hzx hzy, h2 z hzy (kup z hz), g1 z hzx hzi]
  refine ⟨⟨y0, ?_, ?_, fun s => ?_, fun s => ?_⟩, ?_, fun z hz => ?_⟩
  · rw [setU_red, setCh_red, h5, f2y]; exact y1
  · rw [setU_ne (Ne.symm hxy), setCh_u]; exact h4
  · rw [setU_ch]
    by_cases e : s = r
    · subst e; rw [setCh_ch, two_same]; rfl
    · have e' : s = !r := side_ne e
      subst e'
      rw [setCh_other, two_other, f3y, y3]
  · by_cases e : s = r
    · subst e
      rw [two_same]
      refine ⟨x0, ?_, setU_u _ _ _, fun s' => ?_, fun s' => ?_⟩
      · rw [setU_red, setCh_red, f3x, g2.2.2.2]; exact x1
      · rw [setU_ch]
        have e3 : ch (setCh f3 y s x) x s' = ch f2 x s' := by unfold ch; rw [setCh_ne hxy, f3x]
        rw [e3]
        by_cases e4 : s' = s
        · subst e4; rw [two_same, g2.1, x3]
        · have e' : s' = !s := side_ne e4
          subst e'
          rw [two_other, g2.2.1, hI]
      · by_cases e4 : s' = s
        · subst e4
          rw [two_same]
          exact (x4 s').frame _ fun z hz => low z ((mem_node s').2 (.inr (.inl hz))) (fun e => a1 (e ▸ hz)) (fun e => a3 z hz (e ▸ myy)) (by
            by_cases h : I = 0
            · exact .inl h
            · exact .inr fun e => a3 z hz (e ▸ iI2 h))
        · have e' : s' = !s := side_ne e4
          subst e'
          rw [two_other]
          refine Rep.rebase c2 (y4 s) (fun z hz hzr => ?_) (fun hr0 => ?_)
          · rw [hI] at hzr
            exact low z (my z ((mem_node s).2 (.inr (.inl hz)))) (fun e => b1 (e ▸ (mem_node s).2 (.inr (.inl hz)))) (fun e => c1 (e ▸ hz)) (.inr hzr)
          · rw [hI] at hr0 ⊢
            obtain ⟨q1, q2, q3⟩ := g3 hr0
            have e5 : setU (setCh f3 y s x) x y I = f2 I := by
              rw [fin I (hIx hr0) (hIy hr0), h2 I (hIy hr0) (kup I (my I (iI2 hr0)))]
            rw [e5]
            exact ⟨q1 false, q1 true, q3, q2⟩
    · have e' : s = !r := side_ne e
      subst e'
      rw [two_other]
      exact (y4 (!r)).frame _ fun z hz => low z (my z ((mem_node r).2 (.inr (.inr hz)))) (fun e => b1 (e ▸ (mem_node r).2 (.inr (.inr hz)))) (fun e => d1 (e ▸ hz)) (by
        by_cases h : I = 0
        · exact .inl h
        · exact .inr fun e => c3 I (iI h) (e ▸ hz))
  · exact h1.frame _ fun z hz => same_eq (fin z (fun e => hxk (e ▸ hz)) (fun e => hyk (e ▸ hz)))
  · have hz' : z ∉ (Sh.node cx x kx).ino ∧ z ∉ k.all := by
      rw [(plug_perm k _).mem_iff, List.mem_append] at hz
      exact ⟨fun h => hz (.inl h), fun h => hz (.inr h)⟩
    have hzx : z ≠ x := fun e => hz'.1 (e ▸ mx)
    have hzy : z ≠ y := fun e => hz'.1 (e ▸ my y myy)
    have hzu : k.up = 0 ∨ z ≠ k.up := by
      by_cases h : k.up = 0
      · exact .inl h
      · exact .inr fun e => hz'.2 (by rw [e]; exact RepC.up_mem hc h)
    rw [fin z hzx hzy, h2 z hzy hzu, g1 z hzx]
    by_cases h : I = 0
    · exact .inl h
    · exact .inr fun e => hz'.1 (by rw [e]; exact my I (iI2 h))
end Go.Proofs.Ytfoigflgglpobaa.Tr
