/- A new place hangs where its key belongs, in plain Lean. No program in sight; no condition. -/
import Derived.Test.YtfoigflgglpobaaTru
set_option linter.unusedVariables false
namespace Go.Proofs.Ytfoigflgglpobaa.Tr
open Go.RowKit Go.Proofs.Ytfoigflgglpobaa.Aid
def putF (f : Nat → Nd) (root : Nat) (k : Cx) (x : Nat) : (Nat → Nd) × Nat := match k with
  | .top => (setU f x 0, x)
  | .fr _ y s _ _ => (setCh (setU f x y) y s x, root)
theorem put_rc {f : Nat → Nd} {root x : Nat} {k : Cx} (hr : RepC f root k 0) (hnd : k.all.Nodup) (hx : x ∉ k.all) : RepC (putF f root k x).1 (putF f root k x).2 k x := by
  cases k with
  | top => rfl
  | fr c y s sib k =>
    have hxy : y ≠ x := fun e => hx (by simp [Cx.all, e])
    refine RepC.rehang hnd hr (fun z hz hzu => same_eq ?_) (fun e => absurd e hr.1) (fun _ => rfl) (fun s' c' x' sib' kk e => ?_)
    · show setCh (setU f x y) y s x z = f z
      rw [setCh_ne (show z ≠ y from hzu), setU_ne (show z ≠ x from fun e => hx (e ▸ hz))]
    · cases e
      refine ⟨setCh_ch _ _ _ _, ?_, ?_, ?_⟩
      · show ch (setCh (setU f x y) y s x) y (!s) = _
        rw [setCh_other, setU_ch]
      · show (setCh (setU f x y) y s x y).u = _
        rw [setCh_u, setU_ne hxy]
      · show (setCh (setU f x y) y s x y).red = _
        rw [setCh_red, setU_red]
theorem keep_put (f : Nat → Nd) (root : Nat) (k : Cx) (x : Nat) : Keep f (putF f root k x).1 := by
  cases k with
  | top => exact keep_u _ _ _
  | fr c y s sib k => exact (keep_u _ _ _).trans (keep_ch _ _ _ _)
/-- the new place, red, at the end of the way down: mending's state -/
theorem put_mend {f : Nat → Nd} {root x b : Nat} {k : Cx} {T : Sh} {kt ks : Int} (h : Desc f root T kt ks b k .nil) (hnd : T.ino.Nodup) (hx : x ∉ T.ino) (h0 : x ≠ 0) (hr : (f x).red = true) (hl : (f x).l = 0) (hrr : (f x).r = 0) :
    Mend (putF f root k x).1 (putF f root k x).2 k x (fun _ => .nil) 0 b ∧ (k.plug (.node true x fun _ => .nil)).ino = k.pre ++ x :: k.post ∧ T.ino = k.pre ++ k.post := by
  have hT : T.ino = k.pre ++ k.post := by rw [← h.pl, plug_ino]; simp [Sh.ino]
  have e2 : (k.plug (.node true x fun _ => .nil)).ino = k.pre ++ x :: k.post := by rw [plug_ino]; simp [Sh.ino]
  have hall : k.all.Nodup := by
    have := (plug_perm k .nil).nodup_iff.1 (by rw [h.pl]; exact hnd)
    simpa [Sh.ino] using this
  have hxk : x ∉ k.all := fun e => hx (by rw [hT]; rcases (all_mem k x).1 e with e | e <;> simp [e])
  obtain ⟨n, hb, hc⟩ := h.bal
  have hn0 : n = 0 := hb
  subst hn0
  refine ⟨⟨?_, put_rc h.rc hall hxk, ?_, fun s => ⟨rfl, trivial⟩, fun s => rfl, hc, h.cn⟩, e2, hT⟩
  · have hf : (putF f root k x).1 x = { f x with u := k.up } := by
      cases k with
      | top => simp [putF, setU, Cx.up]
      | fr c y s sib k =>
        have hxy : x ≠ y := fun e => hxk (by simp [Cx.all, e])
        show setCh (setU f x y) y s x x = _
        rw [setCh_ne hxy]; simp [setU, Cx.up]
    refine ⟨h0, by rw [hf]; exact hr, by rw [hf], fun s => ?_, fun s => trivial⟩
    unfold ch; rw [hf]
    cases s
    · exact hl
    · exact hrr
  · rw [e2]
    rw [hT] at hnd hx
    exact (List.perm_middle.nodup_iff).2 (List.nodup_cons.2 ⟨hx, hnd⟩)
theorem kle_tot {f : Nat → Nd} {a b : Nat} (h : ¬ kle f a (f b).t (f b).s) : kle f b (f a).t (f a).s := by unfold kle at *; omega
theorem srt_put {f : Nat → Nd} {x : Nat} {pre post : List Nat} (h : Srt f (pre ++ post)) (h1 : ∀ z, z ∈ pre → kle f z (f x).t (f x).s) (h2 : ∀ z, z ∈ post → ¬ kle f z (f x).t (f x).s) : Srt f (pre ++ x :: post) := by
  obtain ⟨a, b, c⟩ := List.pairwise_append.1 h
  refine List.pairwise_append.2 ⟨a, List.pairwise_cons.2 ⟨fun z hz => kle_tot (h2 z hz), b⟩, fun z hz y hy => ?_⟩
  rcases List.mem_cons.1 hy with rfl | hy
  · exact h1 z hz
  · exact c z hz y hy
theorem srt_keep {f f' : Nat → Nd} {l : List Nat} (h : Srt f l) (k : ∀ z, z ∈ l → (f' z).t = (f z).t ∧ (f' z).s = (f z).s) : Srt f' l := by
  refine List.Pairwise.imp_of_mem (fun {a b} ha hb hab => ?_) h
  unfold kle at *
  rw [(k a ha).1, (k a ha).2, (k b hb).1, (k b hb).2]
  exact hab
end Go.Proofs.Ytfoigflgglpobaa.Tr
