/- Going down a tree to where a key belongs, in plain Lean. No program in sight; no condition. -/
import Derived.Test.YtfoigflgglpobaaTrg
set_option linter.unusedVariables false
namespace Go.Proofs.Ytfoigflgglpobaa.Tr
open Go.RowKit Go.Proofs.Ytfoigflgglpobaa.Aid
/-- a key comes first, or is the same: times, then numbers -/
def kle (f : Nat → Nd) (z : Nat) (kt ks : Int) : Prop := (f z).t < kt ∨ (f z).t = kt ∧ (f z).s ≤ ks
theorem kle_trans {f : Nat → Nd} {a b : Nat} {kt ks : Int} (h : kle f a (f b).t (f b).s) (k : kle f b kt ks) : kle f a kt ks := by
  unfold kle at *; omega
/-- places' keys are in order -/
def Srt (f : Nat → Nd) (l : List Nat) : Prop := l.Pairwise fun a b => kle f a (f b).t (f b).s
def Link (k : Cx) (t : Sh) : Prop := match k with
  | .top => t.red = false
  | .fr c _ _ _ _ => t.red = true → c = false
/-- on the way down to a key's place -/
structure Desc (f : Nat → Nd) (root : Nat) (T : Sh) (kt ks : Int) (b : Nat) (k : Cx) (t : Sh) : Prop where
  rep : Rep f t k.up
  rc : RepC f root k t.root
  pl : k.plug t = T
  bal : ∃ n, Bal t n ∧ CBal k n b
  nrr : Nrr t
  cn : CNrr k
  link : Link k t
  pre : ∀ z, z ∈ k.pre → kle f z kt ks
  post : ∀ z, z ∈ k.post → ¬ kle f z kt ks
theorem Desc.start {f : Nat → Nd} {root : Nat} {T : Sh} {kt ks : Int} (h : RB f root T) : ∃ b, Desc f root T kt ks b .top T := by
  obtain ⟨b, hb⟩ := h.bal
  exact ⟨b, h.rep, h.root, rfl, ⟨b, hb, rfl⟩, h.nrr, trivial, h.red, fun z hz => absurd hz (by simp [Cx.pre]), fun z hz => absurd hz (by simp [Cx.post])⟩
theorem Desc.step {f : Nat → Nd} {root : Nat} {T : Sh} {kt ks : Int} {b : Nat} {k : Cx} {c : Bool} {y : Nat} {ky : Bool → Sh} (h : Desc f root T kt ks b k (.node c y ky)) (srt : Srt f T.ino) (s : Bool) (hs : s = true ↔ kle f y kt ks) :
    Desc f root T kt ks b (.fr c y s (ky (!s)) k) (ky s) := by
  obtain ⟨h1, h2⟩ := RepC.over s h.rep h.rc
  obtain ⟨n, hb, hc⟩ := h.bal
  have hT := plug_list k c y ky
  rw [h.pl] at hT
  have hn := h.nrr
  have hl := h.link
  refine ⟨h1, h2, ?_, ?_, hn.2 s, ⟨fun e => hn.1 e (!s), hn.2 (!s), h.cn, ?_⟩, ?_, ?_, ?_⟩
  · simp only [Cx.plug]; rw [two_eta]; exact h.pl
  · cases c with
    | true => exact ⟨n, hb s, hb (!s), hc⟩
    | false =>
      obtain ⟨m, rfl, hm⟩ := hb
      exact ⟨m, hm s, hm (!s), hc⟩
  · cases k with
    | top => exact hl
    | fr c' x' s' sib' k' => exact hl
  · intro e
    cases c with
    | false => rfl
    | true => have := hn.1 rfl s; rw [this] at e; cases e
  · intro z hz
    simp only [Cx.pre, List.mem_append] at hz
    rcases hz with hz | hz
    · exact h.pre z hz
    · cases s with
      | false => cases hz
      | true =>
        have hy := hs.1 rfl
        simp only [if_true, List.mem_append, List.mem_singleton, Bool.not_true] at hz
        rcases hz with hz | rfl
        · have h5 := (List.pairwise_append.1 (hT ▸ srt)).2.2 z (by simp [hz]) y (by simp)
          exact kle_trans h5 hy
        · exact hy
  · intro z hz
    simp only [Cx.post, List.mem_append] at hz
    rcases hz with hz | hz
    · cases s with
      | true => cases hz
      | false =>
        have hy : ¬ kle f y kt ks := fun e => by have := hs.2 e; cases this
        simp only [Bool.false_eq_true, if_false, List.mem_cons, Bool.not_false] at hz
        rcases hz with rfl | hz
        · exact hy
        · have h5 := (List.pairwise_cons.1 (List.pairwise_append.1 (hT ▸ srt)).2.1).1 z (by simp [hz])
          exact fun e => hy (kle_trans h5 e)
    · exact h.post z hz
end Go.Proofs.Ytfoigflgglpobaa.Tr
