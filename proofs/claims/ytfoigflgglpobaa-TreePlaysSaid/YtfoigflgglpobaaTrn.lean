/- A place's follower in a tree's row of places, in plain Lean; the keys of places. No condition. -/
import Derived.Test.YtfoigflgglpobaaTrf
set_option linter.unusedVariables false
namespace Go.Proofs.Ytfoigflgglpobaa.Tr
open Go.RowKit Go.Proofs.Ytfoigflgglpobaa.Aid
theorem split_eq {x : Nat} : ∀ {A B A' B' : List Nat}, A ++ x :: B = A' ++ x :: B' → (A ++ x :: B).Nodup → A = A' ∧ B = B' := by
  intro A
  induction A with
  | nil =>
    intro B A' B' h hn
    cases A' with
    | nil => simp only [List.nil_append, List.cons.injEq] at h; exact ⟨rfl, h.2⟩
    | cons a A' =>
      simp only [List.nil_append, List.cons_append, List.cons.injEq] at h
      obtain ⟨rfl, h2⟩ := h
      exact absurd (show x ∈ B by rw [h2]; simp) (List.nodup_cons.1 hn).1
  | cons a A ih =>
    intro B A' B' h hn
    cases A' with
    | nil =>
      simp only [List.nil_append, List.cons_append, List.cons.injEq] at h
      obtain ⟨rfl, h2⟩ := h
      exact absurd (show a ∈ A ++ a :: B by simp) (List.nodup_cons.1 hn).1
    | cons a' A' =>
      simp only [List.cons_append, List.cons.injEq] at h
      obtain ⟨rfl, h2⟩ := h
      obtain ⟨rfl, e⟩ := ih h2 (List.nodup_cons.1 hn).2
      exact ⟨rfl, e⟩
/-- the way to a place in the row, and what comes behind it -/
theorem way_split {w : World} {g gl : Nat} {s : TS} {T : Sh} (h : Rd w g gl s T) {pre post : List Nat} {x : Nat} (e : T.ino = pre ++ x :: post) :
    ∃ C c kx, Rep s.f (.node c x kx) C.up ∧ RepC s.f s.root C x ∧ C.plug (.node c x kx) = T ∧ nextOf C kx = post.head?.getD 0 := by
  obtain ⟨C, c, kx, a1, a2, a3⟩ := way_to (root := s.root) T .top h.rep h.root (show x ∈ T.ino by rw [e]; simp)
  have a3' : C.plug (.node c x kx) = T := a3
  refine ⟨C, c, kx, a1, a2, a3', ?_⟩
  have hl := plug_list C c x kx
  rw [a3', e] at hl
  obtain ⟨_, h2⟩ := split_eq hl (by rw [← e]; exact h.nd)
  rw [nextOf_list a1, ← h2]
def keysOf (f : Nat → Nd) (l : List Nat) : List Value := l.flatMap fun z => [.int .i64 (f z).t, .int .i64 (f z).s]
theorem keysOf_snoc (f : Nat → Nd) (l : List Nat) (x : Nat) : keysOf f (l ++ [x]) = keysOf f l ++ [.int .i64 (f x).t, .int .i64 (f x).s] := by simp [keysOf]
theorem keysOf_len (f : Nat → Nd) (l : List Nat) : (keysOf f l).length = l.length * 2 := by
  induction l with
  | nil => rfl
  | cons a l ih => simp only [keysOf, List.flatMap_cons, List.length_append, List.length_cons] at ih ⊢; simp only [List.length_nil]; omega
end Go.Proofs.Ytfoigflgglpobaa.Tr
