/- A label that the run jumps back to: a relation that bears a number, which each jump lowers. No program in sight; no condition. -/
import Derived.Test.YtfoigflgglpobaaAid
import Derived.WalkMore
import Derived.ScopeJumps
import Derived.Deep.LoopGhost
set_option linter.unusedVariables false
namespace Go.Proofs.Ytfoigflgglpobaa.Aid
open Go.RowKit
theorem bne_i {a b : Int} (h : ¬ a = b) : (a != b) = true := by simp [h]
theorem beq_i {a b : Int} (h : ¬ a = b) : (a == b) = false := by simp [h]
theorem jump_ret {l : Nat} {J : Act → World → Prop} {Q : Exit → Act → World → Prop} {a : Act} {w : World} : Exit.jump l J Q .ret a w = Q .ret a w := rfl
theorem jump_normal {l : Nat} {J : Act → World → Prop} {Q : Exit → Act → World → Prop} {a : Act} {w : World} : Exit.jump l J Q .normal a w = Q .normal a w := rfl
theorem jump_goto {l : Nat} {J : Act → World → Prop} {Q : Exit → Act → World → Prop} {a : Act} {w : World} (h : J a w) : Exit.jump l J Q (.goto l) a w := ⟨rfl, h⟩
theorem wp_scope_ghost {P : Program} {Q : Exit → Act → World → Prop} {a : Act} {w : World} {c rest : Code} (l : Nat) (hf : findLabel c l = some rest) (I : Nat → Act → World → Prop)
    (first : c.wp P (Exit.jump l (fun a w => ∃ n, I n a w) Q) a w)
    (round : ∀ n a w, I n a w → ∀ (J : Nat → Act → World → Prop) (K : Act → World → Prop), (∀ k a' w', I k a' w' → J k a' w') → (∀ a' w', Handed J n a' w' → K a' w') → rest.wp P (Exit.jump l K Q) a w) : (Code.scope c).wp P Q a w := by
  refine wp_scope_jumps l (fun a w => ∃ n, I n a w) (fun a w => leastOf (fun n => I n a w)) hf first ?_
  intro a w hI
  refine wp_mono (round _ a w (leastOf_spec hI).1 I _ (fun _ _ _ q => q) fun _ _ q => q) ?_
  intro e a' w' hq
  cases e with
  | normal => exact hq
  | exit id => exact hq
  | goto l' =>
    obtain ⟨hl, n', hlt, hI'⟩ := hq
    exact ⟨hl, ⟨n', hI'⟩, Nat.lt_of_le_of_lt ((leastOf_spec ⟨n', hI'⟩).2 n' hI') hlt⟩
  | ret => exact hq
  | panic ch => exact hq
  | outgrown => exact hq
theorem wp_scope_again {P : Program} {Q : Exit → Act → World → Prop} {a : Act} {w : World} {rest : Code} {l : Nat} (I : Nat → Act → World → Prop) (n₀ : Nat) (h₀ : I n₀ a w)
    (round : ∀ n a w, I n a w → ∀ (J : Nat → Act → World → Prop) (K : Act → World → Prop), (∀ k a' w', I k a' w' → J k a' w') → (∀ a' w', Handed J n a' w' → K a' w') → rest.wp P (Exit.jump l K Q) a w) : (Code.scope ((Code.label l).seq rest)).wp P Q a w := by
  refine wp_scope_ghost (rest := Code.skip.seq rest) l (by simp [findLabel]) I ?_ (fun n a w h J K h1 h2 => wp_seq (wp_skip (show rest.wp P _ a w from round n a w h J K h1 h2)))
  refine wp_seq (wp_label ?_)
  show rest.wp P _ a w
  refine wp_mono (round n₀ a w h₀ I _ (fun _ _ _ q => q) fun _ _ q => q) ?_
  intro e a' w' hq
  cases e with
  | normal => exact hq
  | exit id => exact hq
  | goto l' =>
    obtain ⟨hl, n', hlt, hI'⟩ := hq
    exact ⟨hl, n', hI'⟩
  | ret => exact hq
  | panic ch => exact hq
  | outgrown => exact hq
/-- with a statement ahead of the label -/
theorem wp_scope_behind {P : Program} {Q : Exit → Act → World → Prop} {a : Act} {w : World} {x rest : Code} {l : Nat} (hx : findLabel x l = none) (I : Nat → Act → World → Prop)
    (ahead : ∀ R : Act → World → Prop, (∀ n a' w', I n a' w' → R a' w') → x.wp P (Exit.then R (Exit.noGoto Q)) a w)
    (round : ∀ n a w, I n a w → ∀ (J : Nat → Act → World → Prop) (K : Act → World → Prop), (∀ k a' w', I k a' w' → J k a' w') → (∀ a' w', Handed J n a' w' → K a' w') → rest.wp P (Exit.jump l K Q) a w) : (Code.scope (x.seq ((Code.label l).seq rest))).wp P Q a w := by
  refine wp_scope_ghost (rest := Code.skip.seq rest) l (by simp [findLabel, hx]) I ?_ (fun n a w h J K h1 h2 => wp_seq (wp_skip (show rest.wp P _ a w from round n a w h J K h1 h2)))
  refine wp_seq (wp_mono (ahead (fun a w => ∃ n, I n a w) (fun n _ _ h => ⟨n, h⟩)) ?_)
  intro e a' w' hq
  cases e with
  | normal =>
    obtain ⟨n, hI⟩ := hq
    refine wp_seq (wp_label ?_)
    refine wp_mono (round n a' w' hI I _ (fun _ _ _ q => q) fun _ _ q => q) ?_
    intro e a' w' hq
    cases e with
    | normal => exact hq
    | exit id => exact hq
    | goto l' =>
      obtain ⟨hl, n', hlt, hI'⟩ := hq
      exact ⟨hl, n', hI'⟩
    | ret => exact hq
    | panic ch => exact hq
    | outgrown => exact hq
  | exit id => exact hq
  | goto l' => exact hq.elim
  | ret => exact hq
  | panic ch => exact hq
  | outgrown => exact hq
end Go.Proofs.Ytfoigflgglpobaa.Aid
