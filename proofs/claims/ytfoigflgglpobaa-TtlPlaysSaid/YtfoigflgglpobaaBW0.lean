/- Lemmas and contracts for RowTtlPlays, merged by program out of Aid, Onl, Map, Qa, Trp, Trq, Trr, Trs, Tr, Tra, Scp, Trc, Trd, Trg, Tru, Trv, Tri, Trk, Trl, Trw, Trx, Try, Trz. No condition. -/
import Derived.Below
import Derived.Deep.Draws
import Derived.Laws.AppendOwn
import Derived.Laws.OwnMore
import Derived.Laws.Rows
import Derived.Tactics
import Derived.WalkKit
import Derived.WalkSpells
import Derived.WalkLawsBesides
import Derived.KernelRfl
import Derived.RowKit
import Derived.OpenShut
import Derived.BigQuiet
import Derived.Deep.QuietTactic
import Derived.Deep.RegionWith
import Derived.Deep.RegionHeld3
import Derived.RegionTactic
import Derived.Deep.DeepCutAuto
import Derived.Deep.CutBlock
import Derived.Deep.LoopGhost
import Derived.Lib.Hide
import Derived.Outline
import Derived.Laws.BitsAllLaws
import Derived.Deep.AppendLies
import Derived.Deep.RegionLaw
import Derived.Maps.Keyed
import Derived.DeepKeys4
import Derived.MapFrom
import Derived.Test.YtfoigflgglpobaaProg
import Derived.WalkMore
import Derived.ScopeJumps
import Derived.Laws.MakeOwn
set_option linter.unusedVariables false
set_option linter.unusedSimpArgs false
/- Small words for the walks of this seat: max and min of ints; a block of memory that is known whole. No condition. -/
set_option linter.unusedVariables false
namespace Go.Proofs.Ytfoigflgglpobaa.Aid
open Go.RowKit
theorem max2_int (k k' : IntKind) (x y : Int) : Builtin.max2 (.int k x) (.int k' y) = pure (.int k (if x < y then y else x)) := by simp only [Builtin.max2, gt_iff_lt]
theorem min2_int (k k' : IntKind) (x y : Int) : Builtin.min2 (.int k x) (.int k' y) = pure (.int k (if y < x then y else x)) := by simp only [Builtin.min2]
theorem max_two (ats : Array TypeId) (ty : TypeId) (a b : Value) : Builtin.max_ ats ty #[a, b] = (Builtin.max2 a b >>= fun s => pure s) := by simp only [Builtin.max_, List.foldlM_cons, List.foldlM_nil]
theorem min_two (ats : Array TypeId) (ty : TypeId) (a b : Value) : Builtin.min_ ats ty #[a, b] = (Builtin.min2 a b >>= fun s => pure s) := by simp only [Builtin.min_, List.foldlM_cons, List.foldlM_nil]
theorem ret_int {k : IntKind} {a b : Int} (h : a = b) : Ending.returned (.int k a) = .returned (.int k b) := by rw [h]
theorem ret_bool {a b : Bool} (h : a = b) : Ending.returned (.bool a) = .returned (.bool b) := by rw [h]

/-- block g is just the cells cs of element type t, none frozen -/
def Blk (w : World) (g : Nat) (t : TypeId) (cs : Array Value) : Prop := w.heap[g]? = some (.cells cs t (0, 0))
section
variable {w w' : World} {g : Nat} {t : TypeId} {cs : Array Value}
theorem Blk.lt (h : Blk w g t cs) : g < w.heap.size := by
  rcases Nat.lt_or_ge g w.heap.size with hlt | hge
  · exact hlt
  · unfold Blk at h; rw [Array.getElem?_eq_none hge] at h; cases h
theorem Blk.cell (h : Blk w g t cs) (i : Nat) : w.cell? ⟨g, i, none⟩ = cs[i]? := cell_of_row w g i cs t (0, 0) h
theorem Blk.frozen (h : Blk w g t cs) (i : Nat) : w.frozen? ⟨g, i, none⟩ = false := by
  unfold Blk at h
  simp [World.frozen?, h]
theorem Blk.new (w : World) (t : TypeId) (cs : Array Value) : Blk (w.alloc (.cells cs t)) w.heap.size t cs := heap_alloc_new w _
theorem Blk.drew (h : Blk w g t cs) : Blk w.drew g t cs := h
theorem Blk.drewN (h : Blk w g t cs) (n : Nat) : Blk (w.drewN n) g t cs := h
theorem Blk.alloc (h : Blk w g t cs) (o : Obj) : Blk (w.alloc o) g t cs := (Below.heap_alloc w o g h.lt).trans h
theorem Blk.set_ (h : Blk w g t cs) (i : Nat) (u : Value) : Blk (w.setCell ⟨g, i, none⟩ u) g t (cs.setIfInBounds i u) := by
  unfold Blk at h ⊢
  simp [World.setCell, Array.getElem?_modify, h]
theorem Blk.far (h : Blk w g t cs) {p : Addr} (hp : g ≠ p.block) (u : Value) : Blk (w.setCell p u) g t cs := (Below.heap_setCell w p u g hp).trans h
theorem Blk.below {B : Nat} (h : Blk w g t cs) (hb : Below B w w') (hg : g < B) : Blk w' g t cs := (hb.block g hg).trans h
theorem Blk.grown {row : Option Nat} (h : Blk w g t cs) (hb : w.grownBy w' row) (hg : some g ≠ row) : Blk w' g t cs := (hb.block g h.lt hg).trans h
theorem Blk.ne_ {g' : Nat} {t' : TypeId} {cs' : Array Value} (h : Blk w g t cs) (h' : Blk w g' t' cs') (hne : t ≠ t') : g ≠ g' := by
  rintro rfl
  unfold Blk at h h'
  rw [h] at h'
  injection h' with h'
  injection h' with _ ht
  exact hne ht
end
theorem only_drewN {a w : World} {row : Option Nat} (h : a.grownBy w row) (n : Nat) : a.grownBy (w.drewN n) row := ⟨h.os, h.tape, h.output, h.size, h.block⟩
theorem only_drew {a w : World} {row : Option Nat} (h : a.grownBy w row) : a.grownBy w.drew row := ⟨h.os, h.tape, h.output, h.size, h.block⟩
theorem only_alloc {a w : World} {row : Option Nat} (h : a.grownBy w row) (o : Obj) : a.grownBy (w.alloc o) row :=
  ⟨h.os, h.tape, h.output, Nat.le_trans h.size (by simp), fun i hi hne => (Below.heap_alloc w o i (Nat.lt_of_lt_of_le hi h.size)).trans (h.block i hi hne)⟩
theorem only_setCell {a w : World} {g : Nat} (h : a.grownBy w (some g)) {p : Addr} (hp : p.block = g ∨ a.heap.size ≤ p.block) (u : Value) : a.grownBy (w.setCell p u) (some g) :=
  ⟨h.os, h.tape, h.output, by simpa [World.setCell] using h.size, fun i hi hne => (Below.heap_setCell w p u i (by
    rintro rfl
    rcases hp with hp | hp
    · exact hne (by rw [hp])
    · omega)).trans (h.block i hi hne)⟩
theorem only_of_below {a w : World} (h : Below a.heap.size a w) (row : Option Nat) : a.grownBy w row := ⟨h.os, h.tape, h.output, h.size, fun i hi _ => h.block i hi⟩
theorem only_refl (a : World) (row : Option Nat) : a.grownBy a row := World.grownBy.refl a row
theorem below_drewN {B : Nat} {a w : World} (h : Below B a w) (n : Nat) : Below B a (w.drewN n) := ⟨h.os, h.tape, h.output, h.size, h.block⟩
theorem quiet_add {P : Program} {f : FuncId} {args : Array Value} {w : World} {a n : Nat} {v : Value}
    (h : Calls P f args (w.drewN (a + n)) fun e w' => e = .returned v ∧ ∃ m, w' = (w.drewN (a + n)).drewN m) :
    Calls P f args (w.drewN (a + n)) fun e w'' => e = .returned v ∧ ∃ m, w'' = w.drewN (a + m) :=
  h.mono fun _ _ ⟨he, m, hm⟩ => ⟨he, n + m, by rw [hm, World.drewN_drewN, Nat.add_assoc]⟩
theorem quiet_add_left {P : Program} {f : FuncId} {args : Array Value} {w : World} {a n : Nat} {v : Value}
    (h : Calls P f args (w.drewN (a + n)) fun e w' => e = .returned v ∧ w.drewN (a + n) = w') :
    Calls P f args (w.drewN (a + n)) fun e w'' => e = .returned v ∧ ∃ m, w'' = w.drewN (a + m) :=
  h.mono fun _ _ ⟨he, hm⟩ => ⟨he, n, hm.symm⟩
theorem quiet_left {P : Program} {f : FuncId} {args : Array Value} {w : World} {n : Nat} {v : Value}
    (h : Calls P f args (w.drewN n) fun e w' => e = .returned v ∧ w.drewN n = w') : Calls P f args (w.drewN n) fun e w'' => e = .returned v ∧ ∃ m, w'' = w.drewN m :=
  h.mono fun _ _ ⟨he, hm⟩ => ⟨he, n, hm.symm⟩
theorem quiet_draws {P : Program} {f : FuncId} {args : Array Value} {w : World} {n : Nat} {v : Value}
    (h : Calls P f args (w.drewN n) fun e w' => e = .returned v ∧ ∃ m, w' = (w.drewN n).drewN m) : Calls P f args (w.drewN n) fun e w'' => e = .returned v ∧ ∃ m, w'' = w.drewN m :=
  h.mono fun _ _ ⟨he, m, hm⟩ => ⟨he, n + m, by rw [hm, World.drewN_drewN]⟩
theorem add_block (x : Addr) (k : Nat) : (x.add k).block = x.block := by unfold Addr.add; split <;> rfl
theorem grown_below {a w w2 : World} {row : Option Nat} (h : a.grownBy w row) (b : Below w.heap.size w w2) : a.grownBy w2 row :=
  ⟨b.os.trans h.os, b.tape.trans h.tape, b.output.trans h.output, Nat.le_trans h.size b.size, fun i hi hne => (b.block i (Nat.lt_of_lt_of_le hi h.size)).trans (h.block i hi hne)⟩
theorem grown_trans {a w w2 : World} {row : Option Nat} (h : a.grownBy w row) (b : w.grownBy w2 row) : a.grownBy w2 row :=
  ⟨b.os.trans h.os, b.tape.trans h.tape, b.output.trans h.output, Nat.le_trans h.size b.size, fun i hi hne => (b.block i (Nat.lt_of_lt_of_le hi h.size) hne).trans (h.block i hi hne)⟩
/-- what changed in block g alone, and in what is new, leaves all below as it was -/
theorem below_grown {w w1 w2 : World} {g : Nat} (h : Below w.heap.size w w1) (b : w1.grownBy w2 (some g)) (hg : w.heap.size ≤ g) : Below w.heap.size w w2 :=
  h.grown b h.size (fun k hk => by injection hk; omega)
end Go.Proofs.Ytfoigflgglpobaa.Aid
/- What changes in a set of blocks alone. No program in sight; no condition. -/
set_option linter.unusedVariables false
namespace Go.Proofs.Ytfoigflgglpobaa.Aid
open Go.RowKit
/-- of what was there only the blocks of S may have changed -/
structure Only (S : Nat → Prop) (w w' : World) : Prop where
  os : w'.os = w.os
  tape : w'.tape = w.tape
  output : w'.output = w.output
  size : w.heap.size ≤ w'.heap.size
  block : ∀ k, k < w.heap.size → ¬ S k → w'.heap[k]? = w.heap[k]?
section
variable {S S' : Nat → Prop} {a w w' : World}
theorem Only.refl (S : Nat → Prop) (w : World) : Only S w w := ⟨rfl, rfl, rfl, Nat.le_refl _, fun _ _ _ => rfl⟩
theorem Only.trans (h : Only S a w) (k : Only S' w w') (hs : ∀ i, i < a.heap.size → S' i → S i) : Only S a w' :=
  ⟨k.os.trans h.os, k.tape.trans h.tape, k.output.trans h.output, Nat.le_trans h.size k.size, fun i hi hn => (k.block i (Nat.lt_of_lt_of_le hi h.size) (fun h' => hn (hs i hi h'))).trans (h.block i hi hn)⟩
theorem Only.then (h : Only S a w) (k : Only S w w') : Only S a w' := h.trans k fun _ _ h => h
theorem Only.mono (h : Only S w w') (hs : ∀ i, i < w.heap.size → S i → S' i) : Only S' w w' := ⟨h.os, h.tape, h.output, h.size, fun i hi hn => h.block i hi fun h' => hn (hs i hi h')⟩
theorem Only.of_below (h : Below w.heap.size w w') (S : Nat → Prop) : Only S w w' := ⟨h.os, h.tape, h.output, h.size, fun i hi _ => h.block i hi⟩
theorem Only.below (h : Only S a w) (b : Below w.heap.size w w') : Only S a w' := h.then (Only.of_below b S)
theorem Only.of_grown {g : Nat} (h : w.grownBy w' (some g)) (hg : S g) : Only S w w' := ⟨h.os, h.tape, h.output, h.size, fun i hi hn => h.block i hi (by intro he; injection he with he; subst he; exact hn hg)⟩
theorem Only.grown {g : Nat} (h : Only S a w) (k : w.grownBy w' (some g)) (hg : S g ∨ a.heap.size ≤ g) : Only S a w' :=
  ⟨k.os.trans h.os, k.tape.trans h.tape, k.output.trans h.output, Nat.le_trans h.size k.size, fun i hi hn => (k.block i (Nat.lt_of_lt_of_le hi h.size) (by
    intro he
    injection he with he
    subst he
    rcases hg with hg | hg
    · exact hn hg
    · omega)).trans (h.block i hi hn)⟩
theorem Only.drewN (h : Only S a w) (n : Nat) : Only S a (w.drewN n) := ⟨h.os, h.tape, h.output, h.size, h.block⟩
theorem Only.drew (h : Only S a w) : Only S a w.drew := ⟨h.os, h.tape, h.output, h.size, h.block⟩
theorem Only.alloc (h : Only S a w) (o : Obj) : Only S a (w.alloc o) := h.below ((Below.refl _ _).alloc (Nat.le_refl _) o)
theorem Only.setCell (h : Only S a w) {p : Addr} (hp : S p.block ∨ a.heap.size ≤ p.block) (u : Value) : Only S a (w.setCell p u) :=
  ⟨h.os, h.tape, h.output, by simpa [World.setCell] using h.size, fun i hi hn => (Below.heap_setCell w p u i (by
    rintro rfl
    rcases hp with hp | hp
    · exact hn hp
    · omega)).trans (h.block i hi hn)⟩
theorem Only.blk {g : Nat} {t : TypeId} {cs : Array Value} (h : Only S w w') (b : Blk w g t cs) (hg : ¬ S g) : Blk w' g t cs := (h.block g b.lt hg).trans b
theorem Only.lower {B : Nat} (h : Only S w w') (hs : ∀ i, S i → B ≤ i) (hB : B ≤ w.heap.size) : Below B w w' := ⟨h.os, h.tape, h.output, h.size, fun i hi => h.block i (by omega) (fun h' => by have := hs i h'; omega)⟩
/-- what a walk gains: below B all is as it was -/
theorem Only.under {B : Nat} (b : Below B a w) (h : Only S w w') (hs : ∀ i, S i → B ≤ i) (hB : B ≤ w.heap.size) : Below B a w' := b.trans (h.lower hs hB)
end
section
variable {w w' : World} {base : Nat} {e : TypeId} {size : Nat} {v : Value} {n : Nat} {xs : List Value}
theorem own_block (h : w.ownsRow base e size v n xs) {b : Nat} (hb : v.ownBlock = some b) : base ≤ b ∧ b < w.heap.size := by
  obtain ⟨hl, ⟨rfl, rfl⟩ | ⟨g, cap, cur, rfl, h1, h2, _⟩⟩ := h
  · cases hb
  · injection hb with hb; subst hb
    refine ⟨h1, ?_⟩
    rcases Nat.lt_or_ge g w.heap.size with hlt | hge
    · exact hlt
    · rw [Array.getElem?_eq_none hge] at h2; cases h2
theorem own_same (h : w.ownsRow base e size v n xs) (k : ∀ b, v.ownBlock = some b → w'.heap[b]? = w.heap[b]?) : w'.ownsRow base e size v n xs := by
  obtain ⟨hl, ⟨rfl, rfl⟩ | ⟨g, cap, cur, rfl, h1, h2, h3⟩⟩ := h
  · exact ⟨hl, .inl ⟨rfl, rfl⟩⟩
  · exact ⟨hl, .inr ⟨g, cap, cur, rfl, h1, (k g rfl).trans h2, h3⟩⟩
theorem own_only {S : Nat → Prop} (h : w.ownsRow base e size v n xs) (o : Only S w w') (hs : ∀ b, base ≤ b → ¬ S b) : w'.ownsRow base e size v n xs := own_same h fun b hb => o.block b (own_block h hb).2 (hs b (own_block h hb).1)
theorem own_below (h : w.ownsRow base e size v n xs) (o : Below w.heap.size w w') : w'.ownsRow base e size v n xs := own_same h fun b hb => o.block b (own_block h hb).2
theorem own_alloc (h : w.ownsRow base e size v n xs) (o : Obj) : (w.alloc o).ownsRow base e size v n xs := own_below h ((Below.refl _ _).alloc (Nat.le_refl _) o)
theorem own_drew (h : w.ownsRow base e size v n xs) : w.drew.ownsRow base e size v n xs := h
theorem own_drewN (h : w.ownsRow base e size v n xs) (k : Nat) : (w.drewN k).ownsRow base e size v n xs := h
theorem own_cell {g cap : Nat} (h : w.ownsRow base e size (.slice (some ⟨g, 0, none⟩) n cap) n xs) {j : Nat} {u : Value} (hu : xs[j]? = some u) : w.cell? ⟨g, j, none⟩ = some u := by
  obtain ⟨hl, ⟨hv, _⟩ | ⟨g', cap', cur, hv, h1, h2, h3, h4, h5, rfl⟩⟩ := h
  · cases hv
  · injection hv with hv _ _
    injection hv with hv
    injection hv with hv
    subst hv
    rw [cell_of_row w g j cur e (0, 0) h2]
    rw [List.getElem?_take] at hu
    split at hu
    · simpa using hu
    · cases hu
theorem own_form (h : w.ownsRow base e size v n xs) (hn : 0 < n) : ∃ g cap, v = .slice (some ⟨g, 0, none⟩) n cap ∧ base ≤ g ∧ g < w.heap.size ∧ n ≤ cap ∧ cap ≤ maxLen := by
  obtain ⟨hl, ⟨rfl, rfl⟩ | ⟨g, cap, cur, rfl, h1, h2, h3, h4, _⟩⟩ := h
  · omega
  · refine ⟨g, cap, rfl, h1, ?_, h3, h4⟩
    rcases Nat.lt_or_ge g w.heap.size with hlt | hge
    · exact hlt
    · rw [Array.getElem?_eq_none hge] at h2; cases h2
theorem own_mono {base' : Nat} (h : w.ownsRow base e size v n xs) (hb : base' ≤ base) : w.ownsRow base' e size v n xs := by
  obtain ⟨hl, ⟨rfl, rfl⟩ | ⟨g, cap, cur, rfl, h1, h2⟩⟩ := h
  · exact ⟨hl, .inl ⟨rfl, rfl⟩⟩
  · exact ⟨hl, .inr ⟨g, cap, cur, rfl, by omega, h2⟩⟩
theorem own_none (h : w.ownsRow base e size v 0 xs) : ∃ A cap, v = .slice A 0 cap := by
  obtain ⟨hl, ⟨rfl, _⟩ | ⟨g, cap, cur, rfl, _⟩⟩ := h
  · exact ⟨_, _, rfl⟩
  · exact ⟨_, _, rfl⟩
end
end Go.Proofs.Ytfoigflgglpobaa.Aid
/- Maps that a program keeps, as functions from keys: what looking up, storing and deleting do. No program in sight; no condition but that keys are some. -/
set_option linter.unusedVariables false
namespace Go.Proofs.Ytfoigflgglpobaa.Aid
open Go.RowKit
open Go.Maps (Keyed)
open Go.ChangeMaps (setBlock modify_eq_set heap_setBlock_same heap_setBlock_other)
/-- block b is a map of n entries, as a function -/
def MapIs (P : Program) (k : TypeId) (w : World) (b : Nat) (m : Value → Option Value) (n : Nat) : Prop :=
  ∃ es clock, w.heap[b]? = some (.map es clock) ∧ es.size = n ∧ (∀ e ∈ es.toList, ∃ l, keyOf P k e.key = some l) ∧ es.toList.Pairwise (fun a c => a.key ≠ c.key) ∧ ∀ x v, m x = some v ↔ ∃ e ∈ es.toList, e.key = x ∧ e.val = v
/-- a function with one more, or another, value -/
noncomputable def updM (m : Value → Option Value) (x v : Value) : Value → Option Value := fun y => open Classical in if y = x then some v else m y
noncomputable def delM (m : Value → Option Value) (x : Value) : Value → Option Value := fun y => open Classical in if y = x then none else m y
theorem updM_same (m : Value → Option Value) (x v : Value) : updM m x v x = some v := by unfold updM; rw [if_pos rfl]
theorem updM_ne {m : Value → Option Value} {x y v : Value} (h : y ≠ x) : updM m x v y = m y := by unfold updM; rw [if_neg h]
theorem delM_same (m : Value → Option Value) (x : Value) : delM m x x = none := by unfold delM; rw [if_pos rfl]
theorem delM_ne {m : Value → Option Value} {x y : Value} (h : y ≠ x) : delM m x y = m y := by unfold delM; rw [if_neg h]
section
variable {P : Program} {k e t : TypeId} {w w' : World} {b n : Nat} {m : Value → Option Value} {x v : Value}
theorem MapIs.lt (h : MapIs P k w b m n) : b < w.heap.size := by
  obtain ⟨es, clock, hb, _⟩ := h
  rcases Nat.lt_or_ge b w.heap.size with hlt | hge
  · exact hlt
  · rw [Array.getElem?_eq_none hge] at hb; cases hb
theorem MapIs.same (h : MapIs P k w b m n) (he : w'.heap[b]? = w.heap[b]?) : MapIs P k w' b m n := by
  obtain ⟨es, clock, hb, r⟩ := h
  exact ⟨es, clock, he.trans hb, r⟩
theorem MapIs.below (h : MapIs P k w b m n) (o : Below w.heap.size w w') : MapIs P k w' b m n := h.same (o.block b h.lt)
theorem MapIs.alloc (h : MapIs P k w b m n) (o : Obj) : MapIs P k (w.alloc o) b m n := h.below ((Below.refl _ _).alloc (Nat.le_refl _) o)
theorem MapIs.only {S : Nat → Prop} (h : MapIs P k w b m n) (o : Only S w w') (hb : ¬ S b) : MapIs P k w' b m n := h.same (o.block b h.lt hb)
theorem MapIs.far (h : MapIs P k w b m n) {p : Addr} (hp : b ≠ p.block) (u : Value) : MapIs P k (w.setCell p u) b m n := h.same (Below.heap_setCell w p u b hp)
theorem map_new (w : World) : MapIs P k (w.alloc (.map #[] 0)) w.heap.size (fun _ => none) 0 :=
  ⟨#[], 0, heap_alloc_new w _, rfl, fun e he => by simp at he, by simp, fun x v => by simp⟩
theorem map_look (K : Keyed P k) (ht : P.underlying t = some (.map k e)) (h : MapIs P k w b m n) (hx : ∃ l, keyOf P k x = some l) {z : Value} (hz : (zeroValue e).run P w = .ok z w) :
    (Instr.lookup t (.map (some b)) x true).run P w = .ok (.tuple #[(m x).getD z, .bool (m x).isSome]) w ∧ (Instr.lookup t (.map (some b)) x false).run P w = .ok ((m x).getD z) w := by
  obtain ⟨es, clock, hb, hn, hk, hd, hm⟩ := h
  obtain ⟨l, hl⟩ := hx
  rcases K.find w hl es.toList hk with ⟨h1, h2⟩ | ⟨j, e0, h1, h2, h3⟩
  · have e1 : m x = none := by
      cases hmx : m x with
      | none => rfl
      | some v =>
        obtain ⟨e, he, he1, _⟩ := (hm x v).1 hmx
        exact absurd he1 (h2 e he)
    rw [e1]
    constructor <;> simp [Instr.lookup, run_underlying ht, MapKept.run_getObj_map hb, K.check w _ hl, h1, hz, Result.andThen]
  · have e1 : m x = some e0.val := (hm x _).2 ⟨e0, List.mem_of_getElem? h2, h3, rfl⟩
    rw [e1]
    constructor <;> simp [Instr.lookup, run_underlying ht, MapKept.run_getObj_map hb, K.check w _ hl, h1, Result.andThen]
theorem map_put (K : Keyed P k) (ht : P.underlying t = some (.map k e)) (h : MapIs P k w b m n) (hx : ∃ l, keyOf P k x = some l) :
    ∃ es' clock', (Instr.mapUpdate t (.map (some b)) x v).run P w = .ok () (setBlock w b (.map es' clock')) ∧ MapIs P k (setBlock w b (.map es' clock')) b (updM m x v) (if (m x).isSome then n else n + 1) := by
  obtain ⟨es, clock, hb, hn, hk, hd, hm⟩ := h
  obtain ⟨l, hl⟩ := hx
  rcases K.find w hl es.toList hk with ⟨h1, h2⟩ | ⟨j, e0, h1, h2, h3⟩
  · have e1 : m x = none := by
      cases hmx : m x with
      | none => rfl
      | some v =>
        obtain ⟨e, he, he1, _⟩ := (hm x v).1 hmx
        exact absurd he1 (h2 e he)
    refine ⟨es.push ⟨x, v, clock⟩, clock + 1, by simp [Instr.mapUpdate, run_underlying ht, MapKept.run_getObj_map hb, K.check w false hl, h1, MapKept.run_setObj_map _ hb, Result.andThen, setBlock], _, _, heap_setBlock_same hb _, by rw [e1]; simp [hn], fun y hy => ?_, ?_, fun y u => ?_⟩
    · simp only [Array.toList_push, List.mem_append, List.mem_singleton] at hy
      rcases hy with hy | rfl
      · exact hk y hy
      · exact ⟨l, hl⟩
    · rw [Array.toList_push]
      exact List.pairwise_append.2 ⟨hd, by simp, fun a ha c hc => by simp only [List.mem_singleton] at hc; subst hc; exact h2 a ha⟩
    · by_cases hyx : y = x
      · subst hyx
        rw [updM_same]
        constructor
        · intro hu; injection hu with hu; subst hu; exact ⟨⟨y, v, clock⟩, by simp, rfl, rfl⟩
        · rintro ⟨e, he, he1, he2⟩
          simp only [Array.toList_push, List.mem_append, List.mem_singleton] at he
          rcases he with he | rfl
          · exact absurd he1 (h2 e he)
          · rw [← he2]
      · rw [updM_ne hyx, hm]
        constructor
        · rintro ⟨e, he, r⟩; exact ⟨e, by simp [he], r⟩
        · rintro ⟨e, he, he1, he2⟩
          simp only [Array.toList_push, List.mem_append, List.mem_singleton] at he
          rcases he with he | rfl
          · exact ⟨e, he, he1, he2⟩
          · exact absurd he1.symm hyx
  · have e1 : m x = some e0.val := (hm x _).2 ⟨e0, List.mem_of_getElem? h2, h3, rfl⟩
    have hj : es[j]? = some e0 := by simpa using h2
    have hlist : (es.modify j (fun e' => { e' with key := x, val := v })).toList = es.toList.set j { e0 with key := x, val := v } := by rw [Array.toList_modify, modify_eq_set _ _ _ _ h2]
    have hjl : j < es.toList.length := (List.getElem?_eq_some_iff.1 h2).1
    have hst := K.stays w hl
    refine ⟨es.modify j (fun e' => { e' with key := x, val := v }), clock, by simp [Instr.mapUpdate, run_underlying ht, MapKept.run_getObj_map hb, K.check w false hl, h1, hj, h3, hst, MapKept.run_setObj_map _ hb, Result.andThen, setBlock], _, _, heap_setBlock_same hb _, by rw [e1]; simp [hn], fun y hy => ?_, ?_, fun y u => ?_⟩
    · rw [hlist] at hy
      rcases List.mem_or_eq_of_mem_set hy with hy | rfl
      · exact hk y hy
      · exact ⟨l, hl⟩
    · rw [hlist]
      have hget : ∀ i (hi : i < (es.toList.set j { e0 with key := x, val := v }).length), ((es.toList.set j { e0 with key := x, val := v })[i]).key = (es.toList[i]'(by simpa using hi)).key := fun i hi => by
        rw [List.getElem_set]
        split
        · rename_i hij
          subst hij
          have : es.toList[j] = e0 := by rw [List.getElem?_eq_getElem hjl] at h2; injection h2
          rw [this]; exact h3.symm
        · rfl
      refine List.pairwise_iff_getElem.2 fun i i' hi hi' hii => ?_
      rw [hget i hi, hget i' hi']
      exact List.pairwise_iff_getElem.1 hd i i' (by simpa using hi) (by simpa using hi') hii
    · rw [hlist]
      by_cases hyx : y = x
      · subst hyx
        rw [updM_same]
        constructor
        · intro hu; injection hu with hu; subst hu; exact ⟨_, List.mem_set hjl _, rfl, rfl⟩
        · rintro ⟨e, he, he1, he2⟩
          obtain ⟨i, hi, hie⟩ := List.getElem_of_mem he
          rw [List.getElem_set] at hie
          split at hie
          · subst hie; rw [← he2]
          · rename_i hij
            exfalso
            have hij2 : i < es.toList.length := by simpa using hi
            have hkk : (es.toList[i]).key = (es.toList[j]).key := by
              have : es.toList[j] = e0 := by rw [List.getElem?_eq_getElem hjl] at h2; injection h2
              rw [this, h3, hie]; exact he1
            rcases Nat.lt_or_gt_of_ne (fun e => hij e.symm) with hlt | hlt
            · exact List.pairwise_iff_getElem.1 hd i j hij2 hjl hlt hkk
            · exact List.pairwise_iff_getElem.1 hd j i hjl hij2 hlt hkk.symm
      · rw [updM_ne hyx, hm]
        constructor
        · rintro ⟨e, he, he1, he2⟩
          obtain ⟨i, hi, hie⟩ := List.getElem_of_mem he
          refine ⟨e, ?_, he1, he2⟩
          have hij : j ≠ i := fun h => by
            subst h
            have : es.toList[j] = e0 := by rw [List.getElem?_eq_getElem hjl] at h2; injection h2
            rw [this] at hie
            subst hie
            exact hyx (he1.symm.trans h3)
          have : (es.toList.set j { e0 with key := x, val := v })[i]'(by simpa using hi) = e := by rw [List.getElem_set_ne hij]; exact hie
          rw [← this]
          exact List.getElem_mem _
        · rintro ⟨e, he, he1, he2⟩
          rcases List.mem_or_eq_of_mem_set he with he | rfl
          · exact ⟨e, he, he1, he2⟩
          · exact absurd he1.symm hyx
theorem map_del {ty : TypeId} (K : Keyed P k) (ht : P.underlying t = some (.map k e)) (h : MapIs P k w b m n) (hx : ∃ l, keyOf P k x = some l) :
    ∃ es' clock', (Builtin.delete_ #[t, k] ty #[.map (some b), x]).run P w = .ok (.tuple #[]) (setBlock w b (.map es' clock')) ∧ MapIs P k (setBlock w b (.map es' clock')) b (delM m x) (if (m x).isSome then n - 1 else n) := by
  obtain ⟨es, clock, hb, hn, hk, hd, hm⟩ := h
  obtain ⟨l, hl⟩ := hx
  rcases K.find w hl es.toList hk with ⟨h1, h2⟩ | ⟨j, e0, h1, h2, h3⟩
  · have e1 : m x = none := by
      cases hmx : m x with
      | none => rfl
      | some v =>
        obtain ⟨e, he, he1, _⟩ := (hm x v).1 hmx
        exact absurd he1 (h2 e he)
    refine ⟨es, clock, by simp [Builtin.delete_, run_underlying ht, MapKept.run_getObj_map hb, K.check w _ hl, h1, MapKept.run_setObj_map _ hb, Result.andThen, setBlock], _, _, heap_setBlock_same hb _, by rw [e1]; simp [hn], hk, hd, fun y u => ?_⟩
    by_cases hyx : y = x
    · subst hyx
      rw [delM_same, ← e1]; exact hm y u
    · rw [delM_ne hyx]; exact hm y u
  · have e1 : m x = some e0.val := (hm x _).2 ⟨e0, List.mem_of_getElem? h2, h3, rfl⟩
    have hjl : j < es.toList.length := (List.getElem?_eq_some_iff.1 h2).1
    have hjs : j < es.size := by simpa using hjl
    have hsub : (es.eraseIdxIfInBounds j).toList = es.toList.eraseIdx j := by
      unfold Array.eraseIdxIfInBounds
      rw [dif_pos hjs]
      simp
    have h0 : es.toList[j] = e0 := by rw [List.getElem?_eq_getElem hjl] at h2; injection h2
    refine ⟨es.eraseIdxIfInBounds j, clock, by simp [Builtin.delete_, run_underlying ht, MapKept.run_getObj_map hb, K.check w _ hl, h1, MapKept.run_setObj_map _ hb, Result.andThen, setBlock], _, _, heap_setBlock_same hb _, ?_, fun y hy => ?_, ?_, fun y u => ?_⟩
    · rw [e1]
      have : (es.eraseIdxIfInBounds j).size = (es.eraseIdxIfInBounds j).toList.length := by simp only [Array.length_toList]
      rw [this, hsub, List.length_eraseIdx, if_pos hjl]
      simp [hn]
    · rw [hsub] at hy; exact hk y ((List.eraseIdx_sublist _ _).subset hy)
    · rw [hsub]; exact hd.sublist (List.eraseIdx_sublist _ _)
    · rw [hsub]
      by_cases hyx : y = x
      · subst hyx
        rw [delM_same]
        constructor
        · intro hu; cases hu
        · rintro ⟨e, he, he1, he2⟩
          exfalso
          obtain ⟨i, hi, hij, hie⟩ := List.mem_eraseIdx_iff_getElem.1 he
          have hkk : (es.toList[i]).key = (es.toList[j]).key := by rw [h0, h3, hie]; exact he1
          rcases Nat.lt_or_gt_of_ne hij with hlt | hlt
          · exact List.pairwise_iff_getElem.1 hd i j hi hjl hlt hkk
          · exact List.pairwise_iff_getElem.1 hd j i hjl hi hlt hkk.symm
      · rw [delM_ne hyx, hm]
        constructor
        · rintro ⟨e, he, he1, he2⟩
          obtain ⟨i, hi, hie⟩ := List.getElem_of_mem he
          refine ⟨e, List.mem_eraseIdx_iff_getElem.2 ⟨i, hi, ?_, hie⟩, he1, he2⟩
          rintro rfl
          rw [h0] at hie
          subst hie
          exact hyx (he1.symm.trans h3)
        · rintro ⟨e, he, r⟩
          exact ⟨e, (List.eraseIdx_sublist _ _).subset he, r⟩
/-- what a store or a deletion changes -/
theorem setBlock_only {S : Nat → Prop} {a : World} (h : Only S a w) {es : Array MapEntry} {clock : Nat} (hb : w.heap[b]? = some (.map es clock)) (o : Obj) (hS : S b ∨ a.heap.size ≤ b) : Only S a (setBlock w b o) :=
  ⟨h.os, h.tape, h.output, by simpa [setBlock] using h.size, fun i hi hn => (heap_setBlock_other hb o (by
    rintro rfl
    rcases hS with hS | hS
    · exact hn hS
    · omega)).trans (h.block i hi hn)⟩
theorem MapIs.at_ (h : MapIs P k w b m n) : ∃ es clock, w.heap[b]? = some (.map es clock) ∧ es.size = n := by obtain ⟨es, c, h1, h2, _⟩ := h; exact ⟨es, c, h1, h2⟩
end
end Go.Proofs.Ytfoigflgglpobaa.Aid
/- The keys of queue's maps. No condition but that numbers are some. -/
set_option linter.unusedVariables false
namespace Go.Proofs.Ytfoigflgglpobaa.Q
open Go.RowKit Go.Maps Go.Proofs.Ytfoigflgglpobaa.Aid
theorem laid : laidOutB Try.prog = true := by kernel_rfl
theorem kInt : Keyed Try.prog 3 := int_keyed Try.underlying3
theorem kHan : Keyed Try.prog 29 := Keyed.of_law (deep_law_laid laid (m := 5) (by omega) (of_decide_eq_true (by kernel_rfl)) (by kernel_rfl) (by kernel_rfl))
def I64 (a : Int) : Prop := -9223372036854775808 ≤ a ∧ a ≤ 9223372036854775807
theorem wf64 {a : Int} (h : I64 a) : (Lit.int .i64 a).wf = true := by
  unfold I64 at h
  have h1 : IntKind.i64.min = -9223372036854775808 := by decide
  have h2 : IntKind.i64.max = 9223372036854775807 := by decide
  simp [Lit.wf, h1, h2]; omega
theorem key_int {a : Int} (h : I64 a) : ∃ l, keyOf Try.prog 3 (.int .i64 a) = some l := ⟨_, keyOf_int_mk Try.underlying3 (wf64 h)⟩
theorem key_han {a b : Int} (ha : I64 a) (hb : I64 b) : ∃ l, keyOf Try.prog 29 (.agg #[.int .i64 a, .int .i64 b]) = some l := by
  have wa := wf64 ha
  have wb := wf64 hb
  have h1 : Try.prog.keyType 29 = true := by kernel_rfl
  have h2 : Try.prog.cellsOf 29 = 2 := by kernel_rfl
  obtain ⟨n, hn⟩ : ∃ n, Try.prog.types.size = n + 2 := ⟨_, (by kernel_rfl : Try.prog.types.size = (Try.prog.types.size - 2) + 2)⟩
  have h3 : Try.prog.cellsOf 3 = 1 := by kernel_rfl
  unfold keyOf
  rw [Try.underlying29]
  simp only [h1, Bool.true_and]
  have hf : (Value.agg #[.int .i64 a, .int .i64 b]).formed Try.prog 29 = true := by unfold Value.formed; rw [Try.underlying29]; simp [h2]
  rw [hf, if_pos rfl, hn]
  unfold Program.keyLits
  rw [Try.underlying29]
  simp [Value.cells, h2, h3]
  unfold Program.keyLits
  rw [Try.underlying3]
  simp [wa, wb]
end Go.Proofs.Ytfoigflgglpobaa.Q
/- Trees of places, in plain Lean: shapes, ways down, what memory holds of them, and what a turn does. No program in sight; no condition. -/
set_option linter.unusedVariables false
namespace Go.Proofs.Ytfoigflgglpobaa.Tr
structure Nd where
  t : Int
  s : Int
  l : Nat
  r : Nat
  u : Nat
  red : Bool
  tak : Bool
  turn : Int
/-- a tree of places: a colour, a place, what hangs on each side -/
inductive Sh where
  | nil
  | node (red : Bool) (x : Nat) (k : Bool → Sh)
def Sh.root : Sh → Nat
  | .nil => 0
  | .node _ x _ => x
def Sh.red : Sh → Bool
  | .nil => false
  | .node c _ _ => c
def Sh.ino : Sh → List Nat
  | .nil => []
  | .node _ x k => (k false).ino ++ x :: (k true).ino
/-- a side holds t, the other one u -/
def two (s : Bool) (t u : Sh) (s' : Bool) : Sh := if s' = s then t else u
theorem two_same (s : Bool) (t u : Sh) : two s t u s = t := by unfold two; rw [if_pos rfl]
theorem two_other (s : Bool) (t u : Sh) : two s t u (!s) = u := by unfold two; rw [if_neg (by cases s <;> simp)]
theorem two_eta (k : Bool → Sh) (s : Bool) : two s (k s) (k (!s)) = k := by funext b; cases s <;> cases b <;> rfl
/-- a way down: frames, the lowest first; each holds a colour, a place, on which side the hole is, and what hangs on the other side -/
inductive Cx where
  | top
  | fr (red : Bool) (x : Nat) (s : Bool) (sib : Sh) (k : Cx)
def Cx.up : Cx → Nat
  | .top => 0
  | .fr _ x _ _ _ => x
def Cx.plug : Cx → Sh → Sh
  | .top, t => t
  | .fr c x s sib k, t => k.plug (.node c x (two s t sib))
/-- what stands ahead of the hole, and behind it -/
def Cx.pre : Cx → List Nat
  | .top => []
  | .fr _ x s sib k => k.pre ++ (if s then sib.ino ++ [x] else [])
def Cx.post : Cx → List Nat
  | .top => []
  | .fr _ x s sib k => (if s then [] else x :: sib.ino) ++ k.post
theorem plug_ino (k : Cx) : ∀ t, (k.plug t).ino = k.pre ++ t.ino ++ k.post := by
  induction k with
  | top => intro t; simp [Cx.plug, Cx.pre, Cx.post]
  | fr c x s sib k ih =>
    intro t
    unfold Cx.plug
    rw [ih]
    cases s <;> simp [Cx.pre, Cx.post, Sh.ino, two, List.append_assoc]
def Cx.all : Cx → List Nat
  | .top => []
  | .fr _ x _ sib k => x :: (sib.ino ++ k.all)
theorem all_mem (k : Cx) (z : Nat) : z ∈ k.all ↔ z ∈ k.pre ∨ z ∈ k.post := by
  induction k with
  | top => simp [Cx.all, Cx.pre, Cx.post]
  | fr c x s sib k ih => cases s <;> simp [Cx.all, Cx.pre, Cx.post, ih, or_assoc, or_left_comm, or_comm]
/-- the child on a side -/
def ch (f : Nat → Nd) (x : Nat) (s : Bool) : Nat := if s then (f x).r else (f x).l
def setCh (f : Nat → Nd) (x : Nat) (s : Bool) (v : Nat) (y : Nat) : Nd := if y = x then (if s then { f x with r := v } else { f x with l := v }) else f y
def setU (f : Nat → Nd) (x v : Nat) (y : Nat) : Nd := if y = x then { f x with u := v } else f y
def setC (f : Nat → Nd) (x : Nat) (c : Bool) (y : Nat) : Nd := if y = x then { f x with red := c } else f y
/-- what memory holds of a tree that hangs on a place -/
def Rep (f : Nat → Nd) : Sh → Nat → Prop
  | .nil, _ => True
  | .node c x k, up => x ≠ 0 ∧ (f x).red = c ∧ (f x).u = up ∧ (∀ s, ch f x s = (k s).root) ∧ ∀ s, Rep f (k s) x
/-- what memory holds of a way down, at whose end h hangs -/
def RepC (f : Nat → Nd) (root : Nat) : Cx → Nat → Prop
  | .top, h => root = h
  | .fr c x s sib k, h => x ≠ 0 ∧ (f x).red = c ∧ (f x).u = k.up ∧ ch f x s = h ∧ ch f x (!s) = sib.root ∧ Rep f sib x ∧ RepC f root k x
/-- the shape of a place is the same -/
def Same (f f' : Nat → Nd) (z : Nat) : Prop := (f' z).l = (f z).l ∧ (f' z).r = (f z).r ∧ (f' z).u = (f z).u ∧ (f' z).red = (f z).red
theorem Same.ch {f f' : Nat → Nd} {z : Nat} (h : Same f f' z) (s : Bool) : ch f' z s = ch f z s := by
  unfold Tr.ch; cases s
  · exact h.1
  · exact h.2.1
theorem Same.refl (f : Nat → Nd) (z : Nat) : Same f f z := ⟨rfl, rfl, rfl, rfl⟩
theorem Same.trans {f f' f'' : Nat → Nd} {z : Nat} (h : Same f f' z) (k : Same f' f'' z) : Same f f'' z := ⟨k.1.trans h.1, k.2.1.trans h.2.1, k.2.2.1.trans h.2.2.1, k.2.2.2.trans h.2.2.2⟩
theorem Rep.frame {f f' : Nat → Nd} (t : Sh) : ∀ {up : Nat}, Rep f t up → (∀ z, z ∈ t.ino → Same f f' z) → Rep f' t up := by
  induction t with
  | nil => intro up _ _; trivial
  | node c x k ih =>
    intro up h hs
    obtain ⟨h0, h1, h2, h3, h4⟩ := h
    have hx := hs x (by simp [Sh.ino])
    refine ⟨h0, hx.2.2.2.trans h1, hx.2.2.1.trans h2, fun s => (hx.ch s).trans (h3 s), fun s => ih s (h4 s) fun z hz => hs z ?_⟩
    cases s
    · simp only [Sh.ino, List.mem_append]; exact .inl hz
    · simp only [Sh.ino, List.mem_append, List.mem_cons]; exact .inr (.inr hz)
theorem mem_ino_side {c : Bool} {x z : Nat} {k : Bool → Sh} (s : Bool) (h : z ∈ (k s).ino) : z ∈ (Sh.node c x k).ino := by
  cases s
  · simp only [Sh.ino, List.mem_append]; exact .inl h
  · simp only [Sh.ino, List.mem_append, List.mem_cons]; exact .inr (.inr h)
theorem root_mem {t : Sh} (h : t.root ≠ 0) : t.root ∈ t.ino := by
  cases t with
  | nil => exact absurd rfl h
  | node c x k => simp [Sh.root, Sh.ino]
/-- the tree hangs on another place now: its root's up alone has changed -/
theorem Rep.rebase {f f' : Nat → Nd} {t : Sh} {up up' : Nat} (hnd : t.ino.Nodup) (h : Rep f t up) (hs : ∀ z, z ∈ t.ino → z ≠ t.root → Same f f' z)
    (hr : t.root ≠ 0 → (f' t.root).l = (f t.root).l ∧ (f' t.root).r = (f t.root).r ∧ (f' t.root).red = (f t.root).red ∧ (f' t.root).u = up') : Rep f' t up' := by
  cases t with
  | nil => trivial
  | node c x k =>
    obtain ⟨h0, h1, h2, h3, h4⟩ := h
    obtain ⟨r1, r2, r3, r4⟩ := hr h0
    refine ⟨h0, r3.trans h1, r4, fun s => ?_, fun s => (h4 s).frame _ fun z hz => hs z (mem_ino_side s hz) ?_⟩
    · rw [← h3 s]; unfold Tr.ch; cases s
      · exact r1
      · exact r2
    · rintro rfl
      simp only [Sh.ino, Sh.root] at hnd hz
      have h5 := List.nodup_append.1 hnd
      cases s
      · exact h5.2.2 _ hz _ (List.mem_cons_self) rfl
      · exact (List.nodup_cons.1 h5.2.1).1 hz
theorem RepC.frame {f f' : Nat → Nd} {root : Nat} (k : Cx) : ∀ {h : Nat}, RepC f root k h → (∀ z, z ∈ k.all → Same f f' z) → RepC f' root k h := by
  induction k with
  | top => intro h hr _; exact hr
  | fr c x s sib k ih =>
    intro h hr hs
    obtain ⟨h0, h1, h2, h3, h4, h5, h6⟩ := hr
    have hx := hs x (by simp [Cx.all])
    exact ⟨h0, hx.2.2.2.trans h1, hx.2.2.1.trans h2, (hx.ch s).trans h3, (hx.ch _).trans h4, h5.frame _ fun z hz => hs z (by simp [Cx.all, hz]), ih h6 fun z hz => hs z (by simp [Cx.all, hz])⟩
theorem RepC.up_mem {f : Nat → Nd} {root : Nat} {k : Cx} {h : Nat} (hr : RepC f root k h) (hu : k.up ≠ 0) : k.up ∈ k.all := by
  cases k with
  | top => exact absurd rfl hu
  | fr c x s sib k => simp [Cx.up, Cx.all]
/-- what hangs at the end is another one now -/
theorem RepC.rehang {f f' : Nat → Nd} {root root' : Nat} {k : Cx} {h h' : Nat} (hnd : k.all.Nodup) (hr : RepC f root k h) (hs : ∀ z, z ∈ k.all → z ≠ k.up → Same f f' z)
    (ht : k.up = 0 → root' = h') (ht2 : k.up ≠ 0 → root' = root) (hc : ∀ s c x sib kk, k = .fr c x s sib kk → ch f' x s = h' ∧ ch f' x (!s) = ch f x (!s) ∧ (f' x).u = (f x).u ∧ (f' x).red = (f x).red) : RepC f' root' k h' := by
  cases k with
  | top => exact ht rfl
  | fr c x s sib k =>
    obtain ⟨h0, h1, h2, h3, h4, h5, h6⟩ := hr
    obtain ⟨c1, c2, c3, c4⟩ := hc s c x sib k rfl
    have hx : x ∉ sib.ino ++ k.all := (List.nodup_cons.1 hnd).1
    rw [ht2 h0]
    refine ⟨h0, c4.trans h1, c3.trans h2, c1, c2.trans h4, h5.frame _ fun z hz => hs z (by simp [Cx.all, hz]) ?_, h6.frame _ fun z hz => hs z (by simp [Cx.all, hz]) ?_⟩
    · rintro rfl; exact hx (by simp [Cx.up, hz])
    · rintro rfl; exact hx (by simp [Cx.up, hz])
end Go.Proofs.Ytfoigflgglpobaa.Tr
/- What a turn does to a tree of places, in plain Lean. No program in sight; no condition. -/
set_option linter.unusedVariables false
namespace Go.Proofs.Ytfoigflgglpobaa.Tr
theorem side_ne {s r : Bool} (h : ¬ s = r) : s = !r := by cases s <;> cases r <;> simp_all
theorem setCh_ne {f : Nat → Nd} {x y v : Nat} {s : Bool} (h : y ≠ x) : setCh f x s v y = f y := by unfold setCh; rw [if_neg h]
theorem setU_ne {f : Nat → Nd} {x y v : Nat} (h : y ≠ x) : setU f x v y = f y := by unfold setU; rw [if_neg h]
theorem setC_ne {f : Nat → Nd} {x y : Nat} {c : Bool} (h : y ≠ x) : setC f x c y = f y := by unfold setC; rw [if_neg h]
theorem setCh_ch (f : Nat → Nd) (x v : Nat) (s : Bool) : ch (setCh f x s v) x s = v := by cases s <;> simp [ch, setCh]
theorem setCh_other (f : Nat → Nd) (x v : Nat) (s : Bool) : ch (setCh f x s v) x (!s) = ch f x (!s) := by cases s <;> simp [ch, setCh]
theorem setCh_u (f : Nat → Nd) (x y v : Nat) (s : Bool) : (setCh f x s v y).u = (f y).u := by unfold setCh; split <;> (cases s <;> simp_all)
theorem setCh_red (f : Nat → Nd) (x y v : Nat) (s : Bool) : (setCh f x s v y).red = (f y).red := by unfold setCh; split <;> (cases s <;> simp_all)
theorem setU_ch (f : Nat → Nd) (x y v : Nat) (s : Bool) : ch (setU f x v) y s = ch f y s := by unfold ch setU; split <;> (split <;> simp_all)
theorem setU_u (f : Nat → Nd) (x v : Nat) : (setU f x v x).u = v := by simp [setU]
theorem setU_red (f : Nat → Nd) (x y v : Nat) : (setU f x v y).red = (f y).red := by unfold setU; split <;> simp_all
theorem setC_ch (f : Nat → Nd) (x y : Nat) (c : Bool) (s : Bool) : ch (setC f x c) y s = ch f y s := by unfold ch setC; split <;> (split <;> simp_all)
theorem setC_u (f : Nat → Nd) (x y : Nat) (c : Bool) : (setC f x c y).u = (f y).u := by unfold setC; split <;> simp_all
theorem setC_red (f : Nat → Nd) (x : Nat) (c : Bool) : (setC f x c x).red = c := by simp [setC]
theorem same_eq {f f' : Nat → Nd} {z : Nat} (h : f' z = f z) : Same f f' z := by unfold Same; rw [h]; exact ⟨rfl, rfl, rfl, rfl⟩
theorem same_of {f f' : Nat → Nd} {z : Nat} (h : ∀ s, Tr.ch f' z s = Tr.ch f z s) (hu : (f' z).u = (f z).u) (hr : (f' z).red = (f z).red) : Same f f' z := ⟨h false, h true, hu, hr⟩
/-- what isn't the tree's stays: keys, whether a place is taken, its turn -/
def Keep (f f' : Nat → Nd) : Prop := ∀ z, (f' z).t = (f z).t ∧ (f' z).s = (f z).s ∧ (f' z).tak = (f z).tak ∧ (f' z).turn = (f z).turn
theorem Keep.refl (f : Nat → Nd) : Keep f f := fun z => ⟨rfl, rfl, rfl, rfl⟩
theorem Keep.trans {f g h : Nat → Nd} (a : Keep f g) (b : Keep g h) : Keep f h := fun z => ⟨(b z).1.trans (a z).1, (b z).2.1.trans (a z).2.1, (b z).2.2.1.trans (a z).2.2.1, (b z).2.2.2.trans (a z).2.2.2⟩
theorem keep_ch (f : Nat → Nd) (x v : Nat) (s : Bool) : Keep f (setCh f x s v) := fun z => by unfold setCh; split <;> (cases s <;> simp_all)
theorem keep_u (f : Nat → Nd) (x v : Nat) : Keep f (setU f x v) := fun z => by unfold setU; split <;> simp_all
theorem keep_c (f : Nat → Nd) (x : Nat) (c : Bool) : Keep f (setC f x c) := fun z => by unfold setC; split <;> simp_all
/-- a place hangs where another one did -/
def hangF (f : Nat → Nd) (root old x : Nat) : (Nat → Nd) × Nat :=
  (setU (if (f old).u = 0 then f else if (f (f old).u).l = old then setCh f (f old).u false x else setCh f (f old).u true x) x (f old).u, if (f old).u = 0 then x else root)
theorem keep_hang (f : Nat → Nd) (root old x : Nat) : Keep f (hangF f root old x).1 := by
  unfold hangF
  refine Keep.trans ?_ (keep_u _ _ _)
  split
  · exact Keep.refl _
  · split <;> exact keep_ch _ _ _ _
/-- the frame's own place knows what hangs at its hole -/
theorem RepC.side {f : Nat → Nd} {root : Nat} {c : Bool} {x : Nat} {s : Bool} {sib : Sh} {k : Cx} {h : Nat} (hr : RepC f root (.fr c x s sib k) h) (h0 : h ≠ 0) (hh : h ∉ sib.ino) : (if (f x).l = h then false else true) = s := by
  obtain ⟨_, _, _, h3, h4, _, _⟩ := hr
  cases s
  · rw [if_pos (show (f x).l = h from h3)]
  · rw [if_neg]
    intro e
    have h5 : (f x).l = sib.root := h4
    rw [e] at h5
    exact hh (by rw [h5]; exact root_mem (by rw [← h5]; exact h0))
theorem hang_rep {f : Nat → Nd} {root old x : Nat} {k : Cx} (hnd : k.all.Nodup) (hr : RepC f root k old) (hu : (f old).u = k.up) (h0 : old ≠ 0) (ho : old ∉ k.all) (hx : x ∉ k.all) :
    RepC (hangF f root old x).1 (hangF f root old x).2 k x ∧ (∀ z, z ≠ x → (k.up = 0 ∨ z ≠ k.up) → (hangF f root old x).1 z = f z) ∧ (∀ s, k.up = 0 ∨ x ≠ k.up → ch (hangF f root old x).1 x s = ch f x s) ∧ ((hangF f root old x).1 x).u = k.up ∧ ((hangF f root old x).1 x).red = (f x).red := by
  cases k with
  | top =>
    have e : (f old).u = 0 := hu
    unfold hangF
    simp only [e, if_true]
    exact ⟨rfl, fun z hz _ => setU_ne hz, fun s _ => setU_ch _ _ _ _ _, setU_u _ _ _, setU_red _ _ _ _⟩
  | fr c p s sib k =>
    have e : (f old).u = p := hu
    have hp : p ≠ 0 := hr.1
    have hs := RepC.side hr h0 (fun h => ho (by simp [Cx.all, h]))
    have hxp : x ≠ p := fun h => hx (by simp [Cx.all, h])
    have ef : hangF f root old x = (setU (setCh f p s x) x p, root) := by
      unfold hangF
      rw [e, if_neg hp, if_neg hp]
      by_cases h : (f p).l = old
      · rw [if_pos h] at hs ⊢; subst hs; rfl
      · rw [if_neg h] at hs ⊢; subst hs; rfl
    rw [ef]
    dsimp only
    refine ⟨RepC.rehang hnd hr (fun z hz hzu => same_eq ?_) (fun h => absurd h hp) (fun _ => rfl) (fun s' c' x' sib' kk hk => ?_), fun z hz hzu => ?_, fun s' _ => ?_, setU_u _ _ _, ?_⟩
    · rw [setU_ne (fun h => hx (by rw [← h]; exact hz))]; exact setCh_ne hzu
    · cases hk
      refine ⟨?_, ?_, ?_, ?_⟩
      · rw [setU_ch, setCh_ch]
      · rw [setU_ch, setCh_other]
      · rw [setU_ne (Ne.symm hxp), setCh_u]
      · rw [setU_red, setCh_red]
    · rw [setU_ne hz]; exact setCh_ne (hzu.resolve_left hp)
    · rw [setU_ch]; unfold ch; rw [setCh_ne hxp]
    · rw [setU_red, setCh_red]
/-- a place goes down to a side: its other child comes up -/
def turnF (f : Nat → Nd) (root x : Nat) (r : Bool) : (Nat → Nd) × Nat :=
  let y := ch f x (!r)
  let inner := ch f y r
  let f1 := setCh f x (!r) inner
  let f2 := if inner = 0 then f1 else setU f1 inner x
  let h := hangF f2 root x y
  (setU (setCh h.1 y r x) x y, h.2)
theorem keep_turn (f : Nat → Nd) (root x : Nat) (r : Bool) : Keep f (turnF f root x r).1 := by
  unfold turnF
  refine ((Keep.trans ?_ (keep_hang _ _ _ _)).trans (keep_ch _ _ _ _)).trans (keep_u _ _ _)
  split
  · exact keep_ch _ _ _ _
  · exact (keep_ch _ _ _ _).trans (keep_u _ _ _)
theorem ino_perm (c : Bool) (x : Nat) (k : Bool → Sh) (s : Bool) : (Sh.node c x k).ino.Perm (x :: ((k s).ino ++ (k (!s)).ino)) := by
  cases s
  · simp only [Sh.ino, Bool.not_false]
    exact List.perm_middle
  · simp only [Sh.ino, Bool.not_true]
    exact List.perm_middle.trans (List.Perm.cons _ List.perm_append_comm)
theorem plug_perm (k : Cx) : ∀ t, (k.plug t).ino.Perm (t.ino ++ k.all) := by
  induction k with
  | top => intro t; simp [Cx.plug, Cx.all]
  | fr c x s sib k ih =>
    intro t
    refine (ih _).trans ?_
    refine ((ino_perm c x (two s t sib) s).append_right _).trans ?_
    rw [two_same, two_other]
    simp only [Cx.all, List.cons_append, List.append_assoc]
    exact List.perm_middle.symm
/-- what is apart in a node -/
theorem nodup_node {c : Bool} {x : Nat} {k : Bool → Sh} (h : (Sh.node c x k).ino.Nodup) (s : Bool) : x ∉ (k s).ino ∧ (k s).ino.Nodup ∧ ∀ z, z ∈ (k s).ino → z ∉ (k (!s)).ino := by
  have h1 := (ino_perm c x k s).nodup_iff.1 h
  obtain ⟨h2, h3⟩ := List.nodup_cons.1 h1
  obtain ⟨h4, h5, h6⟩ := List.nodup_append.1 h3
  exact ⟨fun hz => h2 (List.mem_append_left _ hz), h4, fun z hz hz' => h6 z hz z hz' rfl⟩
theorem mem_node {c : Bool} {x z : Nat} {k : Bool → Sh} (s : Bool) : z ∈ (Sh.node c x k).ino ↔ z = x ∨ z ∈ (k s).ino ∨ z ∈ (k (!s)).ino := by
  rw [(ino_perm c x k s).mem_iff]; simp
/-- the tree behind a turn -/
def turned (r : Bool) (cx : Bool) (x : Nat) (kx : Bool → Sh) (cy : Bool) (y : Nat) (ky : Bool → Sh) : Sh := .node cy y (two r (.node cx x (two r (kx r) (ky r))) (ky (!r)))
theorem turned_ino (r cx : Bool) (x : Nat) (kx : Bool → Sh) (cy : Bool) (y : Nat) (ky : Bool → Sh) (hk : kx (!r) = .node cy y ky) : (turned r cx x kx cy y ky).ino = (Sh.node cx x kx).ino := by
  cases r
  · simp only [Bool.not_false] at hk
    simp [turned, Sh.ino, two, hk]
  · simp only [Bool.not_true] at hk
    simp [turned, Sh.ino, two, hk]
set_option maxHeartbeats 1000000 in
theorem turn_rep {f : Nat → Nd} {root : Nat} {k : Cx} (r : Bool) {cx : Bool} {x : Nat} {kx : Bool → Sh} {cy : Bool} {y : Nat} {ky : Bool → Sh} (hk : kx (!r) = .node cy y ky)
    (ht : Rep f (.node cx x kx) k.up) (hc : RepC f root k x) (hnd : (k.plug (.node cx x kx)).ino.Nodup) :
    Rep (turnF f root x r).1 (turned r cx x kx cy y ky) k.up ∧ RepC (turnF f root x r).1 (turnF f root x r).2 k y ∧ ∀ z, z ∉ (k.plug (.node cx x kx)).ino → (turnF f root x r).1 z = f z := by
  have hp := (plug_perm k (.node cx x kx)).nodup_iff.1 hnd
  obtain ⟨n1, n2, n3⟩ := List.nodup_append.1 hp
  obtain ⟨a1, a2, a3⟩ := nodup_node n1 r
  obtain ⟨b1, b2, b3⟩ := nodup_node n1 (!r)
  rw [hk] at b1 b2 b3 a3
  rw [Bool.not_not] at b3
  obtain ⟨c1, c2, c3⟩ := nodup_node b2 r
  obtain ⟨d1, d2, d3⟩ := nodup_node b2 (!r)
  rw [Bool.not_not] at d3
  have mx : x ∈ (Sh.node cx x kx).ino := (mem_node r).2 (.inl rfl)
  have my : ∀ z, z ∈ (Sh.node cy y ky).ino → z ∈ (Sh.node cx x kx).ino := fun z hz => (mem_node r).2 (.inr (.inr (by rw [hk]; exact hz)))
  have ka : ∀ z, z ∈ (Sh.node cx x kx).ino → z ∉ k.all := fun z hz hz' => n3 z hz z hz' rfl
  have myy : y ∈ (Sh.node cy y ky).ino := (mem_node r).2 (.inl rfl)
  have hxy : x ≠ y := fun h => b1 (h ▸ myy)
  obtain ⟨x0, x1, x2, x3, x4⟩ := ht
  have e1 : ch f x (!r) = y := by rw [x3, hk]; rfl
  have hy := x4 (!r)
  rw [hk] at hy
  obtain ⟨y0, y1, y2, y3, y4⟩ := hy
  obtain ⟨I, hI⟩ : ∃ I, (ky r).root = I := ⟨_, rfl⟩
  have e2 : ch f y r = I := by rw [y3, hI]
  have iI : I ≠ 0 → I ∈ (ky r).ino := fun h => by rw [← hI] at h ⊢; exact root_mem h
  have iI2 : I ≠ 0 → I ∈ (Sh.node cy y ky).ino := fun h => (mem_node r).2 (.inr (.inl (iI h)))
  have hIx : I ≠ 0 → I ≠ x := fun h e => b1 (e ▸ iI2 h)
  have hIy : I ≠ 0 → I ≠ y := fun h e => c1 (e ▸ iI h)
  have hIk : I ≠ 0 → I ∉ k.all := fun h => ka _ (my _ (iI2 h))
  have hxk := ka x mx
  have hyk := ka y (my y myy)
  -- memory ahead of the hanging
  obtain ⟨f2, hf2⟩ : ∃ f2, (if I = 0 then setCh f x (!r) I else setU (setCh f x (!r) I) I x) = f2 := ⟨_, rfl⟩
  have g1 : ∀ z, z ≠ x → (I = 0 ∨ z ≠ I) → f2 z = f z := fun z hz hzi => by
    rw [← hf2]
    by_cases h : I = 0
    · rw [if_pos h, setCh_ne hz]
    · rw [if_neg h, setU_ne (hzi.resolve_left h), setCh_ne hz]
  have g2 : ch f2 x r = ch f x r ∧ ch f2 x (!r) = I ∧ (f2 x).u = (f x).u ∧ (f2 x).red = (f x).red := by
    have hrr : ch (setCh f x (!r) I) x r = ch f x r := by have := setCh_other f x I (!r); rwa [Bool.not_not] at this
    rw [← hf2]
    by_cases h : I = 0
    · rw [if_pos h]
      exact ⟨hrr, setCh_ch _ _ _ _, setCh_u _ _ _ _ _, setCh_red _ _ _ _ _⟩
    · rw [if_neg h]
      refine ⟨by rw [setU_ch]; exact hrr, by rw [setU_ch, setCh_ch], ?_, by rw [setU_red, setCh_red]⟩
      rw [setU_ne (Ne.symm (hIx h)), setCh_u]
  have g3 : I ≠ 0 → (∀ s, ch f2 I s = ch f I s) ∧ (f2 I).u = x ∧ (f2 I).red = (f I).red := fun h => by
    rw [← hf2, if_neg h]
    refine ⟨fun s => ?_, setU_u _ _ _, ?_⟩
    · rw [setU_ch]; unfold ch; rw [setCh_ne (hIx h)]
    · rw [setU_red, setCh_red]
  have hc2 : RepC f2 root k x := hc.frame _ fun z hz => same_eq (g1 z (fun e => hxk (e ▸ hz)) (by by_cases h : I = 0; exact .inl h; exact .inr fun e => hIk h (e ▸ hz)))
  obtain ⟨h1, h2, h3, h4, h5⟩ := hang_rep (x := y) n2 hc2 (g2.2.2.1.trans x2) x0 hxk hyk
  have hF : turnF f root x r = (setU (setCh (hangF f2 root x y).1 y r x) x y, (hangF f2 root x y).2) := by
    unfold turnF
    simp only [e1, e2, hf2]
  rw [hF]
  generalize hangF f2 root x y = H at h1 h2 h3 h4 h5 ⊢
  obtain ⟨f3, root3⟩ := H
  simp only at h1 h2 h3 h4 h5 ⊢
  have kup : ∀ z, z ∈ (Sh.node cx x kx).ino → k.up = 0 ∨ z ≠ k.up := fun z hz => by
    by_cases h : k.up = 0
    · exact .inl h
    · exact .inr fun e => ka z hz (e ▸ RepC.up_mem hc h)
  have fin : ∀ z, z ≠ x → z ≠ y → setU (setCh f3 y r x) x y z = f3 z := fun z hz hz' => by rw [setU_ne hz, setCh_ne hz']
  have hxu : x ≠ k.up := fun e => by
    have : k.up ≠ 0 := e ▸ x0
    exact hxk (e ▸ RepC.up_mem hc this)
  have f3x : f3 x = f2 x := h2 x hxy (.inr hxu)
  have f2y : f2 y = f y := g1 y (Ne.symm hxy) (by by_cases h : I = 0; exact .inl h; exact .inr fun e => hIy h e.symm)
  have hyup : y ≠ k.up := by
    rcases kup y (my y myy) with h | h
    · rw [h]; exact y0
    · exact h
  have f3y : ∀ s, ch f3 y s = ch f y s := fun s => by rw [h3 s (.inr hyup)]; unfold ch; rw [f2y]
  -- what hangs below
  have low : ∀ z, z ∈ (Sh.node cx x kx).ino → z ≠ x → z ≠ y → (I = 0 ∨ z ≠ I) → Same f (setU (setCh f3 y r x) x y) z := fun z hz hzx hzy hzi => by
    refine same_eq ?_
    rw [fin z hzx hzy, h2 z hzy (kup z hz), g1 z hzx hzi]
  refine ⟨⟨y0, ?_, ?_, fun s => ?_, fun s => ?_⟩, ?_, fun z hz => ?_⟩
  · rw [setU_red, setCh_red, h5, f2y]; exact y1
  · rw [setU_ne (Ne.symm hxy), setCh_u]; exact h4
  · rw [setU_ch]
    by_cases e : s = r
    · subst e; rw [setCh_ch, two_same]; rfl
    · have e' : s = !r := side_ne e
      subst e'
      rw [setCh_other, two_other, f3y, y3]
  · by_cases e : s = r
    · subst e
      rw [two_same]
      refine ⟨x0, ?_, setU_u _ _ _, fun s' => ?_, fun s' => ?_⟩
      · rw [setU_red, setCh_red, f3x, g2.2.2.2]; exact x1
      · rw [setU_ch]
        have e3 : ch (setCh f3 y s x) x s' = ch f2 x s' := by unfold ch; rw [setCh_ne hxy, f3x]
        rw [e3]
        by_cases e4 : s' = s
        · subst e4; rw [two_same, g2.1, x3]
        · have e' : s' = !s := side_ne e4
          subst e'
          rw [two_other, g2.2.1, hI]
      · by_cases e4 : s' = s
        · subst e4
          rw [two_same]
          exact (x4 s').frame _ fun z hz => low z ((mem_node s').2 (.inr (.inl hz))) (fun e => a1 (e ▸ hz)) (fun e => a3 z hz (e ▸ myy)) (by
            by_cases h : I = 0
            · exact .inl h
            · exact .inr fun e => a3 z hz (e ▸ iI2 h))
        · have e' : s' = !s := side_ne e4
          subst e'
          rw [two_other]
          refine Rep.rebase c2 (y4 s) (fun z hz hzr => ?_) (fun hr0 => ?_)
          · rw [hI] at hzr
            exact low z (my z ((mem_node s).2 (.inr (.inl hz)))) (fun e => b1 (e ▸ (mem_node s).2 (.inr (.inl hz)))) (fun e => c1 (e ▸ hz)) (.inr hzr)
          · rw [hI] at hr0 ⊢
            obtain ⟨q1, q2, q3⟩ := g3 hr0
            have e5 : setU (setCh f3 y s x) x y I = f2 I := by
              rw [fin I (hIx hr0) (hIy hr0), h2 I (hIy hr0) (kup I (my I (iI2 hr0)))]
            rw [e5]
            exact ⟨q1 false, q1 true, q3, q2⟩
    · have e' : s = !r := side_ne e
      subst e'
      rw [two_other]
      exact (y4 (!r)).frame _ fun z hz => low z (my z ((mem_node r).2 (.inr (.inr hz)))) (fun e => b1 (e ▸ (mem_node r).2 (.inr (.inr hz)))) (fun e => d1 (e ▸ hz)) (by
        by_cases h : I = 0
        · exact .inl h
        · exact .inr fun e => c3 I (iI h) (e ▸ hz))
  · exact h1.frame _ fun z hz => same_eq (fin z (fun e => hxk (e ▸ hz)) (fun e => hyk (e ▸ hz)))
  · have hz' : z ∉ (Sh.node cx x kx).ino ∧ z ∉ k.all := by
      rw [(plug_perm k _).mem_iff, List.mem_append] at hz
      exact ⟨fun h => hz (.inl h), fun h => hz (.inr h)⟩
    have hzx : z ≠ x := fun e => hz'.1 (e ▸ mx)
    have hzy : z ≠ y := fun e => hz'.1 (e ▸ my y myy)
    have hzu : k.up = 0 ∨ z ≠ k.up := by
      by_cases h : k.up = 0
      · exact .inl h
      · exact .inr fun e => hz'.2 (by rw [e]; exact RepC.up_mem hc h)
    rw [fin z hzx hzy, h2 z hzy hzu, g1 z hzx]
    by_cases h : I = 0
    · exact .inl h
    · exact .inr fun e => hz'.1 (by rw [e]; exact my I (iI2 h))
end Go.Proofs.Ytfoigflgglpobaa.Tr
/- Red and black, in plain Lean: how black ways are, and that no red place hangs on a red one; how long ways are. No program in sight; no condition. -/
set_option linter.unusedVariables false
namespace Go.Proofs.Ytfoigflgglpobaa.Tr
/-- all ways down a tree pass n black places -/
def Bal : Sh → Nat → Prop
  | .nil, n => n = 0
  | .node c _ k, n => if c then ∀ s, Bal (k s) n else ∃ m, n = m + 1 ∧ ∀ s, Bal (k s) m
/-- no red place hangs on a red one -/
def Nrr : Sh → Prop
  | .nil => True
  | .node c _ k => (c = true → ∀ s, (k s).red = false) ∧ ∀ s, Nrr (k s)
/-- a way down at whose end a tree of n black places hangs: all ways pass b black places -/
def CBal : Cx → Nat → Nat → Prop
  | .top, n, b => n = b
  | .fr c _ _ sib k, n, b => Bal sib n ∧ CBal k (if c then n else n + 1) b
/-- no red place hangs on a red one along a way down; the topmost place is black -/
def CNrr : Cx → Prop
  | .top => True
  | .fr c _ _ sib k => (c = true → sib.red = false) ∧ Nrr sib ∧ CNrr k ∧ (match k with | .top => c = false | .fr c' _ _ _ _ => c = true → c' = false)
/-- the colour of the place at whose side the hole is; black above the top -/
def Cx.red : Cx → Bool
  | .top => false
  | .fr c _ _ _ _ => c
theorem plug_bal (k : Cx) : ∀ {t : Sh} {n b : Nat}, Bal t n → CBal k n b → Bal (k.plug t) b := by
  induction k with
  | top => intro t n b h hc; have : n = b := hc; subst this; exact h
  | fr c x s sib k ih =>
    intro t n b h hc
    obtain ⟨h1, h2⟩ := hc
    unfold Cx.plug
    refine ih ?_ h2
    have hs : ∀ s', Bal (two s t sib s') n := fun s' => by unfold two; split; exact h; exact h1
    cases c
    · exact ⟨n, rfl, hs⟩
    · exact hs
theorem plug_nrr (k : Cx) : ∀ {t : Sh}, Nrr t → CNrr k → (k.red = true → t.red = false) → Nrr (k.plug t) := by
  induction k with
  | top => intro t h _ _; exact h
  | fr c x s sib k ih =>
    intro t h hc hr
    obtain ⟨h1, h2, h3, h4⟩ := hc
    unfold Cx.plug
    refine ih ⟨fun e s' => ?_, fun s' => ?_⟩ h3 (fun e => ?_)
    · unfold two; split
      · exact hr e
      · exact h1 e
    · unfold two; split
      · exact h
      · exact h2
    · cases k with
      | top => cases e
      | fr c' x' s'' sib' k' =>
        show c = false
        cases c with
        | false => rfl
        | true =>
          have h5 : c' = false := h4 rfl
          have e2 : c' = true := e
          rw [h5] at e2; cases e2
/-- the colour at the top of a whole tree -/
theorem plug_red (k : Cx) : ∀ {t : Sh}, CNrr k → (k = .top → t.red = false) → (k.plug t).red = false := by
  induction k with
  | top => intro t _ h; exact h rfl
  | fr c x s sib k ih =>
    intro t hc _
    obtain ⟨h1, h2, h3, h4⟩ := hc
    unfold Cx.plug
    refine ih h3 fun e => ?_
    subst e
    exact h4
/-- the shortest and the longest way -/
def Sh.least : Sh → Nat
  | .nil => 0
  | .node _ _ k => min (k false).least (k true).least + 1
def Sh.most : Sh → Nat
  | .nil => 0
  | .node _ _ k => max (k false).most (k true).most + 1
theorem least_bal (t : Sh) : ∀ {n : Nat}, Bal t n → n ≤ t.least := by
  induction t with
  | nil => intro n h; have : n = 0 := h; omega
  | node c x k ih =>
    intro n h
    cases c
    · obtain ⟨m, rfl, h⟩ := h
      have h1 := ih false (h false)
      have h2 := ih true (h true)
      unfold Sh.least; omega
    · have h1 := ih false (show Bal (k false) n from (show ∀ s, Bal (k s) n from h) false)
      have h2 := ih true (show Bal (k true) n from (show ∀ s, Bal (k s) n from h) true)
      unfold Sh.least; omega
theorem most_bal (t : Sh) : ∀ {n : Nat}, Bal t n → Nrr t → t.most ≤ 2 * n + (if t.red then 1 else 0) := by
  induction t with
  | nil => intro n h _; unfold Sh.most; omega
  | node c x k ih =>
    intro n h hr
    obtain ⟨r1, r2⟩ := hr
    cases c
    · obtain ⟨m, rfl, h⟩ := h
      have h1 := ih false (h false) (r2 false)
      have h2 := ih true (h true) (r2 true)
      have e1 : (if (k false).red then 1 else 0) ≤ 1 := by split <;> omega
      have e2 : (if (k true).red then 1 else 0) ≤ 1 := by split <;> omega
      unfold Sh.most; simp only [Sh.red]; omega
    · have hh : ∀ s, Bal (k s) n := h
      have h1 := ih false (hh false) (r2 false)
      have h2 := ih true (hh true) (r2 true)
      rw [r1 rfl false] at h1
      rw [r1 rfl true] at h2
      unfold Sh.most; simp only [Sh.red, if_true] at h1 h2 ⊢
      simp at h1 h2
      omega
theorem ways {t : Sh} {n : Nat} (h : Bal t n) (hr : Nrr t) (hc : t.red = false) : t.most ≤ 2 * t.least + 1 := by
  have h1 := least_bal t h
  have h2 := most_bal t h hr
  rw [hc] at h2
  simp at h2
  omega
end Go.Proofs.Ytfoigflgglpobaa.Tr
/- What mending does, step by step, in plain Lean. No program in sight; no condition. -/
set_option linter.unusedVariables false
namespace Go.Proofs.Ytfoigflgglpobaa.Tr
theorem Rep.away {f : Nat → Nd} {t : Sh} {up z : Nat} {c : Bool} (h : Rep f t up) (hz : z ∉ t.ino) : Rep (setC f z c) t up := h.frame _ fun y hy => same_eq (setC_ne (fun e => hz (e ▸ hy)))
theorem RepC.away {f : Nat → Nd} {root : Nat} {k : Cx} {h z : Nat} {c : Bool} (hr : RepC f root k h) (hz : z ∉ k.all) : RepC (setC f z c) root k h := hr.frame _ fun y hy => same_eq (setC_ne (fun e => hz (e ▸ hy)))
/-- a node's own colour -/
theorem Rep.recol {f : Nat → Nd} {c c' : Bool} {x up : Nat} {k : Bool → Sh} (h : Rep f (.node c x k) up) (hn : (Sh.node c x k).ino.Nodup) : Rep (setC f x c') (.node c' x k) up := by
  obtain ⟨h0, h1, h2, h3, h4⟩ := h
  exact ⟨h0, setC_red _ _ _, (setC_u _ _ _ _).trans h2, fun s => (setC_ch _ _ _ _ _).trans (h3 s), fun s => (h4 s).away (nodup_node hn s).1⟩
theorem ino_col (c c' : Bool) (x : Nat) (k : Bool → Sh) : (Sh.node c x k).ino = (Sh.node c' x k).ino := rfl
/-- one frame less: what hangs with its place is a tree -/
theorem RepC.down {f : Nat → Nd} {root : Nat} {c : Bool} {x : Nat} {s : Bool} {sib t : Sh} {k : Cx} (h : Rep f t x) (hr : RepC f root (.fr c x s sib k) t.root) : Rep f (.node c x (two s t sib)) k.up ∧ RepC f root k x := by
  obtain ⟨h0, h1, h2, h3, h4, h5, h6⟩ := hr
  refine ⟨⟨h0, h1, h2, fun s' => ?_, fun s' => ?_⟩, h6⟩
  · by_cases e : s' = s
    · subst e; rw [two_same]; exact h3
    · have e' := side_ne e; subst e'; rw [two_other]; exact h4
  · by_cases e : s' = s
    · subst e; rw [two_same]; exact h
    · have e' := side_ne e; subst e'; rw [two_other]; exact h5
/-- one frame more -/
theorem RepC.over {f : Nat → Nd} {root : Nat} {c : Bool} {x : Nat} {kx : Bool → Sh} {k : Cx} (s : Bool) (h : Rep f (.node c x kx) k.up) (hr : RepC f root k x) : Rep f (kx s) x ∧ RepC f root (.fr c x s (kx (!s)) k) (kx s).root := by
  obtain ⟨h0, h1, h2, h3, h4⟩ := h
  exact ⟨h4 s, h0, h1, h2, h3 s, h3 (!s), h4 (!s), hr⟩
theorem plug_rep {f : Nat → Nd} {root : Nat} (k : Cx) : ∀ {t : Sh}, Rep f t k.up → RepC f root k t.root → Rep f (k.plug t) 0 ∧ root = (k.plug t).root := by
  induction k with
  | top => intro t h hr; exact ⟨h, hr⟩
  | fr c x s sib k ih =>
    intro t h hr
    obtain ⟨h1, h2⟩ := RepC.down h hr
    exact ih h1 h2
def Cx.len : Cx → Nat
  | .top => 0
  | .fr _ _ _ _ k => k.len + 1
/-- a tree as memory holds it, red and black as it should be -/
structure RB (f : Nat → Nd) (root : Nat) (T : Sh) : Prop where
  rep : Rep f T 0
  root : root = T.root
  nrr : Nrr T
  red : T.red = false
  bal : ∃ b, Bal T b
  nd : T.ino.Nodup
/-- mending's state: a red place hangs at the end of a way down -/
structure Mend (f : Nat → Nd) (root : Nat) (k : Cx) (x : Nat) (kx : Bool → Sh) (n b : Nat) : Prop where
  rt : Rep f (.node true x kx) k.up
  rc : RepC f root k x
  nd : (k.plug (.node true x kx)).ino.Nodup
  ch : ∀ s, (kx s).red = false ∧ Nrr (kx s)
  bal : ∀ s, Bal (kx s) n
  cb : CBal k n b
  cn : CNrr k
theorem Mend.parts {f : Nat → Nd} {root : Nat} {k : Cx} {x : Nat} {kx : Bool → Sh} {n b : Nat} (h : Mend f root k x kx n b) : (Sh.node true x kx).ino.Nodup ∧ k.all.Nodup ∧ ∀ z, z ∈ (Sh.node true x kx).ino → z ∉ k.all := by
  obtain ⟨h1, h2, h3⟩ := List.nodup_append.1 ((plug_perm k _).nodup_iff.1 h.nd)
  exact ⟨h1, h2, fun z hz hz' => h3 z hz z hz' rfl⟩
/-- at the top: it turns black -/
theorem Mend.top {f : Nat → Nd} {root x : Nat} {kx : Bool → Sh} {n b : Nat} (h : Mend f root .top x kx n b) : RB (setC f root false) root (.node false x kx) := by
  have hx : root = x := h.rc
  subst hx
  obtain ⟨h1, _, _⟩ := h.parts
  exact ⟨h.rt.recol h1, rfl, ⟨fun e => (by cases e), fun s => (h.ch s).2⟩, rfl, ⟨n + 1, n, rfl, h.bal⟩, h1⟩
/-- its parent is black: nothing is to be done -/
theorem Mend.black {f : Nat → Nd} {root p : Nat} {s : Bool} {sib : Sh} {k : Cx} {x : Nat} {kx : Bool → Sh} {n b : Nat} (h : Mend f root (.fr false p s sib k) x kx n b) : RB (setC f root false) root ((Cx.fr false p s sib k).plug (.node true x kx)) := by
  obtain ⟨h1, h2⟩ := plug_rep _ h.rt (show RepC f root (.fr false p s sib k) (Sh.node true x kx).root from h.rc)
  have hred : ((Cx.fr false p s sib k).plug (.node true x kx)).red = false := plug_red _ h.cn (fun e => by cases e)
  have hnr : Nrr ((Cx.fr false p s sib k).plug (.node true x kx)) := plug_nrr _ ⟨fun _ s' => (h.ch s').1, fun s' => (h.ch s').2⟩ h.cn (fun e => by cases e)
  have hba : Bal ((Cx.fr false p s sib k).plug (.node true x kx)) b := plug_bal _ (show Bal (.node true x kx) n from h.bal) h.cb
  have hnd := h.nd
  generalize (Cx.fr false p s sib k).plug (.node true x kx) = T at h1 h2 hred hnr hba hnd
  refine ⟨h1.frame _ fun z hz => ?_, h2, hnr, hred, ⟨b, hba⟩, hnd⟩
  by_cases e : z = root
  · subst e
    refine same_of (fun s => setC_ch _ _ _ _ _) (setC_u _ _ _ _) ?_
    rw [setC_red]
    cases T with
    | nil => cases hz
    | node c y ky =>
      have hy : z = y := h2
      subst hy
      have hc : c = false := hred
      rw [h1.2.1, hc]
  · exact same_eq (setC_ne e)
theorem nrr_two {s : Bool} {t u : Sh} (ht : Nrr t) (hu : Nrr u) (s' : Bool) : Nrr (two s t u s') := by unfold two; split; exact ht; exact hu
theorem bal_two {s : Bool} {t u : Sh} {n : Nat} (ht : Bal t n) (hu : Bal u n) (s' : Bool) : Bal (two s t u s') n := by unfold two; split; exact ht; exact hu
/-- what a mending with a red parent stands on: the grandparent, whole -/
theorem Mend.big {f : Nat → Nd} {root p g : Nat} {s sg cg : Bool} {sib unc : Sh} {k : Cx} {x : Nat} {kx : Bool → Sh} {n b : Nat} (h : Mend f root (.fr true p s sib (.fr cg g sg unc k)) x kx n b) :
    cg = false ∧ Rep f (.node false g (two sg (.node true p (two s (.node true x kx) sib)) unc)) k.up ∧ RepC f root k g ∧ (k.plug (.node false g (two sg (.node true p (two s (.node true x kx) sib)) unc))).ino.Nodup ∧
    sib.red = false ∧ Nrr sib ∧ Nrr unc ∧ Bal sib n ∧ Bal unc n ∧ CBal k (n + 1) b ∧ CNrr k := by
  obtain ⟨c1, c2, ⟨c3, c4, c5, c6⟩, c7⟩ := h.cn
  have hcg : cg = false := c7 rfl
  subst hcg
  obtain ⟨b1, b2, b3⟩ := h.cb
  obtain ⟨d1, d2⟩ := RepC.down (x := p) h.rt (show RepC f root (.fr true p s sib (.fr false g sg unc k)) (Sh.node true x kx).root from h.rc)
  obtain ⟨e1, e2⟩ := RepC.down d1 d2
  exact ⟨rfl, e1, e2, h.nd, c1 rfl, c2, c4, b1, b2, b3, c5⟩
/-- a red uncle: both turn black, the grandparent red, and it goes on from there -/
theorem Mend.uncle {f : Nat → Nd} {root p g u : Nat} {s sg cg : Bool} {sib : Sh} {ku : Bool → Sh} {k : Cx} {x : Nat} {kx : Bool → Sh} {n b : Nat} (h : Mend f root (.fr true p s sib (.fr cg g sg (.node true u ku) k)) x kx n b) :
    Mend (setC (setC (setC f p false) u false) g true) root k g (two sg (.node false p (two s (.node true x kx) sib)) (.node false u ku)) (n + 1) b ∧
    (k.plug (.node true g (two sg (.node false p (two s (.node true x kx) sib)) (.node false u ku)))).ino = ((Cx.fr true p s sib (.fr cg g sg (.node true u ku) k)).plug (.node true x kx)).ino := by
  obtain ⟨hcg, hR, hC, hnd, s1, s2, u2, s3, u3, hb, hn⟩ := h.big
  subst hcg
  obtain ⟨n1, n2, n3⟩ := List.nodup_append.1 ((plug_perm k _).nodup_iff.1 hnd)
  obtain ⟨g1, g2, g3⟩ := nodup_node n1 sg
  obtain ⟨v1, v2, v3⟩ := nodup_node n1 (!sg)
  rw [Bool.not_not] at v3
  rw [two_same] at g1 g2 g3 v3
  rw [two_other] at g3 v1 v2 v3
  obtain ⟨r0, r1, r2, r3, r4⟩ := hR
  have rp := r4 sg
  have ru := r4 (!sg)
  rw [two_same] at rp
  rw [two_other] at ru
  have hpP : p ∈ (Sh.node true p (two s (.node true x kx) sib)).ino := (mem_node s).2 (.inl rfl)
  have huU : u ∈ (Sh.node true u ku).ino := (mem_node s).2 (.inl rfl)
  -- p black
  have p1 := rp.recol (c' := false) g2
  have q1 : Rep (setC f p false) (.node true u ku) g := ru.away (g3 p hpP)
  -- the uncle black
  have p2 : Rep (setC (setC f p false) u false) (.node false p (two s (.node true x kx) sib)) g := p1.away (v3 u huU)
  have q2 := q1.recol (c' := false) v2
  -- the grandparent red
  have p3 : Rep (setC (setC (setC f p false) u false) g true) (.node false p (two s (.node true x kx) sib)) g := p2.away g1
  have q3 : Rep (setC (setC (setC f p false) u false) g true) (.node false u ku) g := q2.away v1
  have hgp : g ≠ p := fun e => g1 (e ▸ hpP)
  have hgu : g ≠ u := fun e => v1 (e ▸ huU)
  have ku2 : ∀ z, z ∈ (Sh.node false g (two sg (.node true p (two s (.node true x kx) sib)) (.node true u ku))).ino → z ∉ k.all := fun z hz hz' => n3 z hz z hz' rfl
  have mg := (mem_node (c := false) (x := g) (z := g) (k := two sg (.node true p (two s (.node true x kx) sib)) (.node true u ku)) sg).2 (.inl rfl)
  have mp := (mem_node (c := false) (x := g) (z := p) (k := two sg (.node true p (two s (.node true x kx) sib)) (.node true u ku)) sg).2 (.inr (.inl (by rw [two_same]; exact hpP)))
  have mu := (mem_node (c := false) (x := g) (z := u) (k := two sg (.node true p (two s (.node true x kx) sib)) (.node true u ku)) sg).2 (.inr (.inr (by rw [two_other]; exact huU)))
  have e0 : (Sh.node true g (two sg (.node false p (two s (.node true x kx) sib)) (.node false u ku))).ino = (Sh.node false g (two sg (.node true p (two s (.node true x kx) sib)) (.node true u ku))).ino := by
    cases sg <;> simp [Sh.ino, two]
  have e1 : (k.plug (.node true g (two sg (.node false p (two s (.node true x kx) sib)) (.node false u ku)))).ino = (k.plug (.node false g (two sg (.node true p (two s (.node true x kx) sib)) (.node true u ku)))).ino := by rw [plug_ino, plug_ino, e0]
  refine ⟨⟨⟨r0, setC_red _ _ _, ?_, fun s' => ?_, fun s' => ?_⟩, ?_, by rw [e1]; exact hnd, fun s' => ?_, fun s' => ?_, hb, hn⟩, e1⟩
  · rw [setC_u, setC_u, setC_u]; exact r2
  · rw [setC_ch, setC_ch, setC_ch, r3 s']
    unfold two; split <;> rfl
  · unfold two; split
    · exact p3
    · exact q3
  · exact ((hC.away (ku2 p mp)).away (ku2 u mu)).away (ku2 g mg)
  · unfold two; split
    · exact ⟨rfl, fun e => (by cases e), fun s'' => nrr_two (show Nrr (.node true x kx) from ⟨fun _ s3 => (h.ch s3).1, fun s3 => (h.ch s3).2⟩) s2 s''⟩
    · exact ⟨rfl, fun e => (by cases e), u2.2⟩
  · unfold two; split
    · exact ⟨n, rfl, fun s'' => bal_two (show Bal (.node true x kx) n from h.bal) s3 s''⟩
    · exact ⟨n, rfl, u3⟩
/-- the lower turn: the red place comes up to its parent's place -/
theorem Mend.inner {f : Nat → Nd} {root p g : Nat} {s sg cg : Bool} {sib unc : Sh} {k : Cx} {x : Nat} {kx : Bool → Sh} {n b : Nat} (h : Mend f root (.fr true p s sib (.fr cg g sg unc k)) x kx n b) (hs : s = !sg) :
    Mend (turnF f root p sg).1 (turnF f root p sg).2 (.fr true x sg (kx (!sg)) (.fr cg g sg unc k)) p (two sg sib (kx sg)) n b ∧
    ((Cx.fr true x sg (kx (!sg)) (.fr cg g sg unc k)).plug (.node true p (two sg sib (kx sg)))).ino = ((Cx.fr true p s sib (.fr cg g sg unc k)).plug (.node true x kx)).ino := by
  subst hs
  obtain ⟨c1, c2, c3, c7⟩ := h.cn
  obtain ⟨b1, b2⟩ := h.cb
  obtain ⟨d1, d2⟩ := RepC.down (x := p) h.rt (show RepC f root (.fr true p (!sg) sib (.fr cg g sg unc k)) (Sh.node true x kx).root from h.rc)
  obtain ⟨t1, t2, t3⟩ := turn_rep sg (kx := two (!sg) (.node true x kx) sib) (cy := true) (y := x) (ky := kx) (two_same _ _ _) d1 d2 h.nd
  have e1 : two (!sg) (Sh.node true x kx) sib sg = sib := by have := two_other (!sg) (Sh.node true x kx) sib; rwa [Bool.not_not] at this
  have et : turned sg true p (two (!sg) (.node true x kx) sib) true x kx = .node true x (two sg (.node true p (two sg sib (kx sg))) (kx (!sg))) := by unfold turned; rw [e1]
  have ei := turned_ino sg true p (two (!sg) (.node true x kx) sib) true x kx (two_same _ _ _)
  rw [et] at t1 ei
  obtain ⟨o1, o2⟩ := RepC.over sg t1 t2
  rw [two_same] at o1 o2
  rw [two_other] at o2
  have e2 : ((Cx.fr true x sg (kx (!sg)) (.fr cg g sg unc k)).plug (.node true p (two sg sib (kx sg)))).ino = ((Cx.fr true p (!sg) sib (.fr cg g sg unc k)).plug (.node true x kx)).ino := by
    show ((Cx.fr cg g sg unc k).plug (.node true x (two sg (.node true p (two sg sib (kx sg))) (kx (!sg))))).ino = ((Cx.fr cg g sg unc k).plug (.node true p (two (!sg) (.node true x kx) sib))).ino
    rw [plug_ino, plug_ino, ei]
  refine ⟨⟨o1, o2, by rw [e2]; exact h.nd, fun s' => ?_, fun s' => ?_, ⟨h.bal _, b2⟩, ⟨fun _ => (h.ch _).1, (h.ch _).2, c3, c7⟩⟩, e2⟩
  · unfold two; split
    · exact ⟨c1 rfl, c2⟩
    · exact h.ch _
  · exact bal_two b1 (h.bal _) s'
/-- the upper turn: the parent comes up, black -/
theorem Mend.outer {f : Nat → Nd} {root p g : Nat} {s sg cg : Bool} {sib unc : Sh} {k : Cx} {x : Nat} {kx : Bool → Sh} {n b : Nat} (h : Mend f root (.fr true p s sib (.fr cg g sg unc k)) x kx n b) (hs : s = sg) (hu : unc.red = false) :
    Mend (turnF (setC (setC f p false) g true) root g (!sg)).1 (turnF (setC (setC f p false) g true) root g (!sg)).2 (.fr false p sg (.node true g (two (!sg) unc sib)) k) x kx n b ∧
    ((Cx.fr false p sg (.node true g (two (!sg) unc sib)) k).plug (.node true x kx)).ino = ((Cx.fr true p s sib (.fr cg g sg unc k)).plug (.node true x kx)).ino ∧
    (∀ z, z ∉ ((Cx.fr true p s sib (.fr cg g sg unc k)).plug (.node true x kx)).ino → (turnF (setC (setC f p false) g true) root g (!sg)).1 z = setC (setC f p false) g true z) := by
  obtain ⟨hcg, hR, hC, hnd, s1, s2, u2, s3, u3, hb, hn⟩ := h.big
  subst hcg hs
  obtain ⟨n1, n2, n3⟩ := List.nodup_append.1 ((plug_perm k _).nodup_iff.1 hnd)
  obtain ⟨g1, g2, g3⟩ := nodup_node n1 s
  obtain ⟨v1, v2, v3⟩ := nodup_node n1 (!s)
  rw [two_same] at g1 g2 g3
  rw [two_other] at g3 v1
  obtain ⟨r0, r1, r2, r3, r4⟩ := hR
  have rp := r4 s
  have ru := r4 (!s)
  rw [two_same] at rp
  rw [two_other] at ru
  have hpP : p ∈ (Sh.node true p (two s (.node true x kx) sib)).ino := (mem_node s).2 (.inl rfl)
  have p1 := rp.recol (c' := false) g2
  have q1 : Rep (setC f p false) unc g := ru.away (g3 p hpP)
  have p3 : Rep (setC (setC f p false) g true) (.node false p (two s (.node true x kx) sib)) g := p1.away g1
  have q3 : Rep (setC (setC f p false) g true) unc g := q1.away v1
  have ku2 : ∀ z, z ∈ (Sh.node false g (two s (.node true p (two s (.node true x kx) sib)) unc)).ino → z ∉ k.all := fun z hz hz' => n3 z hz z hz' rfl
  have mg := (mem_node (c := false) (x := g) (z := g) (k := two s (.node true p (two s (.node true x kx) sib)) unc) s).2 (.inl rfl)
  have mp := (mem_node (c := false) (x := g) (z := p) (k := two s (.node true p (two s (.node true x kx) sib)) unc) s).2 (.inr (.inl (by rw [two_same]; exact hpP)))
  have hR2 : Rep (setC (setC f p false) g true) (.node true g (two s (.node false p (two s (.node true x kx) sib)) unc)) k.up := by
    refine ⟨r0, setC_red _ _ _, ?_, fun s' => ?_, fun s' => ?_⟩
    · rw [setC_u, setC_u]; exact r2
    · rw [setC_ch, setC_ch, r3 s']
      unfold two; split <;> rfl
    · unfold two; split
      · exact p3
      · exact q3
  have hC2 : RepC (setC (setC f p false) g true) root k g := (hC.away (ku2 p mp)).away (ku2 g mg)
  have e0 : (Sh.node true g (two s (.node false p (two s (.node true x kx) sib)) unc)).ino = (Sh.node false g (two s (.node true p (two s (.node true x kx) sib)) unc)).ino := by
    cases s <;> simp [Sh.ino, two]
  have hnd2 : (k.plug (.node true g (two s (.node false p (two s (.node true x kx) sib)) unc))).ino.Nodup := by
    rw [plug_ino, e0, ← plug_ino]; exact hnd
  have hk2 : two s (Sh.node false p (two s (.node true x kx) sib)) unc (!(!s)) = .node false p (two s (.node true x kx) sib) := by rw [Bool.not_not, two_same]
  obtain ⟨t1, t2, t3⟩ := turn_rep (!s) hk2 hR2 hC2 hnd2
  have ei := turned_ino (!s) true g (two s (.node false p (two s (.node true x kx) sib)) unc) false p (two s (.node true x kx) sib) hk2
  have et : turned (!s) true g (two s (.node false p (two s (.node true x kx) sib)) unc) false p (two s (.node true x kx) sib) = .node false p (two (!s) (.node true g (two (!s) unc sib)) (.node true x kx)) := by
    unfold turned; rw [Bool.not_not, two_same, two_other, two_other]
  rw [et] at t1 ei
  obtain ⟨o1, o2⟩ := RepC.over s t1 t2
  have e3 : two (!s) (Sh.node true g (two (!s) unc sib)) (.node true x kx) s = .node true x kx := by have := two_other (!s) (Sh.node true g (two (!s) unc sib)) (.node true x kx); rwa [Bool.not_not] at this
  rw [e3, two_same] at o2
  rw [e3] at o1
  have e4 : Sh.node false p (two s (.node true x kx) (.node true g (two (!s) unc sib))) = .node false p (two (!s) (.node true g (two (!s) unc sib)) (.node true x kx)) := by
    congr 1; funext s'; cases s <;> cases s' <;> rfl
  have e2 : ((Cx.fr false p s (.node true g (two (!s) unc sib)) k).plug (.node true x kx)).ino = ((Cx.fr true p s sib (.fr false g s unc k)).plug (.node true x kx)).ino := by
    show (k.plug (.node false p (two s (.node true x kx) (.node true g (two (!s) unc sib))))).ino = (k.plug (.node false g (two s (.node true p (two s (.node true x kx) sib)) unc))).ino
    rw [plug_ino, plug_ino, e4, ei, e0]
  refine ⟨⟨o1, o2, by rw [e2]; exact h.nd, h.ch, h.bal, ⟨bal_two u3 s3, hb⟩, ⟨fun e => (by cases e), ⟨fun _ s' => ?_, fun s' => nrr_two u2 s2 s'⟩, hn, ?_⟩⟩, e2, fun z hz => t3 z (by rw [plug_ino, e0, ← plug_ino]; exact hz)⟩
  · unfold two; split
    · exact hu
    · exact s1
  · cases k with
    | top => rfl
    | fr c' x' s' sib' k' => intro e; cases e
end Go.Proofs.Ytfoigflgglpobaa.Tr
/- What memory holds of tree's nodes, and the contracts of its smallest functions. No condition but that a place is one. -/
set_option linter.unusedVariables false
set_option linter.unusedSimpArgs false
namespace Go.Proofs.Ytfoigflgglpobaa.Tr
open Go.RowKit Go.Proofs.Ytfoigflgglpobaa.Aid
def Nd.cells (a : Nd) : Array Value := #[.int .i64 a.t, .int .i64 a.s, .int .i64 a.l, .int .i64 a.r, .int .i64 a.u, .bool a.red, .bool a.tak, .int .i64 a.turn]
/-- a block of nodes -/
def IsN (w : World) (gl : Nat) (f : Nat → Nd) (sz : Nat) : Prop := ∃ cur, Blk w gl 104 cur ∧ sz * 8 ≤ cur.size ∧ ∀ x, x < sz → ∀ k, k < 8 → cur[x * 8 + k]? = (f x).cells[k]?
theorem IsN.lt {w : World} {gl : Nat} {f : Nat → Nd} {sz : Nat} (h : IsN w gl f sz) : gl < w.heap.size := by obtain ⟨cur, hb, _⟩ := h; exact hb.lt
theorem IsN.frozen {w : World} {gl : Nat} {f : Nat → Nd} {sz : Nat} (h : IsN w gl f sz) (i : Nat) : w.frozen? ⟨gl, i, none⟩ = false := by obtain ⟨cur, hb, _⟩ := h; exact hb.frozen i
theorem IsN.cell {w : World} {gl : Nat} {f : Nat → Nd} {sz : Nat} (h : IsN w gl f sz) (x : Nat) (hx : x < sz) (k : Nat) (hk : k < 8) : w.cell? ⟨gl, x * 8 + k, none⟩ = (f x).cells[k]? := by obtain ⟨cur, hb, _, hc⟩ := h; exact (hb.cell _).trans (hc x hx k hk)
theorem IsN.same {w w' : World} {gl : Nat} {f : Nat → Nd} {sz : Nat} (h : IsN w gl f sz) (e : w'.heap[gl]? = w.heap[gl]?) : IsN w' gl f sz := by obtain ⟨cur, hb, hs, hc⟩ := h; exact ⟨cur, e.trans hb, hs, hc⟩
theorem IsN.set {w : World} {gl : Nat} {f : Nat → Nd} {sz : Nat} (h : IsN w gl f sz) {x : Nat} (hx : x < sz) {k : Nat} (hk : k < 8) {v : Value} {f' : Nat → Nd} (hf : ∀ y, y ≠ x → f' y = f y) (hv : (f' x).cells = (f x).cells.setIfInBounds k v) : IsN (w.setCell ⟨gl, x * 8 + k, none⟩ v) gl f' sz := by
  obtain ⟨cur, hb, hs, hc⟩ := h
  refine ⟨_, hb.set_ _ _, by simpa using hs, fun y hy j hj => ?_⟩
  rw [Array.getElem?_setIfInBounds]
  by_cases e : y = x
  · subst e
    rw [hv, Array.getElem?_setIfInBounds]
    by_cases e2 : k = j
    · subst e2
      rw [if_pos rfl, if_pos rfl, if_pos (by omega), if_pos (by show k < 8; exact hk)]
    · rw [if_neg (by omega), if_neg e2]; exact hc y hy j hj
  · rw [if_neg (by omega), hf y e]; exact hc y hy j hj
theorem IsN.setL {w : World} {gl : Nat} {f : Nat → Nd} {sz : Nat} (h : IsN w gl f sz) {x : Nat} (hx : x < sz) (v : Nat) : IsN (w.setCell ⟨gl, x * 8 + 2, none⟩ (.int .i64 v)) gl (setCh f x false v) sz :=
  h.set hx (by omega) (fun y hy => setCh_ne hy) (by simp [setCh, Nd.cells])
theorem IsN.setR {w : World} {gl : Nat} {f : Nat → Nd} {sz : Nat} (h : IsN w gl f sz) {x : Nat} (hx : x < sz) (v : Nat) : IsN (w.setCell ⟨gl, x * 8 + 3, none⟩ (.int .i64 v)) gl (setCh f x true v) sz :=
  h.set hx (by omega) (fun y hy => setCh_ne hy) (by simp [setCh, Nd.cells])
theorem IsN.setU {w : World} {gl : Nat} {f : Nat → Nd} {sz : Nat} (h : IsN w gl f sz) {x : Nat} (hx : x < sz) (v : Nat) : IsN (w.setCell ⟨gl, x * 8 + 4, none⟩ (.int .i64 v)) gl (Tr.setU f x v) sz :=
  h.set hx (by omega) (fun y hy => setU_ne hy) (by simp [Tr.setU, Nd.cells])
theorem IsN.setC {w : World} {gl : Nat} {f : Nat → Nd} {sz : Nat} (h : IsN w gl f sz) {x : Nat} (hx : x < sz) (c : Bool) : IsN (w.setCell ⟨gl, x * 8 + 5, none⟩ (.bool c)) gl (Tr.setC f x c) sz :=
  h.set hx (by omega) (fun y hy => setC_ne hy) (by simp [Tr.setC, Nd.cells])
/-- where a side's place lies in a node -/
def off (s : Bool) : Nat := if s then 3 else 2
theorem IsN.setS {w : World} {gl : Nat} {f : Nat → Nd} {sz : Nat} (h : IsN w gl f sz) {x : Nat} (hx : x < sz) (s : Bool) (v : Nat) : IsN (w.setCell ⟨gl, x * 8 + off s, none⟩ (.int .i64 v)) gl (setCh f x s v) sz := by
  cases s
  · exact h.setL hx v
  · exact h.setR hx v
/-- a tree's numbers -/
structure TS where
  f : Nat → Nd
  sz : Nat
  cap : Nat
  root : Nat
  n : Nat
  free : Nat
  most : Nat
/-- a block of nodes has room -/
def Room (w : World) (gl cap : Nat) : Prop := ∃ cur, Blk w gl 104 cur ∧ cap * 8 ≤ cur.size
theorem Room.same {w w' : World} {gl cap : Nat} (h : Room w gl cap) (e : w'.heap[gl]? = w.heap[gl]?) : Room w' gl cap := by obtain ⟨cur, hb, hs⟩ := h; exact ⟨cur, e.trans hb, hs⟩
theorem Room.set_ {w : World} {gl cap : Nat} (h : Room w gl cap) (i : Nat) (v : Value) : Room (w.setCell ⟨gl, i, none⟩ v) gl cap := by obtain ⟨cur, hb, hs⟩ := h; exact ⟨_, hb.set_ i v, by simpa using hs⟩
structure IsT (w : World) (g gl : Nat) (s : TS) : Prop where
  b : Blk w g 102 #[.slice (some ⟨gl, 0, none⟩) s.sz s.cap, .int .i64 s.root, .int .i64 s.n, .int .i64 s.free, .int .i64 s.most]
  n : IsN w gl s.f s.sz
  ne : g ≠ gl
  sz : 1 ≤ s.sz ∧ s.sz ≤ s.cap ∧ s.cap ≤ 10000
  room : Room w gl s.cap
/-- the tree's two blocks -/
def TF (g gl : Nat) (b : Nat) : Prop := b = g ∨ b = gl
theorem IsT.same {w w' : World} {g gl : Nat} {s : TS} (h : IsT w g gl s) (e : ∀ b, TF g gl b → w'.heap[b]? = w.heap[b]?) : IsT w' g gl s := ⟨(e g (.inl rfl)).trans h.b, h.n.same (e gl (.inr rfl)), h.ne, h.sz, h.room.same (e gl (.inr rfl))⟩
theorem IsT.foot_lt {w : World} {g gl : Nat} {s : TS} (h : IsT w g gl s) {b : Nat} (hb : TF g gl b) : b < w.heap.size := by
  rcases hb with rfl | rfl
  · exact h.b.lt
  · exact h.n.lt
theorem IsT.below {w w' : World} {g gl : Nat} {s : TS} (h : IsT w g gl s) (b : Below w.heap.size w w') : IsT w' g gl s := h.same fun i hi => b.block i (h.foot_lt hi)
theorem IsT.drewN {w : World} {g gl : Nat} {s : TS} (h : IsT w g gl s) (n : Nat) : IsT (w.drewN n) g gl s := h.same fun _ _ => rfl
theorem IsT.drew {w : World} {g gl : Nat} {s : TS} (h : IsT w g gl s) : IsT w.drew g gl s := h.same fun _ _ => rfl
theorem IsT.alloc {w : World} {g gl : Nat} {s : TS} (h : IsT w g gl s) (o : Obj) : IsT (w.alloc o) g gl s := h.below ((Below.refl _ _).alloc (Nat.le_refl _) o)
theorem IsT.far {w : World} {g gl : Nat} {s : TS} (h : IsT w g gl s) {p : Addr} (hp : ¬ TF g gl p.block) (u : Value) : IsT (w.setCell p u) g gl s := h.same fun b hb => Below.heap_setCell w p u b (by rintro rfl; exact hp hb)
/-- the nodes have changed alone -/
theorem IsT.nodes {w w' : World} {g gl : Nat} {s : TS} (h : IsT w g gl s) {f' : Nat → Nd} (n : IsN w' gl f' s.sz) (e : w'.heap[g]? = w.heap[g]?) (r : Room w' gl s.cap) : IsT w' g gl { s with f := f' } := ⟨e.trans h.b, n, h.ne, h.sz, r⟩
theorem IsT.setS {w : World} {g gl : Nat} {s : TS} (h : IsT w g gl s) {x : Nat} (hx : x < s.sz) (r : Bool) (v : Nat) : IsT (w.setCell ⟨gl, x * 8 + off r, none⟩ (.int .i64 v)) g gl { s with f := setCh s.f x r v } := h.nodes (h.n.setS hx r v) (Below.heap_setCell w _ _ g h.ne) (h.room.set_ _ _)
theorem IsT.setU {w : World} {g gl : Nat} {s : TS} (h : IsT w g gl s) {x : Nat} (hx : x < s.sz) (v : Nat) : IsT (w.setCell ⟨gl, x * 8 + 4, none⟩ (.int .i64 v)) g gl { s with f := Tr.setU s.f x v } := h.nodes (h.n.setU hx v) (Below.heap_setCell w _ _ g h.ne) (h.room.set_ _ _)
theorem IsT.setC {w : World} {g gl : Nat} {s : TS} (h : IsT w g gl s) {x : Nat} (hx : x < s.sz) (c : Bool) : IsT (w.setCell ⟨gl, x * 8 + 5, none⟩ (.bool c)) g gl { s with f := Tr.setC s.f x c } := h.nodes (h.n.setC hx c) (Below.heap_setCell w _ _ g h.ne) (h.room.set_ _ _)
theorem IsT.setRoot {w : World} {g gl : Nat} {s : TS} (h : IsT w g gl s) (v : Nat) : IsT (w.setCell ⟨g, 1, none⟩ (.int .i64 v)) g gl { s with root := v } := ⟨by simpa using h.b.set_ 1 (.int .i64 v), h.n.same (Below.heap_setCell w _ _ gl h.ne.symm), h.ne, h.sz, h.room.same (Below.heap_setCell w _ _ gl h.ne.symm)⟩
theorem IsT.hc {w : World} {g gl : Nat} {s : TS} (h : IsT w g gl s) : w.cell? ⟨g, 0, none⟩ = some (.slice (some ⟨gl, 0, none⟩) s.sz s.cap) ∧ w.cell? ⟨g, 1, none⟩ = some (.int .i64 s.root) ∧ w.cell? ⟨g, 2, none⟩ = some (.int .i64 s.n) ∧ w.cell? ⟨g, 3, none⟩ = some (.int .i64 s.free) ∧ w.cell? ⟨g, 4, none⟩ = some (.int .i64 s.most) := ⟨h.b.cell 0, h.b.cell 1, h.b.cell 2, h.b.cell 3, h.b.cell 4⟩
theorem IsT.l {w : World} {g gl : Nat} {s : TS} (h : IsT w g gl s) {x : Nat} (hx : x < s.sz) : w.cell? ⟨gl, x * 8 + 2, none⟩ = some (.int .i64 (s.f x).l) := h.n.cell x hx 2 (by omega)
theorem IsT.r {w : World} {g gl : Nat} {s : TS} (h : IsT w g gl s) {x : Nat} (hx : x < s.sz) : w.cell? ⟨gl, x * 8 + 3, none⟩ = some (.int .i64 (s.f x).r) := h.n.cell x hx 3 (by omega)
theorem IsT.u {w : World} {g gl : Nat} {s : TS} (h : IsT w g gl s) {x : Nat} (hx : x < s.sz) : w.cell? ⟨gl, x * 8 + 4, none⟩ = some (.int .i64 (s.f x).u) := h.n.cell x hx 4 (by omega)
theorem IsT.c {w : World} {g gl : Nat} {s : TS} (h : IsT w g gl s) {x : Nat} (hx : x < s.sz) : w.cell? ⟨gl, x * 8 + 5, none⟩ = some (.bool (s.f x).red) := h.n.cell x hx 5 (by omega)
theorem IsT.k {w : World} {g gl : Nat} {s : TS} (h : IsT w g gl s) {x : Nat} (hx : x < s.sz) : w.cell? ⟨gl, x * 8 + 6, none⟩ = some (.bool (s.f x).tak) := h.n.cell x hx 6 (by omega)
theorem IsT.t {w : World} {g gl : Nat} {s : TS} (h : IsT w g gl s) {x : Nat} (hx : x < s.sz) : w.cell? ⟨gl, x * 8 + 7, none⟩ = some (.int .i64 (s.f x).turn) := h.n.cell x hx 7 (by omega)
theorem IsT.sd {w : World} {g gl : Nat} {s : TS} (h : IsT w g gl s) {x : Nat} (hx : x < s.sz) (r : Bool) : w.cell? ⟨gl, x * 8 + off r, none⟩ = some (.int .i64 (ch s.f x r)) := by
  cases r
  · exact h.l hx
  · exact h.r hx
set_option maxHeartbeats 1000000 in
set_option maxRecDepth 100000 in
theorem child_any (g gl : Nat) (s : TS) (w : World) (h : IsT w g gl s) (x : Nat) (hx : x < s.sz) (r : Bool) :
    Calls Try.prog 52 #[.pointer (some ⟨g, 0, none⟩), .int .i64 x, .bool r] w fun e w' => e = .returned (.pointer (some ⟨gl, x * 8 + off r, none⟩)) ∧ w = w' := by
  obtain ⟨q0, _, _, _, _⟩ := h.hc
  have hs := h.sz
  cases r
  all_goals
    go_enter Try.func52, Try.ntmps52
    go_wp2
    go_ret
    exact ⟨rfl, rfl⟩
end Go.Proofs.Ytfoigflgglpobaa.Tr
/- The contracts of tree's hanging and turning. No condition but that a place is one. -/
set_option linter.unusedVariables false
set_option linter.unusedSimpArgs false
namespace Go.Proofs.Ytfoigflgglpobaa.Tr
open Go.RowKit Go.Proofs.Ytfoigflgglpobaa.Aid
/-- numbers whose nodes and root are others now -/
def TS.with (s : TS) (p : (Nat → Nd) × Nat) : TS := { s with f := p.1, root := p.2 }
theorem hangF_root {f : Nat → Nd} {root old x : Nat} (h : (f old).u = 0) : hangF f root old x = (setU f x 0, x) := by unfold hangF; rw [h]; rfl
theorem hangF_left {f : Nat → Nd} {root old x u : Nat} (h : (f old).u = u) (h0 : u ≠ 0) (hl : (f u).l = old) : hangF f root old x = (setU (setCh f u false x) x u, root) := by unfold hangF; rw [h, if_neg h0, if_neg h0, if_pos hl]
theorem hangF_right {f : Nat → Nd} {root old x u : Nat} (h : (f old).u = u) (h0 : u ≠ 0) (hl : ¬ (f u).l = old) : hangF f root old x = (setU (setCh f u true x) x u, root) := by unfold hangF; rw [h, if_neg h0, if_neg h0, if_neg hl]
set_option maxHeartbeats 1000000 in
set_option maxRecDepth 100000 in
theorem hang_any (g gl : Nat) (s : TS) (w : World) (h : IsT w g gl s) (old x : Nat) (ho : old < s.sz) (hx : x < s.sz) (hu : (s.f old).u < s.sz) :
    Calls Try.prog 73 #[.pointer (some ⟨g, 0, none⟩), .int .i64 old, .int .i64 x] w fun e w' => e = .returned (.tuple #[]) ∧ IsT w' g gl (s.with (hangF s.f s.root old x)) ∧ Only (TF g gl) w w' := by
  obtain ⟨q0, q1, _, _, _⟩ := h.hc
  have hs := h.sz
  have hne := h.ne
  have hne2 := h.ne.symm
  have c1 := h.u ho
  have f1 := h.n.frozen
  have f2 := h.b.frozen
  have OO := Lib.hid (Only.refl (TF g gl) w)
  obtain ⟨u, eu⟩ : ∃ u, (s.f old).u = u := ⟨_, rfl⟩
  rw [eu] at c1 hu
  have H := Lib.hid h
  clear h
  by_cases h0 : u = 0
  · subst h0
    have HF := Lib.hid (hangF_root (root := s.root) (x := x) eu)
    clear eu
    go_enter Try.func73, Try.ntmps73
    go_upto_region 6 with fail
    have h1 := H.out.setRoot x
    have O1 := OO.out.setCell (p := ⟨g, 1, none⟩) (.inl (.inl rfl)) (.int .i64 x)
    generalize w.setCell ⟨g, 1, none⟩ (.int .i64 x) = W at h1 O1 ⊢
    clear q0 q1 c1 f1 f2
    obtain ⟨q0, _, _, _, _⟩ := h1.hc
    have c5 := h1.u hx
    have f1 := h1.n.frozen
    go_wp2_with fail
    go_end0
    rw [HF.out]
    exact ⟨rfl, h1.setU hx 0, O1.setCell (.inl (.inr rfl)) _⟩
  · have c2 := H.out.l hu
    have c3 := H.out.r hu
    have c0 : ¬ ((u : Nat) : Int) = 0 := by omega
    by_cases hl : (s.f u).l = old
    · have HF := Lib.hid (hangF_left (root := s.root) (x := x) eu h0 hl)
      have HN : Hid (u ≠ 0) := Lib.hid h0
      rw [hl] at c2
      clear eu h0 hl
      go_enter Try.func73, Try.ntmps73
      go_upto_region 6 with fail
      have h1 : IsT (w.setCell ⟨gl, u * 8 + 2, none⟩ (.int .i64 x)) g gl { s with f := setCh s.f u false x } := H.out.setS hu false x
      have O1 := OO.out.setCell (p := ⟨gl, u * 8 + 2, none⟩) (.inl (.inr rfl)) (.int .i64 x)
      generalize w.setCell ⟨gl, u * 8 + 2, none⟩ (.int .i64 x) = W at h1 O1 ⊢
      clear q0 q1 c1 c2 c3 f1 f2
      obtain ⟨q0, _, _, _, _⟩ := h1.hc
      have c5 := h1.u hx
      have f1 := h1.n.frozen
      go_wp2_with fail
      go_end0
      rw [HF.out]
      exact ⟨rfl, h1.setU hx u, O1.setCell (.inl (.inr rfl)) _⟩
    · have HF := Lib.hid (hangF_right (root := s.root) (x := x) eu h0 hl)
      have c4 : ¬ ((((s.f u).l : Nat) : Int) = ((old : Nat) : Int)) := by omega
      clear eu h0 hl
      generalize (s.f u).l = ll at c2 c4
      go_enter Try.func73, Try.ntmps73
      go_upto_region 6 with fail
      have h1 : IsT (w.setCell ⟨gl, u * 8 + 3, none⟩ (.int .i64 x)) g gl { s with f := setCh s.f u true x } := H.out.setS hu true x
      have O1 := OO.out.setCell (p := ⟨gl, u * 8 + 3, none⟩) (.inl (.inr rfl)) (.int .i64 x)
      generalize w.setCell ⟨gl, u * 8 + 3, none⟩ (.int .i64 x) = W at h1 O1 ⊢
      clear q0 q1 c1 c2 c3 f1 f2
      obtain ⟨q0, _, _, _, _⟩ := h1.hc
      have c5 := h1.u hx
      have f1 := h1.n.frozen
      go_wp2_with fail
      go_end0
      rw [HF.out]
      exact ⟨rfl, h1.setU hx u, O1.setCell (.inl (.inr rfl)) _⟩
/-- all that nodes point at are places -/
def Lk (f : Nat → Nd) (sz : Nat) : Prop := ∀ z, z < sz → (f z).l < sz ∧ (f z).r < sz ∧ (f z).u < sz
theorem Lk.ch {f : Nat → Nd} {sz : Nat} (h : Lk f sz) {z : Nat} (hz : z < sz) (r : Bool) : Tr.ch f z r < sz := by
  cases r
  · exact (h z hz).1
  · exact (h z hz).2.1
theorem Lk.setCh {f : Nat → Nd} {sz : Nat} (h : Lk f sz) (x : Nat) (hx : x < sz) (r : Bool) {v : Nat} (hv : v < sz) : Lk (Tr.setCh f x r v) sz := fun z hz => by
  by_cases e : z = x
  · subst e
    have := h z hz
    unfold Tr.setCh; rw [if_pos rfl]
    cases r
    · exact ⟨hv, this.2.1, this.2.2⟩
    · exact ⟨this.1, hv, this.2.2⟩
  · rw [setCh_ne e]; exact h z hz
theorem Lk.setU {f : Nat → Nd} {sz : Nat} (h : Lk f sz) (x : Nat) {v : Nat} (hv : v < sz) : Lk (Tr.setU f x v) sz := fun z hz => by
  by_cases e : z = x
  · subst e
    have := h z hz
    unfold Tr.setU; rw [if_pos rfl]
    exact ⟨this.1, this.2.1, hv⟩
  · rw [setU_ne e]; exact h z hz
theorem Lk.setC {f : Nat → Nd} {sz : Nat} (h : Lk f sz) (x : Nat) (c : Bool) : Lk (Tr.setC f x c) sz := fun z hz => by
  by_cases e : z = x
  · subst e
    have := h z hz
    unfold Tr.setC; rw [if_pos rfl]
    exact this
  · rw [setC_ne e]; exact h z hz
theorem Lk.hang {f : Nat → Nd} {sz root : Nat} (h : Lk f sz) (hr : root < sz) {old x : Nat} (ho : old < sz) (hx : x < sz) : Lk (hangF f root old x).1 sz ∧ (hangF f root old x).2 < sz := by
  unfold hangF
  refine ⟨Lk.setU ?_ x (h old ho).2.2, ?_⟩
  · split
    · exact h
    · split <;> exact h.setCh _ (h old ho).2.2 _ hx
  · dsimp only; split
    · exact hx
    · exact hr
theorem Lk.turn {f : Nat → Nd} {sz root : Nat} (h : Lk f sz) (hr : root < sz) {x : Nat} (hx : x < sz) (r : Bool) : Lk (turnF f root x r).1 sz ∧ (turnF f root x r).2 < sz := by
  have hy := h.ch hx (!r)
  have hi := h.ch hy r
  unfold turnF
  dsimp only
  have h2 : Lk (if Tr.ch f (Tr.ch f x (!r)) r = 0 then Tr.setCh f x (!r) (Tr.ch f (Tr.ch f x (!r)) r) else Tr.setU (Tr.setCh f x (!r) (Tr.ch f (Tr.ch f x (!r)) r)) (Tr.ch f (Tr.ch f x (!r)) r) x) sz := by
    split
    · exact h.setCh x hx _ hi
    · exact (h.setCh x hx _ hi).setU _ hx
  have h3 := h2.hang hr (root := root) hx hy
  exact ⟨(h3.1.setCh _ hy r hx).setU x hy, h3.2⟩
set_option maxHeartbeats 1000000 in
set_option maxRecDepth 100000 in
theorem turn_any (g gl : Nat) (s : TS) (w : World) (h : IsT w g gl s) (hk : Lk s.f s.sz) (hr : s.root < s.sz) (x : Nat) (hx : x < s.sz) (r : Bool) :
    Calls Try.prog 72 #[.pointer (some ⟨g, 0, none⟩), .int .i64 x, .bool r] w fun e w' => e = .returned (.tuple #[]) ∧ IsT w' g gl (s.with (turnF s.f s.root x r)) ∧ Only (TF g gl) w w' := by
  obtain ⟨y, hy⟩ : ∃ y, ch s.f x (!r) = y := ⟨_, rfl⟩
  obtain ⟨i, hi⟩ : ∃ i, ch s.f y r = i := ⟨_, rfl⟩
  have ly : y < s.sz := by rw [← hy]; exact hk.ch hx _
  have li : i < s.sz := by rw [← hi]; exact hk.ch ly _
  obtain ⟨f2, hf2⟩ : ∃ f2, (if i = 0 then setCh s.f x (!r) i else setU (setCh s.f x (!r) i) i x) = f2 := ⟨_, rfl⟩
  have hk2 : Lk f2 s.sz := by
    rw [← hf2]
    split
    · exact hk.setCh x hx _ li
    · exact (hk.setCh x hx _ li).setU _ hx
  obtain ⟨H2, hH2⟩ : ∃ H2, hangF f2 s.root x y = H2 := ⟨_, rfl⟩
  have HFe : turnF s.f s.root x r = (setU (setCh H2.1 y r x) x y, H2.2) := by
    unfold turnF
    simp only [hy, hi, hf2, hH2]
  have HF := Lib.hid HFe
  clear HFe
  have HI := Lib.hid hi
  have HY := Lib.hid hy
  have HF2 := Lib.hid hf2
  have HK2 := Lib.hid hk2
  have HH2 := Lib.hid hH2
  have HX := Lib.hid hx
  have HLY := Lib.hid ly
  have HLI := Lib.hid li
  clear hi hy hf2 hk2 hH2
  have H := Lib.hid h
  have OO := Lib.hid (Only.refl (TF g gl) w)
  have cx := h.sd hx (!r)
  rw [HY.out] at cx
  go_enter Try.func72, Try.ntmps72
  go_wp2_with fail
  refine (child_any g gl s w h x hx (!r)).mono ?_
  rintro e w1 ⟨rfl, rfl⟩
  have cy := h.sd ly r
  rw [HI.out] at cy
  go_wp2_with fail
  refine (child_any g gl s w h y ly r).mono ?_
  rintro e w1 ⟨rfl, rfl⟩
  go_wp2_with fail
  refine (child_any g gl s w h x hx (!r)).mono ?_
  rintro e w1 ⟨rfl, rfl⟩
  clear cy
  have F := h.n.frozen
  clear h
  go_upto_region 3 with fail
  have h1 := H.out.setS hx (!r) i
  have O1 := OO.out.setCell (p := ⟨gl, x * 8 + off (!r), none⟩) (.inl (.inr rfl)) (.int .i64 i)
  generalize w.setCell ⟨gl, x * 8 + off (!r), none⟩ (.int .i64 i) = W1 at h1 O1 ⊢
  clear F cx
  have q0 := h1.hc.1
  have hs := h1.sz
  have ci := h1.u li
  have F := h1.n.frozen
  simp only at q0 hs
  go_upto_if 29 with fail
  go_cut [7] (fun s7 wx => IsT wx g gl { s with f := f2 } ∧ Only (TF g gl) w wx)
  case first =>
    by_cases h0 : i = 0
    · have e2 := HF2.out
      rw [if_pos h0] at e2
      have h1' : IsT W1 g gl { s with f := f2 } := by rw [← e2]; exact h1
      have c0 : ((i : Nat) : Int) = 0 := by omega
      have H1 := Lib.hid h1'
      clear h1 h1' e2 h0
      go_wp2
      go_meet
      exact ⟨H1.out, O1⟩
    · have e2 := HF2.out
      rw [if_neg h0] at e2
      have h1' : IsT (W1.setCell ⟨gl, i * 8 + 4, none⟩ (.int .i64 x)) g gl { s with f := f2 } := by rw [← e2]; exact h1.setU li x
      have c0 : ¬ ((i : Nat) : Int) = 0 := by omega
      have H1 := Lib.hid h1'
      clear h1 h1' e2 h0
      go_wp2
      go_meet
      exact ⟨H1.out, O1.setCell (.inl (.inr rfl)) _⟩
  case rest =>
    obtain ⟨h2, O2⟩ := hcut
    clear q0 hs ci F h1 O1 W1
    have KU := HK2.out
    go_wp2_with fail
    refine (hang_any g gl { s with f := f2 } wc h2 x y HX.out HLY.out (KU x HX.out).2.2).mono ?_
    rintro e W3 ⟨rfl, h3, O3⟩
    have O23 := O2.then O3
    simp only [TS.with, HH2.out] at h3
    go_wp2_with fail
    refine (child_any g gl _ W3 h3 y HLY.out r).mono ?_
    rintro e w1 ⟨rfl, rfl⟩
    have F := h3.n.frozen
    have cy := h3.sd (x := y) HLY.out r
    go_upto_region 7 with fail
    have h4 := h3.setS (x := y) HLY.out r x
    have O4 := O23.setCell (p := ⟨gl, y * 8 + off r, none⟩) (.inl (.inr rfl)) (.int .i64 x)
    clear O23 O2 O3 h2
    generalize W3.setCell ⟨gl, y * 8 + off r, none⟩ (.int .i64 x) = W4 at h4 O4 ⊢
    clear F cy h3
    have q0 := h4.hc.1
    have cx := h4.u (x := x) HX.out
    have F := h4.n.frozen
    have hs := h4.sz
    simp only at q0 hs
    have hx := HX.out
    go_wp2_with fail
    go_end0
    rw [HF.out]
    exact ⟨rfl, h4.setU (x := x) HX.out y, O4.setCell (.inl (.inr rfl)) _⟩
end Go.Proofs.Ytfoigflgglpobaa.Tr
/- A label that the run jumps back to: a relation that bears a number, which each jump lowers. No program in sight; no condition. -/
set_option linter.unusedVariables false
namespace Go.Proofs.Ytfoigflgglpobaa.Aid
open Go.RowKit
theorem bne_i {a b : Int} (h : ¬ a = b) : (a != b) = true := by simp [h]
theorem beq_i {a b : Int} (h : ¬ a = b) : (a == b) = false := by simp [h]
theorem jump_ret {l : Nat} {J : Act → World → Prop} {Q : Exit → Act → World → Prop} {a : Act} {w : World} : Exit.jump l J Q .ret a w = Q .ret a w := rfl
theorem jump_normal {l : Nat} {J : Act → World → Prop} {Q : Exit → Act → World → Prop} {a : Act} {w : World} : Exit.jump l J Q .normal a w = Q .normal a w := rfl
theorem jump_goto {l : Nat} {J : Act → World → Prop} {Q : Exit → Act → World → Prop} {a : Act} {w : World} (h : J a w) : Exit.jump l J Q (.goto l) a w := ⟨rfl, h⟩
theorem wp_scope_ghost {P : Program} {Q : Exit → Act → World → Prop} {a : Act} {w : World} {c rest : Code} (l : Nat) (hf : findLabel c l = some rest) (I : Nat → Act → World → Prop)
    (first : c.wp P (Exit.jump l (fun a w => ∃ n, I n a w) Q) a w)
    (round : ∀ n a w, I n a w → ∀ (J : Nat → Act → World → Prop) (K : Act → World → Prop), (∀ k a' w', I k a' w' → J k a' w') → (∀ a' w', Handed J n a' w' → K a' w') → rest.wp P (Exit.jump l K Q) a w) : (Code.scope c).wp P Q a w := by
  refine wp_scope_jumps l (fun a w => ∃ n, I n a w) (fun a w => leastOf (fun n => I n a w)) hf first ?_
  intro a w hI
  refine wp_mono (round _ a w (leastOf_spec hI).1 I _ (fun _ _ _ q => q) fun _ _ q => q) ?_
  intro e a' w' hq
  cases e with
  | normal => exact hq
  | exit id => exact hq
  | goto l' =>
    obtain ⟨hl, n', hlt, hI'⟩ := hq
    exact ⟨hl, ⟨n', hI'⟩, Nat.lt_of_le_of_lt ((leastOf_spec ⟨n', hI'⟩).2 n' hI') hlt⟩
  | ret => exact hq
  | panic ch => exact hq
  | outgrown => exact hq
theorem wp_scope_again {P : Program} {Q : Exit → Act → World → Prop} {a : Act} {w : World} {rest : Code} {l : Nat} (I : Nat → Act → World → Prop) (n₀ : Nat) (h₀ : I n₀ a w)
    (round : ∀ n a w, I n a w → ∀ (J : Nat → Act → World → Prop) (K : Act → World → Prop), (∀ k a' w', I k a' w' → J k a' w') → (∀ a' w', Handed J n a' w' → K a' w') → rest.wp P (Exit.jump l K Q) a w) : (Code.scope ((Code.label l).seq rest)).wp P Q a w := by
  refine wp_scope_ghost (rest := Code.skip.seq rest) l (by simp [findLabel]) I ?_ (fun n a w h J K h1 h2 => wp_seq (wp_skip (show rest.wp P _ a w from round n a w h J K h1 h2)))
  refine wp_seq (wp_label ?_)
  show rest.wp P _ a w
  refine wp_mono (round n₀ a w h₀ I _ (fun _ _ _ q => q) fun _ _ q => q) ?_
  intro e a' w' hq
  cases e with
  | normal => exact hq
  | exit id => exact hq
  | goto l' =>
    obtain ⟨hl, n', hlt, hI'⟩ := hq
    exact ⟨hl, n', hI'⟩
  | ret => exact hq
  | panic ch => exact hq
  | outgrown => exact hq
/-- with a statement ahead of the label -/
theorem wp_scope_behind {P : Program} {Q : Exit → Act → World → Prop} {a : Act} {w : World} {x rest : Code} {l : Nat} (hx : findLabel x l = none) (I : Nat → Act → World → Prop)
    (ahead : ∀ R : Act → World → Prop, (∀ n a' w', I n a' w' → R a' w') → x.wp P (Exit.then R (Exit.noGoto Q)) a w)
    (round : ∀ n a w, I n a w → ∀ (J : Nat → Act → World → Prop) (K : Act → World → Prop), (∀ k a' w', I k a' w' → J k a' w') → (∀ a' w', Handed J n a' w' → K a' w') → rest.wp P (Exit.jump l K Q) a w) : (Code.scope (x.seq ((Code.label l).seq rest))).wp P Q a w := by
  refine wp_scope_ghost (rest := Code.skip.seq rest) l (by simp [findLabel, hx]) I ?_ (fun n a w h J K h1 h2 => wp_seq (wp_skip (show rest.wp P _ a w from round n a w h J K h1 h2)))
  refine wp_seq (wp_mono (ahead (fun a w => ∃ n, I n a w) (fun n _ _ h => ⟨n, h⟩)) ?_)
  intro e a' w' hq
  cases e with
  | normal =>
    obtain ⟨n, hI⟩ := hq
    refine wp_seq (wp_label ?_)
    refine wp_mono (round n a' w' hI I _ (fun _ _ _ q => q) fun _ _ q => q) ?_
    intro e a' w' hq
    cases e with
    | normal => exact hq
    | exit id => exact hq
    | goto l' =>
      obtain ⟨hl, n', hlt, hI'⟩ := hq
      exact ⟨hl, n', hI'⟩
    | ret => exact hq
    | panic ch => exact hq
    | outgrown => exact hq
  | exit id => exact hq
  | goto l' => exact hq.elim
  | ret => exact hq
  | panic ch => exact hq
  | outgrown => exact hq
end Go.Proofs.Ytfoigflgglpobaa.Aid
/- What a tree's small readers tell: the first place below one, the next place. No condition but that memory holds a tree. -/
set_option linter.unusedVariables false
set_option linter.unusedSimpArgs false
namespace Go.Proofs.Ytfoigflgglpobaa.Tr
open Go.RowKit Go.Proofs.Ytfoigflgglpobaa.Aid
/-- the first place -/
def Sh.fst : Sh → Nat
  | .nil => 0
  | .node _ x k => if (k false).root = 0 then x else (k false).fst
theorem rep_root {f : Nat → Nd} {t : Sh} {up : Nat} (h : Rep f t up) (e : t.root = 0) : t = .nil := by
  cases t with
  | nil => rfl
  | node c x k => exact absurd e h.1
theorem fst_ino {f : Nat → Nd} (t : Sh) : ∀ {up : Nat}, Rep f t up → t.fst = t.ino.head?.getD 0 := by
  induction t with
  | nil => intro up _; rfl
  | node c x k ih =>
    intro up h
    obtain ⟨h0, h1, h2, h3, h4⟩ := h
    unfold Sh.fst Sh.ino
    by_cases e : (k false).root = 0
    · rw [if_pos e, rep_root (h4 false) e]; rfl
    · rw [if_neg e, ih false (h4 false)]
      cases hk : (k false).ino with
      | nil => exact absurd (hk ▸ root_mem e) (by simp)
      | cons y l => rfl
/-- the next place of a way down -/
def Cx.next : Cx → Nat
  | .top => 0
  | .fr _ x s _ k => if s then k.next else x
theorem next_post (k : Cx) : k.next = k.post.head?.getD 0 := by
  induction k with
  | top => rfl
  | fr c x s sib k ih =>
    cases s
    · rfl
    · simpa [Cx.next, Cx.post] using ih
/-- the next place of a node in a tree -/
def nextOf (k : Cx) (kx : Bool → Sh) : Nat := if (kx true).root = 0 then k.next else (kx true).fst
theorem nextOf_list {f : Nat → Nd} {k : Cx} {c : Bool} {x : Nat} {kx : Bool → Sh} {up : Nat} (h : Rep f (.node c x kx) up) : nextOf k kx = ((kx true).ino ++ k.post).head?.getD 0 := by
  obtain ⟨h0, h1, h2, h3, h4⟩ := h
  unfold nextOf
  by_cases e : (kx true).root = 0
  · rw [if_pos e, rep_root (h4 true) e, next_post]; rfl
  · rw [if_neg e, fst_ino _ (h4 true)]
    cases hk : (kx true).ino with
    | nil => exact absurd (hk ▸ root_mem e) (by simp)
    | cons y l => rfl
theorem plug_list (k : Cx) (c : Bool) (x : Nat) (kx : Bool → Sh) : (k.plug (.node c x kx)).ino = (k.pre ++ (kx false).ino) ++ x :: ((kx true).ino ++ k.post) := by
  rw [plug_ino]; simp [Sh.ino, List.append_assoc]
/-- each place of a tree hangs at the end of a way down -/
theorem way_to {f : Nat → Nd} {root : Nat} {x : Nat} (t : Sh) : ∀ (k : Cx), Rep f t k.up → RepC f root k t.root → x ∈ t.ino → ∃ K c kx, Rep f (.node c x kx) K.up ∧ RepC f root K x ∧ K.plug (.node c x kx) = k.plug t := by
  induction t with
  | nil => intro k _ _ h; exact absurd h (by simp [Sh.ino])
  | node c y ky ih =>
    intro k h hc hx
    rcases (mem_node false).1 hx with rfl | hx | hx
    · exact ⟨k, c, ky, h, hc, rfl⟩
    · obtain ⟨h1, h2⟩ := RepC.over false h hc
      obtain ⟨K, c', kx, a1, a2, a3⟩ := ih false (.fr c y false (ky (!false)) k) h1 h2 hx
      exact ⟨K, c', kx, a1, a2, a3.trans (by simp only [Cx.plug]; rw [two_eta])⟩
    · obtain ⟨h1, h2⟩ := RepC.over true h hc
      obtain ⟨K, c', kx, a1, a2, a3⟩ := ih true (.fr c y true (ky (!true)) k) h1 h2 hx
      exact ⟨K, c', kx, a1, a2, a3.trans (by simp only [Cx.plug]; rw [two_eta])⟩
def MFr (g x : Nat) (a : Act) : Prop := ∃ u2 u3 u4 u5 u6 u7 u8 u9 u10 u11 u12 u13 u14 u15 u16 u17 u18 u19 u20 u21 u22 u23 u24 u25 u26 : Value, a = { tmps := #[.pointer (some ⟨g, 0, none⟩), .int .i64 x, u2, u3, u4, u5, u6, u7, u8, u9, u10, u11, u12, u13, u14, u15, u16, u17, u18, u19, u20, u21, u22, u23, u24, u25, u26], defers := [] }
def MRel (g : Nat) (s : TS) (F : Nat) (w : World) (m : Nat) (a : Act) (wr : World) : Prop :=
  ∃ t u, Rep s.f t u ∧ (∀ z, z ∈ t.ino → z < s.sz) ∧ t.fst = F ∧ t.ino.length ≤ m ∧ wr = w ∧ MFr g t.root a
set_option maxHeartbeats 1000000 in
set_option maxRecDepth 100000 in
theorem most_any (g gl : Nat) (s : TS) (w : World) (h : IsT w g gl s) (t : Sh) (u : Nat) (ht : Rep s.f t u) (hz : ∀ z, z ∈ t.ino → z < s.sz) :
    Calls Try.prog 56 #[.pointer (some ⟨g, 0, none⟩), .int .i64 t.root] w fun e w' => e = .returned (.int .i64 t.fst) ∧ w = w' := by
  obtain ⟨F, hF⟩ : ∃ F, t.fst = F := ⟨_, rfl⟩
  obtain ⟨R, hR⟩ : ∃ R, t.root = R := ⟨_, rfl⟩
  have S : Hid (∀ a, MFr g R a → MRel g s F w t.ino.length a w) := Lib.hid fun a ha => ⟨t, u, ht, hz, hF, Nat.le_refl _, rfl, by rw [hR]; exact ha⟩
  rw [hF, hR]
  obtain ⟨q0, _, _, _, _⟩ := h.hc
  have H := Lib.hid h
  have hs := h.sz
  clear ht hz hF hR h
  go_enter Try.func56, Try.ntmps56
  go_wp2
  refine wp_scope_again (MRel g s F w) t.ino.length (S.out _ ⟨_, _, _, _, _, _, _, _, _, _, _, _, _, _, _, _, _, _, _, _, _, _, _, _, _, rfl⟩) ?_
  rintro m a' w' ⟨t', u', ht, hz, hF, hm, rfl, ⟨u2, u3, u4, u5, u6, u7, u8, u9, u10, u11, u12, u13, u14, u15, u16, u17, u18, u19, u20, u21, u22, u23, u24, u25, u26, rfl⟩⟩ J K hJ hK
  have HM := Lib.hid hm
  have HJ := Lib.hid hJ
  have HK := Lib.hid hK
  clear hm S hJ hK
  cases t' with
  | nil =>
    simp only [Sh.fst, Sh.root] at hF ⊢
    subst hF
    go_wp2
    rw [jump_ret]
    go_ret
    exact ⟨rfl, rfl⟩
  | node c x k =>
    obtain ⟨h0, h1, h2, h3, h4⟩ := ht
    have hx : x < s.sz := hz x (by simp [Sh.ino])
    have hc := H.out.l hx
    have e1 : (s.f x).l = (k false).root := h3 false
    rw [e1] at hc
    have c0 : ¬ ((x : Nat) : Int) = 0 := by omega
    have hroot : (Sh.node c x k).root = x := rfl
    rw [hroot]
    unfold Sh.fst at hF
    by_cases e : (k false).root = 0
    · rw [if_pos e] at hF
      rw [e] at hc
      subst hF
      clear h0 h1 h2 h3 h4 e1 hz HM e hroot
      go_wp2
      rw [jump_ret]
      go_ret
      exact ⟨rfl, rfl⟩
    · rw [if_neg e] at hF
      have hlen : (k false).ino.length + 1 ≤ (Sh.node c x k).ino.length := by simp [Sh.ino]
      have S2 : Hid (∀ a, MFr g (k false).root a → MRel g s F w' (k false).ino.length a w') := Lib.hid fun a ha => ⟨k false, x, h4 false, fun z hz' => hz z (mem_ino_side false hz'), hF, Nat.le_refl _, rfl, ha⟩
      have HL := Lib.hid hlen
      generalize (k false).root = R2 at hc e S2
      have c1 := bne_i (show ¬ ((R2 : Nat) : Int) = 0 by omega)
      have c2 := bne_i c0
      clear h0 h1 h2 h3 h4 e1 hz hroot hF hlen e
      go_wp2
      go_step3
      refine ⟨rfl, (HK.out _ _ (Handed.intro (k false).ino.length (by have := HM.out; have := HL.out; omega) (HJ.out _ _ _ (S2.out _ ⟨_, _, _, _, _, _, _, _, _, _, _, _, _, _, _, _, _, _, _, _, _, _, _, _, _, rfl⟩))))⟩
def AFr (g x : Nat) (a : Act) : Prop := ∃ u2 u3 u4 u5 u6 u7 u8 u9 u10 u11 u12 u13 u14 u15 u16 u17 u18 u19 u20 u21 u22 u23 u24 u25 u26 u27 u28 u29 u30 u31 u32 u33 u34 u35 u36 u37 u38 u39 u40 u41 u42 u43 u44 u45 u46 u47 u48 : Value, a = { tmps := #[.pointer (some ⟨g, 0, none⟩), .int .i64 x, u2, u3, u4, u5, u6, u7, u8, u9, u10, u11, u12, u13, u14, u15, u16, u17, u18, u19, u20, u21, u22, u23, u24, u25, u26, u27, u28, u29, u30, u31, u32, u33, u34, u35, u36, u37, u38, u39, u40, u41, u42, u43, u44, u45, u46, u47, u48], defers := [] }
structure ASt (s : TS) (F : Nat) (k : Cx) (h : Nat) : Prop where
  rc : RepC s.f s.root k h
  u : (s.f h).u = k.up
  h0 : h ≠ 0
  nin : h ∉ k.all
  nd : k.all.Nodup
  lt : ∀ z, z ∈ k.all → z < s.sz
  hlt : h < s.sz
  nx : k.next = F
def ARel (g : Nat) (s : TS) (F : Nat) (w : World) (m : Nat) (a : Act) (wr : World) : Prop := ∃ k h, ASt s F k h ∧ k.len ≤ m ∧ wr = w ∧ AFr g h a
theorem ASt.up {s : TS} {F : Nat} {c : Bool} {y : Nat} {sib : Sh} {k : Cx} {h : Nat} (a : ASt s F (.fr c y true sib k) h) : ASt s F k y ∧ (s.f y).r = h := by
  obtain ⟨h0, h1, h2, h3, h4, h5, h6⟩ := a.rc
  have hn := List.nodup_cons.1 a.nd
  refine ⟨⟨h6, h2, h0, fun hz => hn.1 (by simp [hz]), (List.nodup_append.1 hn.2).2.1, fun z hz => a.lt z (by simp [Cx.all, hz]), a.lt y (by simp [Cx.all]), ?_⟩, h3⟩
  have := a.nx
  simpa [Cx.next] using this
theorem ASt.stop {s : TS} {F : Nat} {c : Bool} {y : Nat} {sib : Sh} {k : Cx} {h : Nat} (a : ASt s F (.fr c y false sib k) h) : F = y ∧ (s.f y).r ≠ h := by
  obtain ⟨h0, h1, h2, h3, h4, h5, h6⟩ := a.rc
  refine ⟨by have := a.nx; simpa [Cx.next] using this.symm, fun e => a.nin ?_⟩
  have h7 : (s.f y).r = sib.root := h4
  have h8 : sib.root ≠ 0 := by rw [← h7, e]; exact a.h0
  have := root_mem h8
  rw [← h7, e] at this
  simp [Cx.all, this]
set_option maxHeartbeats 1000000 in
set_option maxRecDepth 100000 in
theorem after_any (g gl : Nat) (s : TS) (w : World) (h : IsT w g gl s) (C : Cx) (c : Bool) (x : Nat) (kx : Bool → Sh) (ht : Rep s.f (.node c x kx) C.up) (hc : RepC s.f s.root C x) (hnd : (C.plug (.node c x kx)).ino.Nodup) (hz : ∀ z, z ∈ (C.plug (.node c x kx)).ino → z < s.sz) :
    Calls Try.prog 59 #[.pointer (some ⟨g, 0, none⟩), .int .i64 x] w fun e w' => e = .returned (.int .i64 (nextOf C kx)) ∧ w = w' := by
  have hp := plug_perm C (.node c x kx)
  obtain ⟨n1, n2, n3⟩ := List.nodup_append.1 (hp.nodup_iff.1 hnd)
  have hx : x < s.sz := hz x (hp.mem_iff.2 (List.mem_append_left _ ((mem_node true).2 (.inl rfl))))
  have ht' := ht
  obtain ⟨h0, h1, h2, h3, h4⟩ := ht
  have e1 : (s.f x).r = (kx true).root := h3 true
  have cr := h.r hx
  have cu := h.u hx
  rw [e1] at cr
  obtain ⟨q0, _, _, _, _⟩ := h.hc
  have H := Lib.hid h
  have hs := h.sz
  by_cases e : (kx true).root = 0
  · have en : nextOf C kx = C.next := by unfold nextOf; rw [if_pos e]
    rw [en]
    have S : ASt s C.next C x := ⟨hc, h2, h0, fun hm => n3 x ((mem_node true).2 (.inl rfl)) x hm rfl, n2, fun z hz' => hz z (hp.mem_iff.2 (List.mem_append_right _ hz')), hx, rfl⟩
    have HS := Lib.hid S
    rw [e] at cr
    generalize C.next = F at HS S
    clear h0 h1 h2 h3 h4 e1 n1 n2 n3 hp hnd hz hc S en ht'
    go_enter Try.func59, Try.ntmps59
    go_wp2
    refine wp_scope_behind rfl (ARel g s F w) ?_ ?_
    · intro R hR
      go_wp2
      refine hR C.len _ _ ⟨C, x, HS.out, Nat.le_refl _, rfl, ⟨_, _, _, _, _, _, _, _, _, _, _, _, _, _, _, _, _, _, _, _, _, _, _, _, _, _, _, _, _, _, _, _, _, _, _, _, _, _, _, _, _, _, _, _, _, _, _, rfl⟩⟩
    · rintro m a' w' ⟨k, hh, A, hm, rfl, ⟨u2, u3, u4, u5, u6, u7, u8, u9, u10, u11, u12, u13, u14, u15, u16, u17, u18, u19, u20, u21, u22, u23, u24, u25, u26, u27, u28, u29, u30, u31, u32, u33, u34, u35, u36, u37, u38, u39, u40, u41, u42, u43, u44, u45, u46, u47, u48, rfl⟩⟩ J K hJ hK
      have HM := Lib.hid hm
      have HJ := Lib.hid hJ
      have HK := Lib.hid hK
      have hhl := A.hlt
      have cu := H.out.u hhl
      rw [A.u] at cu
      clear hm HS hJ hK cr e h hx
      cases k with
      | top =>
        have hF : 0 = F := A.nx
        subst hF
        simp only [Cx.up] at cu
        clear A
        go_wp2
        rw [jump_ret]
        go_ret
        exact ⟨rfl, rfl⟩
      | fr cc y sd sib k =>
        have hy : y < s.sz := A.lt y (by simp [Cx.all])
        have cry := H.out.r hy
        have c0 : ¬ ((y : Nat) : Int) = 0 := by have : y ≠ 0 := A.rc.1; omega
        have c2 := bne_i c0
        simp only [Cx.up] at cu
        cases sd with
        | true =>
          obtain ⟨A2, e2⟩ := A.up
          rw [e2] at cry
          have HA := Lib.hid A2
          clear A A2 e2
          go_wp2
          go_step3
          refine ⟨rfl, (HK.out _ _ (Handed.intro k.len (by have := HM.out; simp only [Cx.len] at this; omega) (HJ.out _ _ _ ⟨k, y, HA.out, Nat.le_refl _, rfl, ⟨_, _, _, _, _, _, _, _, _, _, _, _, _, _, _, _, _, _, _, _, _, _, _, _, _, _, _, _, _, _, _, _, _, _, _, _, _, _, _, _, _, _, _, _, _, _, _, rfl⟩⟩)))⟩
        | false =>
          obtain ⟨e2, e3⟩ := A.stop
          subst e2
          generalize (s.f F).r = ry at cry e3
          have c1 : ¬ ((hh : Nat) : Int) = ((ry : Nat) : Int) := by omega
          have c3 := beq_i c1
          clear A e3
          go_wp2
          rw [jump_ret]
          go_ret
          exact ⟨rfl, rfl⟩
  · have en : nextOf C kx = (kx true).fst := by unfold nextOf; rw [if_neg e]
    rw [en]
    have HM := Lib.hid (most_any g gl s w h (kx true) x (h4 true) (fun z hz' => hz z (hp.mem_iff.2 (List.mem_append_left _ (mem_ino_side true hz')))))
    generalize (kx true).fst = F at HM
    generalize (kx true).root = R at HM cr e
    have c0 : ¬ ((R : Nat) : Int) = 0 := by omega
    clear h0 h1 h2 h3 h4 e1 n1 n2 n3 hp hnd hz hc en ht' e
    go_enter Try.func59, Try.ntmps59
    go_wp2
    refine wp_scope_behind rfl (fun _ _ _ => False) ?_ ?_
    · intro RR hR
      go_wp2_with fail
      refine HM.out.mono ?_
      rintro e w1 ⟨rfl, rfl⟩
      go_wp2
      rw [Exit.noGoto_ret]
      go_ret
      exact ⟨rfl, rfl⟩
    · rintro m a' w' ⟨⟩
end Go.Proofs.Ytfoigflgglpobaa.Tr
/- The contracts of what is read of a tree. No condition but that memory holds one. -/
set_option linter.unusedVariables false
set_option linter.unusedSimpArgs false
namespace Go.Proofs.Ytfoigflgglpobaa.Tr
open Go.RowKit Go.Proofs.Ytfoigflgglpobaa.Aid
/-- memory holds a tree of places, to be read -/
structure Rd (w : World) (g gl : Nat) (s : TS) (T : Sh) : Prop where
  m : IsT w g gl s
  rep : Rep s.f T 0
  root : s.root = T.root
  nd : T.ino.Nodup
  lt : ∀ z, z ∈ T.ino → z < s.sz
theorem Rd.same {w w' : World} {g gl : Nat} {s : TS} {T : Sh} (h : Rd w g gl s T) (e : ∀ b, TF g gl b → w'.heap[b]? = w.heap[b]?) : Rd w' g gl s T := ⟨h.m.same e, h.rep, h.root, h.nd, h.lt⟩
theorem Rd.below {w w' : World} {g gl : Nat} {s : TS} {T : Sh} (h : Rd w g gl s T) (b : Below w.heap.size w w') : Rd w' g gl s T := ⟨h.m.below b, h.rep, h.root, h.nd, h.lt⟩
theorem Rd.drewN {w : World} {g gl : Nat} {s : TS} {T : Sh} (h : Rd w g gl s T) (n : Nat) : Rd (w.drewN n) g gl s T := ⟨h.m.drewN n, h.rep, h.root, h.nd, h.lt⟩
theorem Rd.alloc {w : World} {g gl : Nat} {s : TS} {T : Sh} (h : Rd w g gl s T) (o : Obj) : Rd (w.alloc o) g gl s T := ⟨h.m.alloc o, h.rep, h.root, h.nd, h.lt⟩
theorem Rd.ne0 {w : World} {g gl : Nat} {s : TS} {T : Sh} (h : Rd w g gl s T) {z : Nat} (hz : z ∈ T.ino) : z ≠ 0 := by
  obtain ⟨K, c, kx, a1, a2, a3⟩ := way_to (root := s.root) T .top h.rep h.root hz
  exact a1.1
/-- a place's handle -/
def hturn (s : TS) (x : Nat) : Int := if x = 0 then 0 else (s.f x).turn
def hnd (s : TS) (x : Nat) : Value := .agg #[.int .i64 x, .int .i64 (hturn s x)]
def two_ (a b : Int) : Array Value := #[.int .i64 a, .int .i64 b]
theorem two_cells {W : World} {g : Nat} {t : TypeId} {a b : Int} (h : Blk W g t (two_ a b)) : W.cell? ⟨g, 0, none⟩ = some (.int .i64 a) ∧ W.cell? ⟨g, 1, none⟩ = some (.int .i64 b) := ⟨h.cell 0, h.cell 1⟩
theorem two_set {W : World} {g : Nat} {t : TypeId} {a b : Int} (h : Blk W g t (two_ a b)) (x y : Int) : Blk ((W.setCell ⟨g, 0, none⟩ (.int .i64 x)).setCell ⟨g, 1, none⟩ (.int .i64 y)) g t (two_ x y) := by simpa [two_] using (h.set_ 0 (.int .i64 x)).set_ 1 (.int .i64 y)
theorem two_below {B : Nat} {w W : World} (h : Below B w W) {g : Nat} (hg : B ≤ g) (x y : Int) : Below B w ((W.setCell ⟨g, 0, none⟩ (.int .i64 x)).setCell ⟨g, 1, none⟩ (.int .i64 y)) := (h.setCell hg _).setCell hg _
set_option maxHeartbeats 1000000 in
set_option maxRecDepth 100000 in
theorem handle_none (g gl : Nat) (w : World) (s : TS) :
    Calls Try.prog 55 #[.pointer (some ⟨g, 0, none⟩), .int .i64 0] w fun e w' => e = .returned (.tuple #[hnd s 0, .bool false]) ∧ Below w.heap.size w w' := by
  have h2 := Blk.new w 29 (two_ 0 0)
  have B : Below w.heap.size w (w.alloc (.cells (two_ 0 0) 29)) := (Below.refl w.heap.size w).alloc (Nat.le_refl _) _
  have HR : Hid (w.heap.size ≤ w.heap.size) := Lib.hid (Nat.le_refl _)
  go_enter Try.func55, Try.ntmps55
  go_upto_region 1 with fail
  change Blk (w.alloc (.cells #[.int .i64 0, .int .i64 0] 29)) _ _ _ at h2
  change Below _ _ (w.alloc (.cells #[.int .i64 0, .int .i64 0] 29)) at B
  generalize w.alloc (.cells #[.int .i64 0, .int .i64 0] 29) = W at h2 B ⊢
  obtain ⟨r0, r1⟩ := two_cells h2
  have f0 := h2.frozen
  go_wp2_with fail
  clear r0 r1
  have h5 := two_set h2 0 0
  obtain ⟨r0, r1⟩ := two_cells h5
  exact bodyPost_ret (v := .tuple #[hnd s 0, .bool false]) (by simp [results, Try.results55, go_sem, r0, r1, hnd, hturn]) rfl ⟨rfl, two_below B HR.out _ _⟩
set_option maxHeartbeats 1000000 in
set_option maxRecDepth 100000 in
theorem handle_some (g gl : Nat) (s : TS) (w : World) (h : IsT w g gl s) (x : Nat) (hx : x < s.sz) (h0 : x ≠ 0) :
    Calls Try.prog 55 #[.pointer (some ⟨g, 0, none⟩), .int .i64 x] w fun e w' => e = .returned (.tuple #[hnd s x, .bool true]) ∧ Below w.heap.size w w' := by
  have h2 := Blk.new w 29 (two_ 0 0)
  have B : Below w.heap.size w (w.alloc (.cells (two_ 0 0) 29)) := (Below.refl w.heap.size w).alloc (Nat.le_refl _) _
  have HR : Hid (w.heap.size ≤ w.heap.size) := Lib.hid (Nat.le_refl _)
  have hA := h.alloc (.cells (two_ 0 0) 29)
  have c0 : ¬ ((x : Nat) : Int) = 0 := by omega
  obtain ⟨tn, htn⟩ : ∃ tn, (s.f x).turn = tn := ⟨_, rfl⟩
  have ht : hnd s x = .agg #[.int .i64 x, .int .i64 tn] := by unfold hnd hturn; rw [if_neg h0, htn]
  rw [ht]
  have HT := Lib.hid htn
  clear h h0 ht htn
  go_enter Try.func55, Try.ntmps55
  go_upto_region 1 with fail
  change Blk (w.alloc (.cells #[.int .i64 0, .int .i64 0] 29)) _ _ _ at h2
  change Below _ _ (w.alloc (.cells #[.int .i64 0, .int .i64 0] 29)) at B
  change IsT (w.alloc (.cells #[.int .i64 0, .int .i64 0] 29)) _ _ _ at hA
  generalize w.alloc (.cells #[.int .i64 0, .int .i64 0] 29) = W at h2 B hA ⊢
  obtain ⟨r0, r1⟩ := two_cells h2
  have f0 := h2.frozen
  have q0 := hA.hc.1
  have hs := hA.sz
  have ct := hA.t hx
  rw [HT.out] at ct
  go_wp2_with fail
  clear r0 r1
  have h5 := two_set h2 x tn
  obtain ⟨r0, r1⟩ := two_cells h5
  exact bodyPost_ret (v := .tuple #[.agg #[.int .i64 x, .int .i64 tn], .bool true]) (by simp [results, Try.results55, go_sem, r0, r1]) rfl ⟨rfl, two_below B HR.out _ _⟩
/-- a place's handle, whatever place it is -/
theorem handle_any (g gl : Nat) (s : TS) (w : World) (h : IsT w g gl s) (x : Nat) (hx : x < s.sz) :
    Calls Try.prog 55 #[.pointer (some ⟨g, 0, none⟩), .int .i64 x] w fun e w' => e = .returned (.tuple #[hnd s x, .bool (decide (x ≠ 0))]) ∧ Below w.heap.size w w' := by
  by_cases h0 : x = 0
  · subst h0; exact handle_none g gl w s
  · rw [show decide (x ≠ 0) = true from by simp [h0]]
    exact handle_some g gl s w h x hx h0
set_option maxHeartbeats 1000000 in
theorem Len_any (g gl : Nat) (s : TS) (w : World) (h : IsT w g gl s) :
    Calls Try.prog 18 #[.pointer (some ⟨g, 0, none⟩)] w fun e w' => e = .returned (.int .i64 s.n) ∧ w = w' := by
  obtain ⟨_, _, q2, _, _⟩ := h.hc
  go_enter Try.func18, Try.ntmps18
  go_wp2
  go_ret
  exact ⟨rfl, rfl⟩
set_option maxHeartbeats 1000000 in
theorem Len_nil (w : World) :
    Calls Try.prog 18 #[.pointer none] w fun e w' => e = .returned (.int .i64 0) ∧ w = w' := by
  go_enter Try.func18, Try.ntmps18
  go_wp2
  go_ret
  exact ⟨rfl, rfl⟩
set_option maxHeartbeats 1000000 in
theorem First_any (g gl : Nat) (s : TS) (T : Sh) (w : World) (h : Rd w g gl s T) :
    Calls Try.prog 14 #[.pointer (some ⟨g, 0, none⟩)] w fun e w' => e = .returned (.tuple #[hnd s T.fst, .bool (decide (T.fst ≠ 0))]) ∧ Below w.heap.size w w' := by
  have h2 := Blk.new w 29 (two_ 0 0)
  have B : Below w.heap.size w (w.alloc (.cells (two_ 0 0) 29)) := (Below.refl w.heap.size w).alloc (Nat.le_refl _) _
  have HR : Hid (w.heap.size ≤ w.heap.size) := Lib.hid (Nat.le_refl _)
  have HA := Lib.hid (h.alloc (.cells (two_ 0 0) 29))
  have hF : T.fst < s.sz := by
    rw [fst_ino T h.rep]
    cases hk : T.ino with
    | nil => exact h.m.sz.1
    | cons y l => exact h.lt y (by rw [hk]; simp)
  obtain ⟨tn, htn⟩ : ∃ tn, hturn s T.fst = tn := ⟨_, rfl⟩
  have HM := Lib.hid (fun (W : World) (hW : Rd W g gl s T) => most_any g gl s W hW.m T 0 hW.rep hW.lt)
  rw [← h.root] at HM
  have HH := Lib.hid (fun (W : World) (hW : Rd W g gl s T) => handle_any g gl s W hW.m T.fst hF)
  obtain ⟨F, hFF⟩ : ∃ F, T.fst = F := ⟨_, rfl⟩
  rw [hFF] at htn hF HM HH ⊢
  have ht : hnd s F = .agg #[.int .i64 F, .int .i64 tn] := by unfold hnd; rw [htn]
  rw [ht] at HH ⊢
  obtain ⟨b, hb⟩ : ∃ b, decide (F ≠ 0) = b := ⟨_, rfl⟩
  rw [hb] at HH ⊢
  clear h ht htn hFF hF hb
  go_enter Try.func14, Try.ntmps14
  go_upto_region 3 with fail
  change Blk (w.alloc (.cells #[.int .i64 0, .int .i64 0] 29)) _ _ _ at h2
  change Below _ _ (w.alloc (.cells #[.int .i64 0, .int .i64 0] 29)) at B
  change Hid (Rd (w.alloc (.cells #[.int .i64 0, .int .i64 0] 29)) _ _ _ _) at HA
  generalize w.alloc (.cells #[.int .i64 0, .int .i64 0] 29) = W at h2 B HA ⊢
  have q1 := HA.out.m.hc.2.1
  go_wp2_with fail
  refine (HM.out W HA.out).mono ?_
  rintro e w1 ⟨rfl, rfl⟩
  go_wp2_with fail
  refine (HH.out W HA.out).mono ?_
  rintro e W2 ⟨rfl, b2⟩
  have h3 := h2.below b2 h2.lt
  have B2 := B.trans (b2.mono B.size)
  obtain ⟨r0, r1⟩ := two_cells h3
  have f0 := h3.frozen
  go_wp2_with fail
  clear r0 r1
  have h5 := two_set h3 F tn
  obtain ⟨r0, r1⟩ := two_cells h5
  exact bodyPost_ret (v := .tuple #[.agg #[.int .i64 F, .int .i64 tn], .bool b]) (by simp [results, Try.results14, go_sem, r0, r1]) rfl ⟨rfl, two_below B2 HR.out _ _⟩
end Go.Proofs.Ytfoigflgglpobaa.Tr
/- What a mending stands on and does, in plain Lean, with all that stays. No program in sight; no condition. -/
set_option linter.unusedVariables false
namespace Go.Proofs.Ytfoigflgglpobaa.Tr
open Go.RowKit Go.Proofs.Ytfoigflgglpobaa.Aid
/-- what stays of a tree's numbers, whatever is mended -/
structure Stay (s0 : TS) (I : List Nat) (p : (Nat → Nd) × Nat) : Prop where
  z0 : 0 ∉ I
  lt : ∀ z, z ∈ I → z < s0.sz
  keep : Keep s0.f p.1
  away : ∀ z, z ∉ I → p.1 z = s0.f z
  lk : Lk p.1 s0.sz
  root : p.2 < s0.sz
theorem Stay.col {s0 : TS} {I : List Nat} {p : (Nat → Nd) × Nat} (h : Stay s0 I p) {z : Nat} (hz : z ∈ I) (c : Bool) : Stay s0 I (setC p.1 z c, p.2) :=
  ⟨h.z0, h.lt, h.keep.trans (keep_c _ _ _), fun y hy => (setC_ne (show y ≠ z from fun e => hy (e ▸ hz))).trans (h.away y hy), h.lk.setC z c, h.root⟩
theorem Stay.turn {s0 : TS} {I : List Nat} {p : (Nat → Nd) × Nat} (h : Stay s0 I p) {x : Nat} (hx : x < s0.sz) (r : Bool) (ha : ∀ z, z ∉ I → (turnF p.1 p.2 x r).1 z = p.1 z) : Stay s0 I (turnF p.1 p.2 x r) :=
  ⟨h.z0, h.lt, h.keep.trans (keep_turn _ _ _ _), fun y hy => (ha y hy).trans (h.away y hy), (h.lk.turn h.root hx r).1, (h.lk.turn h.root hx r).2⟩
structure MdSt (s0 : TS) (I : List Nat) (p : (Nat → Nd) × Nat) (k : Cx) (x : Nat) (kx : Bool → Sh) : Prop where
  st : Stay s0 I p
  red0 : (s0.f 0).red = false
  md : ∃ n b, Mend p.1 p.2 k x kx n b
  ino : (k.plug (.node true x kx)).ino = I
def MdEnd (s0 : TS) (I : List Nat) (p : (Nat → Nd) × Nat) : Prop := Stay s0 I p ∧ ∃ T, RB p.1 p.2 T ∧ T.ino = I
theorem MdSt.memx {s0 : TS} {I : List Nat} {p : (Nat → Nd) × Nat} {k : Cx} {x : Nat} {kx : Bool → Sh} (h : MdSt s0 I p k x kx) : x ∈ I := by
  rw [← h.ino, (plug_perm k _).mem_iff]
  exact List.mem_append_left _ ((mem_node true).2 (.inl rfl))
theorem MdSt.memk {s0 : TS} {I : List Nat} {p : (Nat → Nd) × Nat} {k : Cx} {x : Nat} {kx : Bool → Sh} (h : MdSt s0 I p k x kx) {z : Nat} (hz : z ∈ k.all) : z ∈ I := by
  rw [← h.ino, (plug_perm k _).mem_iff]
  exact List.mem_append_right _ hz
theorem MdSt.c0 {s0 : TS} {I : List Nat} {p : (Nat → Nd) × Nat} {k : Cx} {x : Nat} {kx : Bool → Sh} (h : MdSt s0 I p k x kx) : (p.1 0).red = false := by rw [h.st.away 0 h.st.z0]; exact h.red0
theorem MdSt.rootI {s0 : TS} {I : List Nat} {p : (Nat → Nd) × Nat} {k : Cx} {x : Nat} {kx : Bool → Sh} (h : MdSt s0 I p k x kx) : p.2 ∈ I := by
  obtain ⟨n, b, hm⟩ := h.md
  obtain ⟨h1, h2⟩ := plug_rep k hm.rt (show RepC p.1 p.2 k (Sh.node true x kx).root from hm.rc)
  rw [← h.ino, h2]
  cases hT : k.plug (.node true x kx) with
  | nil =>
    have := (plug_perm k (.node true x kx)).length_eq
    rw [hT] at this
    simp [Sh.ino] at this
  | node c y ky => exact root_mem (by rw [hT] at h1; exact h1.1)
theorem MdSt.top {s0 : TS} {I : List Nat} {p : (Nat → Nd) × Nat} {x : Nat} {kx : Bool → Sh} (h : MdSt s0 I p .top x kx) : MdEnd s0 I (setC p.1 p.2 false, p.2) := by
  obtain ⟨n, b, hm⟩ := h.md
  exact ⟨h.st.col h.rootI false, _, hm.top, h.ino⟩
theorem MdSt.black {s0 : TS} {I : List Nat} {p : (Nat → Nd) × Nat} {q : Nat} {s : Bool} {sib : Sh} {k : Cx} {x : Nat} {kx : Bool → Sh} (h : MdSt s0 I p (.fr false q s sib k) x kx) : MdEnd s0 I (setC p.1 p.2 false, p.2) := by
  obtain ⟨n, b, hm⟩ := h.md
  exact ⟨h.st.col h.rootI false, _, hm.black, h.ino⟩
theorem MdSt.nottop {s0 : TS} {I : List Nat} {p : (Nat → Nd) × Nat} {q : Nat} {s : Bool} {sib : Sh} {x : Nat} {kx : Bool → Sh} (h : MdSt s0 I p (.fr true q s sib .top) x kx) : False := by
  obtain ⟨n, b, hm⟩ := h.md
  exact absurd hm.cn.2.2.2 (by simp)
section
variable {s0 : TS} {I : List Nat} {p : (Nat → Nd) × Nat} {q gg u : Nat} {s sg cg : Bool} {sib unc : Sh} {ku : Bool → Sh} {k : Cx} {x : Nat} {kx : Bool → Sh}
theorem MdSt.uncle (h : MdSt s0 I p (.fr true q s sib (.fr cg gg sg (.node true u ku) k)) x kx) :
    ∃ kx', MdSt s0 I (setC (setC (setC p.1 q false) u false) gg true, p.2) k gg kx' := by
  obtain ⟨n, b, hm⟩ := h.md
  obtain ⟨m1, m2⟩ := hm.uncle
  refine ⟨_, ((h.st.col (h.memk ?_) false).col (h.memk ?_) false).col (h.memk ?_) true, h.red0, ⟨_, _, m1⟩, m2.trans h.ino⟩
  · simp [Cx.all]
  · simp only [Cx.all, List.mem_cons, List.mem_append]
    exact .inr (.inr (.inr (.inl ((mem_node true).2 (.inl rfl)))))
  · simp [Cx.all]
theorem MdSt.inner (h : MdSt s0 I p (.fr true q (!sg) sib (.fr cg gg sg unc k)) x kx) :
    ∃ sib' kx', MdSt s0 I (turnF p.1 p.2 q sg) (.fr true x sg sib' (.fr cg gg sg unc k)) q kx' := by
  obtain ⟨n, b, hm⟩ := h.md
  obtain ⟨m1, m2⟩ := hm.inner rfl
  have hq : q ∈ I := h.memk (by simp [Cx.all])
  refine ⟨_, _, h.st.turn (h.st.lt q hq) sg ?_, h.red0, ⟨_, _, m1⟩, m2.trans h.ino⟩
  obtain ⟨h1, h2⟩ := RepC.down hm.rt (show RepC p.1 p.2 _ (Sh.node true x kx).root from hm.rc)
  have hnd : ((Cx.fr cg gg sg unc k).plug (.node true q (two (!sg) (.node true x kx) sib))).ino.Nodup := hm.nd
  have h3 := (turn_rep (k := .fr cg gg sg unc k) sg (two_same _ _ _) h1 h2 hnd).2.2
  intro z hz
  refine h3 z ?_
  rw [← h.ino] at hz
  exact hz
theorem MdSt.outer (h : MdSt s0 I p (.fr true q sg sib (.fr cg gg sg unc k)) x kx) (hu : unc.red = false) :
    ∃ sib', MdSt s0 I (turnF (setC (setC p.1 q false) gg true) p.2 gg (!sg)) (.fr false q sg sib' k) x kx := by
  obtain ⟨n, b, hm⟩ := h.md
  obtain ⟨m1, m2, m3⟩ := hm.outer rfl hu
  have hq : q ∈ I := h.memk (by simp [Cx.all])
  have hg : gg ∈ I := h.memk (by simp [Cx.all])
  have S2 := (h.st.col hq false).col hg true
  refine ⟨_, S2.turn (p := (setC (setC p.1 q false) gg true, p.2)) (h.st.lt gg hg) (!sg) ?_, h.red0, ⟨_, _, m1⟩, m2.trans h.ino⟩
  exact fun z hz => m3 z (by rw [h.ino]; exact hz)
/-- what a mending with a red parent reads -/
theorem MdSt.facts (h : MdSt s0 I p (.fr true q s sib (.fr cg gg sg unc k)) x kx) :
    (p.1 x).u = q ∧ (p.1 q).red = true ∧ (p.1 q).u = gg ∧ decide ((p.1 gg).r = q) = sg ∧ ch p.1 gg (!sg) = unc.root ∧ (p.1 unc.root).red = unc.red ∧ decide (ch p.1 q (!sg) = x) = decide (s = !sg) ∧ unc.root ≠ q ∧ unc.root ≠ gg ∧ q ≠ gg ∧ q ≠ 0 ∧ gg ≠ 0 ∧ x ≠ 0 ∧ x ∈ I ∧ q ∈ I ∧ gg ∈ I ∧ (unc.root = 0 ∨ unc.root ∈ I) := by
  have hc0 := h.c0
  obtain ⟨n, b, hm⟩ := h.md
  obtain ⟨p1, p2, p3⟩ := hm.parts
  obtain ⟨a0, a1, a2, a3, a4, a5, b0, b1, b2, b3, b4, b5, b6⟩ := hm.rc
  have hx0 : x ≠ 0 := hm.rt.1
  have hxu : (p.1 x).u = q := hm.rt.2.2.1
  have hxk := p3 x ((mem_node true).2 (.inl rfl))
  simp only [Cx.all, List.mem_cons, List.mem_append, not_or] at hxk
  obtain ⟨x1, x2, x3, x4, x5⟩ := hxk
  have p2' := p2
  simp only [Cx.all] at p2'
  obtain ⟨q1, q2⟩ := List.nodup_cons.1 p2'
  simp only [List.mem_cons, List.mem_append, not_or] at q1
  obtain ⟨q3, q4, q5, q6⟩ := q1
  obtain ⟨_, g1, _⟩ := List.nodup_append.1 q2
  obtain ⟨g2, g3⟩ := List.nodup_cons.1 g1
  simp only [List.mem_append, not_or] at g2
  have hur : unc.root ≠ 0 → unc.root ∈ unc.ino := fun e => root_mem e
  have u1 : unc.root ≠ q := by
    by_cases e : unc.root = 0
    · rw [e]; exact Ne.symm a0
    · intro e2; exact q5 (e2 ▸ hur e)
  have u2 : unc.root ≠ gg := by
    by_cases e : unc.root = 0
    · rw [e]; exact Ne.symm b0
    · intro e2; exact g2.1 (e2 ▸ hur e)
  refine ⟨hxu, a1, a2, ?_, b4, ?_, ?_, u1, u2, q4, a0, b0, hx0, h.memx, h.memk (by simp [Cx.all]), h.memk (by simp [Cx.all]), ?_⟩
  · cases sg
    · have : (p.1 gg).r = unc.root := b4
      rw [this]; exact decide_eq_false u1
    · have : (p.1 gg).r = q := b3
      rw [this]; simp
  · cases unc with
    | nil => exact hc0
    | node c y ky => exact b5.2.1
  · by_cases e : s = !sg
    · subst e; rw [a3]; simp
    · have e2 : sg = s := by cases s <;> cases sg <;> simp_all
      subst e2
      rw [a4]
      have : sib.root ≠ x := by
        by_cases e3 : sib.root = 0
        · rw [e3]; exact Ne.symm hx0
        · intro e4; exact x2 (e4 ▸ root_mem e3)
      simp [this]
  · by_cases e : unc.root = 0
    · exact .inl e
    · exact .inr (h.memk (by simp only [Cx.all, List.mem_cons, List.mem_append]; exact .inr (.inr (.inr (.inl (hur e))))))
end
end Go.Proofs.Ytfoigflgglpobaa.Tr
/- Going down a tree to where a key belongs, in plain Lean. No program in sight; no condition. -/
set_option linter.unusedVariables false
namespace Go.Proofs.Ytfoigflgglpobaa.Tr
open Go.RowKit Go.Proofs.Ytfoigflgglpobaa.Aid
/-- a key comes first, or is the same: times, then numbers -/
def kle (f : Nat → Nd) (z : Nat) (kt ks : Int) : Prop := (f z).t < kt ∨ (f z).t = kt ∧ (f z).s ≤ ks
theorem kle_trans {f : Nat → Nd} {a b : Nat} {kt ks : Int} (h : kle f a (f b).t (f b).s) (k : kle f b kt ks) : kle f a kt ks := by
  unfold kle at *; omega
/-- places' keys are in order -/
def Srt (f : Nat → Nd) (l : List Nat) : Prop := l.Pairwise fun a b => kle f a (f b).t (f b).s
def Link (k : Cx) (t : Sh) : Prop := match k with
  | .top => t.red = false
  | .fr c _ _ _ _ => t.red = true → c = false
/-- on the way down to a key's place -/
structure Desc (f : Nat → Nd) (root : Nat) (T : Sh) (kt ks : Int) (b : Nat) (k : Cx) (t : Sh) : Prop where
  rep : Rep f t k.up
  rc : RepC f root k t.root
  pl : k.plug t = T
  bal : ∃ n, Bal t n ∧ CBal k n b
  nrr : Nrr t
  cn : CNrr k
  link : Link k t
  pre : ∀ z, z ∈ k.pre → kle f z kt ks
  post : ∀ z, z ∈ k.post → ¬ kle f z kt ks
theorem Desc.start {f : Nat → Nd} {root : Nat} {T : Sh} {kt ks : Int} (h : RB f root T) : ∃ b, Desc f root T kt ks b .top T := by
  obtain ⟨b, hb⟩ := h.bal
  exact ⟨b, h.rep, h.root, rfl, ⟨b, hb, rfl⟩, h.nrr, trivial, h.red, fun z hz => absurd hz (by simp [Cx.pre]), fun z hz => absurd hz (by simp [Cx.post])⟩
theorem Desc.step {f : Nat → Nd} {root : Nat} {T : Sh} {kt ks : Int} {b : Nat} {k : Cx} {c : Bool} {y : Nat} {ky : Bool → Sh} (h : Desc f root T kt ks b k (.node c y ky)) (srt : Srt f T.ino) (s : Bool) (hs : s = true ↔ kle f y kt ks) :
    Desc f root T kt ks b (.fr c y s (ky (!s)) k) (ky s) := by
  obtain ⟨h1, h2⟩ := RepC.over s h.rep h.rc
  obtain ⟨n, hb, hc⟩ := h.bal
  have hT := plug_list k c y ky
  rw [h.pl] at hT
  have hn := h.nrr
  have hl := h.link
  refine ⟨h1, h2, ?_, ?_, hn.2 s, ⟨fun e => hn.1 e (!s), hn.2 (!s), h.cn, ?_⟩, ?_, ?_, ?_⟩
  · simp only [Cx.plug]; rw [two_eta]; exact h.pl
  · cases c with
    | true => exact ⟨n, hb s, hb (!s), hc⟩
    | false =>
      obtain ⟨m, rfl, hm⟩ := hb
      exact ⟨m, hm s, hm (!s), hc⟩
  · cases k with
    | top => exact hl
    | fr c' x' s' sib' k' => exact hl
  · intro e
    cases c with
    | false => rfl
    | true => have := hn.1 rfl s; rw [this] at e; cases e
  · intro z hz
    simp only [Cx.pre, List.mem_append] at hz
    rcases hz with hz | hz
    · exact h.pre z hz
    · cases s with
      | false => cases hz
      | true =>
        have hy := hs.1 rfl
        simp only [if_true, List.mem_append, List.mem_singleton, Bool.not_true] at hz
        rcases hz with hz | rfl
        · have h5 := (List.pairwise_append.1 (hT ▸ srt)).2.2 z (by simp [hz]) y (by simp)
          exact kle_trans h5 hy
        · exact hy
  · intro z hz
    simp only [Cx.post, List.mem_append] at hz
    rcases hz with hz | hz
    · cases s with
      | true => cases hz
      | false =>
        have hy : ¬ kle f y kt ks := fun e => by have := hs.2 e; cases this
        simp only [Bool.false_eq_true, if_false, List.mem_cons, Bool.not_false] at hz
        rcases hz with rfl | hz
        · exact hy
        · have h5 := (List.pairwise_cons.1 (List.pairwise_append.1 (hT ▸ srt)).2.1).1 z (by simp [hz])
          exact fun e => hy (kle_trans h5 e)
    · exact h.post z hz
end Go.Proofs.Ytfoigflgglpobaa.Tr
/- A new place hangs where its key belongs, in plain Lean. No program in sight; no condition. -/
set_option linter.unusedVariables false
namespace Go.Proofs.Ytfoigflgglpobaa.Tr
open Go.RowKit Go.Proofs.Ytfoigflgglpobaa.Aid
def putF (f : Nat → Nd) (root : Nat) (k : Cx) (x : Nat) : (Nat → Nd) × Nat := match k with
  | .top => (setU f x 0, x)
  | .fr _ y s _ _ => (setCh (setU f x y) y s x, root)
theorem put_rc {f : Nat → Nd} {root x : Nat} {k : Cx} (hr : RepC f root k 0) (hnd : k.all.Nodup) (hx : x ∉ k.all) : RepC (putF f root k x).1 (putF f root k x).2 k x := by
  cases k with
  | top => rfl
  | fr c y s sib k =>
    have hxy : y ≠ x := fun e => hx (by simp [Cx.all, e])
    refine RepC.rehang hnd hr (fun z hz hzu => same_eq ?_) (fun e => absurd e hr.1) (fun _ => rfl) (fun s' c' x' sib' kk e => ?_)
    · show setCh (setU f x y) y s x z = f z
      rw [setCh_ne (show z ≠ y from hzu), setU_ne (show z ≠ x from fun e => hx (e ▸ hz))]
    · cases e
      refine ⟨setCh_ch _ _ _ _, ?_, ?_, ?_⟩
      · show ch (setCh (setU f x y) y s x) y (!s) = _
        rw [setCh_other, setU_ch]
      · show (setCh (setU f x y) y s x y).u = _
        rw [setCh_u, setU_ne hxy]
      · show (setCh (setU f x y) y s x y).red = _
        rw [setCh_red, setU_red]
theorem keep_put (f : Nat → Nd) (root : Nat) (k : Cx) (x : Nat) : Keep f (putF f root k x).1 := by
  cases k with
  | top => exact keep_u _ _ _
  | fr c y s sib k => exact (keep_u _ _ _).trans (keep_ch _ _ _ _)
/-- the new place, red, at the end of the way down: mending's state -/
theorem put_mend {f : Nat → Nd} {root x b : Nat} {k : Cx} {T : Sh} {kt ks : Int} (h : Desc f root T kt ks b k .nil) (hnd : T.ino.Nodup) (hx : x ∉ T.ino) (h0 : x ≠ 0) (hr : (f x).red = true) (hl : (f x).l = 0) (hrr : (f x).r = 0) :
    Mend (putF f root k x).1 (putF f root k x).2 k x (fun _ => .nil) 0 b ∧ (k.plug (.node true x fun _ => .nil)).ino = k.pre ++ x :: k.post ∧ T.ino = k.pre ++ k.post := by
  have hT : T.ino = k.pre ++ k.post := by rw [← h.pl, plug_ino]; simp [Sh.ino]
  have e2 : (k.plug (.node true x fun _ => .nil)).ino = k.pre ++ x :: k.post := by rw [plug_ino]; simp [Sh.ino]
  have hall : k.all.Nodup := by
    have := (plug_perm k .nil).nodup_iff.1 (by rw [h.pl]; exact hnd)
    simpa [Sh.ino] using this
  have hxk : x ∉ k.all := fun e => hx (by rw [hT]; rcases (all_mem k x).1 e with e | e <;> simp [e])
  obtain ⟨n, hb, hc⟩ := h.bal
  have hn0 : n = 0 := hb
  subst hn0
  refine ⟨⟨?_, put_rc h.rc hall hxk, ?_, fun s => ⟨rfl, trivial⟩, fun s => rfl, hc, h.cn⟩, e2, hT⟩
  · have hf : (putF f root k x).1 x = { f x with u := k.up } := by
      cases k with
      | top => simp [putF, setU, Cx.up]
      | fr c y s sib k =>
        have hxy : x ≠ y := fun e => hxk (by simp [Cx.all, e])
        show setCh (setU f x y) y s x x = _
        rw [setCh_ne hxy]; simp [setU, Cx.up]
    refine ⟨h0, by rw [hf]; exact hr, by rw [hf], fun s => ?_, fun s => trivial⟩
    unfold ch; rw [hf]
    cases s
    · exact hl
    · exact hrr
  · rw [e2]
    rw [hT] at hnd hx
    exact (List.perm_middle.nodup_iff).2 (List.nodup_cons.2 ⟨hx, hnd⟩)
theorem kle_tot {f : Nat → Nd} {a b : Nat} (h : ¬ kle f a (f b).t (f b).s) : kle f b (f a).t (f a).s := by unfold kle at *; omega
theorem srt_put {f : Nat → Nd} {x : Nat} {pre post : List Nat} (h : Srt f (pre ++ post)) (h1 : ∀ z, z ∈ pre → kle f z (f x).t (f x).s) (h2 : ∀ z, z ∈ post → ¬ kle f z (f x).t (f x).s) : Srt f (pre ++ x :: post) := by
  obtain ⟨a, b, c⟩ := List.pairwise_append.1 h
  refine List.pairwise_append.2 ⟨a, List.pairwise_cons.2 ⟨fun z hz => kle_tot (h2 z hz), b⟩, fun z hz y hy => ?_⟩
  rcases List.mem_cons.1 hy with rfl | hy
  · exact h1 z hz
  · exact c z hz y hy
theorem srt_keep {f f' : Nat → Nd} {l : List Nat} (h : Srt f l) (k : ∀ z, z ∈ l → (f' z).t = (f z).t ∧ (f' z).s = (f z).s) : Srt f' l := by
  refine List.Pairwise.imp_of_mem (fun {a b} ha hb hab => ?_) h
  unfold kle at *
  rw [(k a ha).1, (k a ha).2, (k b hb).1, (k b hb).2]
  exact hab
end Go.Proofs.Ytfoigflgglpobaa.Tr
/- The contracts of a tree's heights, and of a place that is taken. No condition but that memory holds a tree. -/
set_option linter.unusedVariables false
set_option linter.unusedSimpArgs false
namespace Go.Proofs.Ytfoigflgglpobaa.Tr
open Go.RowKit Go.Proofs.Ytfoigflgglpobaa.Aid
attribute [local go_sem] max2_int min2_int max_two min_two
theorem most_len (t : Sh) : t.most ≤ t.ino.length ∧ t.least ≤ t.ino.length := by
  induction t with
  | nil => exact ⟨Nat.le_refl _, Nat.le_refl _⟩
  | node c x k ih =>
    have a := ih false
    have b := ih true
    unfold Sh.most Sh.least
    simp only [Sh.ino, List.length_append, List.length_cons]
    omega
theorem ret_two {a b c d : Int} (h1 : a = c) (h2 : b = d) : Ending.returned (.tuple #[.int .i64 a, .int .i64 b]) = .returned (.tuple #[.int .i64 c, .int .i64 d]) := by rw [h1, h2]
set_option maxHeartbeats 1000000 in
set_option maxRecDepth 100000 in
theorem heights_any (g gl : Nat) (s : TS) (w : World) (h : IsT w g gl s) (t : Sh) : ∀ (u : Nat), Rep s.f t u → (∀ z, z ∈ t.ino → z < s.sz) → t.ino.length ≤ 100000 →
    Calls Try.prog 60 #[.pointer (some ⟨g, 0, none⟩), .int .i64 t.root] w fun e w' => e = .returned (.tuple #[.int .i64 t.least, .int .i64 t.most]) ∧ w = w' := by
  induction t with
  | nil =>
    intro u _ _ _
    simp only [Sh.root, Sh.least, Sh.most]
    go_enter Try.func60, Try.ntmps60
    go_wp2
    go_ret2
    exact ⟨rfl, rfl⟩
  | node c x k ih =>
    intro u ht hz hl
    obtain ⟨h0, h1, h2, h3, h4⟩ := ht
    have hx : x < s.sz := hz x (by simp [Sh.ino])
    have hl2 : (k false).ino.length + (k true).ino.length ≤ 100000 := by
      simp only [Sh.ino, List.length_append, List.length_cons] at hl; omega
    have HA := Lib.hid (ih false x (h4 false) (fun z hz' => hz z (mem_ino_side false hz')) (by omega))
    have HB := Lib.hid (ih true x (h4 true) (fun z hz' => hz z (mem_ino_side true hz')) (by omega))
    have ma := most_len (k false)
    have mb := most_len (k true)
    have cl : w.cell? ⟨gl, x * 8 + 2, none⟩ = some (.int .i64 (k false).root) := by rw [← h3 false]; exact h.l hx
    have cr : w.cell? ⟨gl, x * 8 + 3, none⟩ = some (.int .i64 (k true).root) := by rw [← h3 true]; exact h.r hx
    have q0 := h.hc.1
    have hs := h.sz
    have c0 : ¬ ((x : Nat) : Int) = 0 := by omega
    have hroot : (Sh.node c x k).root = x := rfl
    obtain ⟨L, hL⟩ : ∃ L, (Sh.node c x k).least = L := ⟨_, rfl⟩
    obtain ⟨M, hM⟩ : ∃ M, (Sh.node c x k).most = M := ⟨_, rfl⟩
    have e1 : L = min (k false).least (k true).least + 1 := by rw [← hL]; rfl
    have e2 : M = max (k false).most (k true).most + 1 := by rw [← hM]; rfl
    rw [hroot, hL, hM]
    have HE := Lib.hid (And.intro e1 e2)
    clear ih h0 h1 h2 h3 h4 hz hl hroot e1 e2 h hL hM
    have b1 : (k false).most ≤ 100000 := by omega
    have b2 : (k true).most ≤ 100000 := by omega
    have b3 : (k false).least ≤ 100000 := by omega
    have b4 : (k true).least ≤ 100000 := by omega
    clear ma mb hl2
    generalize (k false).root = lr at HA cl
    generalize (k true).root = rr at HB cr
    generalize (k false).most = a1 at *
    generalize (k true).most = a2 at *
    generalize (k false).least = a3 at *
    generalize (k true).least = a4 at *
    go_enter Try.func60, Try.ntmps60
    go_wp2_with fail
    refine HA.out.mono ?_
    rintro e w1 ⟨rfl, rfl⟩
    go_wp2_with fail
    refine HB.out.mono ?_
    rintro e w1 ⟨rfl, rfl⟩
    go_wp2_with fail
    all_goals
      go_ret2
      exact ⟨ret_two (by have := HE.out; omega) (by have := HE.out; omega), rfl⟩
set_option maxHeartbeats 1000000 in
theorem Heights_any (g gl : Nat) (s : TS) (T : Sh) (w : World) (h : Rd w g gl s T) (hl : T.ino.length ≤ 100000) :
    Calls Try.prog 21 #[.pointer (some ⟨g, 0, none⟩)] w fun e w' => e = .returned (.tuple #[.int .i64 T.least, .int .i64 T.most]) ∧ w = w' := by
  have H := Lib.hid (heights_any g gl s w h.m T 0 h.rep h.lt hl)
  have q1 := h.m.hc.2.1
  rw [h.root] at q1
  clear h hl
  generalize T.root = R at q1 H
  generalize T.least = a at H ⊢
  generalize T.most = b at H ⊢
  go_enter Try.func21, Try.ntmps21
  go_wp2_with fail
  refine H.out.mono ?_
  rintro e w1 ⟨rfl, rfl⟩
  go_wp2_with fail
  go_ret2
  exact ⟨rfl, rfl⟩
theorem IsT.setFree {w : World} {g gl : Nat} {s : TS} (h : IsT w g gl s) (v : Nat) : IsT (w.setCell ⟨g, 3, none⟩ (.int .i64 v)) g gl { s with free := v } := ⟨by simpa using h.b.set_ 3 (.int .i64 v), h.n.same (Below.heap_setCell w _ _ gl h.ne.symm), h.ne, h.sz, h.room.same (Below.heap_setCell w _ _ gl h.ne.symm)⟩
theorem IsT.setN {w : World} {g gl : Nat} {s : TS} (h : IsT w g gl s) (v : Nat) : IsT (w.setCell ⟨g, 2, none⟩ (.int .i64 v)) g gl { s with n := v } := ⟨by simpa using h.b.set_ 2 (.int .i64 v), h.n.same (Below.heap_setCell w _ _ gl h.ne.symm), h.ne, h.sz, h.room.same (Below.heap_setCell w _ _ gl h.ne.symm)⟩
set_option maxHeartbeats 1000000 in
theorem place_free (g gl : Nat) (s : TS) (w : World) (h : IsT w g gl s) (x : Nat) (hf : s.free = x) (h0 : x ≠ 0) (hx : x < s.sz) :
    Calls Try.prog 51 #[.pointer (some ⟨g, 0, none⟩)] w fun e w' => e = .returned (.int .i64 x) ∧ IsT w' g gl { s with free := (s.f x).l } ∧ Only (TF g gl) w w' := by
  obtain ⟨q0, _, _, q3, _⟩ := h.hc
  rw [hf] at q3
  have hs := h.sz
  have cl := h.l hx
  have f0 := h.b.frozen
  have c0 : ¬ ((x : Nat) : Int) = 0 := by omega
  have F := Lib.hid (h.setFree (s.f x).l)
  have O := Lib.hid ((Only.refl (TF g gl) w).setCell (p := ⟨g, 3, none⟩) (.inl (.inl rfl)) (.int .i64 (s.f x).l))
  clear h hf h0
  generalize (s.f x).l = l at cl F O ⊢
  go_enter Try.func51, Try.ntmps51
  go_wp2
  go_ret
  exact ⟨rfl, F.out, O.out⟩
set_option maxHeartbeats 1000000 in
theorem place_full (g gl : Nat) (s : TS) (w : World) (h : IsT w g gl s) (hf : s.free = 0) (hm : s.most < s.sz) :
    Calls Try.prog 51 #[.pointer (some ⟨g, 0, none⟩)] w fun e w' => e = .returned (.int .i64 0) ∧ IsT w' g gl s ∧ Only (TF g gl) w w' := by
  obtain ⟨q0, _, _, q3, q4⟩ := h.hc
  rw [hf] at q3
  have hs := h.sz
  have H := Lib.hid h
  have d : decide (((s.sz : Nat) : Int) > ((s.most : Nat) : Int)) = true := decide_eq_true (by omega)
  clear h hf
  go_enter Try.func51, Try.ntmps51
  go_wp2
  go_quiet (fail)
  go_wp2
  go_ret
  exact ⟨rfl, H.out.drewN _, (Only.refl _ _).drewN _⟩
set_option maxHeartbeats 1000000 in
theorem New_none (p : Int) (w : World) (hp : p < 1 ∨ 4096 < p) :
    Calls Try.prog 12 #[.int .i64 p] w fun e w' => e = .returned (.pointer none) ∧ w = w' := by
  go_enter Try.func12, Try.ntmps12
  rcases hp with hp | hp
  all_goals
    go_wp2
    all_goals first
      | (go_ret; exact ⟨rfl, rfl⟩)
      | (exfalso; simp_all; omega)
end Go.Proofs.Ytfoigflgglpobaa.Tr
/- The contract of a new tree. No condition. -/
set_option linter.unusedVariables false
set_option linter.unusedSimpArgs false
namespace Go.Proofs.Ytfoigflgglpobaa.Tr
open Go.RowKit Go.Proofs.Ytfoigflgglpobaa.Aid
def zeroN : Nd := ⟨0, 0, 0, 0, 0, false, false, 0⟩
theorem infoNd : (Try.prog.info? 104).map (fun i => (i.zero.map (·.cells), i.size, i.bytes)) = some (some zeroN.cells, 8, 56) := by kernel_rfl
def newS (p : Int) : TS := ⟨fun _ => zeroN, 1, p.toNat + 1, 0, 0, 0, p.toNat⟩
theorem made_cell (c : Nat) (k : Nat) (hk : k < c) : (madeCells zeroN.cells c)[k]? = zeroN.cells[k % 8]? := by
  unfold madeCells
  have hs : zeroN.cells.size = 8 := rfl
  have h8 : k % 8 < zeroN.cells.size := by rw [hs]; exact Nat.mod_lt _ (by omega)
  rw [Array.getElem?_map, Array.getElem?_range, if_pos hk]
  simp only [Option.map_some]
  rw [hs]
  rw [getElem!_pos zeroN.cells (k % 8) h8, Array.getElem?_eq_getElem h8]
set_option maxHeartbeats 1000000 in
set_option maxRecDepth 100000 in
theorem New_some (p : Int) (w : World) (hp : 1 ≤ p ∧ p ≤ 4096) :
    Calls Try.prog 12 #[.int .i64 p] w fun e w' => ∃ g gl, e = .returned (.pointer (some ⟨g, 0, none⟩)) ∧ IsT w' g gl (newS p) ∧ w.heap.size ≤ g ∧ w.heap.size ≤ gl ∧ Below w.heap.size w w' := by
  obtain ⟨i, hi, hz⟩ : ∃ i, Try.prog.info? 104 = some i ∧ (i.zero.map (·.cells), i.size, i.bytes) = (some zeroN.cells, 8, 56) := by
    have h := infoNd
    cases e : Try.prog.info? 104 with
    | none => rw [e] at h; cases h
    | some i => rw [e] at h; exact ⟨i, rfl, by simpa using h⟩
  obtain ⟨z, hz0, hzc⟩ : ∃ z, i.zero = some z ∧ z.cells = zeroN.cells := by
    cases e : i.zero with
    | none => rw [e] at hz; simp at hz
    | some z => rw [e] at hz; simp only [Option.map_some, Prod.mk.injEq, Option.some.injEq] at hz; exact ⟨z, rfl, hz.1⟩
  have h8 : i.size = 8 := by simp only [Prod.mk.injEq] at hz; exact hz.2.1
  have h56 : i.bytes = 56 := by simp only [Prod.mk.injEq] at hz; exact hz.2.2
  have hmk : ∀ W : World, (Instr.makeSlice 100 (.int .i64 1) (.int .i64 (p + 1))).run Try.prog W = .ok (.slice (some ⟨W.heap.size, 0, none⟩) 1 (p + 1).toNat) (W.alloc (.cells (madeCells zeroN.cells ((p + 1).toNat * 8)) 104)) := fun W => by
    have := run_make (P := Try.prog) W 100 104 i z Try.underlying100 hi hz0 .i64 .i64 1 (p + 1) (by omega) (by omega) (by rw [h56]; omega) (by omega)
    rw [hzc, h8] at this
    exact this
  have hsz : (madeCells zeroN.cells ((p + 1).toNat * 8)).size = (p + 1).toNat * 8 := size_madeCells _ _
  have hcc := Lib.hid (made_cell ((p + 1).toNat * 8))
  have hsz' := Lib.hid hsz
  have hpp := Lib.hid hp
  clear hz hz0 hzc h8 h56 hi hsz i z
  generalize madeCells zeroN.cells ((p + 1).toNat * 8) = cs at hmk hcc hsz'
  have d1 : decide (p < 1) = false := decide_eq_false (by omega)
  have d2 : decide (p > 4096) = false := decide_eq_false (by omega)
  go_enter Try.func12, Try.ntmps12
  go_upto_region 3 with fail
  have hw : IntKind.i64.wrap (p + 1) = p + 1 := by rw [IntKind.wrap_i64]; omega
  go_wp2_with fail
  go_ret
  have hp := hpp.out
  have e1 : (p + 1).toNat = p.toNat + 1 := by omega
  have e2 : ((p.toNat : Nat) : Int) = p := by omega
  have s1 : (w.alloc (.cells cs 104)).heap.size = w.heap.size + 1 := by simp
  have hb := Blk.new (w.alloc (.cells cs 104)) 102 #[.slice (some ⟨w.heap.size, 0, none⟩) 1 (p + 1).toNat, .int .i64 0, .int .i64 0, .int .i64 0, .int .i64 p]
  rw [s1] at hb
  have hn := (Blk.new w 104 cs).alloc (.cells #[.slice (some ⟨w.heap.size, 0, none⟩) 1 (p + 1).toNat, .int .i64 0, .int .i64 0, .int .i64 0, .int .i64 p] 102)
  refine ⟨w.heap.size + 1, w.heap.size, rfl, ⟨?_, ⟨cs, hn, ?_, ?_⟩, by omega, ?_, ⟨cs, hn, ?_⟩⟩, by omega, by omega, ((Below.refl w.heap.size w).alloc (Nat.le_refl _) _).alloc (by rw [s1]; omega) _⟩
  · unfold newS
    dsimp only
    rw [e2, ← e1]
    exact hb
  · have := hsz'.out; unfold newS; dsimp only; omega
  · intro x hx k hk
    have hx0 : x = 0 := by unfold newS at hx; dsimp only at hx; omega
    subst hx0
    have := hcc.out (0 * 8 + k) (by omega)
    rw [this]
    have e3 : (0 * 8 + k) % 8 = k := by omega
    rw [e3]; rfl
  · unfold newS; dsimp only; omega
  · have := hsz'.out; unfold newS; dsimp only; omega
end Go.Proofs.Ytfoigflgglpobaa.Tr
/- The contract of a new place. No condition but that memory holds a tree. -/
set_option linter.unusedVariables false
set_option linter.unusedSimpArgs false
namespace Go.Proofs.Ytfoigflgglpobaa.Tr
open Go.RowKit Go.Proofs.Ytfoigflgglpobaa.Aid
def TS.more (s : TS) : TS := { s with sz := s.sz + 1, f := fun z => if z = s.sz then zeroN else s.f z }
theorem IsT.spare {w : World} {g gl : Nat} {s : TS} (h : IsT w g gl s) (hc : s.sz < s.cap) (j : Nat) (hj : j < 8) : ∃ v, w.cell? ⟨gl, s.sz * 8 + j, none⟩ = some v := by
  obtain ⟨cur, hb, hs⟩ := h.room
  have hlt : s.sz * 8 + j < cur.size := by omega
  exact ⟨cur[s.sz * 8 + j], (hb.cell _).trans (Array.getElem?_eq_getElem hlt)⟩
def fill8 (w : World) (gl n : Nat) : World := (((((((w.setCell ⟨gl, n * 8, none⟩ (.int .i64 0)).setCell ⟨gl, n * 8 + 1, none⟩ (.int .i64 0)).setCell ⟨gl, n * 8 + 2, none⟩ (.int .i64 0)).setCell ⟨gl, n * 8 + 3, none⟩ (.int .i64 0)).setCell ⟨gl, n * 8 + 4, none⟩ (.int .i64 0)).setCell ⟨gl, n * 8 + 5, none⟩ (.bool false)).setCell ⟨gl, n * 8 + 6, none⟩ (.bool false)).setCell ⟨gl, n * 8 + 7, none⟩ (.int .i64 0)
theorem fill8_far {w : World} {gl n b : Nat} (h : b ≠ gl) : (fill8 w gl n).heap[b]? = w.heap[b]? := by
  unfold fill8
  rw [Below.heap_setCell _ _ _ b h, Below.heap_setCell _ _ _ b h, Below.heap_setCell _ _ _ b h, Below.heap_setCell _ _ _ b h, Below.heap_setCell _ _ _ b h, Below.heap_setCell _ _ _ b h, Below.heap_setCell _ _ _ b h, Below.heap_setCell _ _ _ b h]
def arr8 (cur : Array Value) (n : Nat) : Array Value := (((((((cur.setIfInBounds (n * 8) (.int .i64 0)).setIfInBounds (n * 8 + 1) (.int .i64 0)).setIfInBounds (n * 8 + 2) (.int .i64 0)).setIfInBounds (n * 8 + 3) (.int .i64 0)).setIfInBounds (n * 8 + 4) (.int .i64 0)).setIfInBounds (n * 8 + 5) (.bool false)).setIfInBounds (n * 8 + 6) (.bool false)).setIfInBounds (n * 8 + 7) (.int .i64 0)
theorem fill8_blk {w : World} {gl n : Nat} {t : TypeId} {cur : Array Value} (h : Blk w gl t cur) : Blk (fill8 w gl n) gl t (arr8 cur n) := (((((((h.set_ _ _).set_ _ _).set_ _ _).set_ _ _).set_ _ _).set_ _ _).set_ _ _).set_ _ _
theorem arr8_size (cur : Array Value) (n : Nat) : (arr8 cur n).size = cur.size := by simp [arr8]
theorem arr8_old (cur : Array Value) (n i : Nat) (h : i < n * 8) : (arr8 cur n)[i]? = cur[i]? := by
  unfold arr8
  simp only [Array.getElem?_setIfInBounds]
  rw [if_neg (by omega), if_neg (by omega), if_neg (by omega), if_neg (by omega), if_neg (by omega), if_neg (by omega), if_neg (by omega), if_neg (by omega)]
theorem arr8_new (cur : Array Value) (n k : Nat) (hk : k < 8) (h : (n + 1) * 8 ≤ cur.size) : (arr8 cur n)[n * 8 + k]? = zeroN.cells[k]? := by
  unfold arr8
  have h0 : n * 8 + 7 < cur.size := by omega
  have h1 : n * 8 + 6 < cur.size := by omega
  have h2 : n * 8 + 5 < cur.size := by omega
  have h3 : n * 8 + 4 < cur.size := by omega
  have h4 : n * 8 + 3 < cur.size := by omega
  have h5 : n * 8 + 2 < cur.size := by omega
  have h6 : n * 8 + 1 < cur.size := by omega
  have h7 : n * 8 < cur.size := by omega
  match k, hk with
  | 0, _ => simp [Array.getElem?_setIfInBounds, zeroN, Nd.cells, h7]
  | 1, _ => simp [Array.getElem?_setIfInBounds, zeroN, Nd.cells, h6]
  | 2, _ => simp [Array.getElem?_setIfInBounds, zeroN, Nd.cells, h5]
  | 3, _ => simp [Array.getElem?_setIfInBounds, zeroN, Nd.cells, h4]
  | 4, _ => simp [Array.getElem?_setIfInBounds, zeroN, Nd.cells, h3]
  | 5, _ => simp [Array.getElem?_setIfInBounds, zeroN, Nd.cells, h2]
  | 6, _ => simp [Array.getElem?_setIfInBounds, zeroN, Nd.cells, h1]
  | 7, _ => simp [Array.getElem?_setIfInBounds, zeroN, Nd.cells, h0]
theorem IsT.grow {w : World} {g gl : Nat} {s : TS} (h : IsT w g gl s) (hc : s.sz < s.cap) : IsT ((fill8 w gl s.sz).setCell ⟨g, 0, none⟩ (.slice (some ⟨gl, 0, none⟩) (s.sz + 1) s.cap)) g gl s.more := by
  obtain ⟨cur, hb, hs⟩ := h.room
  obtain ⟨cur', hb', hs', hcell⟩ := h.n
  have e : cur' = cur := by
    unfold Blk at hb hb'
    rw [hb] at hb'
    injection hb' with e
    injection e with e
    exact e.symm
  subst e
  have hB : Blk ((fill8 w gl s.sz).setCell ⟨g, 0, none⟩ (.slice (some ⟨gl, 0, none⟩) (s.sz + 1) s.cap)) gl 104 (arr8 cur' s.sz) := (fill8_blk hb).far h.ne.symm _
  refine ⟨?_, ⟨_, hB, ?_, ?_⟩, h.ne, ?_, ⟨_, hB, ?_⟩⟩
  · have h1 : Blk (fill8 w gl s.sz) g 102 _ := (fill8_far h.ne).trans h.b
    simpa [TS.more] using h1.set_ 0 (.slice (some ⟨gl, 0, none⟩) (s.sz + 1) s.cap)
  · rw [arr8_size]; unfold TS.more; dsimp only; omega
  · intro x hx k hk
    unfold TS.more at hx ⊢
    dsimp only at hx ⊢
    by_cases ex : x = s.sz
    · subst ex
      rw [if_pos rfl, arr8_new _ _ _ hk (by omega)]
    · rw [if_neg ex, arr8_old _ _ _ (by omega)]
      exact hcell x (by omega) k hk
  · have := h.sz; unfold TS.more; dsimp only; omega
  · rw [arr8_size]; exact hs
theorem fill8_only {S : Nat → Prop} {a w : World} {gl n : Nat} (h : Only S a w) (hg : S gl) : Only S a (fill8 w gl n) := (((((((h.setCell (.inl hg) _).setCell (.inl hg) _).setCell (.inl hg) _).setCell (.inl hg) _).setCell (.inl hg) _).setCell (.inl hg) _).setCell (.inl hg) _).setCell (.inl hg) _
theorem infoNd' : ∃ i, Try.prog.info? 104 = some i ∧ i.size = 8 := by
  have h := infoNd
  cases e : Try.prog.info? 104 with
  | none => rw [e] at h; cases h
  | some i => rw [e] at h; exact ⟨i, rfl, by simp only [Option.map_some, Option.some.injEq, Prod.mk.injEq] at h; exact h.2.1⟩
set_option maxHeartbeats 1000000 in
set_option maxRecDepth 100000 in
theorem place_grow (g gl : Nat) (s : TS) (w : World) (h : IsT w g gl s) (hf : s.free = 0) (hm : s.sz ≤ s.most) (hc : s.sz < s.cap) :
    Calls Try.prog 51 #[.pointer (some ⟨g, 0, none⟩)] w fun e w' => e = .returned (.int .i64 s.sz) ∧ IsT w' g gl s.more ∧ Only (TF g gl) w w' := by
  obtain ⟨q0, _, _, q3, q4⟩ := h.hc
  rw [hf] at q3
  have hs := h.sz
  have H := Lib.hid h
  have d : decide (((s.sz : Nat) : Int) > ((s.most : Nat) : Int)) = false := decide_eq_false (by omega)
  clear h hf
  go_enter Try.func51, Try.ntmps51
  go_wp2
  go_quiet (fail)
  have hT := H.out.drewN nq
  have O := Lib.hid ((Only.refl (TF g gl) w).drewN nq)
  generalize w.drewN nq = W at hT O ⊢
  clear q0 q3 q4 d
  have d : ¬ (s.most < s.sz) := by omega
  have hA := hT.alloc (.cells #[.int .i64 0, .int .i64 0, .int .i64 0, .int .i64 0, .int .i64 0, .bool false, .bool false, .int .i64 0] 104)
  obtain ⟨v0, c0⟩ := hT.spare hc 0 (by omega)
  obtain ⟨v1, c1⟩ := hT.spare hc 1 (by omega)
  obtain ⟨v2, c2⟩ := hT.spare hc 2 (by omega)
  obtain ⟨v3, c3⟩ := hT.spare hc 3 (by omega)
  obtain ⟨v4, c4⟩ := hT.spare hc 4 (by omega)
  obtain ⟨v5, c5⟩ := hT.spare hc 5 (by omega)
  obtain ⟨v6, c6⟩ := hT.spare hc 6 (by omega)
  obtain ⟨v7, c7⟩ := hT.spare hc 7 (by omega)
  simp only [Nat.add_zero] at c0
  have ff := hT.n.frozen
  have fg := hT.b.frozen
  have q0 := hT.hc.1
  have qa := hA.hc.1
  have l1 : gl < W.heap.size := hT.n.lt
  have l2 : g < W.heap.size := hT.b.lt
  have hne := hT.ne
  have hne2 := hT.ne.symm
  have HA := Lib.hid hA
  have HT := Lib.hid hT
  clear hT hA
  go_upto_region 8 with fail
  have hF := (HT.out.grow hc).alloc (.cells #[.int .i64 0, .int .i64 0, .int .i64 0, .int .i64 0, .int .i64 0, .bool false, .bool false, .int .i64 0] 104)
  have OF := ((fill8_only (n := s.sz) O.out (gl := gl) (.inr rfl)).setCell (p := ⟨g, 0, none⟩) (.inl (.inl rfl)) (.slice (some ⟨gl, 0, none⟩) (s.sz + 1) s.cap)).alloc (.cells #[.int .i64 0, .int .i64 0, .int .i64 0, .int .i64 0, .int .i64 0, .bool false, .bool false, .int .i64 0] 104)
  unfold fill8 at hF OF
  clear c0 c1 c2 c3 c4 c5 c6 c7 ff fg q0 qa
  generalize ((((((((((W.setCell ⟨gl, s.sz * 8, none⟩ (.int .i64 0)).setCell ⟨gl, s.sz * 8 + 1, none⟩ (.int .i64 0)).setCell ⟨gl, s.sz * 8 + 2, none⟩ (.int .i64 0)).setCell ⟨gl, s.sz * 8 + 3, none⟩ (.int .i64 0)).setCell ⟨gl, s.sz * 8 + 4, none⟩ (.int .i64 0)).setCell ⟨gl, s.sz * 8 + 5, none⟩ (.bool false)).setCell ⟨gl, s.sz * 8 + 6, none⟩ (.bool false)).setCell ⟨gl, s.sz * 8 + 7, none⟩ (.int .i64 0)).setCell ⟨g, 0, none⟩ (.slice (some ⟨gl, 0, none⟩) (s.sz + 1) s.cap)).alloc (.cells #[.int .i64 0, .int .i64 0, .int .i64 0, .int .i64 0, .int .i64 0, .bool false, .bool false, .int .i64 0] 104)) = W9 at hF OF ⊢
  have q0 : W9.cell? ⟨g, 0, none⟩ = some (.slice (some ⟨gl, 0, none⟩) (s.sz + 1) s.cap) := hF.hc.1
  have HF := Lib.hid hF
  have HO := Lib.hid OF
  clear hF OF
  go_wp2_with fail
  go_ret
  exact ⟨ret_int (by omega), HF.out, HO.out⟩
end Go.Proofs.Ytfoigflgglpobaa.Tr
/- All that a tree keeps between calls. No condition. -/
set_option linter.unusedVariables false
namespace Go.Proofs.Ytfoigflgglpobaa.Tr
open Go.RowKit Go.Proofs.Ytfoigflgglpobaa.Aid
/-- free places hang on each other by their left ones -/
def Chain (f : Nat → Nd) : Nat → List Nat → Prop
  | x, [] => x = 0
  | x, y :: l => x = y ∧ Chain f (f y).l l
structure Full (w : World) (g gl : Nat) (s : TS) (T : Sh) (fl : List Nat) : Prop where
  m : IsT w g gl s
  rb : RB s.f s.root T
  lt : ∀ z, z ∈ T.ino → z < s.sz
  lk : Lk s.f s.sz
  srt : Srt s.f T.ino
  tak : ∀ z, z < s.sz → ((s.f z).tak = true ↔ z ∈ T.ino)
  z0 : s.f 0 = zeroN
  free : Chain s.f s.free fl
  fpl : ∀ z, z ∈ fl → z ≠ 0 ∧ z < s.sz ∧ z ∉ T.ino
  fnd : fl.Nodup
  cnt : T.ino.length + fl.length + 1 = s.sz
  n : s.n = T.ino.length
  cap : s.cap = s.most + 1 ∧ s.most ≤ 4096
theorem hz_pos {z n : Nat} (h : z < n) : 0 < n := by omega
theorem Full.rd {w : World} {g gl : Nat} {s : TS} {T : Sh} {fl : List Nat} (h : Full w g gl s T fl) : Rd w g gl s T := ⟨h.m, h.rb.rep, h.rb.root, h.rb.nd, h.lt⟩
theorem Full.same {w w' : World} {g gl : Nat} {s : TS} {T : Sh} {fl : List Nat} (h : Full w g gl s T fl) (e : ∀ b, TF g gl b → w'.heap[b]? = w.heap[b]?) : Full w' g gl s T fl := ⟨h.m.same e, h.rb, h.lt, h.lk, h.srt, h.tak, h.z0, h.free, h.fpl, h.fnd, h.cnt, h.n, h.cap⟩
theorem Full.below {w w' : World} {g gl : Nat} {s : TS} {T : Sh} {fl : List Nat} (h : Full w g gl s T fl) (b : Below w.heap.size w w') : Full w' g gl s T fl := h.same fun i hi => b.block i (h.m.foot_lt hi)
theorem full_new {w : World} {g gl : Nat} {p : Int} (hp : 1 ≤ p ∧ p ≤ 4096) (h : IsT w g gl (newS p)) : Full w g gl (newS p) .nil [] := by
  refine ⟨h, ⟨trivial, rfl, trivial, rfl, ⟨0, rfl⟩, List.nodup_nil⟩, fun z hz => absurd hz (by simp [Sh.ino]), fun z hz => ?_, List.Pairwise.nil, fun z hz => ?_, rfl, rfl, fun z hz => absurd hz (by simp), List.nodup_nil, rfl, rfl, ?_⟩
  · exact ⟨hz_pos hz, hz_pos hz, hz_pos hz⟩
  · constructor
    · intro e; cases e
    · intro e; exact absurd e (by simp [Sh.ino])
  · unfold newS; dsimp only; omega
end Go.Proofs.Ytfoigflgglpobaa.Tr
/- A whole node is written. No condition. -/
set_option linter.unusedVariables false
set_option linter.unusedSimpArgs false
namespace Go.Proofs.Ytfoigflgglpobaa.Tr
open Go.RowKit Go.Proofs.Ytfoigflgglpobaa.Aid
/-- a node is another one now -/
def repN (f : Nat → Nd) (x : Nat) (a : Nd) (z : Nat) : Nd := if z = x then a else f z
theorem repN_same (f : Nat → Nd) (x : Nat) (a : Nd) : repN f x a x = a := by unfold repN; rw [if_pos rfl]
theorem repN_ne {f : Nat → Nd} {x z : Nat} {a : Nd} (h : z ≠ x) : repN f x a z = f z := by unfold repN; rw [if_neg h]
def node8 (w : World) (gl n : Nat) (a : Nd) : World := (((((((w.setCell ⟨gl, n * 8, none⟩ (.int .i64 a.t)).setCell ⟨gl, n * 8 + 1, none⟩ (.int .i64 a.s)).setCell ⟨gl, n * 8 + 2, none⟩ (.int .i64 a.l)).setCell ⟨gl, n * 8 + 3, none⟩ (.int .i64 a.r)).setCell ⟨gl, n * 8 + 4, none⟩ (.int .i64 a.u)).setCell ⟨gl, n * 8 + 5, none⟩ (.bool a.red)).setCell ⟨gl, n * 8 + 6, none⟩ (.bool a.tak)).setCell ⟨gl, n * 8 + 7, none⟩ (.int .i64 a.turn)
theorem node8_far {w : World} {gl n b : Nat} {a : Nd} (h : b ≠ gl) : (node8 w gl n a).heap[b]? = w.heap[b]? := by
  unfold node8
  rw [Below.heap_setCell _ _ _ b h, Below.heap_setCell _ _ _ b h, Below.heap_setCell _ _ _ b h, Below.heap_setCell _ _ _ b h, Below.heap_setCell _ _ _ b h, Below.heap_setCell _ _ _ b h, Below.heap_setCell _ _ _ b h, Below.heap_setCell _ _ _ b h]
def nrr8 (cur : Array Value) (n : Nat) (a : Nd) : Array Value := (((((((cur.setIfInBounds (n * 8) (.int .i64 a.t)).setIfInBounds (n * 8 + 1) (.int .i64 a.s)).setIfInBounds (n * 8 + 2) (.int .i64 a.l)).setIfInBounds (n * 8 + 3) (.int .i64 a.r)).setIfInBounds (n * 8 + 4) (.int .i64 a.u)).setIfInBounds (n * 8 + 5) (.bool a.red)).setIfInBounds (n * 8 + 6) (.bool a.tak)).setIfInBounds (n * 8 + 7) (.int .i64 a.turn)
theorem node8_blk {w : World} {gl n : Nat} {t : TypeId} {cur : Array Value} {a : Nd} (h : Blk w gl t cur) : Blk (node8 w gl n a) gl t (nrr8 cur n a) := (((((((h.set_ _ _).set_ _ _).set_ _ _).set_ _ _).set_ _ _).set_ _ _).set_ _ _).set_ _ _
theorem nrr8_size (cur : Array Value) (n : Nat) (a : Nd) : (nrr8 cur n a).size = cur.size := by simp [nrr8]
theorem nrr8_old (cur : Array Value) (n i : Nat) (a : Nd) (h : i < n * 8 ∨ n * 8 + 8 ≤ i) : (nrr8 cur n a)[i]? = cur[i]? := by
  unfold nrr8
  simp only [Array.getElem?_setIfInBounds]
  rw [if_neg (by omega), if_neg (by omega), if_neg (by omega), if_neg (by omega), if_neg (by omega), if_neg (by omega), if_neg (by omega), if_neg (by omega)]
theorem nrr8_new (cur : Array Value) (n k : Nat) (a : Nd) (hk : k < 8) (h : (n + 1) * 8 ≤ cur.size) : (nrr8 cur n a)[n * 8 + k]? = a.cells[k]? := by
  unfold nrr8
  have h0 : n * 8 + 7 < cur.size := by omega
  have h1 : n * 8 + 6 < cur.size := by omega
  have h2 : n * 8 + 5 < cur.size := by omega
  have h3 : n * 8 + 4 < cur.size := by omega
  have h4 : n * 8 + 3 < cur.size := by omega
  have h5 : n * 8 + 2 < cur.size := by omega
  have h6 : n * 8 + 1 < cur.size := by omega
  have h7 : n * 8 < cur.size := by omega
  match k, hk with
  | 0, _ => simp [Array.getElem?_setIfInBounds, Nd.cells, h7]
  | 1, _ => simp [Array.getElem?_setIfInBounds, Nd.cells, h6]
  | 2, _ => simp [Array.getElem?_setIfInBounds, Nd.cells, h5]
  | 3, _ => simp [Array.getElem?_setIfInBounds, Nd.cells, h4]
  | 4, _ => simp [Array.getElem?_setIfInBounds, Nd.cells, h3]
  | 5, _ => simp [Array.getElem?_setIfInBounds, Nd.cells, h2]
  | 6, _ => simp [Array.getElem?_setIfInBounds, Nd.cells, h1]
  | 7, _ => simp [Array.getElem?_setIfInBounds, Nd.cells, h0]
theorem IsT.node {w : World} {g gl : Nat} {s : TS} (h : IsT w g gl s) {x : Nat} (hx : x < s.sz) (a : Nd) : IsT (node8 w gl x a) g gl { s with f := repN s.f x a } := by
  obtain ⟨cur, hb, hs⟩ := h.room
  obtain ⟨cur', hb', hs', hcell⟩ := h.n
  refine ⟨(node8_far h.ne).trans h.b, ⟨_, node8_blk hb', ?_, ?_⟩, h.ne, h.sz, ⟨_, node8_blk hb, ?_⟩⟩
  · rw [nrr8_size]; exact hs'
  · intro y hy k hk
    show _ = (repN s.f x a y).cells[k]?
    by_cases e : y = x
    · subst e
      rw [repN_same, nrr8_new _ _ _ _ hk (by omega)]
    · rw [repN_ne e, nrr8_old _ _ _ _ (by omega)]
      exact hcell y hy k hk
  · rw [nrr8_size]; exact hs
theorem node8_only {S : Nat → Prop} {b w : World} {gl n : Nat} {a : Nd} (h : Only S b w) (hg : S gl) : Only S b (node8 w gl n a) := (((((((h.setCell (.inl hg) _).setCell (.inl hg) _).setCell (.inl hg) _).setCell (.inl hg) _).setCell (.inl hg) _).setCell (.inl hg) _).setCell (.inl hg) _).setCell (.inl hg) _
end Go.Proofs.Ytfoigflgglpobaa.Tr
/- A free place is taken, or a new one, or there is none. No condition but that memory holds a tree. -/
set_option linter.unusedVariables false
set_option linter.unusedSimpArgs false
namespace Go.Proofs.Ytfoigflgglpobaa.Tr
open Go.RowKit Go.Proofs.Ytfoigflgglpobaa.Aid
structure Placed (s : TS) (T : Sh) (fl : List Nat) (s1 : TS) (x : Nat) (fl1 : List Nat) : Prop where
  x0 : x ≠ 0
  lt : x < s1.sz
  nT : x ∉ T.ino
  nF : x ∉ fl1
  f : ∀ z, z < s.sz → s1.f z = s.f z
  sz : s.sz ≤ s1.sz
  new : ∀ z, z < s1.sz → z < s.sz ∨ z = x
  fx : (s1.f x).turn = if x < s.sz then (s.f x).turn else 0
  lk : Lk s1.f s1.sz
  ch : Chain s1.f s1.free fl1
  fl : ∀ z, z ∈ fl1 → z ∈ fl
  fnd : fl1.Nodup
  cnt : T.ino.length + fl1.length + 2 = s1.sz
  same : s1.root = s.root ∧ s1.n = s.n ∧ s1.most = s.most ∧ s1.cap = s.cap
theorem chain_keep {f f' : Nat → Nd} : ∀ (l : List Nat) (x : Nat), Chain f x l → (∀ z, z ∈ l → (f' z).l = (f z).l) → Chain f' x l := by
  intro l
  induction l with
  | nil => intro x h _; exact h
  | cons y l ih =>
    intro x h k
    exact ⟨h.1, ih _ (by rw [k y (by simp)]; exact h.2) fun z hz => k z (by simp [hz])⟩
theorem placed_free {w : World} {g gl : Nat} {s : TS} {T : Sh} {x : Nat} {fl : List Nat} (h : Full w g gl s T (x :: fl)) : s.free = x ∧ Placed s T (x :: fl) { s with free := (s.f x).l } x fl := by
  obtain ⟨a, b, c⟩ := h.fpl x (by simp)
  have hn := List.nodup_cons.1 h.fnd
  refine ⟨h.free.1, a, b, c, hn.1, fun _ _ => rfl, Nat.le_refl _, fun z hz => .inl hz, by rw [if_pos b], h.lk, h.free.2, fun z hz => by simp [hz], hn.2, ?_, rfl, rfl, rfl, rfl⟩
  have := h.cnt
  simp only [List.length_cons] at this
  show _ = s.sz
  omega
theorem placed_grow {w : World} {g gl : Nat} {s : TS} {T : Sh} (h : Full w g gl s T []) : s.free = 0 ∧ Placed s T [] s.more s.sz [] := by
  refine ⟨h.free, ?_, ?_, fun e => absurd (h.lt _ e) (Nat.lt_irrefl _), by simp, fun z hz => ?_, ?_, fun z hz => ?_, ?_, fun z hz => ?_, h.free, fun z hz => hz, List.nodup_nil, ?_, rfl, rfl, rfl, rfl⟩
  · have := h.m.sz.1; omega
  · show s.sz < s.sz + 1; omega
  · show (if z = s.sz then zeroN else s.f z) = s.f z
    rw [if_neg (by omega)]
  · show s.sz ≤ s.sz + 1; omega
  · have : z < s.sz + 1 := hz
    omega
  · rw [if_neg (Nat.lt_irrefl _)]
    show (if s.sz = s.sz then zeroN else s.f s.sz).turn = 0
    rw [if_pos rfl]; rfl
  · have hz' : z < s.sz + 1 := hz
    have h1 := h.m.sz.1
    show (if z = s.sz then zeroN else s.f z).l < s.sz + 1 ∧ (if z = s.sz then zeroN else s.f z).r < s.sz + 1 ∧ (if z = s.sz then zeroN else s.f z).u < s.sz + 1
    by_cases e : z = s.sz
    · rw [if_pos e]
      exact ⟨Nat.succ_pos _, Nat.succ_pos _, Nat.succ_pos _⟩
    · rw [if_neg e]
      have := h.lk z (by omega)
      omega
  · have := h.cnt
    simp only [List.length_nil] at this ⊢
    show _ = s.sz + 1
    omega
/-- there is a place -/
theorem place_yes (g gl : Nat) (s : TS) (T : Sh) (fl : List Nat) (w : World) (h : Full w g gl s T fl) (hn : T.ino.length < s.most) :
    Calls Try.prog 51 #[.pointer (some ⟨g, 0, none⟩)] w fun e w' => ∃ x s1 fl1, e = .returned (.int .i64 ((x : Nat) : Int)) ∧ IsT w' g gl s1 ∧ Only (TF g gl) w w' ∧ Placed s T fl s1 x fl1 := by
  cases fl with
  | nil =>
    obtain ⟨a, b⟩ := placed_grow h
    have hc := h.cnt
    simp only [List.length_nil] at hc
    have hcap := h.cap
    refine (place_grow g gl s w h.m a (by omega) (by omega)).mono ?_
    rintro e w' ⟨h1, h2, h3⟩
    exact ⟨_, _, _, h1, h2, h3, b⟩
  | cons x fl =>
    obtain ⟨a, b⟩ := placed_free h
    refine (place_free g gl s w h.m x a b.x0 b.lt).mono ?_
    rintro e w' ⟨h1, h2, h3⟩
    exact ⟨_, _, _, h1, h2, h3, b⟩
/-- there is none -/
theorem place_no (g gl : Nat) (s : TS) (T : Sh) (fl : List Nat) (w : World) (h : Full w g gl s T fl) (hn : T.ino.length = s.most) :
    Calls Try.prog 51 #[.pointer (some ⟨g, 0, none⟩)] w fun e w' => e = .returned (.int .i64 0) ∧ IsT w' g gl s ∧ Only (TF g gl) w w' := by
  have hc := h.cnt
  have hcap := h.cap
  have hs := h.m.sz
  cases fl with
  | nil =>
    simp only [List.length_nil] at hc
    exact place_full g gl s w h.m h.free (by omega)
  | cons x fl =>
    simp only [List.length_cons] at hc
    omega
end Go.Proofs.Ytfoigflgglpobaa.Tr
/- What Put leaves, in plain Lean: all that a tree keeps, with one place more. No program in sight; no condition. -/
set_option linter.unusedVariables false
namespace Go.Proofs.Ytfoigflgglpobaa.Tr
open Go.RowKit Go.Proofs.Ytfoigflgglpobaa.Aid
/-- the new place's node -/
def newNd (kt ks tn : Int) : Nd := ⟨kt, ks, 0, 0, 0, true, true, tn⟩
/-- numbers with the new place filled -/
def TS.filled (s1 : TS) (x : Nat) (kt ks : Int) : TS := { s1 with f := repN s1.f x (newNd kt ks ((s1.f x).turn + 1)), n := s1.n + 1 }
/-- what Put does to a tree's numbers -/
structure PutRes (s : TS) (T : Sh) (kt ks : Int) (s' : TS) (T' : Sh) (x : Nat) (pre post : List Nat) : Prop where
  ino : T.ino = pre ++ post
  ino' : T'.ino = pre ++ x :: post
  pre : ∀ z, z ∈ pre → kle s.f z kt ks
  post : ∀ z, z ∈ post → ¬ kle s.f z kt ks
  key : (s'.f x).t = kt ∧ (s'.f x).s = ks
  old : ∀ z, z < s.sz → z ≠ x → (s'.f z).t = (s.f z).t ∧ (s'.f z).s = (s.f z).s ∧ (s'.f z).turn = (s.f z).turn
  turn : (s'.f x).turn = (if x < s.sz then (s.f x).turn else 0) + 1
  new : ∀ z, z < s'.sz → z < s.sz ∨ z = x
  sz : s.sz ≤ s'.sz
  x0 : x ≠ 0
  lt : x < s'.sz
  most : s'.most = s.most
section
variable {w W : World} {g gl : Nat} {s s1 : TS} {T : Sh} {fl fl1 : List Nat} {x : Nat} {kt ks : Int}
theorem filled_ne (z : Nat) (hz : z ≠ x) : (s1.filled x kt ks).f z = s1.f z := repN_ne hz
theorem filled_x : (s1.filled x kt ks).f x = newNd kt ks ((s1.f x).turn + 1) := repN_same _ _ _
theorem put_rb (h : Full w g gl s T fl) (p : Placed s T fl s1 x fl1) : RB (s1.filled x kt ks).f (s1.filled x kt ks).root T := by
  have hs : ∀ z, z ∈ T.ino → (s1.filled x kt ks).f z = s.f z := fun z hz => (filled_ne z (fun e : z = x => p.nT (by rw [← e]; exact hz))).trans (p.f z (h.lt z hz))
  exact ⟨h.rb.rep.frame _ fun z hz => same_eq (hs z hz), (show (s1.filled x kt ks).root = s.root from p.same.1).trans h.rb.root, h.rb.nrr, h.rb.red, h.rb.bal, h.rb.nd⟩
theorem put_old (h : Full w g gl s T fl) (p : Placed s T fl s1 x fl1) {z : Nat} (hz : z ∈ T.ino) : (s1.filled x kt ks).f z = s.f z := (filled_ne z (fun e : z = x => p.nT (by rw [← e]; exact hz))).trans (p.f z (h.lt z hz))
theorem put_srt (h : Full w g gl s T fl) (p : Placed s T fl s1 x fl1) : Srt (s1.filled x kt ks).f T.ino := srt_keep h.srt fun z hz => by rw [put_old h p hz]; exact ⟨rfl, rfl⟩
theorem filled_lk (p : Placed s T fl s1 x fl1) : Lk (s1.filled x kt ks).f (s1.filled x kt ks).sz := fun z hz => by
  by_cases e : z = x
  · subst e; rw [filled_x]
    have := p.lt
    exact ⟨hz_pos this, hz_pos this, hz_pos this⟩
  · rw [filled_ne z e]; exact p.lk z hz
theorem up_mem {f : Nat → Nd} {root : Nat} {T : Sh} {b : Nat} {k : Cx} (h : Desc f root T kt ks b k .nil) (hu : k.up ≠ 0) : k.up ∈ T.ino := by
  rw [← h.pl, (plug_perm k .nil).mem_iff]
  exact List.mem_append_right _ (RepC.up_mem h.rc hu)
theorem putF_ne {f : Nat → Nd} {root : Nat} {k : Cx} {z : Nat} (hx : z ≠ x) (hu : k.up = 0 ∨ z ≠ k.up) (hk : ∀ c y sd sib kk, k = .fr c y sd sib kk → y ≠ 0) : (putF f root k x).1 z = f z := by
  cases k with
  | top => exact setU_ne hx
  | fr c y sd sib kk =>
    have hz : z ≠ y := by
      rcases hu with hu | hu
      · exact absurd hu (hk _ _ _ _ _ rfl)
      · exact hu
    show setCh (setU f x y) y sd x z = f z
    rw [setCh_ne hz, setU_ne hx]
theorem fr_ne0 {f : Nat → Nd} {root h0 : Nat} {k : Cx} (h : RepC f root k h0) : ∀ c y sd sib kk, k = .fr c y sd sib kk → y ≠ 0 := by
  rintro c y sd sib kk rfl
  exact h.1
theorem putF_eq {f : Nat → Nd} {root : Nat} {T : Sh} {b : Nat} {k : Cx} (h : Desc f root T kt ks b k .nil) {z : Nat} (hz : z ∉ T.ino) (hx : z ≠ x) : (putF f root k x).1 z = f z := by
  refine putF_ne hx ?_ (fr_ne0 h.rc)
  by_cases hu : k.up = 0
  · exact .inl hu
  · exact .inr fun e => hz (e ▸ up_mem h hu)
/-- mending's state, behind the hanging -/
theorem put_mdst (h : Full w g gl s T fl) (p : Placed s T fl s1 x fl1) {b : Nat} {k : Cx} (d : Desc (s1.filled x kt ks).f (s1.filled x kt ks).root T kt ks b k .nil) :
    MdSt ((s1.filled x kt ks).with (putF (s1.filled x kt ks).f (s1.filled x kt ks).root k x)) (k.pre ++ x :: k.post) (putF (s1.filled x kt ks).f (s1.filled x kt ks).root k x) k x (fun _ => .nil) ∧ T.ino = k.pre ++ k.post := by
  obtain ⟨m, e1, e2⟩ := put_mend d h.rb.nd p.nT p.x0 (by rw [filled_x]; rfl) (by rw [filled_x]; rfl) (by rw [filled_x]; rfl)
  have hmem : ∀ z, z ∈ k.pre ++ x :: k.post ↔ z = x ∨ z ∈ T.ino := fun z => by
    rw [e2]; simp only [List.mem_append, List.mem_cons]
    constructor
    · rintro (a | a | a)
      · exact .inr (.inl a)
      · exact .inl a
      · exact .inr (.inr a)
    · rintro (a | a | a)
      · exact .inr (.inl a)
      · exact .inl a
      · exact .inr (.inr a)
  have z0 : 0 ∉ k.pre ++ x :: k.post := fun e => by
    rcases (hmem 0).1 e with e | e
    · exact p.x0 e.symm
    · exact (h.rd.ne0 e) rfl
  have hup : k.up < s1.sz := by
    by_cases e : k.up = 0
    · rw [e]; exact hz_pos p.lt
    · exact Nat.lt_of_lt_of_le (h.lt _ (up_mem d e)) p.sz
  have hroot : s1.root < s1.sz := by
    rw [p.same.1, h.rb.root]
    by_cases e : T.root = 0
    · rw [e]; exact hz_pos p.lt
    · exact Nat.lt_of_lt_of_le (h.lt _ (root_mem e)) p.sz
  refine ⟨⟨⟨z0, fun z hz => ?_, Keep.refl _, fun _ _ => rfl, ?_, ?_⟩, ?_, ⟨0, b, m⟩, e1⟩, e2⟩
  · show z < s1.sz
    rcases (hmem z).1 hz with rfl | e
    · exact p.lt
    · exact Nat.lt_of_lt_of_le (h.lt _ e) p.sz
  · show Lk (putF _ _ k x).1 s1.sz
    have l1 : Lk (s1.filled x kt ks).f s1.sz := filled_lk p
    cases k with
    | top => exact l1.setU x (hz_pos p.lt)
    | fr c y sd sib kk => exact (l1.setU x hup).setCh y hup sd p.lt
  · show (putF _ _ k x).2 < s1.sz
    cases k with
    | top => exact p.lt
    | fr c y sd sib kk => exact hroot
  · show ((putF _ _ k x).1 0).red = false
    rw [putF_eq d (fun e => h.rd.ne0 e rfl) (Ne.symm p.x0), filled_ne 0 (Ne.symm p.x0), p.f 0 (hz_pos (Nat.lt_of_lt_of_le h.m.sz.1 (Nat.le_refl _))), h.z0]
    rfl
/-- behind the mending: all that a tree keeps -/
theorem put_full (h : Full w g gl s T fl) (p : Placed s T fl s1 x fl1) {b : Nat} {k : Cx} (d : Desc (s1.filled x kt ks).f (s1.filled x kt ks).root T kt ks b k .nil) {q : (Nat → Nd) × Nat}
    (hm : IsT W g gl (((s1.filled x kt ks).with (putF (s1.filled x kt ks).f (s1.filled x kt ks).root k x)).with q)) (e : MdEnd ((s1.filled x kt ks).with (putF (s1.filled x kt ks).f (s1.filled x kt ks).root k x)) (k.pre ++ x :: k.post) q) :
    ∃ T', Full W g gl (((s1.filled x kt ks).with (putF (s1.filled x kt ks).f (s1.filled x kt ks).root k x)).with q) T' fl1 ∧ PutRes s T kt ks (((s1.filled x kt ks).with (putF (s1.filled x kt ks).f (s1.filled x kt ks).root k x)).with q) T' x k.pre k.post := by
  obtain ⟨m, e2⟩ := put_mdst h p d
  obtain ⟨st, T', rb, hT'⟩ := e
  have keep : Keep (s1.filled x kt ks).f q.1 := (keep_put _ _ _ _).trans st.keep
  have hmem : ∀ z, z ∈ T'.ino ↔ z = x ∨ z ∈ T.ino := fun z => by
    rw [hT', e2]; simp only [List.mem_append, List.mem_cons]
    constructor
    · rintro (a | a | a)
      · exact .inr (.inl a)
      · exact .inl a
      · exact .inr (.inr a)
    · rintro (a | a | a)
      · exact .inr (.inl a)
      · exact .inl a
      · exact .inr (.inr a)
  have hold : ∀ z, z < s.sz → z ≠ x → (q.1 z).t = (s.f z).t ∧ (q.1 z).s = (s.f z).s ∧ (q.1 z).tak = (s.f z).tak ∧ (q.1 z).turn = (s.f z).turn := fun z hz hx => by
    have := keep z
    rw [filled_ne z hx, p.f z hz] at this
    exact this
  have hx : (q.1 x).t = kt ∧ (q.1 x).s = ks ∧ (q.1 x).tak = true ∧ (q.1 x).turn = (s1.f x).turn + 1 := by
    have := keep x
    rw [filled_x] at this
    exact this
  have hout : ∀ z, z ∉ T.ino → z ≠ x → q.1 z = s1.f z := fun z hz hx => by
    rw [st.away z (by rw [← hT']; exact fun e => ((hmem z).1 e).elim hx hz)]
    show (putF _ _ k x).1 z = _
    rw [putF_eq d hz hx, filled_ne z hx]
  have hpre : ∀ z, z ∈ k.pre → kle s.f z kt ks := fun z hz => by
    have h1 := d.pre z hz
    unfold kle at h1 ⊢
    rwa [put_old h p (show z ∈ T.ino by rw [e2]; simp [hz])] at h1
  have hpost : ∀ z, z ∈ k.post → ¬ kle s.f z kt ks := fun z hz => by
    have h1 := d.post z hz
    unfold kle at h1 ⊢
    rwa [put_old h p (show z ∈ T.ino by rw [e2]; simp [hz])] at h1
  have hlt : ∀ z, z ∈ T'.ino → z < s1.sz := fun z hz => by
    rcases (hmem z).1 hz with rfl | e
    · exact p.lt
    · exact Nat.lt_of_lt_of_le (h.lt _ e) p.sz
  refine ⟨T', ⟨hm, rb, hlt, st.lk, ?_, fun z hz => ?_, ?_, ?_, fun z hz => ?_, p.fnd, ?_, ?_, ?_⟩, ⟨e2, hT', hpre, hpost, ⟨hx.1, hx.2.1⟩, fun z hz hzx => ⟨(hold z hz hzx).1, (hold z hz hzx).2.1, (hold z hz hzx).2.2.2⟩, ?_, p.new, p.sz, p.x0, p.lt, p.same.2.2.1⟩⟩
  · rw [hT']
    have hk : ∀ z, z ∈ T.ino → z ≠ x := fun z hz e => p.nT (e ▸ hz)
    have h1 : Srt q.1 (k.pre ++ k.post) := by
      rw [← e2]
      exact srt_keep h.srt fun z hz => ⟨(hold z (h.lt z hz) (hk z hz)).1, (hold z (h.lt z hz) (hk z hz)).2.1⟩
    refine srt_put h1 (fun z hz => ?_) (fun z hz => ?_)
    · have hz' : z ∈ T.ino := by rw [e2]; simp [hz]
      have := hpre z hz
      unfold kle at this ⊢
      show (q.1 z).t < (q.1 x).t ∨ (q.1 z).t = (q.1 x).t ∧ (q.1 z).s ≤ (q.1 x).s
      rw [(hold z (h.lt z hz') (hk z hz')).1, (hold z (h.lt z hz') (hk z hz')).2.1, hx.1, hx.2.1]
      exact this
    · have hz' : z ∈ T.ino := by rw [e2]; simp [hz]
      have := hpost z hz
      unfold kle at this ⊢
      show ¬ ((q.1 z).t < (q.1 x).t ∨ (q.1 z).t = (q.1 x).t ∧ (q.1 z).s ≤ (q.1 x).s)
      rw [(hold z (h.lt z hz') (hk z hz')).1, (hold z (h.lt z hz') (hk z hz')).2.1, hx.1, hx.2.1]
      exact this
  · show (q.1 z).tak = true ↔ _
    rw [hmem]
    by_cases ex : z = x
    · subst ex; rw [hx.2.2.1]; simp
    · rcases p.new z hz with hzs | hzs
      · rw [(hold z hzs ex).2.2.1, h.tak z hzs]
        exact ⟨.inr, fun a => a.resolve_left ex⟩
      · exact absurd hzs ex
  · show q.1 0 = zeroN
    rw [hout 0 (fun e => h.rd.ne0 e rfl) (Ne.symm p.x0), p.f 0 (Nat.lt_of_lt_of_le h.m.sz.1 (Nat.le_refl _)), h.z0]
  · show Chain q.1 s1.free fl1
    refine chain_keep _ _ p.ch fun z hz => ?_
    have h1 := h.fpl z (p.fl z hz)
    rw [hout z h1.2.2 (fun e => p.nF (e ▸ hz))]
  · have h1 := h.fpl z (p.fl z hz)
    exact ⟨h1.1, Nat.lt_of_lt_of_le h1.2.1 p.sz, fun e => ((hmem z).1 e).elim (fun e => p.nF (e ▸ hz)) h1.2.2⟩
  · have := p.cnt
    rw [hT']; rw [e2] at this
    simp only [List.length_append, List.length_cons] at this ⊢
    show _ = s1.sz
    omega
  · have := h.n
    rw [hT']; rw [e2] at this
    simp only [List.length_append, List.length_cons] at this ⊢
    show s1.n + 1 = _
    rw [p.same.2.1]; omega
  · show s1.cap = s1.most + 1 ∧ s1.most ≤ 4096
    rw [p.same.2.2.1, p.same.2.2.2]; exact h.cap
  · show (q.1 x).turn = _
    rw [hx.2.2.2, p.fx]
end
end Go.Proofs.Ytfoigflgglpobaa.Tr
