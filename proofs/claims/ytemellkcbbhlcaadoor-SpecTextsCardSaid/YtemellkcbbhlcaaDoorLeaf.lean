/- Arguments that are structs, arrays, and slices of those, whose innermost parts are ints and bools: what their cells hold. Plain theorems over any program; no condition. -/
import Derived.Deep.Slices
import Derived.ChangeSame
import Derived.ChangeArms
import Derived.OpenShut
import Derived.WideShapes
import Derived.Laws.Rows
import Derived.RowKit
set_option linter.unusedVariables false
namespace Go.Proofs.YtemellkcbbhlcaaDoor.Leaf
open Go.RowKit Go.ChangeShapes Go.WideShapes Go.Deep
inductive Lf where
  | int (k : IntKind)
  | bool
def Lf.fits : Lf → Value → Prop
  | .int k, v => ∃ n, v = .int k n ∧ (Lit.int k n).wf = true
  | .bool, v => ∃ b, v = .bool b
inductive Fits : List Lf → List Value → Prop where
  | nil : Fits [] []
  | cons {l : Lf} {v : Value} {ls : List Lf} {vs : List Value} : l.fits v → Fits ls vs → Fits (l :: ls) (v :: vs)
theorem Fits.length {ls : List Lf} {vs : List Value} (h : Fits ls vs) : vs.length = ls.length := by
  induction h with
  | nil => rfl
  | cons _ _ ih => simp [ih]
theorem Fits.append {a b : List Lf} {x y : List Value} (h : Fits a x) (k : Fits b y) : Fits (a ++ b) (x ++ y) := by
  induction h with
  | nil => simpa using k
  | cons h1 _ ih => exact .cons h1 ih
theorem Fits.int {k : IntKind} {ls : List Lf} {vs : List Value} (h : Fits (.int k :: ls) vs) : ∃ n r, vs = .int k n :: r ∧ (Lit.int k n).wf = true ∧ Fits ls r := by
  cases h with
  | cons h1 h2 =>
    obtain ⟨n, rfl, hw⟩ := h1
    exact ⟨n, _, rfl, hw, h2⟩
theorem Fits.bool {ls : List Lf} {vs : List Value} (h : Fits (.bool :: ls) vs) : ∃ b r, vs = .bool b :: r ∧ Fits ls r := by
  cases h with
  | cons h1 h2 =>
    obtain ⟨b, rfl⟩ := h1
    exact ⟨b, _, rfl, h2⟩
theorem Fits.done {vs : List Value} (h : Fits [] vs) : vs = [] := by cases h; rfl
def leavesFs (g : TypeId → Option (List Lf)) (c : TypeId → Nat) : Nat → List Field → Option (List Lf)
  | _, [] => some []
  | acc, f :: fs => (g f.type).bind fun l => if f.offset = acc ∧ c f.type = l.length then (leavesFs g c (acc + l.length) fs).map (l ++ ·) else none
def leaves (P : Program) : Nat → TypeId → Option (List Lf)
  | 0, _ => none
  | n + 1, t => match P.underlying t with
    | some (.int k) => some [.int k]
    | some .bool => some [.bool]
    | some (.array m e) => (leaves P n e).bind fun l => if P.cellsOf e = l.length ∧ P.cellsOf t = m * l.length then some (List.replicate m l).flatten else none
    | some (.struct fs) => (leavesFs (leaves P n) P.cellsOf 0 fs.toList).bind fun l => if P.cellsOf t = l.length then some l else none
    | _ => none
theorem fits_fields {g : TypeId → Option (List Lf)} {c : TypeId → Nat} {cs : List Value} (fs : List Field) : ∀ (acc : Nat) (ls : List Lf), leavesFs g c acc fs = some ls →
    (∀ f ∈ fs, ∀ l, g f.type = some l → Fits l ((cs.drop f.offset).take (c f.type))) → Fits ls ((cs.drop acc).take ls.length) := by
  induction fs with
  | nil =>
    intro acc ls h _
    simp only [leavesFs, Option.some.injEq] at h
    subst h
    simpa using Fits.nil
  | cons f fs ih =>
    intro acc ls h hf
    simp only [leavesFs] at h
    obtain ⟨l, hl, h⟩ := Option.bind_eq_some_iff.1 h
    by_cases hc : f.offset = acc ∧ c f.type = l.length
    · rw [if_pos hc] at h
      obtain ⟨l', hl', rfl⟩ := Option.map_eq_some_iff.1 h
      have h1 := hf f List.mem_cons_self l hl
      rw [hc.1, hc.2] at h1
      have h2 := ih (acc + l.length) l' hl' (fun f' hf' => hf f' (List.mem_cons_of_mem _ hf'))
      rw [List.length_append, List.take_add, List.drop_drop]
      exact h1.append h2
    · rw [if_neg hc] at h
      cases h
theorem fits_array {l : List Lf} {cs : List Value} (m : Nat) (h : ∀ i, i < m → Fits l ((cs.drop (i * l.length)).take l.length)) : Fits (List.replicate m l).flatten (cs.take (m * l.length)) := by
  induction m with
  | zero => simpa using Fits.nil
  | succ m ih =>
    have h1 := ih (fun i hi => h i (by omega))
    have h2 := h m (by omega)
    rw [List.replicate_succ', List.flatten_append, Nat.succ_mul, List.take_add]
    simpa using h1.append h2
theorem leaves_fit {H : Type} {enc : TypeId × Value → H} {P : Program} {w : World} {base : Nat} {spare : Nat → Bool} {held : Bool} (n : Nat) : ∀ {t : TypeId} {ls : List Lf} {fuel : Nat} {cs : List Value} {x : DataW H × List MemPlace},
    leaves P n t = some ls → DataW.trod enc P w base spare held fuel t cs = some x → Fits ls cs := by
  induction n with
  | zero => intro t ls fuel cs x h; simp [leaves] at h
  | succ n ih =>
    intro t ls fuel cs x h ht
    unfold leaves at h
    split at h
    · next k hu =>
      obtain ⟨m, rfl, _, hw⟩ := DataW.trod_int hu ht
      simp only [Option.some.injEq] at h
      subst h
      exact .cons ⟨m, rfl, hw⟩ .nil
    · next hu =>
      obtain ⟨b, rfl, _⟩ := DataW.trod_bool hu ht
      simp only [Option.some.injEq] at h
      subst h
      exact .cons ⟨b, rfl⟩ .nil
    · next m e hu =>
      obtain ⟨l, hl, h⟩ := Option.bind_eq_some_iff.1 h
      by_cases hc : P.cellsOf e = l.length ∧ P.cellsOf t = m * l.length
      · rw [if_pos hc] at h
        simp only [Option.some.injEq] at h
        subst h
        obtain ⟨xs, m', _, _, hlen, hxl, hat⟩ := DataW.trod_array hu ht
        have := fits_array (cs := cs) m (fun i hi => by
          have h1 := hat i hi
          rw [hc.1] at h1
          have hx : xs[i]? = some (xs[i]'(by omega)) := List.getElem?_eq_getElem (by omega)
          exact ih hl (h1.trans hx))
        rwa [List.take_of_length_le (by rw [hlen, hc.2]; exact Nat.le_refl _)] at this
      · rw [if_neg hc] at h; cases h
    · next fs hu =>
      obtain ⟨l, hl, h⟩ := Option.bind_eq_some_iff.1 h
      by_cases hc : P.cellsOf t = l.length
      · rw [if_pos hc] at h
        simp only [Option.some.injEq] at h
        subst h
        obtain ⟨xs, m', _, _, hlen, hxl, hat⟩ := DataW.trod_struct hu ht
        have := fits_fields (cs := cs) fs.toList 0 l hl (fun f hf l' hl' => by
          obtain ⟨i, hi, rfl⟩ := List.mem_iff_getElem.1 hf
          have hi' : i < fs.size := by simpa using hi
          have h1 := hat i fs[i] (by simp [hi'])
          have hx : xs[i]? = some (xs[i]'(by omega)) := List.getElem?_eq_getElem (by omega)
          have h2 := ih (t := fs[i].type) (by simpa using hl') (h1.trans hx)
          simpa using h2)
        rwa [List.drop_zero, List.take_of_length_le (by rw [hlen, hc]; exact Nat.le_refl _)] at this
      · rw [if_neg hc] at h; cases h
    · cases h
/-- a slice that came in: at each place the cells of one element -/
def Row (w : World) (ls : List Lf) (A : Option Addr) (n : Nat) : Prop :=
  n = 0 ∨ ∃ x, ∃ E : Nat → List Value, A = some x ∧ x.block < w.heap.size ∧ n ≤ maxLen ∧ ∀ k, k < n → Fits ls (E k) ∧ ∀ j, j < ls.length → w.cell? (x.add (k * ls.length + j)) = (E k)[j]?
theorem open_row {H : Type} {enc : TypeId × Value → H} {P : Program} {w : World} {base : Nat} {spare : Nat → Bool} {held : Bool} {t e : TypeId} {A : Option Addr} {len cap : Nat} {d : DataW H} {p : List MemPlace} {ls : List Lf} (k : Nat)
    (ht : P.underlying t = some (.slice e)) (hl : leaves P k e = some ls) (hc : P.cellsOf e = ls.length) (hpos : 0 < ls.length) (h : DataW.Trod enc P w base spare held t (.slice A len cap) d p) : Row w ls A len := by
  obtain ⟨fuel, h⟩ := h
  rcases open_slice ht h with ⟨hcs, _⟩ | ⟨a, len', cap', m, n, D, Pl, hcs, hb, hll, hm, hmm, hx, hi⟩
  · simp [Value.cells] at hcs
    exact .inl hcs.2.1
  · simp [Value.cells] at hcs
    obtain ⟨rfl, rfl, rfl⟩ := hcs
    by_cases h0 : len = 0
    · exact .inl h0
    have hlm : len ≤ m := by rw [hmm]; split <;> omega
    have each : ∀ i, i < len → ∃ cs', Fits ls cs' ∧ ∀ j, j < ls.length → w.cell? (a.add (i * ls.length + j)) = cs'[j]? := by
      intro i hi'
      obtain ⟨cs', hcell, ht'⟩ := hi i (by omega)
      obtain ⟨_, hcl, hat⟩ := World.cells?_some hcell
      refine ⟨cs', leaves_fit k hl ht', fun j hj => ?_⟩
      rw [← hat j (by omega), hc, Go.Deep.add_add]
    refine .inr ⟨a, fun i => if hi' : i < len then (each i hi').choose else [], rfl, ?_, by omega, fun i hi' => ?_⟩
    · obtain ⟨cs', hf, hat⟩ := each 0 (by omega)
      have := hat 0 hpos
      have hl0 : 0 < cs'.length := by rw [hf.length]; exact hpos
      rw [List.getElem?_eq_getElem hl0] at this
      have := block_lt_of_cell this
      unfold Addr.add at this
      split at this <;> exact this
    · simp only [hi', dif_pos]
      exact (each i hi').choose_spec
theorem open_flat {H : Type} {enc : TypeId × Value → H} {P : Program} {w : World} {base b0 : Nat} {spare : Nat → Bool} {held : Bool} {r : Reach} {t : TypeId} {fs : Array Field} {v : Value} {d : DataW H} {p : List MemPlace} {ls : List Lf} (k : Nat)
    (hs : P.underlying t = some (.struct fs)) (hl : leaves P k t = some ls) (hv : Value.okWide P w r b0 t v) (h : DataW.Trod enc P w base spare held t v d p) : ∃ cs, v = .agg cs ∧ Fits ls cs.toList := by
  obtain ⟨cs, rfl, hsz⟩ := okWide_struct hs hv
  obtain ⟨fuel, h⟩ := h
  exact ⟨cs, rfl, leaves_fit k hl h⟩
/-- the cells of element k, told one by one -/
theorem cell_of {w : World} {x : Addr} {k c j : Nat} {E : List Value} {v : Value} (h : ∀ j, j < c → w.cell? (x.add (k * c + j)) = E[j]?) (hj : j < c) (hv : E[j]? = some v) :
    w.cell? (if j = 0 then x.add (k * c) else ⟨(x.add (k * c)).block, (x.add (k * c)).off + j, none⟩) = some v := by
  rw [← hv, ← h j hj, ← Go.Deep.add_add]
  congr 1
end Go.Proofs.YtemellkcbbhlcaaDoor.Leaf
