/- A whole node is written. No condition. -/
import Derived.Test.YtfoigflgglpobaaTrw
set_option linter.unusedVariables false
set_option linter.unusedSimpArgs false
namespace Go.Proofs.Ytfoigflgglpobaa.Tr
open Go.RowKit Go.Proofs.Ytfoigflgglpobaa.Aid
/-- a node is another one now -/
def repN (f : Nat → Nd) (x : Nat) (a : Nd) (z : Nat) : Nd := if z = x then a else f z
theorem repN_same (f : Nat → Nd) (x : Nat) (a : Nd) : repN f x a x = a := by unfold repN; rw [if_pos rfl]
theorem repN_ne {f : Nat → Nd} {x z : Nat} {a : Nd} (h : z ≠ x) : repN f x a z = f z := by unfold repN; rw [if_neg h]
def node8 (w : World) (gl n : Nat) (a : Nd) : World := (((((((w.setCell ⟨gl, n * 8, none⟩ (.int .i64 a.t)).setCell ⟨gl, n * 8 + 1, none⟩ (.int .i64 a.s)).setCell ⟨gl, n * 8 + 2, none⟩ (.int .i64 a.l)).setCell ⟨gl, n * 8 + 3, none⟩ (.int .i64 a.r)).setCell ⟨gl, n * 8 + 4, none⟩ (.int .i64 a.u)).setCell ⟨gl, n * 8 + 5, none⟩ (.bool a.red)).setCell ⟨gl, n * 8 + 6, none⟩ (.bool a.tak)).setCell ⟨gl, n * 8 + 7, none⟩ (.int .i64 a.turn)
theorem node8_far {w : World} {gl n b : Nat} {a : Nd} (h : b ≠ gl) : (node8 w gl n a).heap[b]? = w.heap[b]? := by
  unfold node8
  rw [Below.heap_setCell _ _ _ b h, Below.heap_setCell _ _ _ b h, Below.heap_setCell _ _ _ b h, Below.heap_setCell _ _ _ b h, Below.heap_setCell _ _ _ b h, Below.heap_setCell _ _ _ b h, Below.heap_setCell _ _ _ b h, Below.heap_setCell _ _ _ b h]
def nrr8 (cur : Array Value) (n : Nat) (a : Nd) : Array Value := (((((((cur.setIfInBounds (n * 8) (.int .i64 a.t)).setIfInBounds (n * 8 + 1) (.int .i64 a.s)).setIfInBounds (n * 8 + 2) (.int .i64 a.l)).setIfInBounds (n * 8 + 3) (.int .i64 a.r)).setIfInBounds (n * 8 + 4) (.int .i64 a.u)).setIfInBounds (n * 8 + 5) (.bool a.red)).setIfInBounds (n * 8 + 6) (.bool a.tak)).setIfInBounds (n * 8 + 7) (.int .i64 a.turn)
theorem node8_blk {w : World} {gl n : Nat} {t : TypeId} {cur : Array Value} {a : Nd} (h : Blk w gl t cur) : Blk (node8 w gl n a) gl t (nrr8 cur n a) := (((((((h.set_ _ _).set_ _ _).set_ _ _).set_ _ _).set_ _ _).set_ _ _).set_ _ _).set_ _ _
theorem nrr8_size (cur : Array Value) (n : Nat) (a : Nd) : (nrr8 cur n a).size = cur.size := by simp [nrr8]
theorem nrr8_old (cur : Array Value) (n i : Nat) (a : Nd) (h : i < n * 8 ∨ n * 8 + 8 ≤ i) : (nrr8 cur n a)[i]? = cur[i]? := by
  unfold nrr8
  simp only [Array.getElem?_setIfInBounds]
  rw [if_neg (by omega), if_neg (by omega), if_neg (by omega), if_neg (by omega), if_neg (by omega), if_neg (by omega), if_neg (by omega), if_neg (by omega)]
theorem nrr8_new (cur : Array Value) (n k : Nat) (a : Nd) (hk : k < 8) (h : (n + 1) * 8 ≤ cur.size) : (nrr8 cur n a)[n * 8 + k]? = a.cells[k]? := by
  unfold nrr8
  have h0 : n * 8 + 7 < cur.size := by omega
  have h1 : n * 8 + 6 < cur.size := by omega
  have h2 : n * 8 + 5 < cur.size := by omega
  have h3 : n * 8 + 4 < cur.size := by omega
  have h4 : n * 8 + 3 < cur.size := by omega
  have h5 : n * 8 + 2 < cur.size := by omega
  have h6 : n * 8 + 1 < cur.size := by omega
  have h7 : n * 8 < cur.size := by omega
  match k, hk with
  | 0, _ => simp [Array.getElem?_setIfInBounds, Nd.cells, h7]
  | 1, _ => simp [Array.getElem?_setIfInBounds, Nd.cells, h6]
  | 2, _ => simp [Array.getElem?_setIfInBounds, Nd.cells, h5]
  | 3, _ => simp [Array.getElem?_setIfInBounds, Nd.cells, h4]
  | 4, _ => simp [Array.getElem?_setIfInBounds, Nd.cells, h3]
  | 5, _ => simp [Array.getElem?_setIfInBounds, Nd.cells, h2]
  | 6, _ => simp [Array.getElem?_setIfInBounds, Nd.cells, h1]
  | 7, _ => simp [Array.getElem?_setIfInBounds, Nd.cells, h0]
theorem IsT.node {w : World} {g gl : Nat} {s : TS} (h : IsT w g gl s) {x : Nat} (hx : x < s.sz) (a : Nd) : IsT (node8 w gl x a) g gl { s with f := repN s.f x a } := by
  obtain ⟨cur, hb, hs⟩ := h.room
  obtain ⟨cur', hb', hs', hcell⟩ := h.n
  refine ⟨(node8_far h.ne).trans h.b, ⟨_, node8_blk hb', ?_, ?_⟩, h.ne, h.sz, ⟨_, node8_blk hb, ?_⟩⟩
  · rw [nrr8_size]; exact hs'
  · intro y hy k hk
    show _ = (repN s.f x a y).cells[k]?
    by_cases e : y = x
    · subst e
      rw [repN_same, nrr8_new _ _ _ _ hk (by omega)]
    · rw [repN_ne e, nrr8_old _ _ _ _ (by omega)]
      exact hcell y hy k hk
  · rw [nrr8_size]; exact hs
theorem node8_only {S : Nat → Prop} {b w : World} {gl n : Nat} {a : Nd} (h : Only S b w) (hg : S gl) : Only S b (node8 w gl n a) := (((((((h.setCell (.inl hg) _).setCell (.inl hg) _).setCell (.inl hg) _).setCell (.inl hg) _).setCell (.inl hg) _).setCell (.inl hg) _).setCell (.inl hg) _).setCell (.inl hg) _
end Go.Proofs.Ytfoigflgglpobaa.Tr
