/- What memory holds of tree's nodes, and the contracts of its smallest functions. No condition but that a place is one. -/
import Derived.Test.YtfoigflgglpobaaTrs
import Derived.Test.YtfoigflgglpobaaOnl
import Derived.Test.YtfoigflgglpobaaProg
set_option linter.unusedVariables false
set_option linter.unusedSimpArgs false
namespace Go.Proofs.Ytfoigflgglpobaa.Tr
open Go.RowKit Go.Proofs.Ytfoigflgglpobaa.Aid
def Nd.cells (a : Nd) : Array Value := #[.int .i64 a.t, .int .i64 a.s, .int .i64 a.l, .int .i64 a.r, .int .i64 a.u, .bool a.red, .bool a.tak, .int .i64 a.turn]
/-- a block of nodes -/
def IsN (w : World) (gl : Nat) (f : Nat → Nd) (sz : Nat) : Prop := ∃ cur, Blk w gl 104 cur ∧ sz * 8 ≤ cur.size ∧ ∀ x, x < sz → ∀ k, k < 8 → cur[x * 8 + k]? = (f x).cells[k]?
theorem IsN.lt {w : World} {gl : Nat} {f : Nat → Nd} {sz : Nat} (h : IsN w gl f sz) : gl < w.heap.size := by obtain ⟨cur, hb, _⟩ := h; exact hb.lt
theorem IsN.frozen {w : World} {gl : Nat} {f : Nat → Nd} {sz : Nat} (h : IsN w gl f sz) (i : Nat) : w.frozen? ⟨gl, i, none⟩ = false := by obtain ⟨cur, hb, _⟩ := h; exact hb.frozen i
theorem IsN.cell {w : World} {gl : Nat} {f : Nat → Nd} {sz : Nat} (h : IsN w gl f sz) (x : Nat) (hx : x < sz) (k : Nat) (hk : k < 8) : w.cell? ⟨gl, x * 8 + k, none⟩ = (f x).cells[k]? := by obtain ⟨cur, hb, _, hc⟩ := h; exact (hb.cell _).trans (hc x hx k hk)
theorem IsN.same {w w' : World} {gl : Nat} {f : Nat → Nd} {sz : Nat} (h : IsN w gl f sz) (e : w'.heap[gl]? = w.heap[gl]?) : IsN w' gl f sz := by obtain ⟨cur, hb, hs, hc⟩ := h; exact ⟨cur, e.trans hb, hs, hc⟩
theorem IsN.set {w : World} {gl : Nat} {f : Nat → Nd} {sz : Nat} (h : IsN w gl f sz) {x : Nat} (hx : x < sz) {k : Nat} (hk : k < 8) {v : Value} {f' : Nat → Nd} (hf : ∀ y, y ≠ x → f' y = f y) (hv : (f' x).cells = (f x).cells.setIfInBounds k v) : IsN (w.setCell ⟨gl, x * 8 + k, none⟩ v) gl f' sz := by
  obtain ⟨cur, hb, hs, hc⟩ := h
  refine ⟨_, hb.set_ _ _, by simpa using hs, fun y hy j hj => ?_⟩
  rw [Array.getElem?_setIfInBounds]
  by_cases e : y = x
  · subst e
    rw [hv, Array.getElem?_setIfInBounds]
    by_cases e2 : k = j
    · subst e2
      rw [if_pos rfl, if_pos rfl, if_pos (by omega), if_pos (by show k < 8; exact hk)]
    · rw [if_neg (by omega), if_neg e2]; exact hc y hy j hj
  · rw [if_neg (by omega), hf y e]; exact hc y hy j hj
theorem IsN.setL {w : World} {gl : Nat} {f : Nat → Nd} {sz : Nat} (h : IsN w gl f sz) {x : Nat} (hx : x < sz) (v : Nat) : IsN (w.setCell ⟨gl, x * 8 + 2, none⟩ (.int .i64 v)) gl (setCh f x false v) sz :=
  h.set hx (by omega) (fun y hy => setCh_ne hy) (by simp [setCh, Nd.cells])
theorem IsN.setR {w : World} {gl : Nat} {f : Nat → Nd} {sz : Nat} (h : IsN w gl f sz) {x : Nat} (hx : x < sz) (v : Nat) : IsN (w.setCell ⟨gl, x * 8 + 3, none⟩ (.int .i64 v)) gl (setCh f x true v) sz :=
  h.set hx (by omega) (fun y hy => setCh_ne hy) (by simp [setCh, Nd.cells])
theorem IsN.setU {w : World} {gl : Nat} {f : Nat → Nd} {sz : Nat} (h : IsN w gl f sz) {x : Nat} (hx : x < sz) (v : Nat) : IsN (w.setCell ⟨gl, x * 8 + 4, none⟩ (.int .i64 v)) gl (Tr.setU f x v) sz :=
  h.set hx (by omega) (fun y hy => setU_ne hy) (by simp [Tr.setU, Nd.cells])
theorem IsN.setC {w : World} {gl : Nat} {f : Nat → Nd} {sz : Nat} (h : IsN w gl f sz) {x : Nat} (hx : x < sz) (c : Bool) : IsN (w.setCell ⟨gl, x * 8 + 5, none⟩ (.bool c)) gl (Tr.setC f x c) sz :=
  h.set hx (by omega) (fun y hy => setC_ne hy) (by simp [Tr.setC, Nd.cells])
/-- where a side's place lies in a node -/
def off (s : Bool) : Nat := if s then 3 else 2
theorem IsN.setS {w : World} {gl : Nat} {f : Nat → Nd} {sz : Nat} (h : IsN w gl f sz) {x : Nat} (hx : x < sz) (s : Bool) (v : Nat) : IsN (w.setCell ⟨gl, x * 8 + off s, none⟩ (.int .i64 v)) gl (setCh f x s v) sz := by
  cases s
  · exact h.setL hx v
  · exact h.setR hx v
/-- a tree's numbers -/
structure TS where
  f : Nat → Nd
  sz : Nat
  cap : Nat
  root : Nat
  n : Nat
  free : Nat
  most : Nat
/-- a block of nodes has room -/
def Room (w : World) (gl cap : Nat) : Prop := ∃ cur, Blk w gl 104 cur ∧ cap * 8 ≤ cur.size
theorem Room.same {w w' : World} {gl cap : Nat} (h : Room w gl cap) (e : w'.heap[gl]? = w.heap[gl]?) : Room w' gl cap := by obtain ⟨cur, hb, hs⟩ := h; exact ⟨cur, e.trans hb, hs⟩
theorem Room.set_ {w : World} {gl cap : Nat} (h : Room w gl cap) (i : Nat) (v : Value) : Room (w.setCell ⟨gl, i, none⟩ v) gl cap := by obtain ⟨cur, hb, hs⟩ := h; exact ⟨_, hb.set_ i v, by simpa using hs⟩
structure IsT (w : World) (g gl : Nat) (s : TS) : Prop where
  b : Blk w g 102 #[.slice (some ⟨gl, 0, none⟩) s.sz s.cap, .int .i64 s.root, .int .i64 s.n, .int .i64 s.free, .int .i64 s.most]
  n : IsN w gl s.f s.sz
  ne : g ≠ gl
  sz : 1 ≤ s.sz ∧ s.sz ≤ s.cap ∧ s.cap ≤ 10000
  room : Room w gl s.cap
/-- the tree's two blocks -/
def TF (g gl : Nat) (b : Nat) : Prop := b = g ∨ b = gl
theorem IsT.same {w w' : World} {g gl : Nat} {s : TS} (h : IsT w g gl s) (e : ∀ b, TF g gl b → w'.heap[b]? = w.heap[b]?) : IsT w' g gl s := ⟨(e g (.inl rfl)).trans h.b, h.n.same (e gl (.inr rfl)), h.ne, h.sz, h.room.same (e gl (.inr rfl))⟩
theorem IsT.foot_lt {w : World} {g gl : Nat} {s : TS} (h : IsT w g gl s) {b : Nat} (hb : TF g gl b) : b < w.heap.size := by
  rcases hb with rfl | rfl
  · exact h.b.lt
  · exact h.n.lt
theorem IsT.below {w w' : World} {g gl : Nat} {s : TS} (h : IsT w g gl s) (b : Below w.heap.size w w') : IsT w' g gl s := h.same fun i hi => b.block i (h.foot_lt hi)
theorem IsT.drewN {w : World} {g gl : Nat} {s : TS} (h : IsT w g gl s) (n : Nat) : IsT (w.drewN n) g gl s := h.same fun _ _ => rfl
theorem IsT.drew {w : World} {g gl : Nat} {s : TS} (h : IsT w g gl s) : IsT w.drew g gl s := h.same fun _ _ => rfl
theorem IsT.alloc {w : World} {g gl : Nat} {s : TS} (h : IsT w g gl s) (o : Obj) : IsT (w.alloc o) g gl s := h.below ((Below.refl _ _).alloc (Nat.le_refl _) o)
theorem IsT.far {w : World} {g gl : Nat} {s : TS} (h : IsT w g gl s) {p : Addr} (hp : ¬ TF g gl p.block) (u : Value) : IsT (w.setCell p u) g gl s := h.same fun b hb => Below.heap_setCell w p u b (by rintro rfl; exact hp hb)
/-- the nodes have changed alone -/
theorem IsT.nodes {w w' : World} {g gl : Nat} {s : TS} (h : IsT w g gl s) {f' : Nat → Nd} (n : IsN w' gl f' s.sz) (e : w'.heap[g]? = w.heap[g]?) (r : Room w' gl s.cap) : IsT w' g gl { s with f := f' } := ⟨e.trans h.b, n, h.ne, h.sz, r⟩
theorem IsT.setS {w : World} {g gl : Nat} {s : TS} (h : IsT w g gl s) {x : Nat} (hx : x < s.sz) (r : Bool) (v : Nat) : IsT (w.setCell ⟨gl, x * 8 + off r, none⟩ (.int .i64 v)) g gl { s with f := setCh s.f x r v } := h.nodes (h.n.setS hx r v) (Below.heap_setCell w _ _ g h.ne) (h.room.set_ _ _)
theorem IsT.setU {w : World} {g gl : Nat} {s : TS} (h : IsT w g gl s) {x : Nat} (hx : x < s.sz) (v : Nat) : IsT (w.setCell ⟨gl, x * 8 + 4, none⟩ (.int .i64 v)) g gl { s with f := Tr.setU s.f x v } := h.nodes (h.n.setU hx v) (Below.heap_setCell w _ _ g h.ne) (h.room.set_ _ _)
theorem IsT.setC {w : World} {g gl : Nat} {s : TS} (h : IsT w g gl s) {x : Nat} (hx : x < s.sz) (c : Bool) : IsT (w.setCell ⟨gl, x * 8 + 5, none⟩ (.bool c)) g gl { s with f := Tr.setC s.f x c } := h.nodes (h.n.setC hx c) (Below.heap_setCell w _ _ g h.ne) (h.room.set_ _ _)
theorem IsT.setRoot {w : World} {g gl : Nat} {s : TS} (h : IsT w g gl s) (v : Nat) : IsT (w.setCell ⟨g, 1, none⟩ (.int .i64 v)) g gl { s with root := v } := ⟨by simpa using h.b.set_ 1 (.int .i64 v), h.n.same (Below.heap_setCell w _ _ gl h.ne.symm), h.ne, h.sz, h.room.same (Below.heap_setCell w _ _ gl h.ne.symm)⟩
theorem IsT.hc {w : World} {g gl : Nat} {s : TS} (h : IsT w g gl s) : w.cell? ⟨g, 0, none⟩ = some (.slice (some ⟨gl, 0, none⟩) s.sz s.cap) ∧ w.cell? ⟨g, 1, none⟩ = some (.int .i64 s.root) ∧ w.cell? ⟨g, 2, none⟩ = some (.int .i64 s.n) ∧ w.cell? ⟨g, 3, none⟩ = some (.int .i64 s.free) ∧ w.cell? ⟨g, 4, none⟩ = some (.int .i64 s.most) := ⟨h.b.cell 0, h.b.cell 1, h.b.cell 2, h.b.cell 3, h.b.cell 4⟩
theorem IsT.l {w : World} {g gl : Nat} {s : TS} (h : IsT w g gl s) {x : Nat} (hx : x < s.sz) : w.cell? ⟨gl, x * 8 + 2, none⟩ = some (.int .i64 (s.f x).l) := h.n.cell x hx 2 (by omega)
theorem IsT.r {w : World} {g gl : Nat} {s : TS} (h : IsT w g gl s) {x : Nat} (hx : x < s.sz) : w.cell? ⟨gl, x * 8 + 3, none⟩ = some (.int .i64 (s.f x).r) := h.n.cell x hx 3 (by omega)
theorem IsT.u {w : World} {g gl : Nat} {s : TS} (h : IsT w g gl s) {x : Nat} (hx : x < s.sz) : w.cell? ⟨gl, x * 8 + 4, none⟩ = some (.int .i64 (s.f x).u) := h.n.cell x hx 4 (by omega)
theorem IsT.c {w : World} {g gl : Nat} {s : TS} (h : IsT w g gl s) {x : Nat} (hx : x < s.sz) : w.cell? ⟨gl, x * 8 + 5, none⟩ = some (.bool (s.f x).red) := h.n.cell x hx 5 (by omega)
theorem IsT.k {w : World} {g gl : Nat} {s : TS} (h : IsT w g gl s) {x : Nat} (hx : x < s.sz) : w.cell? ⟨gl, x * 8 + 6, none⟩ = some (.bool (s.f x).tak) := h.n.cell x hx 6 (by omega)
theorem IsT.t {w : World} {g gl : Nat} {s : TS} (h : IsT w g gl s) {x : Nat} (hx : x < s.sz) : w.cell? ⟨gl, x * 8 + 7, none⟩ = some (.int .i64 (s.f x).turn) := h.n.cell x hx 7 (by omega)
theorem IsT.sd {w : World} {g gl : Nat} {s : TS} (h : IsT w g gl s) {x : Nat} (hx : x < s.sz) (r : Bool) : w.cell? ⟨gl, x * 8 + off r, none⟩ = some (.int .i64 (ch s.f x r)) := by
  cases r
  · exact h.l hx
  · exact h.r hx
set_option maxHeartbeats 1000000 in
set_option maxRecDepth 100000 in
theorem child_any (g gl : Nat) (s : TS) (w : World) (h : IsT w g gl s) (x : Nat) (hx : x < s.sz) (r : Bool) :
    Calls Try.prog 52 #[.pointer (some ⟨g, 0, none⟩), .int .i64 x, .bool r] w fun e w' => e = .returned (.pointer (some ⟨gl, x * 8 + off r, none⟩)) ∧ w = w' := by
  obtain ⟨q0, _, _, _, _⟩ := h.hc
  have hs := h.sz
  cases r
  all_goals
    go_enter Try.func52, Try.ntmps52
    go_wp2
    go_ret
    exact ⟨rfl, rfl⟩
end Go.Proofs.Ytfoigflgglpobaa.Tr
