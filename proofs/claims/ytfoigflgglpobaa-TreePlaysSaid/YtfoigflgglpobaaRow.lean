/- Appending any slice to a row of one's own: at a step of a region. No program in sight; no condition. -/
import Derived.Test.YtfoigflgglpobaaOnl
import Derived.Maps.AppendAt
import Derived.Laws.OwnMore
import Derived.Deep.AppendLies
set_option linter.unusedVariables false
namespace Go.Proofs.Ytfoigflgglpobaa.Aid
open Go.RowKit
/-- what a slice yields: m elements, the cells ys -/
def IsSrc (w : World) (size : Nat) (x : Value) (m : Nat) (ys : List Value) : Prop :=
  (x = .slice none 0 0 ∧ m = 0 ∧ ys = []) ∨ ∃ ad c, x = .slice (some ad) m c ∧ ys.length = m * size ∧ ∀ j u, ys[j]? = some u → w.cell? (ad.add j) = some u
/-- one of the model's cells, each -/
def Ones (l : List Value) : Prop := ∀ u ∈ l, u.oneCell' = true
theorem Ones.take {l : List Value} (h : Ones l) (n : Nat) : Ones (l.take n) := fun u hu => h u (List.mem_of_mem_take hu)
theorem Ones.drop {l : List Value} (h : Ones l) (n : Nat) : Ones (l.drop n) := fun u hu => h u (List.mem_of_mem_drop hu)
theorem Ones.append {l k : List Value} (h : Ones l) (g : Ones k) : Ones (l ++ k) := fun u hu => (List.mem_append.1 hu).elim (h u) (g u)
theorem add0 (g k j : Nat) : (⟨g, k, none⟩ : Addr).add j = ⟨g, k + j, none⟩ := by unfold Addr.add; split <;> simp_all
section
variable {w : World} {base : Nat} {e : TypeId} {size : Nat} {n : Nat} {xs : List Value}
theorem src_own {v : Value} (h : w.ownsRow base e size v n xs) : IsSrc w size v n xs := by
  obtain ⟨hl, ⟨rfl, rfl⟩ | ⟨g, cap, cur, rfl, h1, h2, h3, h4, h5, h6⟩⟩ := h
  · exact .inl ⟨rfl, rfl, by cases xs; rfl; simp at hl⟩
  · refine .inr ⟨_, _, rfl, hl, fun j u hu => ?_⟩
    rw [add0, Nat.zero_add]
    exact own_cell ⟨hl, .inr ⟨g, cap, cur, rfl, h1, h2, h3, h4, h5, h6⟩⟩ hu
theorem src_take {g cap k : Nat} (h : w.ownsRow base e size (.slice (some ⟨g, 0, none⟩) n cap) n xs) (hk : k ≤ n) (c : Nat) : IsSrc w size (.slice (some ⟨g, 0, none⟩) k c) k (xs.take (k * size)) := by
  have hl := h.1
  have hks : k * size ≤ n * size := Nat.mul_le_mul_right _ hk
  refine .inr ⟨_, _, rfl, by rw [List.length_take]; omega, fun j u hu => ?_⟩
  rw [add0, Nat.zero_add]
  refine own_cell h ?_
  rw [List.getElem?_take] at hu
  split at hu
  · exact hu
  · cases hu
theorem src_drop {g cap k : Nat} (h : w.ownsRow base e size (.slice (some ⟨g, 0, none⟩) n cap) n xs) (hk : k ≤ n) (c : Nat) : IsSrc w size (.slice (some ⟨g, k * size, none⟩) (n - k) c) (n - k) (xs.drop (k * size)) := by
  have hl := h.1
  have hks : k * size ≤ n * size := Nat.mul_le_mul_right _ hk
  refine .inr ⟨_, _, rfl, by rw [List.length_drop, hl, Nat.sub_mul], fun j u hu => ?_⟩
  rw [add0]
  refine own_cell h ?_
  rw [List.getElem?_drop] at hu
  exact hu
theorem own_cap {A : Option Addr} {m cap : Nat} (h : w.ownsRow base e size (.slice A m cap) n xs) : m = n ∧ n ≤ cap ∧ (A = none → n = 0 ∧ cap = 0) ∧ ∀ x, A = some x → x = ⟨x.block, 0, none⟩ := by
  obtain ⟨hl, ⟨hv, rfl⟩ | ⟨g, cap', cur, hv, h1, h2, h3, h4, h5, h6⟩⟩ := h
  · injection hv with ha hm hc; subst ha hm hc; exact ⟨rfl, Nat.le_refl _, fun _ => ⟨rfl, rfl⟩, fun x hx => (by cases hx)⟩
  · injection hv with ha hm hc; subst ha hm hc; exact ⟨rfl, h3, fun e => (by cases e), fun x hx => (by injection hx with hx; subst hx; rfl)⟩
/-- l[:k], as the model writes it -/
theorem src_to {A : Option Addr} {cap k : Nat} (h : w.ownsRow base e size (.slice A n cap) n xs) (hk : k ≤ n) : IsSrc w size (.slice A k cap) k (xs.take (k * size)) := by
  obtain ⟨_, h1, h2, h3⟩ := own_cap h
  cases A with
  | none =>
    obtain ⟨rfl, rfl⟩ := h2 rfl
    obtain rfl : k = 0 := by omega
    exact .inl ⟨rfl, rfl, by simp⟩
  | some x =>
    have hx := h3 x rfl
    obtain ⟨g, hg⟩ : ∃ g, x.block = g := ⟨_, rfl⟩
    rw [hg] at hx
    subst hx
    exact src_take h hk cap
/-- l[k:], as the model writes it -/
theorem src_from {A : Option Addr} {cap k : Nat} (h : w.ownsRow base e size (.slice A n cap) n xs) (hk : k ≤ n) : IsSrc w size (.slice (if cap = k then A else Option.map (fun x => x.add (k * size)) A) (n - k) (cap - k)) (n - k) (xs.drop (k * size)) := by
  obtain ⟨_, h1, h2, h3⟩ := own_cap h
  cases A with
  | none =>
    obtain ⟨rfl, rfl⟩ := h2 rfl
    obtain rfl : k = 0 := by omega
    have hx : xs = [] := by have := h.1; cases xs; rfl; simp at this
    refine .inl ⟨by simp, rfl, by rw [hx]; simp⟩
  | some x =>
    have hx := h3 x rfl
    obtain ⟨g, hg⟩ : ∃ g, x.block = g := ⟨_, rfl⟩
    rw [hg] at hx
    subst hx
    by_cases hc : cap = k
    · have hn : n = k := by omega
      rw [if_pos hc]
      have hl := h.1
      subst hn
      have e1 : n - n = 0 := Nat.sub_self n
      refine .inr ⟨_, _, rfl, by rw [e1, List.length_drop, hl]; omega, fun j u hu => ?_⟩
      rw [List.getElem?_drop, List.getElem?_eq_none (by omega)] at hu
      cases hu
    · rw [if_neg hc]
      have e2 : Option.map (fun x : Addr => x.add (k * size)) (some ⟨g, 0, none⟩) = some ⟨g, k * size, none⟩ := by
        show some ((⟨g, 0, none⟩ : Addr).add (k * size)) = _
        rw [add0, Nat.zero_add]
      rw [e2]
      exact src_drop h hk _
theorem own_empty {g : Nat} (h : Blk w g e #[]) (hb : base ≤ g) : w.ownsRow base e size (.slice (some ⟨g, 0, none⟩) 0 0) 0 [] :=
  ⟨by simp, .inr ⟨g, 0, #[], rfl, hb, h, Nat.le_refl _, Nat.zero_le _, by simp, by simp⟩⟩
theorem src_block {B : Nat} {cs : Array Value} {t : TypeId} (h : Blk w B t cs) (hs : cs.size = size) (c : Nat) : IsSrc w size (.slice (some ⟨B, 0, none⟩) 1 c) 1 cs.toList :=
  .inr ⟨_, _, rfl, by simp [hs], World.news_of_block h⟩
theorem IsSrc.same {x : Value} {m : Nat} {ys : List Value} {w' : World} (h : IsSrc w size x m ys) (k : ∀ b, x.ownBlock = some b → w'.heap[b]? = w.heap[b]?) : IsSrc w' size x m ys := by
  rcases h with h | ⟨ad, c, rfl, h1, h2⟩
  · exact .inl h
  · refine .inr ⟨ad, c, rfl, h1, fun j u hu => ?_⟩
    rw [← h2 j u hu]
    exact World.cell?_of_block (by rw [add_block]; exact k ad.block rfl)
end
/-- building 'append(append(append([]T{}, l[:k]...), x), l[k:]...)': R holds of what was there; b0 is the empty row, B holds x, v1 is the first part -/
structure S10 (R : World → Prop) (L : Nat) (e : TypeId) (W : World) (b0 : Nat) : Prop where
  r : R W
  z : Blk W b0 e #[]
  l : L ≤ b0
structure S11 (R : World → Prop) (L : Nat) (e : TypeId) (xs : Array Value) (W : World) (b0 B : Nat) : Prop where
  r : R W
  z : Blk W b0 e #[]
  l : L ≤ b0
  x : Blk W B e xs
  ne : B ≠ b0
structure S20 (R : World → Prop) (L : Nat) (e : TypeId) (size : Nat) (W : World) (v : Value) (n : Nat) (ys : List Value) : Prop where
  r : R W
  o : W.ownsRow L e size v n ys
structure S21 (R : World → Prop) (L : Nat) (e : TypeId) (size : Nat) (xs : Array Value) (W : World) (v : Value) (n : Nat) (ys : List Value) (B : Nat) : Prop where
  r : R W
  o : W.ownsRow L e size v n ys
  x : Blk W B e xs
section
variable {R : World → Prop} {L : Nat} {e : TypeId} {size : Nat} {xs : Array Value} {W W' : World} {b0 B n : Nat} {v v' : Value} {ys : List Value}
/-- R stands whatever is made, drawn, or changed in rows from L on -/
structure Stands (R : World → Prop) (L : Nat) : Prop where
  low : ∀ W, R W → L ≤ W.heap.size
  alloc : ∀ W o, R W → R (W.alloc o)
  drew : ∀ W, R W → R W.drew
  grow : ∀ W W' row, R W → W.grownBy W' row → (∀ b, row = some b → L ≤ b) → R W'
theorem S10.start (st : Stands R L) (h : R W) : S10 R L e ((W.alloc (.cells #[] e)).drew) W.heap.size := ⟨st.drew _ (st.alloc _ _ h), (Blk.new W e #[]).drew, st.low _ h⟩
theorem S11.start1 (st : Stands R L) (h : R W) : S11 R L e xs (((W.alloc (.cells #[] e)).alloc (.cells xs e)).drew) W.heap.size (W.heap.size + 1) := by
  have h1 := Blk.new (W.alloc (.cells #[] e)) e xs
  have e1 : (W.alloc (.cells #[] e)).heap.size = W.heap.size + 1 := by simp
  rw [e1] at h1
  exact ⟨st.drew _ (st.alloc _ _ (st.alloc _ _ h)), ((Blk.new W e #[]).alloc _).drew, st.low _ h, h1.drew, by omega⟩
theorem S11.start2 (st : Stands R L) (h : R W) : S11 R L e xs (((W.alloc (.cells xs e)).alloc (.cells #[] e)).drew) (W.heap.size + 1) W.heap.size := by
  have h1 := Blk.new (W.alloc (.cells xs e)) e #[]
  have e1 : (W.alloc (.cells xs e)).heap.size = W.heap.size + 1 := by simp
  rw [e1] at h1
  have := st.low _ h
  exact ⟨st.drew _ (st.alloc _ _ (st.alloc _ _ h)), h1.drew, by omega, ((Blk.new W e xs).alloc _).drew, by omega⟩
theorem S10.next (st : Stands R L) (h : S10 R L e W b0) (ho : W'.ownsRow L e size v n ys) (g : W.grownBy W' (Value.slice (some ⟨b0, 0, none⟩) 0 0).ownBlock) : S20 R L e size W' v n ys :=
  ⟨st.grow _ _ _ h.r g (fun b hb => by injection hb with hb; subst hb; exact h.l), ho⟩
theorem S11.next (st : Stands R L) (h : S11 R L e xs W b0 B) (ho : W'.ownsRow L e size v n ys) (g : W.grownBy W' (Value.slice (some ⟨b0, 0, none⟩) 0 0).ownBlock) : S21 R L e size xs W' v n ys B :=
  ⟨st.grow _ _ _ h.r g (fun b hb => by injection hb with hb; subst hb; exact h.l), ho, h.x.grown g (fun e => by injection e with e; exact h.ne e)⟩
theorem S20.box (st : Stands R L) (h : S20 R L e size W v n ys) : S21 R L e size xs (W.alloc (.cells xs e)) v n ys W.heap.size := ⟨st.alloc _ _ h.r, own_alloc h.o _, Blk.new _ _ _⟩
theorem S21.next (st : Stands R L) (h : S21 R L e size xs W v n ys B) {m : Nat} {zs : List Value} (ho : W'.ownsRow L e size v' m zs) (g : W.grownBy W' v.ownBlock) : S20 R L e size W' v' m zs :=
  ⟨st.grow _ _ _ h.r g (fun b hb => (own_block h.o hb).1), ho⟩
theorem S20.next (st : Stands R L) (h : S20 R L e size W v n ys) {m : Nat} {zs : List Value} (ho : W'.ownsRow L e size v' m zs) (g : W.grownBy W' v.ownBlock) : S20 R L e size W' v' m zs :=
  ⟨st.grow _ _ _ h.r g (fun b hb => (own_block h.o hb).1), ho⟩
end
variable {P : Program}
theorem run_append_any (w : World) (base : Nat) (t ty e : TypeId) (i : TypeInfo) (z : Value) (size bytes : Nat) (ht : P.underlying t = some (.slice e)) (hi : P.info? e = some i) (hz : i.zero = some z)
    (hsize : i.size = size) (hby : i.bytes = bytes) (hzs : z.cells.size = size) (hsz : 0 < size)
    (v : Value) (n : Nat) (xs : List Value) (hown : w.ownsRow base e size v n xs) (x : Value) (m : Nat) (ys : List Value) (hx : IsSrc w size x m ys) (h1 : Ones ys)
    (h63 : n + m ≤ maxLen) (hbytes : (n + m) * bytes ≤ 140737488355328) (hbase : base ≤ w.heap.size) :
    ∃ v' w', (Builtin.append_ #[t, t] ty #[v, x]).run P w = .ok v' w' ∧ w'.ownsRow base e size v' (n + m) (xs ++ ys) ∧ w.grownBy w' v.ownBlock ∧ (v'.ownBlock = v.ownBlock ∨ v'.ownBlock = some w.heap.size) := by
  rcases hx with ⟨rfl, rfl, rfl⟩ | ⟨ad, c, rfl, hl, hc⟩
  · exact ⟨v, w, run_append_owned_none w base t ty e i size ht hi v n xs hown, by simpa using hown, World.grownBy.refl _ _, .inl rfl⟩
  · obtain ⟨v', w', a1, a2, a3, _, a5⟩ := run_append_own_at w base t ty e i z size bytes ht hi hz hsize hby hzs hsz v n xs hown ad m c ys hl hc h1 h63 hbytes hbase
    exact ⟨v', w', a1, a2, a3, a5⟩
theorem wp_append_any (w : World) {o : Oper} {a : Act} {K : Act → World → Prop} {Q : Exit → Act → World → Prop} (s x : Operand) (t : TypeId)
    (ho : o.op = .call { callee := .builtin .append, args := #[s, x], argTypes := #[t, t] })
    (base : Nat) (e : TypeId) (i : TypeInfo) (z : Value) (size bytes : Nat) (ht : P.underlying t = some (.slice e)) (hi : P.info? e = some i) (hz : i.zero = some z)
    (hsize : i.size = size) (hby : i.bytes = bytes) (hzs : z.cells.size = size) (hsz : 0 < size)
    (v : Value) (n : Nat) (xs : List Value) (hs : a.eval s = v) (hown : w.ownsRow base e size v n xs) (xv : Value) (m : Nat) (ys : List Value) (hx : a.eval x = xv) (hsrc : IsSrc w size xv m ys) (h1 : Ones ys)
    (h63 : n + m ≤ maxLen) (hbytes : (n + m) * bytes ≤ 140737488355328) (hbase : base ≤ w.heap.size)
    (h : ∀ v' w', w'.ownsRow base e size v' (n + m) (xs ++ ys) → w.grownBy w' v.ownBlock → (v'.ownBlock = v.ownBlock ∨ v'.ownBlock = some w.heap.size) → K (a.put o.dst v') w') : o.wp P a w K Q := by
  obtain ⟨v', w', hr, h2, h3, h4⟩ := run_append_any (P := P) w base t o.type e i z size bytes ht hi hz hsize hby hzs hsz v n xs hown xv m ys hsrc h1 h63 hbytes hbase
  unfold Oper.wp execOp
  simp only [ho, resolve, invoke, builtin, Sem.run_bind, Sem.run_pure, Result.andThen_ok, List.map_toArray, List.map_cons, List.map_nil, hs, hx, hr]
  exact h v' w' h2 h3 h4
theorem wpList_append_any (w : World) {ops : Array Oper} {rest : List Oper} {o : Oper} {a : Act} {Q : Exit → Act → World → Prop} (hgd : o.guard = none) (s x : Operand) (t : TypeId)
    (ho : o.op = .call { callee := .builtin .append, args := #[s, x], argTypes := #[t, t] })
    (base : Nat) (e : TypeId) (i : TypeInfo) (z : Value) (size bytes : Nat) (ht : P.underlying t = some (.slice e)) (hi : P.info? e = some i) (hz : i.zero = some z)
    (hsize : i.size = size) (hby : i.bytes = bytes) (hzs : z.cells.size = size) (hsz : 0 < size)
    (v : Value) (n : Nat) (xs : List Value) (hs : a.eval s = v) (hown : w.ownsRow base e size v n xs) (xv : Value) (m : Nat) (ys : List Value) (hx : a.eval x = xv) (hsrc : IsSrc w size xv m ys) (h1 : Ones ys)
    (h63 : n + m ≤ maxLen) (hbytes : (n + m) * bytes ≤ 140737488355328) (hbase : base ≤ w.heap.size)
    (h : ∀ v' w', w'.ownsRow base e size v' (n + m) (xs ++ ys) → w.grownBy w' v.ownBlock → (v'.ownBlock = v.ownBlock ∨ v'.ownBlock = some w.heap.size) → wpList P ops Q rest (a.put o.dst v') w') : wpList P ops Q (o :: rest) a w :=
  wpList_plain hgd fun _ hK => wp_append_any w s x t ho base e i z size bytes ht hi hz hsize hby hzs hsz v n xs hs hown xv m ys hx hsrc h1 h63 hbytes hbase fun v' w' h2 h3 h4 => hK _ _ (h v' w' h2 h3 h4)
theorem step_append_any (w : World) {ops : Array Oper} {o : Oper} {a : Act} {K : Act → World → Prop} {Q : Exit → Act → World → Prop} {E : Prop} (hgd : o.guard = none) (s x : Operand) (t : TypeId)
    (ho : o.op = .call { callee := .builtin .append, args := #[s, x], argTypes := #[t, t] })
    (base : Nat) (e : TypeId) (i : TypeInfo) (z : Value) (size bytes : Nat) (ht : P.underlying t = some (.slice e)) (hi : P.info? e = some i) (hz : i.zero = some z)
    (hsize : i.size = size) (hby : i.bytes = bytes) (hzs : z.cells.size = size) (hsz : 0 < size)
    (v : Value) (n : Nat) (xs : List Value) (hs : a.eval s = v) (hown : w.ownsRow base e size v n xs) (xv : Value) (m : Nat) (ys : List Value) (hx : a.eval x = xv) (hsrc : IsSrc w size xv m ys) (h1 : Ones ys)
    (h63 : n + m ≤ maxLen) (hbytes : (n + m) * bytes ≤ 140737488355328) (hbase : base ≤ w.heap.size)
    (h : ∀ v' w', w'.ownsRow base e size v' (n + m) (xs ++ ys) → w.grownBy w' v.ownBlock → (v'.ownBlock = v.ownBlock ∨ v'.ownBlock = some w.heap.size) → K (a.put o.dst v') w') :
    if Region.wanted o (yielded ops a.tmps) = true then Oper.wp P o a w K Q else E := by
  have hw : Region.wanted o (yielded ops a.tmps) = true := by simp [Region.wanted, hgd]
  rw [if_pos hw]
  exact wp_append_any w s x t ho base e i z size bytes ht hi hz hsize hby hzs hsz v n xs hs hown xv m ys hx hsrc h1 h63 hbytes hbase h
end Go.Proofs.Ytfoigflgglpobaa.Aid
