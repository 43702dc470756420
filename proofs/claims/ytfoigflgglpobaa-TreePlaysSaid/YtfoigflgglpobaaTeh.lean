/- TreePlays: what stands from round to round, in plain Lean. No condition. -/
import Derived.Test.YtfoigflgglpobaaTeg
import Derived.Test.YtfoigflgglpobaaTec
set_option linter.unusedVariables false
set_option linter.unusedSimpArgs false
namespace Go.Proofs.Ytfoigflgglpobaa.Tr
open Go.RowKit Go.Proofs.Ytfoigflgglpobaa.Aid
theorem atOf_pre {a : It} : ∀ {l k : List It}, (∀ b, b ∈ l → ¬ klt a.t a.s b.t b.s) → (∀ b, b ∈ k → klt a.t a.s b.t b.s) → atOf a (l ++ k) = l.length := by
  intro l
  induction l with
  | nil =>
    intro k _ hk
    cases k with
    | nil => rfl
    | cons b k => show (if klt a.t a.s b.t b.s then 0 else _) = 0; rw [if_pos (hk b (by simp))]
  | cons c l ih =>
    intro k hl hk
    show (if klt a.t a.s c.t c.s then 0 else atOf a (l ++ k) + 1) = _
    rw [if_neg (hl c (by simp)), ih (fun b hb => hl b (by simp [hb])) hk]
    rfl
theorem row_put {s s' : TS} {T T' : Sh} {kt ks : Int} {x : Nat} {pre post : List Nat} (r : PutRes s T kt ks s' T' x pre post) (lt : ∀ z, z ∈ T.ino → z < s.sz) (nd : T'.ino.Nodup) : rowOf s' T'.ino = insIt ⟨kt, ks, x, (s'.f x).turn⟩ (rowOf s T.ino) := by
  have hne : ∀ z, z ∈ pre ++ post → z ≠ x := fun z hz e => by
    rw [r.ino'] at nd
    exact (sub_nodup nd).2 (e ▸ hz)
  have same : ∀ l : List Nat, (∀ z, z ∈ l → z ∈ pre ++ post) → rowOf s' l = rowOf s l := fun l hl => by
    unfold rowOf
    refine List.map_congr_left fun z hz => ?_
    obtain ⟨h1, h2, h3⟩ := r.old z (lt z (by rw [r.ino]; exact hl z hz)) (hne z (hl z hz))
    unfold itOf; rw [h1, h2, h3]
  have h1 : ∀ b, b ∈ rowOf s pre → ¬ klt kt ks b.t b.s := fun b hb => by
    obtain ⟨z, hz, rfl⟩ := List.mem_map.1 hb
    have := r.pre z hz
    unfold kle at this; unfold klt itOf; dsimp only; omega
  have h2 : ∀ b, b ∈ rowOf s post → klt kt ks b.t b.s := fun b hb => by
    obtain ⟨z, hz, rfl⟩ := List.mem_map.1 hb
    have := r.post z hz
    unfold kle at this; unfold klt itOf; dsimp only; omega
  have e1 : rowOf s T.ino = rowOf s pre ++ rowOf s post := by rw [r.ino]; simp [rowOf]
  have hx : itOf s' x = ⟨kt, ks, x, (s'.f x).turn⟩ := by unfold itOf; rw [r.key.1, r.key.2]
  unfold insIt
  rw [e1, atOf_pre h1 h2, List.take_left, List.drop_left, r.ino']
  show List.map _ _ = _
  rw [List.map_append, List.map_cons, hx]
  rw [show List.map (itOf s') pre = rowOf s pre from same pre (fun z hz => by simp [hz]), show List.map (itOf s') post = rowOf s post from same post (fun z hz => by simp [hz])]
theorem row_drop {s s' : TS} {T T' : Sh} {z : Nat} {pre post : List Nat} (r : DropRes s T z s' T' pre post) (nd : T.ino.Nodup) : rowOf s' T'.ino = (rowOf s T.ino).take pre.length ++ (rowOf s T.ino).drop (pre.length + 1) := by
  have hne : ∀ y, y ∈ pre ++ post → y ≠ z := fun y hy e => by
    rw [r.ino] at nd
    exact (sub_nodup nd).2 (e ▸ hy)
  have same : ∀ l : List Nat, (∀ y, y ∈ l → y ∈ pre ++ post) → rowOf s' l = rowOf s l := fun l hl => by
    unfold rowOf
    refine List.map_congr_left fun y hy => ?_
    obtain ⟨h1, h2⟩ := r.old y (hne y (hl y hy))
    unfold itOf; rw [h1, h2, r.turn y]
  have e1 : rowOf s T.ino = rowOf s pre ++ itOf s z :: rowOf s post := by rw [r.ino]; simp [rowOf]
  have e2 : (rowOf s pre).length = pre.length := rowOf_len s pre
  rw [r.ino', e1]
  show List.map _ _ = _
  rw [List.map_append, show List.map (itOf s') pre = rowOf s pre from same pre (fun y hy => by simp [hy]), show List.map (itOf s') post = rowOf s post from same post (fun y hy => by simp [hy])]
  rw [← e2, List.take_left, ← List.drop_drop, List.drop_left]
  rfl
/-- an act: its kind, a key, a number, a handle -/
structure TA where
  kind : Int
  t : Int
  s : Int
  i : Int
  p : Int
  n : Int
def TA.cells (a : TA) : Array Value := #[.int .u8 a.kind, .int .i64 a.t, .int .i64 a.s, .int .i64 a.i, .int .i64 a.p, .int .i64 a.n]
def ActAt (w : World) (x : Addr) (a : TA) : Prop := w.cell? x = some (.int .u8 a.kind) ∧ w.cell? ⟨x.block, x.off + 1, none⟩ = some (.int .i64 a.t) ∧ w.cell? ⟨x.block, x.off + 2, none⟩ = some (.int .i64 a.s) ∧ w.cell? ⟨x.block, x.off + 3, none⟩ = some (.int .i64 a.i) ∧ w.cell? ⟨x.block, x.off + 4, none⟩ = some (.int .i64 a.p) ∧ w.cell? ⟨x.block, x.off + 5, none⟩ = some (.int .i64 a.n)
/-- the acts that came in, as they read whenever nothing old has changed -/
def ActsIn (w : World) (B : Nat) (A : Option Addr) (n : Nat) : Prop := ∀ k, k < n → ∃ x, A = some x ∧ ∃ a : TA, (0 ≤ a.kind ∧ a.kind ≤ 255) ∧ (-9223372036854775808 ≤ a.i ∧ a.i ≤ 9223372036854775807) ∧ ∀ w', Below B w w' → ActAt w' (x.add (k * 6)) a
theorem acts_of {w : World} {A : Option Addr} {n : Nat} (h : Leaf.Row w [.int .u8, .int .i64, .int .i64, .int .i64, .int .i64, .int .i64] A n) : ActsIn w w.heap.size A n := by
  intro k hk
  rcases h with rfl | ⟨x, E, rfl, hx, _, hE⟩
  · omega
  obtain ⟨hf, hc⟩ := hE k hk
  obtain ⟨k0, r0, e0, w0, f0⟩ := hf.int
  obtain ⟨k1, r1, rfl, w1, f1⟩ := f0.int
  obtain ⟨k2, r2, rfl, w2, f2⟩ := f1.int
  obtain ⟨k3, r3, rfl, w3, f3⟩ := f2.int
  obtain ⟨k4, r4, rfl, w4, f4⟩ := f3.int
  obtain ⟨k5, r5, rfl, w5, f5⟩ := f4.int
  obtain rfl := f5.done
  refine ⟨x, rfl, ⟨k0, k1, k2, k3, k4, k5⟩, bounds_u8 w0, bounds_i64 w3, fun w' hb => ?_⟩
  have c := fun j hj v hv => Leaf.cell_of (c := 6) (j := j) (v := v) hc hj hv
  have key : ∀ q : Addr, q.block = x.block → w'.cell? q = w.cell? q := fun q hq => hb.cell (by rw [hq]; exact hx)
  exact ⟨(key _ (add_block _ _)).trans (c 0 (by decide) _ (by rw [e0]; rfl)), (key ⟨(x.add (k * 6)).block, (x.add (k * 6)).off + 1, none⟩ (add_block _ _)).trans (c 1 (by decide) _ (by rw [e0]; rfl)), (key ⟨(x.add (k * 6)).block, (x.add (k * 6)).off + 2, none⟩ (add_block _ _)).trans (c 2 (by decide) _ (by rw [e0]; rfl)), (key ⟨(x.add (k * 6)).block, (x.add (k * 6)).off + 3, none⟩ (add_block _ _)).trans (c 3 (by decide) _ (by rw [e0]; rfl)), (key ⟨(x.add (k * 6)).block, (x.add (k * 6)).off + 4, none⟩ (add_block _ _)).trans (c 4 (by decide) _ (by rw [e0]; rfl)), (key ⟨(x.add (k * 6)).block, (x.add (k * 6)).off + 5, none⟩ (add_block _ _)).trans (c 5 (by decide) _ (by rw [e0]; rfl))⟩
/-- what stands in TreePlays -/
structure PSt (w0 W : World) (g gl : Nat) (s : TS) (T : Sh) (fl : List Nat) (base : Nat) (v u : Value) (gone : List (Nat × Int)) : Prop where
  t : TSt w0 W g gl s T fl
  r : W.ownsRow base 56 4 v T.ino.length (itc (rowOf s T.ino))
  a : W.ownsRow base 29 2 u gone.length (flat gone)
  d : g < base ∧ gl < base ∧ w0.heap.size ≤ base ∧ base ≤ W.heap.size
  gn : ∀ e, e ∈ gone → Gone s e
  dis : ∀ b, v.ownBlock = some b → u.ownBlock ≠ some b
section
variable {w0 W W' : World} {g gl base : Nat} {s s' : TS} {T T' : Sh} {fl fl' : List Nat} {v u : Value} {gone : List (Nat × Int)}
theorem PSt.call (h : PSt w0 W g gl s T fl base v u gone) (b : Below W.heap.size W W') : PSt w0 W' g gl s T fl base v u gone :=
  ⟨h.t.call b, own_below h.r b, own_below h.a b, by have := h.d; have := b.size; omega, h.gn, h.dis⟩
theorem PSt.alloc (h : PSt w0 W g gl s T fl base v u gone) (o : Obj) : PSt w0 (W.alloc o) g gl s T fl base v u gone := h.call ((Below.refl _ _).alloc (Nat.le_refl _) o)
theorem PSt.drewN (h : PSt w0 W g gl s T fl base v u gone) (n : Nat) : PSt w0 (W.drewN n) g gl s T fl base v u gone := ⟨h.t.drewN n, h.r, h.a, h.d, h.gn, h.dis⟩
theorem PSt.drew (h : PSt w0 W g gl s T fl base v u gone) : PSt w0 W.drew g gl s T fl base v u gone := h.drewN 1
/-- the tree goes on; the law's rows are as they were -/
structure PMd (w0 W : World) (g gl : Nat) (s : TS) (T : Sh) (fl : List Nat) (base : Nat) (v u : Value) (l : List It) (gone : List (Nat × Int)) : Prop where
  t : TSt w0 W g gl s T fl
  r : W.ownsRow base 56 4 v l.length (itc l)
  a : W.ownsRow base 29 2 u gone.length (flat gone)
  d : g < base ∧ gl < base ∧ w0.heap.size ≤ base ∧ base ≤ W.heap.size
  gn : ∀ e, e ∈ gone → Gone s e
  dis : ∀ b, v.ownBlock = some b → u.ownBlock ≠ some b
theorem PMd.call {l : List It} (h : PMd w0 W g gl s T fl base v u l gone) (b : Below W.heap.size W W') : PMd w0 W' g gl s T fl base v u l gone :=
  ⟨h.t.call b, own_below h.r b, own_below h.a b, by have := h.d; have := b.size; omega, h.gn, h.dis⟩
theorem PMd.alloc {l : List It} (h : PMd w0 W g gl s T fl base v u l gone) (o : Obj) : PMd w0 (W.alloc o) g gl s T fl base v u l gone := h.call ((Below.refl _ _).alloc (Nat.le_refl _) o)
theorem PMd.drew {l : List It} (h : PMd w0 W g gl s T fl base v u l gone) : PMd w0 W.drew g gl s T fl base v u l gone := ⟨h.t.drew, h.r, h.a, h.d, h.gn, h.dis⟩
theorem PSt.goes (h : PSt w0 W g gl s T fl base v u gone) (k : Full W' g gl s' T' fl') (o : Only (TF g gl) W W') (hg : ∀ e, e ∈ gone → Gone s' e) : PMd w0 W' g gl s' T' fl' base v u (rowOf s T.ino) gone := by
  have d := h.d
  have sz := o.size
  have hr := h.r
  rw [← rowOf_len s T.ino] at hr
  refine ⟨h.t.goes k o, own_only hr o ?_, own_only h.a o ?_, by omega, hg, h.dis⟩
  · rintro b hb (e | e) <;> omega
  · rintro b hb (e | e) <;> omega
/-- a handle more among those that are gone -/
theorem PMd.append {l : List It} {v' : Value} {x : Nat} {tx : Int} {o : Obj} (h : PMd w0 W g gl s T fl base v u l gone) (hg : (W.alloc o).grownBy W' u.ownBlock) (ho : W'.ownsRow base 29 2 v' (gone.length + 1) (flat gone ++ [.int .i64 x, .int .i64 tx]))
    (hb : v'.ownBlock = u.ownBlock ∨ v'.ownBlock = some (W.alloc o).heap.size) (hgn : Gone s (x, tx)) : PMd w0 W' g gl s T fl base v v' l (gone ++ [(x, tx)]) := by
  have d := h.d
  have hA := h.alloc o
  have hrow : ∀ b, u.ownBlock = some b → base ≤ b := fun b hb => (own_block h.a hb).1
  have hlow : ∀ b, b < base → u.ownBlock ≠ some b := fun b hb e => by have := hrow b e; omega
  have szA : (W.alloc o).heap.size = W.heap.size + 1 := by simp
  have sz := hg.size
  refine ⟨⟨hA.t.t.same fun b hb => hg.block b (hA.t.t.m.foot_lt hb) (fun e => hlow b (by rcases hb with rfl | rfl <;> omega) e.symm), ?_, h.t.g, h.t.gl⟩, own_same hA.r fun b hb => hg.block b (own_block hA.r hb).2 (fun e => h.dis b hb e.symm), ?_, by omega, fun e he => ?_, fun b hb' e => ?_⟩
  · exact ⟨hg.os.trans hA.t.b.os, hg.tape.trans hA.t.b.tape, hg.output.trans hA.t.b.output, Nat.le_trans hA.t.b.size hg.size, fun k hk => (hg.block k (Nat.lt_of_lt_of_le hk hA.t.b.size) (fun e => hlow k (by omega) e.symm)).trans (hA.t.b.block k hk)⟩
  · rw [flat_snoc, List.length_append]; exact ho
  · rcases List.mem_append.1 he with he | he
    · exact h.gn e he
    · have : e = (x, tx) := by simpa using he
      subst this; exact hgn
  · rcases hb with hb | hb
    · rw [hb] at e; exact h.dis b hb' e
    · rw [hb] at e
      injection e with e
      have := (own_block h.r hb').2
      omega
theorem PMd.stands {l : List It} (h : PMd w0 W g gl s T fl base v u l gone) : Stands (fun W' => PMd w0 W' g gl s T fl base v u l gone ∧ W.heap.size ≤ W'.heap.size) W.heap.size := by
  have hv : ∀ b, v.ownBlock = some b → b < W.heap.size := fun b hb => (own_block h.r hb).2
  have hu : ∀ b, u.ownBlock = some b → b < W.heap.size := fun b hb => (own_block h.a hb).2
  refine ⟨fun W' h' => h'.2, fun W' o h' => ⟨h'.1.alloc o, by simp; omega⟩, fun W' h' => ⟨h'.1.drew, h'.2⟩, fun W1 W2 row h' g' hr => ?_⟩
  have ne : ∀ b, b < W.heap.size → some b ≠ row := fun b hb e => by have := hr b e.symm; omega
  have d := h'.1.d
  have d0 := h.d
  have sz := g'.size
  refine ⟨⟨⟨h'.1.t.t.same fun b hb => g'.block b (h'.1.t.t.m.foot_lt hb) (ne b (by rcases hb with rfl | rfl <;> omega)), ?_, h'.1.t.g, h'.1.t.gl⟩, own_same h'.1.r fun b hb => g'.block b (own_block h'.1.r hb).2 (ne b (hv b hb)), own_same h'.1.a fun b hb => g'.block b (own_block h'.1.a hb).2 (ne b (hu b hb)), by omega, h'.1.gn, h'.1.dis⟩, by omega⟩
  exact h'.1.t.b.grown g' h'.1.t.b.size (fun k hk => by have := hr k hk; omega)
/-- with a new row: fresh -/
theorem PMd.done {l : List It} {v' : Value} {L : Nat} (h : PMd w0 W g gl s T fl base v u l gone) (hr : W.ownsRow L 56 4 v' T.ino.length (itc (rowOf s T.ino))) (hL : base ≤ L) (hu : ∀ b, u.ownBlock = some b → b < L) : PSt w0 W g gl s T fl base v' u gone :=
  ⟨h.t, own_mono hr hL, h.a, h.d, h.gn, fun b hb e => by have := hu b e; have := (own_block hr hb).1; omega⟩
end
end Go.Proofs.Ytfoigflgglpobaa.Tr
