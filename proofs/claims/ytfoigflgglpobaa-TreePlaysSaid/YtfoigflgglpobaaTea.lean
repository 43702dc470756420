/- A tree as its callers hold it: rows of places, handles, and what boxes hold. No condition. -/
import Derived.Test.YtfoigflgglpobaaTdq
import Derived.Test.YtfoigflgglpobaaTdh
import Derived.Test.YtfoigflgglpobaaTrm
import Derived.Test.YtfoigflgglpobaaTro
import Derived.Test.YtfoigflgglpobaaTrk
import Derived.Test.YtfoigflgglpobaaTrj
import Derived.Test.YtfoigflgglpobaaTri
set_option linter.unusedVariables false
set_option linter.unusedSimpArgs false
namespace Go.Proofs.Ytfoigflgglpobaa.Tr
open Go.RowKit Go.Proofs.Ytfoigflgglpobaa.Aid
/-- the first of a row of places -/
def hd (l : List Nat) : Nat := l.head?.getD 0
/-- a tree that its caller made -/
structure TSt (w0 W : World) (g gl : Nat) (s : TS) (T : Sh) (fl : List Nat) : Prop where
  t : Full W g gl s T fl
  b : Below w0.heap.size w0 W
  g : w0.heap.size ≤ g
  gl : w0.heap.size ≤ gl
section
variable {w0 W W' : World} {g gl : Nat} {s s' : TS} {T T' : Sh} {fl fl' : List Nat}
theorem TSt.call (h : TSt w0 W g gl s T fl) (b : Below W.heap.size W W') : TSt w0 W' g gl s T fl := ⟨h.t.below b, h.b.trans (b.mono h.b.size), h.g, h.gl⟩
theorem TSt.drew (h : TSt w0 W g gl s T fl) : TSt w0 W.drew g gl s T fl := ⟨h.t.same fun _ _ => rfl, ⟨h.b.os, h.b.tape, h.b.output, h.b.size, h.b.block⟩, h.g, h.gl⟩
theorem TSt.drewN (h : TSt w0 W g gl s T fl) (n : Nat) : TSt w0 (W.drewN n) g gl s T fl := ⟨h.t.same fun _ _ => rfl, below_drewN h.b n, h.g, h.gl⟩
theorem TSt.alloc (h : TSt w0 W g gl s T fl) (o : Obj) : TSt w0 (W.alloc o) g gl s T fl := h.call ((Below.refl _ _).alloc (Nat.le_refl _) o)
theorem TSt.goes (h : TSt w0 W g gl s T fl) (k : Full W' g gl s' T' fl') (o : Only (TF g gl) W W') : TSt w0 W' g gl s' T' fl' :=
  ⟨k, Only.under h.b o (fun i hi => by rcases hi with rfl | rfl; exact h.g; exact h.gl) h.b.size, h.g, h.gl⟩
/-- what is written apart from the tree -/
theorem TSt.far (h : TSt w0 W g gl s T fl) {p : Addr} (h1 : p.block ≠ g) (h2 : p.block ≠ gl) (h3 : w0.heap.size ≤ p.block) (u : Value) : TSt w0 (W.setCell p u) g gl s T fl :=
  ⟨h.t.same fun i hi => Below.heap_setCell W p u i (by rintro rfl; rcases hi with e | e; exact h1 e; exact h2 e), h.b.setCell h3 u, h.g, h.gl⟩
theorem isH_in (h : Full W g gl s T fl) {x : Nat} (hx : x ∈ T.ino) : isH s x (s.f x).turn = true := by
  unfold isH
  have h0 := h.rd.ne0 hx
  have h1 := h.lt x hx
  have e : ((x : Nat) : Int).toNat = x := by simp
  rw [e, decide_eq_true (by omega), decide_eq_true (by omega), (h.tak x h1).2 hx, decide_eq_true rfl]; rfl
theorem isH_is (h : Full W g gl s T fl) {p t : Int} (hi : isH s p t = true) : ∃ x : Nat, p = x ∧ x ∈ T.ino ∧ (s.f x).turn = t := by
  obtain ⟨h1, h2, h3, h4⟩ := isH_at hi
  exact ⟨p.toNat, by omega, (h.tak p.toNat (by omega)).1 h3, h4⟩
theorem isH_not (h : Full W g gl s T fl) {x : Nat} {t : Int} (hx : x ∉ T.ino) : isH s x t = false := by
  cases hi : isH s x t with
  | false => rfl
  | true =>
    obtain ⟨y, h1, h2, _⟩ := isH_is h hi
    have : x = y := by omega
    subst this
    exact absurd h2 hx
theorem hd_ne (h : Full W g gl s T fl) {l : List Nat} (hl : ∀ z, z ∈ l → z ∈ T.ino) : decide (hd l ≠ 0) = decide (l ≠ []) := by
  cases l with
  | nil => rfl
  | cons a l =>
    have : a ≠ 0 := h.rd.ne0 (hl a (by simp))
    simp [hd, this]
theorem First_row (w : World) (h : Full w g gl s T fl) :
    Calls Try.prog 14 #[.pointer (some ⟨g, 0, none⟩)] w fun e w' => e = .returned (.tuple #[hnd s (hd T.ino), .bool (decide (T.ino ≠ []))]) ∧ Below w.heap.size w w' := by
  have := First_any g gl s T w h.rd
  rw [fst_ino T h.rb.rep] at this
  rw [← hd_ne h (l := T.ino) (fun z hz => hz)]
  exact this
theorem Next_row (w : World) (h : Full w g gl s T fl) {pre post : List Nat} {x : Nat} (e : T.ino = pre ++ x :: post) :
    Calls Try.prog 20 #[.pointer (some ⟨g, 0, none⟩), .agg #[.int .i64 x, .int .i64 (s.f x).turn]] w fun e w' => e = .returned (.tuple #[hnd s (hd post), .bool (decide (post ≠ []))]) ∧ Below w.heap.size w w' := by
  obtain ⟨C, c, kx, a1, a2, a3, a4⟩ := way_split h.rd e
  have := Next_any g gl s T w h.rd x _ (isH_in h (by rw [e]; simp)) C c x kx rfl a1 a2 a3
  rw [a4] at this
  rw [← hd_ne h (l := post) (fun z hz => by rw [e]; simp [hz])]
  exact this
theorem hnd_in (h : Full W g gl s T fl) {x : Nat} (hx : x ∈ T.ino) : hnd s x = .agg #[.int .i64 x, .int .i64 (s.f x).turn] := by
  unfold hnd hturn; rw [if_neg (h.rd.ne0 hx)]
theorem Key_row (w : World) (h : Full w g gl s T fl) {x : Nat} (hx : x ∈ T.ino) :
    Calls Try.prog 15 #[.pointer (some ⟨g, 0, none⟩), .agg #[.int .i64 x, .int .i64 (s.f x).turn]] w fun e w' => e = .returned (.tuple #[.agg #[.int .i64 (s.f x).t, .int .i64 (s.f x).s], .bool true]) ∧ Below w.heap.size w w' := by
  have := Key_yes g gl s T w h.rd x _ (isH_in h hx)
  simpa using this
/-- turns stay within bounds -/
def TnB (s : TS) (M : Int) : Prop := ∀ z, z < s.sz → 0 ≤ (s.f z).turn ∧ (s.f z).turn ≤ M
theorem TnB.put {kt ks : Int} {x : Nat} {pre post : List Nat} {M : Int} (h : TnB s M) (r : PutRes s T kt ks s' T' x pre post) (hM : 0 ≤ M) : TnB s' (M + 1) := fun z hz => by
  by_cases e : z = x
  · subst e
    rw [r.turn]
    split
    · rename_i h1; have := h z h1; omega
    · omega
  · rcases r.new z hz with h1 | h1
    · rw [(r.old z h1 e).2.2]; have := h z h1; omega
    · exact absurd h1 e
theorem TnB.drop {z : Nat} {pre post : List Nat} {M : Int} (h : TnB s M) (r : DropRes s T z s' T' pre post) : TnB s' M := fun y hy => by
  rw [r.turn]; exact h y (by rw [← r.sz]; exact hy)
theorem TnB.new (p : Int) : TnB (newS p) 0 := fun z hz => ⟨Int.le_refl _, Int.le_refl _⟩
theorem TnB.bnd {M : Int} (h : TnB s M) (hM : M ≤ 4611686018427387904) : ∀ z, z < s.sz → -4611686018427387904 ≤ (s.f z).turn ∧ (s.f z).turn ≤ 4611686018427387904 := fun z hz => by have := h z hz; omega
/-- boxes with handles, beside the tree -/
structure LSt (w0 W : World) (g gl : Nat) (s : TS) (T : Sh) (fl : List Nat) (bx : List (Nat × Int × Int)) : Prop where
  t : TSt w0 W g gl s T fl
  bx : ∀ e, e ∈ bx → Blk W e.1 29 (two_ e.2.1 e.2.2) ∧ e.1 ≠ g ∧ e.1 ≠ gl
theorem LSt.call {bx : List (Nat × Int × Int)} (h : LSt w0 W g gl s T fl bx) (b : Below W.heap.size W W') : LSt w0 W' g gl s T fl bx := ⟨h.t.call b, fun e he => ⟨(h.bx e he).1.below b (h.bx e he).1.lt, (h.bx e he).2⟩⟩
theorem LSt.drew {bx : List (Nat × Int × Int)} (h : LSt w0 W g gl s T fl bx) : LSt w0 W.drew g gl s T fl bx := ⟨h.t.drew, fun e he => ⟨(h.bx e he).1.drew, (h.bx e he).2⟩⟩
theorem LSt.drewN {bx : List (Nat × Int × Int)} (h : LSt w0 W g gl s T fl bx) (n : Nat) : LSt w0 (W.drewN n) g gl s T fl bx := ⟨h.t.drewN n, fun e he => ⟨(h.bx e he).1.drewN n, (h.bx e he).2⟩⟩
theorem LSt.goes {bx : List (Nat × Int × Int)} (h : LSt w0 W g gl s T fl bx) (k : Full W' g gl s' T' fl') (o : Only (TF g gl) W W') : LSt w0 W' g gl s' T' fl' bx :=
  ⟨h.t.goes k o, fun e he => ⟨o.blk (h.bx e he).1 (by rintro (x | x); exact (h.bx e he).2.1 x; exact (h.bx e he).2.2 x), (h.bx e he).2⟩⟩
theorem LSt.box {bx : List (Nat × Int × Int)} (h : LSt w0 W g gl s T fl bx) (a b : Int) : LSt w0 (W.alloc (.cells #[.int .i64 a, .int .i64 b] 29)) g gl s T fl ((W.heap.size, a, b) :: bx) :=
  ⟨h.t.alloc _, fun e he => by
    rcases List.mem_cons.1 he with rfl | he
    · have h1 := h.t.t.m.n.lt
      have h2 := h.t.t.m.b.lt
      exact ⟨Blk.new _ _ _, by dsimp only; omega, by dsimp only; omega⟩
    · exact ⟨(h.bx e he).1.alloc _, (h.bx e he).2⟩⟩
theorem LSt.cells {bx : List (Nat × Int × Int)} (h : LSt w0 W g gl s T fl bx) {e : Nat × Int × Int} (he : e ∈ bx) : W.cell? ⟨e.1, 0, none⟩ = some (.int .i64 e.2.1) ∧ W.cell? ⟨e.1, 1, none⟩ = some (.int .i64 e.2.2) := two_cells (h.bx e he).1
end
end Go.Proofs.Ytfoigflgglpobaa.Tr
