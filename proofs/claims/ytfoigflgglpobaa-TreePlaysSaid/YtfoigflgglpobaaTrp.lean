/- Trees of places, in plain Lean: shapes, ways down, what memory holds of them, and what a turn does. No program in sight; no condition. -/
import Derived.Test.YtfoigflgglpobaaAid
set_option linter.unusedVariables false
namespace Go.Proofs.Ytfoigflgglpobaa.Tr
structure Nd where
  t : Int
  s : Int
  l : Nat
  r : Nat
  u : Nat
  red : Bool
  tak : Bool
  turn : Int
/-- a tree of places: a colour, a place, what hangs on each side -/
inductive Sh where
  | nil
  | node (red : Bool) (x : Nat) (k : Bool → Sh)
def Sh.root : Sh → Nat
  | .nil => 0
  | .node _ x _ => x
def Sh.red : Sh → Bool
  | .nil => false
  | .node c _ _ => c
def Sh.ino : Sh → List Nat
  | .nil => []
  | .node _ x k => (k false).ino ++ x :: (k true).ino
/-- a side holds t, the other one u -/
def two (s : Bool) (t u : Sh) (s' : Bool) : Sh := if s' = s then t else u
theorem two_same (s : Bool) (t u : Sh) : two s t u s = t := by unfold two; rw [if_pos rfl]
theorem two_other (s : Bool) (t u : Sh) : two s t u (!s) = u := by unfold two; rw [if_neg (by cases s <;> simp)]
theorem two_eta (k : Bool → Sh) (s : Bool) : two s (k s) (k (!s)) = k := by funext b; cases s <;> cases b <;> rfl
/-- a way down: frames, the lowest first; each holds a colour, a place, on which side the hole is, and what hangs on the other side -/
inductive Cx where
  | top
  | fr (red : Bool) (x : Nat) (s : Bool) (sib : Sh) (k : Cx)
def Cx.up : Cx → Nat
  | .top => 0
  | .fr _ x _ _ _ => x
def Cx.plug : Cx → Sh → Sh
  | .top, t => t
  | .fr c x s sib k, t => k.plug (.node c x (two s t sib))
/-- what stands ahead of the hole, and behind it -/
def Cx.pre : Cx → List Nat
  | .top => []
  | .fr _ x s sib k => k.pre ++ (if s then sib.ino ++ [x] else [])
def Cx.post : Cx → List Nat
  | .top => []
  | .fr _ x s sib k => (if s then [] else x :: sib.ino) ++ k.post
theorem plug_ino (k : Cx) : ∀ t, (k.plug t).ino = k.pre ++ t.ino ++ k.post := by
  induction k with
  | top => intro t; simp [Cx.plug, Cx.pre, Cx.post]
  | fr c x s sib k ih =>
    intro t
    unfold Cx.plug
    rw [ih]
    cases s <;> simp [Cx.pre, Cx.post, Sh.ino, two, List.append_assoc]
def Cx.all : Cx → List Nat
  | .top => []
  | .fr _ x _ sib k => x :: (sib.ino ++ k.all)
theorem all_mem (k : Cx) (z : Nat) : z ∈ k.all ↔ z ∈ k.pre ∨ z ∈ k.post := by
  induction k with
  | top => simp [Cx.all, Cx.pre, Cx.post]
  | fr c x s sib k ih => cases s <;> simp [Cx.all, Cx.pre, Cx.post, ih, or_assoc, or_left_comm, or_comm]
/-- the child on a side -/
def ch (f : Nat → Nd) (x : Nat) (s : Bool) : Nat := if s then (f x).r else (f x).l
def setCh (f : Nat → Nd) (x : Nat) (s : Bool) (v : Nat) (y : Nat) : Nd := if y = x then (if s then { f x with r := v } else { f x with l := v }) else f y
def setU (f : Nat → Nd) (x v : Nat) (y : Nat) : Nd := if y = x then { f x with u := v } else f y
def setC (f : Nat → Nd) (x : Nat) (c : Bool) (y : Nat) : Nd := if y = x then { f x with red := c } else f y
/-- what memory holds of a tree that hangs on a place -/
def Rep (f : Nat → Nd) : Sh → Nat → Prop
  | .nil, _ => True
  | .node c x k, up => x ≠ 0 ∧ (f x).red = c ∧ (f x).u = up ∧ (∀ s, ch f x s = (k s).root) ∧ ∀ s, Rep f (k s) x
/-- what memory holds of a way down, at whose end h hangs -/
def RepC (f : Nat → Nd) (root : Nat) : Cx → Nat → Prop
  | .top, h => root = h
  | .fr c x s sib k, h => x ≠ 0 ∧ (f x).red = c ∧ (f x).u = k.up ∧ ch f x s = h ∧ ch f x (!s) = sib.root ∧ Rep f sib x ∧ RepC f root k x
/-- the shape of a place is the same -/
def Same (f f' : Nat → Nd) (z : Nat) : Prop := (f' z).l = (f z).l ∧ (f' z).r = (f z).r ∧ (f' z).u = (f z).u ∧ (f' z).red = (f z).red
theorem Same.ch {f f' : Nat → Nd} {z : Nat} (h : Same f f' z) (s : Bool) : ch f' z s = ch f z s := by
  unfold Tr.ch; cases s
  · exact h.1
  · exact h.2.1
theorem Same.refl (f : Nat → Nd) (z : Nat) : Same f f z := ⟨rfl, rfl, rfl, rfl⟩
theorem Same.trans {f f' f'' : Nat → Nd} {z : Nat} (h : Same f f' z) (k : Same f' f'' z) : Same f f'' z := ⟨k.1.trans h.1, k.2.1.trans h.2.1, k.2.2.1.trans h.2.2.1, k.2.2.2.trans h.2.2.2⟩
theorem Rep.frame {f f' : Nat → Nd} (t : Sh) : ∀ {up : Nat}, Rep f t up → (∀ z, z ∈ t.ino → Same f f' z) → Rep f' t up := by
  induction t with
  | nil => intro up _ _; trivial
  | node c x k ih =>
    intro up h hs
    obtain ⟨h0, h1, h2, h3, h4⟩ := h
    have hx := hs x (by simp [Sh.ino])
    refine ⟨h0, hx.2.2.2.trans h1, hx.2.2.1.trans h2, fun s => (hx.ch s).trans (h3 s), fun s => ih s (h4 s) fun z hz => hs z ?_⟩
    cases s
    · simp only [Sh.ino, List.mem_append]; exact .inl hz
    · simp only [Sh.ino, List.mem_append, List.mem_cons]; exact .inr (.inr hz)
theorem mem_ino_side {c : Bool} {x z : Nat} {k : Bool → Sh} (s : Bool) (h : z ∈ (k s).ino) : z ∈ (Sh.node c x k).ino := by
  cases s
  · simp only [Sh.ino, List.mem_append]; exact .inl h
  · simp only [Sh.ino, List.mem_append, List.mem_cons]; exact .inr (.inr h)
theorem root_mem {t : Sh} (h : t.root ≠ 0) : t.root ∈ t.ino := by
  cases t with
  | nil => exact absurd rfl h
  | node c x k => simp [Sh.root, Sh.ino]
/-- the tree hangs on another place now: its root's up alone has changed -/
theorem Rep.rebase {f f' : Nat → Nd} {t : Sh} {up up' : Nat} (hnd : t.ino.Nodup) (h : Rep f t up) (hs : ∀ z, z ∈ t.ino → z ≠ t.root → Same f f' z)
    (hr : t.root ≠ 0 → (f' t.root).l = (f t.root).l ∧ (f' t.root).r = (f t.root).r ∧ (f' t.root).red = (f t.root).red ∧ (f' t.root).u = up') : Rep f' t up' := by
  cases t with
  | nil => trivial
  | node c x k =>
    obtain ⟨h0, h1, h2, h3, h4⟩ := h
    obtain ⟨r1, r2, r3, r4⟩ := hr h0
    refine ⟨h0, r3.trans h1, r4, fun s => ?_, fun s => (h4 s).frame _ fun z hz => hs z (mem_ino_side s hz) ?_⟩
    · rw [← h3 s]; unfold Tr.ch; cases s
      · exact r1
      · exact r2
    · rintro rfl
      simp only [Sh.ino, Sh.root] at hnd hz
      have h5 := List.nodup_append.1 hnd
      cases s
      · exact h5.2.2 _ hz _ (List.mem_cons_self) rfl
      · exact (List.nodup_cons.1 h5.2.1).1 hz
theorem RepC.frame {f f' : Nat → Nd} {root : Nat} (k : Cx) : ∀ {h : Nat}, RepC f root k h → (∀ z, z ∈ k.all → Same f f' z) → RepC f' root k h := by
  induction k with
  | top => intro h hr _; exact hr
  | fr c x s sib k ih =>
    intro h hr hs
    obtain ⟨h0, h1, h2, h3, h4, h5, h6⟩ := hr
    have hx := hs x (by simp [Cx.all])
    exact ⟨h0, hx.2.2.2.trans h1, hx.2.2.1.trans h2, (hx.ch s).trans h3, (hx.ch _).trans h4, h5.frame _ fun z hz => hs z (by simp [Cx.all, hz]), ih h6 fun z hz => hs z (by simp [Cx.all, hz])⟩
theorem RepC.up_mem {f : Nat → Nd} {root : Nat} {k : Cx} {h : Nat} (hr : RepC f root k h) (hu : k.up ≠ 0) : k.up ∈ k.all := by
  cases k with
  | top => exact absurd rfl hu
  | fr c x s sib k => simp [Cx.up, Cx.all]
/-- what hangs at the end is another one now -/
theorem RepC.rehang {f f' : Nat → Nd} {root root' : Nat} {k : Cx} {h h' : Nat} (hnd : k.all.Nodup) (hr : RepC f root k h) (hs : ∀ z, z ∈ k.all → z ≠ k.up → Same f f' z)
    (ht : k.up = 0 → root' = h') (ht2 : k.up ≠ 0 → root' = root) (hc : ∀ s c x sib kk, k = .fr c x s sib kk → ch f' x s = h' ∧ ch f' x (!s) = ch f x (!s) ∧ (f' x).u = (f x).u ∧ (f' x).red = (f x).red) : RepC f' root' k h' := by
  cases k with
  | top => exact ht rfl
  | fr c x s sib k =>
    obtain ⟨h0, h1, h2, h3, h4, h5, h6⟩ := hr
    obtain ⟨c1, c2, c3, c4⟩ := hc s c x sib k rfl
    have hx : x ∉ sib.ino ++ k.all := (List.nodup_cons.1 hnd).1
    rw [ht2 h0]
    refine ⟨h0, c4.trans h1, c3.trans h2, c1, c2.trans h4, h5.frame _ fun z hz => hs z (by simp [Cx.all, hz]) ?_, h6.frame _ fun z hz => hs z (by simp [Cx.all, hz]) ?_⟩
    · rintro rfl; exact hx (by simp [Cx.up, hz])
    · rintro rfl; exact hx (by simp [Cx.up, hz])
end Go.Proofs.Ytfoigflgglpobaa.Tr
