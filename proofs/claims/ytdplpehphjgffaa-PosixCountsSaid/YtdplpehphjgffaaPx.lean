/- The contracts of posix's small functions. No condition but that a timer's number is one. -/
import Derived.Test.YtdplpehphjgffaaSp
import Derived.Test.YtdplpehphjgffaaOnl
set_option linter.unusedVariables false
set_option linter.unusedSimpArgs false
namespace Go.Proofs.Ytdplpehphjgffaa.Px
open Go.RowKit Go.Proofs.Ytdplpehphjgffaa.Aid Go.Proofs.Ytdplpehphjgffaa.Kt Go.Proofs.Ytdplpehphjgffaa.Sp
attribute [local go_sem] max2_int min2_int max_two min_two
structure Tm where
  b : Nat
  clock : Nat
  signal : Int
  armed : Bool
  next : Int
  interval : Int
  over : Int
def Tm.cells (x : Tm) : Array Value := #[.int .i64 x.clock, .int .i64 x.signal, .bool x.armed, .int .i64 x.next, .int .i64 x.interval, .int .i64 x.over]
def Tm.ptr (x : Option Tm) : Value := .pointer (x.map fun x => ⟨x.b, 0, none⟩)
/-- the table's block, and those of its timers -/
def Foot (g : Nat) (t : Nat → Option Tm) (b : Nat) : Prop := b = g ∨ ∃ i x, i < 64 ∧ t i = some x ∧ x.b = b
/-- a timer's clock, and its times -/
structure Tm.ok (x : Tm) : Prop where
  c : x.clock < 3
  n : -4611686018427387903 ≤ x.next ∧ x.next ≤ 4611686018427387903
  i : 0 ≤ x.interval ∧ x.interval ≤ 4611686018427387903
structure IsTb (w : World) (g : Nat) (t : Nat → Option Tm) : Prop where
  b : ∃ cs, Blk w g 111 cs ∧ cs.size = 64 ∧ ∀ i, i < 64 → cs[i]? = some (Tm.ptr (t i))
  tm : ∀ i x, i < 64 → t i = some x → Blk w x.b 113 x.cells ∧ x.b ≠ g ∧ x.ok
  ne : ∀ i j x y, i < 64 → j < 64 → t i = some x → t j = some y → x.b = y.b → i = j
theorem IsTb.lt {w : World} {g : Nat} {t : Nat → Option Tm} (h : IsTb w g t) : g < w.heap.size := by obtain ⟨cs, hb, _⟩ := h.b; exact hb.lt
theorem IsTb.cell {w : World} {g : Nat} {t : Nat → Option Tm} (h : IsTb w g t) (i : Nat) (hi : i < 64) : w.cell? ⟨g, i, none⟩ = some (Tm.ptr (t i)) := by obtain ⟨cs, hb, _, hc⟩ := h.b; exact (hb.cell i).trans (hc i hi)
theorem IsTb.frozen {w : World} {g : Nat} {t : Nat → Option Tm} (h : IsTb w g t) (i : Nat) : w.frozen? ⟨g, i, none⟩ = false := by obtain ⟨cs, hb, _⟩ := h.b; exact hb.frozen i
theorem IsTb.foot_lt {w : World} {g : Nat} {t : Nat → Option Tm} (h : IsTb w g t) {b : Nat} (hb : Foot g t b) : b < w.heap.size := by
  rcases hb with rfl | ⟨i, x, hi, hx, rfl⟩
  · exact h.lt
  · exact (h.tm i x hi hx).1.lt
/-- all its blocks as they were -/
theorem IsTb.same {w w' : World} {g : Nat} {t : Nat → Option Tm} (h : IsTb w g t) (e : ∀ b, Foot g t b → w'.heap[b]? = w.heap[b]?) : IsTb w' g t := by
  obtain ⟨⟨cs, hb, hs, hc⟩, h1, h2⟩ := h
  exact ⟨⟨cs, (e g (.inl rfl)).trans hb, hs, hc⟩, fun i x hi hx => ⟨(e x.b (.inr ⟨i, x, hi, hx, rfl⟩)).trans (h1 i x hi hx).1, (h1 i x hi hx).2⟩, h2⟩
theorem IsTb.only {S : Nat → Prop} {w w' : World} {g : Nat} {t : Nat → Option Tm} (h : IsTb w g t) (o : Only S w w') (hs : ∀ b, Foot g t b → ¬ S b) : IsTb w' g t := h.same fun b hb => o.block b (h.foot_lt hb) (hs b hb)
theorem IsTb.below {w w' : World} {g : Nat} {t : Nat → Option Tm} (h : IsTb w g t) (b : Below w.heap.size w w') : IsTb w' g t := h.same fun i hi => b.block i (h.foot_lt hi)
theorem IsTb.drewN {w : World} {g : Nat} {t : Nat → Option Tm} (h : IsTb w g t) (n : Nat) : IsTb (w.drewN n) g t := h.same fun _ _ => rfl
theorem IsTb.drew {w : World} {g : Nat} {t : Nat → Option Tm} (h : IsTb w g t) : IsTb w.drew g t := h.same fun _ _ => rfl
theorem IsTb.alloc {w : World} {g : Nat} {t : Nat → Option Tm} (h : IsTb w g t) (o : Obj) : IsTb (w.alloc o) g t := h.below ((Below.refl _ _).alloc (Nat.le_refl _) o)
theorem IsTb.far {w : World} {g : Nat} {t : Nat → Option Tm} (h : IsTb w g t) {p : Addr} (hp : ¬ Foot g t p.block) (u : Value) : IsTb (w.setCell p u) g t := h.same fun b hb => Below.heap_setCell w p u b (by rintro rfl; exact hp hb)
def upd (t : Nat → Option Tm) (i : Nat) (x : Option Tm) (j : Nat) : Option Tm := if j = i then x else t j
/-- a timer's own cells have changed -/
theorem IsTb.turn {w w' : World} {g : Nat} {t : Nat → Option Tm} (h : IsTb w g t) {i : Nat} (hi : i < 64) {x y : Tm} (hx : t i = some x) (hb : y.b = x.b) (ok : y.ok) (b : Blk w' x.b 113 y.cells) (k : w.grownBy w' (some x.b)) : IsTb w' g (upd t i (some y)) := by
  obtain ⟨⟨cs, hbg, hs, hc⟩, h1, h2⟩ := h
  have hxg := (h1 i x hi hx).2.1
  refine ⟨⟨cs, ?_, hs, fun j hj => ?_⟩, fun j z hj hz => ?_, fun j l z u hj hl hz hu e => ?_⟩
  · exact (k.block g hbg.lt (by intro he; injection he with he; exact hxg he.symm)).trans hbg
  · rw [hc j hj]
    unfold upd
    by_cases e : j = i
    · subst e; rw [if_pos rfl, hx]; unfold Tm.ptr; simp [hb]
    · rw [if_neg e]
  · unfold upd at hz
    by_cases e : j = i
    · subst e
      rw [if_pos rfl] at hz
      injection hz with hz
      subst hz
      exact ⟨by rw [hb]; exact b, by rw [hb]; exact hxg, ok⟩
    · rw [if_neg e] at hz
      have hz1 := h1 j z hj hz
      exact ⟨(k.block z.b hz1.1.lt (by intro he; injection he with he; exact e (h2 j i z x hj hi hz hx he))).trans hz1.1, hz1.2⟩
  · unfold upd at hz hu
    by_cases e1 : j = i
    · by_cases e2 : l = i
      · omega
      · rw [if_pos e1] at hz; rw [if_neg e2] at hu
        injection hz with hz; subst hz; subst e1
        exact h2 j l x u hj hl hx hu (by rw [← hb]; exact e)
    · by_cases e2 : l = i
      · rw [if_neg e1] at hz; rw [if_pos e2] at hu
        injection hu with hu; subst hu; subst e2
        exact h2 j l z x hj hl hz hx (by rw [← hb]; exact e)
      · rw [if_neg e1] at hz; rw [if_neg e2] at hu
        exact h2 j l z u hj hl hz hu e
set_option maxHeartbeats 1000000 in
theorem is_yes (c : Int) (hc : 0 ≤ c ∧ c ≤ 2) (w : World) : Calls Try.prog 72 #[.int .i64 c] w fun e w' => e = .returned (.bool true) ∧ w = w' := by
  go_enter Try.func72, Try.ntmps72
  go_wp2
  go_ret
  exact ⟨ret_bool (by first | rfl | simp; omega), rfl⟩
set_option maxHeartbeats 1000000 in
set_option maxRecDepth 100000 in
theorem at_any (g : Nat) (t : Nat → Option Tm) (w : World) (h : IsTb w g t) (i : Nat) (hi : i < 64) : Calls Try.prog 73 #[.pointer (some ⟨g, 0, none⟩), .int .i64 i] w fun e w' => e = .returned (Tm.ptr (t i)) ∧ w = w' := by
  have q0 := h.cell i hi
  have d1 : decide ((i : Int) < 0) = false := by simp
  have d2 : decide ((64 : Int) ≤ i) = false := by simp; omega
  go_enter Try.func73, Try.ntmps73
  go_wp2
  go_ret
  exact ⟨rfl, rfl⟩
theorem at_nil (i : Int) (w : World) : Calls Try.prog 73 #[.pointer none, .int .i64 i] w fun e w' => e = .returned (.pointer none) ∧ w = w' := by
  go_enter Try.func73, Try.ntmps73
  go_wp2
  go_ret
  exact ⟨rfl, rfl⟩
theorem missing_some (g : Nat) (w : World) : Calls Try.prog 74 #[.pointer (some ⟨g, 0, none⟩)] w fun e w' => e = .returned (.int .i64 2) ∧ w = w' := by
  go_enter Try.func74, Try.ntmps74
  go_wp2
  go_ret
  exact ⟨rfl, rfl⟩
theorem infoPtr : (Try.prog.info? 108).map (fun i => (i.zero, i.size, i.bytes)) = some (some (.pointer none), 1, 8) := by kernel_rfl
theorem idx64 (cs : Array Value) (i : Nat) (v : Value) (hi : i < 64) (hv : cs[i]? = some v) (W : World) : (Instr.index 109 (.agg cs) (.int .i64 i)).run Try.prog W = .ok v W := by
  have h1 : (0 : Int) ≤ i ∧ (i : Int) < 64 := by omega
  obtain ⟨i0, hinf, hz0, hz1, hz2⟩ := info_parts infoPtr
  simp [Instr.index, run_underlying Try.underlying109, asIntOf, h1, go_sem, part, Try.underlying108, sizeOf, typeInfo, hv, hinf, hz1, hi]
theorem infoArr : (Try.prog.info? 109).map (·.size) = some 64 := by kernel_rfl
def at3 (x0 x1 x2 : Int) (c : Nat) : Int := if c = 0 then x0 else if c = 1 then x1 else x2
theorem at3_cell {W : World} {T : Nat} {t : TypeId} {x0 x1 x2 : Int} (h : Blk W T t #[.int .i64 x0, .int .i64 x1, .int .i64 x2]) (c : Nat) (hc : c < 3) : W.cell? ⟨T, c, none⟩ = some (.int .i64 (at3 x0 x1 x2 c)) := by
  rw [h.cell]
  have h3 : c = 0 ∨ c = 1 ∨ c = 2 := by omega
  rcases h3 with rfl | rfl | rfl <;> rfl
theorem Tm.cc {W : World} {b : Nat} {x : Tm} (h : Blk W b 113 x.cells) : W.cell? ⟨b, 0, none⟩ = some (.int .i64 x.clock) ∧ W.cell? ⟨b, 1, none⟩ = some (.int .i64 x.signal) ∧ W.cell? ⟨b, 2, none⟩ = some (.bool x.armed) ∧ W.cell? ⟨b, 3, none⟩ = some (.int .i64 x.next) ∧ W.cell? ⟨b, 4, none⟩ = some (.int .i64 x.interval) ∧ W.cell? ⟨b, 5, none⟩ = some (.int .i64 x.over) := ⟨h.cell 0, h.cell 1, h.cell 2, h.cell 3, h.cell 4, h.cell 5⟩
end Go.Proofs.Ytdplpehphjgffaa.Px
