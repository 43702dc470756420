/- Lemmas and contracts for RowBaseMoves, merged by program out of Trj, Tea, Kt, Qb, Qc, Qe, Qd. No condition. -/
import Derived.Test.YtcoibhmgblicfaaBz0
import Derived.Test.YtcoibhmgblicfaaBz2
import Derived.Test.YtcoibhmgblicfaaBz5
import Derived.Test.YtcoibhmgblicfaaProg
import Derived.StillTailTactics
import Derived.Carry
import Derived.Deep.RegionLaw
set_option linter.unusedVariables false
set_option linter.unusedSimpArgs false
/- The contract of tree's search for a time. No condition but that memory holds a tree. -/
set_option linter.unusedVariables false
set_option linter.unusedSimpArgs false
namespace Go.Proofs.Ytcoibhmgblicfaa.Tr
open Go.RowKit Go.Proofs.Ytcoibhmgblicfaa.Aid
/-- where a search for a time ends -/
def atF (f : Nat → Nd) (τ : Int) : Sh → Nat → Nat
  | .nil, b => b
  | .node _ x k, b => if τ ≤ (f x).t then atF f τ (k false) x else atF f τ (k true) b
theorem atF_mem (f : Nat → Nd) (τ : Int) (t : Sh) : ∀ b, atF f τ t b = b ∨ atF f τ t b ∈ t.ino := by
  induction t with
  | nil => intro b; exact .inl rfl
  | node c x k ih =>
    intro b
    unfold atF
    split
    · rcases ih false x with h | h
      · rw [h]; exact .inr ((mem_node true).2 (.inl rfl))
      · exact .inr (mem_ino_side false h)
    · rcases ih true b with h | h
      · exact .inl h
      · exact .inr (mem_ino_side true h)
def ATRel (s : TS) (τ : Int) (F : Nat) (W : World) (m : Nat) (s6 s7 : Value) (wr : World) : Prop :=
  ∃ t u b, Rep s.f t u ∧ (∀ z, z ∈ t.ino → z < s.sz) ∧ atF s.f τ t b = F ∧ t.ino.length ≤ m ∧ s6 = .int .i64 b ∧ s7 = .int .i64 t.root ∧ wr = W
end Go.Proofs.Ytcoibhmgblicfaa.Tr
/- A tree as its callers hold it: rows of places, handles, and what boxes hold. No condition. -/
set_option linter.unusedVariables false
set_option linter.unusedSimpArgs false
namespace Go.Proofs.Ytcoibhmgblicfaa.Tr
open Go.RowKit Go.Proofs.Ytcoibhmgblicfaa.Aid
/-- the first of a row of places -/
def hd (l : List Nat) : Nat := l.head?.getD 0
/-- a tree that its caller made -/
structure TSt (w0 W : World) (g gl : Nat) (s : TS) (T : Sh) (fl : List Nat) : Prop where
  t : Full W g gl s T fl
  b : Below w0.heap.size w0 W
  g : w0.heap.size ≤ g
  gl : w0.heap.size ≤ gl
section
variable {w0 W W' : World} {g gl : Nat} {s s' : TS} {T T' : Sh} {fl fl' : List Nat}
theorem TSt.call (h : TSt w0 W g gl s T fl) (b : Below W.heap.size W W') : TSt w0 W' g gl s T fl := ⟨h.t.below b, h.b.trans (b.mono h.b.size), h.g, h.gl⟩
theorem TSt.drew (h : TSt w0 W g gl s T fl) : TSt w0 W.drew g gl s T fl := ⟨h.t.same fun _ _ => rfl, ⟨h.b.os, h.b.tape, h.b.output, h.b.size, h.b.block⟩, h.g, h.gl⟩
theorem TSt.drewN (h : TSt w0 W g gl s T fl) (n : Nat) : TSt w0 (W.drewN n) g gl s T fl := ⟨h.t.same fun _ _ => rfl, below_drewN h.b n, h.g, h.gl⟩
theorem TSt.alloc (h : TSt w0 W g gl s T fl) (o : Obj) : TSt w0 (W.alloc o) g gl s T fl := h.call ((Below.refl _ _).alloc (Nat.le_refl _) o)
theorem TSt.goes (h : TSt w0 W g gl s T fl) (k : Full W' g gl s' T' fl') (o : Only (TF g gl) W W') : TSt w0 W' g gl s' T' fl' :=
  ⟨k, Only.under h.b o (fun i hi => by rcases hi with rfl | rfl; exact h.g; exact h.gl) h.b.size, h.g, h.gl⟩
/-- what is written apart from the tree -/
theorem TSt.far (h : TSt w0 W g gl s T fl) {p : Addr} (h1 : p.block ≠ g) (h2 : p.block ≠ gl) (h3 : w0.heap.size ≤ p.block) (u : Value) : TSt w0 (W.setCell p u) g gl s T fl :=
  ⟨h.t.same fun i hi => Below.heap_setCell W p u i (by rintro rfl; rcases hi with e | e; exact h1 e; exact h2 e), h.b.setCell h3 u, h.g, h.gl⟩
theorem isH_in (h : Full W g gl s T fl) {x : Nat} (hx : x ∈ T.ino) : isH s x (s.f x).turn = true := by
  unfold isH
  have h0 := h.rd.ne0 hx
  have h1 := h.lt x hx
  have e : ((x : Nat) : Int).toNat = x := by simp
  rw [e, decide_eq_true (by omega), decide_eq_true (by omega), (h.tak x h1).2 hx, decide_eq_true rfl]; rfl
theorem isH_is (h : Full W g gl s T fl) {p t : Int} (hi : isH s p t = true) : ∃ x : Nat, p = x ∧ x ∈ T.ino ∧ (s.f x).turn = t := by
  obtain ⟨h1, h2, h3, h4⟩ := isH_at hi
  exact ⟨p.toNat, by omega, (h.tak p.toNat (by omega)).1 h3, h4⟩
theorem isH_not (h : Full W g gl s T fl) {x : Nat} {t : Int} (hx : x ∉ T.ino) : isH s x t = false := by
  cases hi : isH s x t with
  | false => rfl
  | true =>
    obtain ⟨y, h1, h2, _⟩ := isH_is h hi
    have : x = y := by omega
    subst this
    exact absurd h2 hx
theorem hd_ne (h : Full W g gl s T fl) {l : List Nat} (hl : ∀ z, z ∈ l → z ∈ T.ino) : decide (hd l ≠ 0) = decide (l ≠ []) := by
  cases l with
  | nil => rfl
  | cons a l =>
    have : a ≠ 0 := h.rd.ne0 (hl a (by simp))
    simp [hd, this]
theorem First_row (w : World) (h : Full w g gl s T fl) :
    Calls Try.prog 44 #[.pointer (some ⟨g, 0, none⟩)] w fun e w' => e = .returned (.tuple #[hnd s (hd T.ino), .bool (decide (T.ino ≠ []))]) ∧ Below w.heap.size w w' := by
  have := First_any g gl s T w h.rd
  rw [fst_ino T h.rb.rep] at this
  rw [← hd_ne h (l := T.ino) (fun z hz => hz)]
  exact this
theorem Next_row (w : World) (h : Full w g gl s T fl) {pre post : List Nat} {x : Nat} (e : T.ino = pre ++ x :: post) :
    Calls Try.prog 46 #[.pointer (some ⟨g, 0, none⟩), .agg #[.int .i64 x, .int .i64 (s.f x).turn]] w fun e w' => e = .returned (.tuple #[hnd s (hd post), .bool (decide (post ≠ []))]) ∧ Below w.heap.size w w' := by
  obtain ⟨C, c, kx, a1, a2, a3, a4⟩ := way_split h.rd e
  have := Next_any g gl s T w h.rd x _ (isH_in h (by rw [e]; simp)) C c x kx rfl a1 a2 a3
  rw [a4] at this
  rw [← hd_ne h (l := post) (fun z hz => by rw [e]; simp [hz])]
  exact this
theorem hnd_in (h : Full W g gl s T fl) {x : Nat} (hx : x ∈ T.ino) : hnd s x = .agg #[.int .i64 x, .int .i64 (s.f x).turn] := by
  unfold hnd hturn; rw [if_neg (h.rd.ne0 hx)]
/-- turns stay within bounds -/
def TnB (s : TS) (M : Int) : Prop := ∀ z, z < s.sz → 0 ≤ (s.f z).turn ∧ (s.f z).turn ≤ M
theorem TnB.put {kt ks : Int} {x : Nat} {pre post : List Nat} {M : Int} (h : TnB s M) (r : PutRes s T kt ks s' T' x pre post) (hM : 0 ≤ M) : TnB s' (M + 1) := fun z hz => by
  by_cases e : z = x
  · subst e
    rw [r.turn]
    split
    · rename_i h1; have := h z h1; omega
    · omega
  · rcases r.new z hz with h1 | h1
    · rw [(r.old z h1 e).2.2]; have := h z h1; omega
    · exact absurd h1 e
theorem TnB.drop {z : Nat} {pre post : List Nat} {M : Int} (h : TnB s M) (r : DropRes s T z s' T' pre post) : TnB s' M := fun y hy => by
  rw [r.turn]; exact h y (by rw [← r.sz]; exact hy)
theorem TnB.new (p : Int) : TnB (newS p) 0 := fun z hz => ⟨Int.le_refl _, Int.le_refl _⟩
theorem TnB.bnd {M : Int} (h : TnB s M) (hM : M ≤ 4611686018427387904) : ∀ z, z < s.sz → -4611686018427387904 ≤ (s.f z).turn ∧ (s.f z).turn ≤ 4611686018427387904 := fun z hz => by have := h z hz; omega
/-- boxes with handles, beside the tree -/
structure LSt (w0 W : World) (g gl : Nat) (s : TS) (T : Sh) (fl : List Nat) (bx : List (Nat × Int × Int)) : Prop where
  t : TSt w0 W g gl s T fl
  bx : ∀ e, e ∈ bx → Blk W e.1 69 (two_ e.2.1 e.2.2) ∧ e.1 ≠ g ∧ e.1 ≠ gl
theorem LSt.call {bx : List (Nat × Int × Int)} (h : LSt w0 W g gl s T fl bx) (b : Below W.heap.size W W') : LSt w0 W' g gl s T fl bx := ⟨h.t.call b, fun e he => ⟨(h.bx e he).1.below b (h.bx e he).1.lt, (h.bx e he).2⟩⟩
theorem LSt.drew {bx : List (Nat × Int × Int)} (h : LSt w0 W g gl s T fl bx) : LSt w0 W.drew g gl s T fl bx := ⟨h.t.drew, fun e he => ⟨(h.bx e he).1.drew, (h.bx e he).2⟩⟩
theorem LSt.drewN {bx : List (Nat × Int × Int)} (h : LSt w0 W g gl s T fl bx) (n : Nat) : LSt w0 (W.drewN n) g gl s T fl bx := ⟨h.t.drewN n, fun e he => ⟨(h.bx e he).1.drewN n, (h.bx e he).2⟩⟩
theorem LSt.goes {bx : List (Nat × Int × Int)} (h : LSt w0 W g gl s T fl bx) (k : Full W' g gl s' T' fl') (o : Only (TF g gl) W W') : LSt w0 W' g gl s' T' fl' bx :=
  ⟨h.t.goes k o, fun e he => ⟨o.blk (h.bx e he).1 (by rintro (x | x); exact (h.bx e he).2.1 x; exact (h.bx e he).2.2 x), (h.bx e he).2⟩⟩
theorem LSt.box {bx : List (Nat × Int × Int)} (h : LSt w0 W g gl s T fl bx) (a b : Int) : LSt w0 (W.alloc (.cells #[.int .i64 a, .int .i64 b] 69)) g gl s T fl ((W.heap.size, a, b) :: bx) :=
  ⟨h.t.alloc _, fun e he => by
    rcases List.mem_cons.1 he with rfl | he
    · have h1 := h.t.t.m.n.lt
      have h2 := h.t.t.m.b.lt
      exact ⟨Blk.new _ _ _, by dsimp only; omega, by dsimp only; omega⟩
    · exact ⟨(h.bx e he).1.alloc _, (h.bx e he).2⟩⟩
theorem LSt.cells {bx : List (Nat × Int × Int)} (h : LSt w0 W g gl s T fl bx) {e : Nat × Int × Int} (he : e ∈ bx) : W.cell? ⟨e.1, 0, none⟩ = some (.int .i64 e.2.1) ∧ W.cell? ⟨e.1, 1, none⟩ = some (.int .i64 e.2.2) := two_cells (h.bx e he).1
end
end Go.Proofs.Ytcoibhmgblicfaa.Tr
/- The contracts of ktime's and of its reference's functions: what each returns for any numbers, with memory as it was. No condition. -/
set_option linter.unusedVariables false
set_option linter.unusedSimpArgs false
namespace Go.Proofs.Ytcoibhmgblicfaa.Kt
open Go.RowKit Go.Proofs.Ytcoibhmgblicfaa.Aid
attribute [local go_sem] max2_int min2_int max_two min_two
/-- the time that a number counts as -/
def cl (x : Int) : Int := if x > 4611686018427387903 then 4611686018427387903 else if x < -4611686018427387903 then -4611686018427387903 else x
theorem cl_bd (x : Int) : -4611686018427387903 ≤ cl x ∧ cl x ≤ 4611686018427387903 := by unfold cl; omega
theorem cl_mono {x y : Int} (h : x ≤ y) : cl x ≤ cl y := by unfold cl; omega
theorem cl_in {x : Int} (h : -4611686018427387903 ≤ x) (k : x ≤ 4611686018427387903) : cl x = x := by unfold cl; omega
def ad (a b : Int) : Int := if a ≥ 4611686018427387903 then 4611686018427387903 else cl (cl a + cl b)
def sb (a b : Int) : Int := if a ≥ 4611686018427387903 then 4611686018427387903 else cl (cl a - cl b)
theorem ad_bd (a b : Int) : -4611686018427387903 ≤ ad a b ∧ ad a b ≤ 4611686018427387903 := by unfold ad cl; omega
theorem sb_bd (a b : Int) : -4611686018427387903 ≤ sb a b ∧ sb a b ≤ 4611686018427387903 := by unfold sb cl; omega
def nev (a : Int) : Bool := decide (4611686018427387903 ≤ a)
def unt (now t : Int) : Int := if t ≥ 4611686018427387903 then 4611686018427387903 else if sb t now < 0 then 0 else sb t now
def btw (low t high : Int) : Int := if (if cl t < cl low then cl low else cl t) > cl high then cl high else if cl t < cl low then cl low else cl t

set_option maxHeartbeats 400000 in
theorem clamp_any (a : Int) (w : World) : Calls Try.prog 42 #[.int .i64 a] w fun e w' => e = .returned (.int .i64 (cl a)) ∧ w = w' := by
  go_enter Try.func42, Try.ntmps42
  go_wp2
  all_goals
    go_ret
    exact ⟨ret_int (by unfold cl; omega), rfl⟩
set_option maxHeartbeats 400000 in
theorem never_any (a : Int) (w : World) : Calls Try.prog 45 #[.int .i64 a] w fun e w' => e = .returned (.bool (nev a)) ∧ w = w' := by
  go_enter Try.func45, Try.ntmps45
  go_wp2
  go_ret
  exact ⟨ret_bool (by unfold nev; rfl), rfl⟩
set_option maxHeartbeats 400000 in
theorem rclamp_any (a : Int) (w : World) : Calls Try.prog 25 #[.int .i64 a] w fun e w' => e = .returned (.int .i64 (cl a)) ∧ w = w' := by
  go_enter Try.func25, Try.ntmps25
  go_wp2
  all_goals
    go_ret
    exact ⟨ret_int (by unfold cl; omega), rfl⟩
end Go.Proofs.Ytcoibhmgblicfaa.Kt
/- What memory holds of a queue, and the contracts of its smallest functions. No condition. -/
set_option linter.unusedVariables false
set_option linter.unusedSimpArgs false
namespace Go.Proofs.Ytcoibhmgblicfaa.Q
open Go.RowKit Go.Proofs.Ytcoibhmgblicfaa.Aid Go.Proofs.Ytcoibhmgblicfaa.Tr Go.Proofs.Ytcoibhmgblicfaa.Kt
/-- a timer -/
structure Tm where
  id : Int
  clock : Int
  soft : Int
  hard : Int
  lazy : Bool
def Tm.cells (a : Tm) : Array Value := #[.int .i64 a.id, .int .i64 a.clock, .int .i64 a.soft, .int .i64 a.hard, .bool a.lazy]
/-- a timer, and its node -/
def ent (a : Tm) (x : Nat) (n : Int) : Value := .agg #[.int .i64 a.id, .int .i64 a.clock, .int .i64 a.soft, .int .i64 a.hard, .bool a.lazy, .int .i64 x, .int .i64 n]
def han (x : Nat) (n : Int) : Value := .agg #[.int .i64 x, .int .i64 n]
def zeroT : Tm := ⟨0, 0, 0, 0, false⟩
def zeroE : Value := .agg #[.int .i64 0, .int .i64 0, .int .i64 0, .int .i64 0, .bool false, .int .i64 0, .int .i64 0]
theorem infoE : (Try.prog.info? 75).map (·.zero) = some (some zeroE) := by kernel_rfl
theorem infoI : (Try.prog.info? 3).map (·.zero) = some (some (.int .i64 0)) := by kernel_rfl
theorem zeroE_run (w : World) : (zeroValue 75).run Try.prog w = .ok zeroE w := by
  have h := infoE
  cases e : Try.prog.info? 75 with
  | none => rw [e] at h; cases h
  | some i => rw [e] at h; simp only [Option.map_some, Option.some.injEq] at h; simp [zeroValue, typeInfo, e, h]
theorem zeroI_run (w : World) : (zeroValue 3).run Try.prog w = .ok (.int .i64 0) w := by
  have h := infoI
  cases e : Try.prog.info? 3 with
  | none => rw [e] at h; cases h
  | some i => rw [e] at h; simp only [Option.map_some, Option.some.injEq] at h; simp [zeroValue, typeInfo, e, h]
/-- a queue: its struct, its tree, its maps; tm tells each place's timer -/
structure QIs (w : World) (q g gl m1 m2 : Nat) (s : TS) (T : Sh) (fl : List Nat) (tm : Nat → Tm) (A B : Value → Option Value) : Prop where
  qb : Blk w q 67 #[.pointer (some ⟨g, 0, none⟩), .map (some m1), .map (some m2)]
  t : Full w g gl s T fl
  a : MapIs Try.prog 3 w m1 A T.ino.length
  b : MapIs Try.prog 69 w m2 B T.ino.length
  at_ : ∀ x, x ∈ T.ino → A (.int .i64 (tm x).id) = some (ent (tm x) x (s.f x).turn) ∧ B (han x (s.f x).turn) = some (.int .i64 (tm x).id)
  only : ∀ v e, A v = some e → ∃ x, x ∈ T.ino ∧ v = .int .i64 (tm x).id
  onlyB : ∀ v e, B v = some e → ∃ x, x ∈ T.ino ∧ v = han x (s.f x).turn
  key : ∀ x, x ∈ T.ino → (s.f x).t = cl (tm x).soft ∧ (s.f x).s = 0
  wf : ∀ x, x ∈ T.ino → I64 (tm x).id
  tn : ∀ x, x ∈ T.ino → I64 (s.f x).turn
  most : s.most = 64
  ne : q ≠ g ∧ q ≠ gl ∧ q ≠ m1 ∧ q ≠ m2 ∧ m1 ≠ g ∧ m1 ≠ gl ∧ m2 ≠ g ∧ m2 ≠ gl ∧ m1 ≠ m2
/-- the queue's blocks -/
def QF (q g gl m1 m2 : Nat) (b : Nat) : Prop := b = q ∨ b = g ∨ b = gl ∨ b = m1 ∨ b = m2
section
variable {w w' : World} {q g gl m1 m2 : Nat} {s : TS} {T : Sh} {fl : List Nat} {tm : Nat → Tm} {A B : Value → Option Value}
theorem QIs.foot_lt (h : QIs w q g gl m1 m2 s T fl tm A B) {b : Nat} (hb : QF q g gl m1 m2 b) : b < w.heap.size := by
  rcases hb with rfl | rfl | rfl | rfl | rfl
  · exact h.qb.lt
  · exact h.t.m.b.lt
  · exact h.t.m.n.lt
  · exact h.a.lt
  · exact h.b.lt
theorem QIs.same (h : QIs w q g gl m1 m2 s T fl tm A B) (e : ∀ b, QF q g gl m1 m2 b → w'.heap[b]? = w.heap[b]?) : QIs w' q g gl m1 m2 s T fl tm A B :=
  ⟨(e q (.inl rfl)).trans h.qb, h.t.same (fun b hb => e b (by rcases hb with rfl | rfl; exact .inr (.inl rfl); exact .inr (.inr (.inl rfl)))), h.a.same (e m1 (.inr (.inr (.inr (.inl rfl))))), h.b.same (e m2 (.inr (.inr (.inr (.inr rfl))))), h.at_, h.only, h.onlyB, h.key, h.wf, h.tn, h.most, h.ne⟩
theorem QIs.below (h : QIs w q g gl m1 m2 s T fl tm A B) (b : Below w.heap.size w w') : QIs w' q g gl m1 m2 s T fl tm A B := h.same fun i hi => b.block i (h.foot_lt hi)
theorem QIs.alloc (h : QIs w q g gl m1 m2 s T fl tm A B) (o : Obj) : QIs (w.alloc o) q g gl m1 m2 s T fl tm A B := h.below ((Below.refl _ _).alloc (Nat.le_refl _) o)
theorem QIs.drewN (h : QIs w q g gl m1 m2 s T fl tm A B) (n : Nat) : QIs (w.drewN n) q g gl m1 m2 s T fl tm A B := h.same fun _ _ => rfl
theorem QIs.drew (h : QIs w q g gl m1 m2 s T fl tm A B) : QIs w.drew q g gl m1 m2 s T fl tm A B := h.same fun _ _ => rfl
theorem QIs.far (h : QIs w q g gl m1 m2 s T fl tm A B) {p : Addr} (hp : ¬ QF q g gl m1 m2 p.block) (u : Value) : QIs (w.setCell p u) q g gl m1 m2 s T fl tm A B := h.same fun b hb => Below.heap_setCell w p u b (by rintro rfl; exact hp hb)
theorem QIs.hc (h : QIs w q g gl m1 m2 s T fl tm A B) : w.cell? ⟨q, 0, none⟩ = some (.pointer (some ⟨g, 0, none⟩)) ∧ w.cell? ⟨q, 1, none⟩ = some (.map (some m1)) ∧ w.cell? ⟨q, 2, none⟩ = some (.map (some m2)) := ⟨h.qb.cell 0, h.qb.cell 1, h.qb.cell 2⟩
/-- timers of one number are one -/
theorem QIs.inj (h : QIs w q g gl m1 m2 s T fl tm A B) {x y : Nat} (hx : x ∈ T.ino) (hy : y ∈ T.ino) (e : (tm x).id = (tm y).id) : x = y := by
  have h1 := (h.at_ x hx).1
  have h2 := (h.at_ y hy).1
  rw [e, h2] at h1
  injection h1 with h1
  unfold ent at h1
  simp only [Value.agg.injEq, Array.mk.injEq, List.cons.injEq, Value.int.injEq] at h1
  omega
/-- a number is a timer's, or none's -/
theorem QIs.has (h : QIs w q g gl m1 m2 s T fl tm A B) (id : Int) : (∃ x, x ∈ T.ino ∧ (tm x).id = id ∧ A (.int .i64 id) = some (ent (tm x) x (s.f x).turn)) ∨ ((∀ x, x ∈ T.ino → (tm x).id ≠ id) ∧ A (.int .i64 id) = none) := by
  cases e : A (.int .i64 id) with
  | none =>
    refine .inr ⟨fun x hx he => ?_, rfl⟩
    have := (h.at_ x hx).1
    rw [he, e] at this
    cases this
  | some v =>
    obtain ⟨x, hx, he⟩ := h.only _ _ e
    have he' : (tm x).id = id := by injection he with _ he; exact he.symm
    refine .inl ⟨x, hx, he', ?_⟩
    rw [← e, ← he']
    exact (h.at_ x hx).1
end
theorem infoNil : True := trivial
set_option maxHeartbeats 400000 in
theorem Has_nil (id : Int) (w : World) : Calls Try.prog 36 #[.pointer none, .int .i64 id] w fun e w' => e = .returned (.bool false) ∧ w = w' := by
  go_enter Try.func36, Try.ntmps36
  go_wp2
  go_ret
  exact ⟨rfl, rfl⟩
set_option maxHeartbeats 400000 in
theorem QLen_nil (w : World) : Calls Try.prog 34 #[.pointer none] w fun e w' => e = .returned (.int .i64 0) ∧ w = w' := by
  go_enter Try.func34, Try.ntmps34
  go_wp2
  go_ret
  exact ⟨rfl, rfl⟩
set_option maxHeartbeats 400000 in
set_option maxRecDepth 100000 in
theorem Has_any (q g gl m1 m2 : Nat) (s : TS) (T : Sh) (fl : List Nat) (tm : Nat → Tm) (A B : Value → Option Value) (id : Int) (hid : I64 id) (w : World) (h : QIs w q g gl m1 m2 s T fl tm A B) :
    Calls Try.prog 36 #[.pointer (some ⟨q, 0, none⟩), .int .i64 id] w fun e w' => e = .returned (.bool (A (.int .i64 id)).isSome) ∧ Below w.heap.size w w' := by
  obtain ⟨q0, q1, q2⟩ := h.hc
  have hl := (map_look kInt Try.underlying64 h.a (key_int hid) (zeroE_run w)).1
  rcases h.has id with ⟨x, _, _, e⟩ | ⟨_, e⟩
  · rw [e] at hl ⊢
    simp only [Option.getD_some, Option.isSome_some] at hl ⊢
    unfold ent at hl
    generalize (tm x).id = e1 at *
    generalize (tm x).clock = e2 at *
    generalize (tm x).soft = e3 at *
    generalize (tm x).hard = e4 at *
    generalize (tm x).lazy = e5 at *
    generalize (s.f x).turn = e6 at *
    clear h e
    go_enter Try.func36, Try.ntmps36
    go_wp2
    go_ret
    exact ⟨rfl, (Below.refl _ _).alloc (Nat.le_refl _) _⟩
  · rw [e] at hl ⊢
    simp only [Option.getD_none, Option.isSome_none] at hl ⊢
    unfold zeroE at hl
    clear h e
    go_enter Try.func36, Try.ntmps36
    go_wp2
    go_ret
    exact ⟨rfl, (Below.refl _ _).alloc (Nat.le_refl _) _⟩
end Go.Proofs.Ytcoibhmgblicfaa.Q
/- The contracts of queue's New and Add. No condition but that memory holds a queue. -/
set_option linter.unusedVariables false
set_option linter.unusedSimpArgs false
namespace Go.Proofs.Ytcoibhmgblicfaa.Q
open Go.RowKit Go.Proofs.Ytcoibhmgblicfaa.Aid Go.Proofs.Ytcoibhmgblicfaa.Tr Go.Proofs.Ytcoibhmgblicfaa.Kt
open Go.ChangeMaps (setBlock heap_setBlock_other)
set_option maxHeartbeats 400000 in
set_option maxRecDepth 100000 in
theorem QNew_any (w : World) (tm : Nat → Tm) : Calls Try.prog 18 #[] w fun e w' => ∃ q g gl m1 m2, e = .returned (.pointer (some ⟨q, 0, none⟩)) ∧ QIs w' q g gl m1 m2 (newS 64) .nil [] tm (fun _ => none) (fun _ => none) ∧ (∀ b, QF q g gl m1 m2 b → w.heap.size ≤ b) ∧ Below w.heap.size w w' := by
  have hmm := @run_makeMap Try.prog
  go_enter Try.func18, Try.ntmps18
  go_wp2_with fail
  refine (New_some 64 w (by omega)).mono ?_
  rintro e W0 ⟨g, gl, rfl, T0, hg, hgl, b0⟩
  go_wp2_with fail
  go_ret
  have e1 : (W0.alloc (.map #[] 0)).heap.size = W0.heap.size + 1 := by simp
  have e2 : ((W0.alloc (.map #[] 0)).alloc (.map #[] 0)).heap.size = W0.heap.size + 2 := by simp
  have s0 := b0.size
  have l1 := T0.b.lt
  have l2 := T0.n.lt
  have hne := T0.ne
  have hF := (full_new (by omega) T0).below (((Below.refl W0.heap.size W0).alloc (Nat.le_refl _) (.map #[] 0)).alloc (by rw [e1]; omega) (.map #[] 0) |>.alloc (by rw [e2]; omega) (.cells #[.pointer (some ⟨g, 0, none⟩), .map (some W0.heap.size), .map (some (W0.heap.size + 1))] 67))
  have hm1 := ((map_new (P := Try.prog) (k := 3) W0).alloc (.map #[] 0)).alloc (.cells #[.pointer (some ⟨g, 0, none⟩), .map (some W0.heap.size), .map (some (W0.heap.size + 1))] 67)
  have hm2 := (map_new (P := Try.prog) (k := 69) (W0.alloc (.map #[] 0))).alloc (.cells #[.pointer (some ⟨g, 0, none⟩), .map (some W0.heap.size), .map (some (W0.heap.size + 1))] 67)
  have hq := Blk.new ((W0.alloc (.map #[] 0)).alloc (.map #[] 0)) 67 #[.pointer (some ⟨g, 0, none⟩), .map (some W0.heap.size), .map (some (W0.heap.size + 1))]
  rw [e1] at hm2
  rw [e2] at hq
  refine ⟨W0.heap.size + 2, g, gl, W0.heap.size, W0.heap.size + 1, rfl, ⟨hq, hF, hm1, hm2, fun x hx => absurd hx (by simp [Sh.ino]), fun v e h => (by cases h), fun v e h => (by cases h), fun x hx => absurd hx (by simp [Sh.ino]), fun x hx => absurd hx (by simp [Sh.ino]), fun x hx => absurd hx (by simp [Sh.ino]), rfl, by omega⟩, fun b hb => ?_, ?_⟩
  · rcases hb with rfl | rfl | rfl | rfl | rfl <;> omega
  · exact b0.trans ((((Below.refl W0.heap.size W0).alloc (Nat.le_refl _) (.map #[] 0)).alloc (by rw [e1]; omega) (.map #[] 0) |>.alloc (by rw [e2]; omega) _).mono s0)
set_option maxHeartbeats 400000 in
set_option maxRecDepth 100000 in
theorem QLen_any (q g gl m1 m2 : Nat) (s : TS) (T : Sh) (fl : List Nat) (tm : Nat → Tm) (A B : Value → Option Value) (w : World) (h : QIs w q g gl m1 m2 s T fl tm A B) :
    Calls Try.prog 34 #[.pointer (some ⟨q, 0, none⟩)] w fun e w' => e = .returned (.int .i64 (T.ino.length : Nat)) ∧ w = w' := by
  obtain ⟨q0, q1, q2⟩ := h.hc
  obtain ⟨es, ck, hb, hn⟩ := h.a.at_
  have hr := MapKept.run_getObj_map (P := Try.prog) hb
  have hlen : (Builtin.len_ #[64] 3 #[.map (some m1)]).run Try.prog w = .ok (.int .i64 (T.ino.length : Nat)) w := by
    simp [Builtin.len_, run_underlying Try.underlying64, hr, hn, goInt]
  clear h hb hr
  go_enter Try.func34, Try.ntmps34
  go_wp2
  go_ret
  exact ⟨rfl, rfl⟩
end Go.Proofs.Ytcoibhmgblicfaa.Q
/- The contracts of queue's First and Drop. No condition but that memory holds a queue. -/
set_option linter.unusedVariables false
set_option linter.unusedSimpArgs false
namespace Go.Proofs.Ytcoibhmgblicfaa.Q
open Go.RowKit Go.Proofs.Ytcoibhmgblicfaa.Aid Go.Proofs.Ytcoibhmgblicfaa.Tr Go.Proofs.Ytcoibhmgblicfaa.Kt
open Go.ChangeMaps (setBlock heap_setBlock_other)
theorem bx5_cells {W : World} {b : Nat} {t : TypeId} {a : Tm} (h : Blk W b t a.cells) : W.cell? ⟨b, 0, none⟩ = some (.int .i64 a.id) ∧ W.cell? ⟨b, 1, none⟩ = some (.int .i64 a.clock) ∧ W.cell? ⟨b, 2, none⟩ = some (.int .i64 a.soft) ∧ W.cell? ⟨b, 3, none⟩ = some (.int .i64 a.hard) ∧ W.cell? ⟨b, 4, none⟩ = some (.bool a.lazy) := ⟨h.cell 0, h.cell 1, h.cell 2, h.cell 3, h.cell 4⟩
def set5 (W : World) (b : Nat) (a : Tm) : World := ((((W.setCell ⟨b, 0, none⟩ (.int .i64 a.id)).setCell ⟨b, 1, none⟩ (.int .i64 a.clock)).setCell ⟨b, 2, none⟩ (.int .i64 a.soft)).setCell ⟨b, 3, none⟩ (.int .i64 a.hard)).setCell ⟨b, 4, none⟩ (.bool a.lazy)
theorem set5_blk {W : World} {b : Nat} {t : TypeId} {a a' : Tm} (h : Blk W b t a.cells) : Blk (set5 W b a') b t a'.cells := by
  have := ((((h.set_ 0 (.int .i64 a'.id)).set_ 1 (.int .i64 a'.clock)).set_ 2 (.int .i64 a'.soft)).set_ 3 (.int .i64 a'.hard)).set_ 4 (.bool a'.lazy)
  unfold set5
  simpa [Tm.cells] using this
theorem set5_below {B : Nat} {w W : World} {b : Nat} {a : Tm} (h : Below B w W) (hb : B ≤ b) : Below B w (set5 W b a) := ((((h.setCell (p := ⟨b, 0, none⟩) hb _).setCell (p := ⟨b, 1, none⟩) hb _).setCell (p := ⟨b, 2, none⟩) hb _).setCell (p := ⟨b, 3, none⟩) hb _).setCell (p := ⟨b, 4, none⟩) hb _
def Tm.agg' (a : Tm) : Value := .agg #[.int .i64 a.id, .int .i64 a.clock, .int .i64 a.soft, .int .i64 a.hard, .bool a.lazy]
set_option maxHeartbeats 1000000 in
set_option maxRecDepth 100000 in
theorem QFirst_none (q g gl m1 m2 : Nat) (s : TS) (T : Sh) (fl : List Nat) (tm : Nat → Tm) (A B : Value → Option Value) (w : World) (h : QIs w q g gl m1 m2 s T fl tm A B) (hT : T.ino = []) :
    Calls Try.prog 27 #[.pointer (some ⟨q, 0, none⟩)] w fun e w' => e = .returned (.tuple #[zeroT.agg', .bool false]) ∧ Below w.heap.size w w' := by
  unfold Tm.agg' zeroT
  have hb := Blk.new w 29 zeroT.cells
  have hq := h.alloc (.cells zeroT.cells 29)
  have B0 : Below w.heap.size w (w.alloc (.cells zeroT.cells 29)) := (Below.refl w.heap.size w).alloc (Nat.le_refl _) _
  unfold Tm.cells zeroT at hb hq B0
  clear h
  go_enter Try.func27, Try.ntmps27
  go_upto_region 1 with fail
  generalize w.alloc (.cells #[.int .i64 0, .int .i64 0, .int .i64 0, .int .i64 0, .bool false] 29) = W at hb hq B0 ⊢
  obtain ⟨R, hR⟩ : ∃ R, w.heap.size = R := ⟨_, rfl⟩
  rw [hR] at hb ⊢
  have HR := Lib.hid (show w.heap.size ≤ R by omega)
  clear hR
  obtain ⟨q0, q1, q2⟩ := hq.hc
  have CF := First_row W hq.t
  rw [hT, show hd [] = 0 from rfl, show decide (([] : List Nat) ≠ []) = false from rfl, show hnd s 0 = .agg #[.int .i64 0, .int .i64 0] from rfl] at CF
  have HCF := Lib.hid CF
  have HB := Lib.hid (And.intro hb B0)
  clear CF hq hb B0
  go_wp2_with fail
  refine HCF.out.mono ?_
  rintro e W1 ⟨rfl, b1⟩
  have hb1 := (HB.out.1.below b1 HB.out.1.lt).alloc (.cells #[.int .i64 0, .int .i64 0] 69)
  have B1 := (HB.out.2.trans (b1.mono HB.out.2.size)).alloc (Nat.le_trans HB.out.2.size b1.size) (.cells #[.int .i64 0, .int .i64 0] 69)
  clear HB HCF b1 q0 q1 q2
  go_upto_region 4 with fail
  generalize W1.alloc (.cells #[.int .i64 0, .int .i64 0] 69) = W2 at hb1 B1 ⊢
  have c0 : W2.cell? ⟨R, 0, none⟩ = some (.int .i64 0) := hb1.cell 0
  have c1 : W2.cell? ⟨R, 1, none⟩ = some (.int .i64 0) := hb1.cell 1
  have c2 : W2.cell? ⟨R, 2, none⟩ = some (.int .i64 0) := hb1.cell 2
  have c3 : W2.cell? ⟨R, 3, none⟩ = some (.int .i64 0) := hb1.cell 3
  have c4 : W2.cell? ⟨R, 4, none⟩ = some (.bool false) := hb1.cell 4
  have fz := hb1.frozen
  have HB2 := Lib.hid (And.intro hb1 B1)
  clear hb1 B1
  go_wp2_with fail
  clear c0 c1 c2 c3 c4
  have hb5 : Blk (set5 W2 R zeroT) R 29 zeroT.cells := set5_blk (a := zeroT) HB2.out.1
  obtain ⟨r0, r1, r2, r3, r4⟩ := bx5_cells hb5
  have B5 := set5_below (a := zeroT) HB2.out.2 HR.out
  unfold set5 zeroT at r0 r1 r2 r3 r4 B5
  exact bodyPost_ret (v := .tuple #[.agg #[.int .i64 0, .int .i64 0, .int .i64 0, .int .i64 0, .bool false], .bool false]) (by simp [results, Try.results27, go_sem, r0, r1, r2, r3, r4]) rfl ⟨rfl, B5⟩
theorem han_eq (x : Nat) (n : Int) : han x n = .agg #[.int .i64 x, .int .i64 n] := rfl
/-- what looking up a node's timer tells -/
theorem QIs.look {w : World} {q g gl m1 m2 : Nat} {s : TS} {T : Sh} {fl : List Nat} {tm : Nat → Tm} {A B : Value → Option Value} (h : QIs w q g gl m1 m2 s T fl tm A B) {x : Nat} (hx : x ∈ T.ino) :
    (Instr.lookup 65 (.map (some m2)) (.agg #[.int .i64 x, .int .i64 (s.f x).turn]) false).run Try.prog w = .ok (.int .i64 (tm x).id) w ∧
    (Instr.lookup 64 (.map (some m1)) (.int .i64 (tm x).id) false).run Try.prog w = .ok (ent (tm x) x (s.f x).turn) w := by
  obtain ⟨h1, h2⟩ := h.at_ x hx
  have hlt := h.t.lt x hx
  have hsz := h.t.m.sz
  have l1 := (map_look kHan Try.underlying65 h.b (key_han (show I64 ((x : Nat) : Int) by unfold I64; omega) (h.tn x hx)) (zeroI_run w)).2
  have l2 := (map_look kInt Try.underlying64 h.a (key_int (h.wf x hx)) (zeroE_run w)).2
  rw [← han_eq, h2] at l1
  rw [h1] at l2
  exact ⟨l1, l2⟩
theorem infoT : (Try.prog.info? 29).map (·.size) = some 5 := by kernel_rfl
theorem field_ent (a : Tm) (x : Nat) (n : Int) (W : World) : (Instr.field 75 (.agg #[.int .i64 a.id, .int .i64 a.clock, .int .i64 a.soft, .int .i64 a.hard, .bool a.lazy, .int .i64 x, .int .i64 n]) 0).run Try.prog W = .ok (.agg #[.int .i64 a.id, .int .i64 a.clock, .int .i64 a.soft, .int .i64 a.hard, .bool a.lazy]) W := by
  have h := infoT
  cases e : Try.prog.info? 29 with
  | none => rw [e] at h; cases h
  | some i =>
    rw [e] at h
    simp only [Option.map_some, Option.some.injEq] at h
    simp [Instr.field, run_underlying Try.underlying75, run_underlying Try.underlying29, part, isAgg, asAgg, sizeOf, typeInfo, e, h]
set_option maxHeartbeats 1000000 in
set_option maxRecDepth 100000 in
theorem QFirst_some (q g gl m1 m2 : Nat) (s : TS) (T : Sh) (fl : List Nat) (tm : Nat → Tm) (A B : Value → Option Value) (w : World) (h : QIs w q g gl m1 m2 s T fl tm A B) (x : Nat) (l : List Nat) (hT : T.ino = x :: l) :
    Calls Try.prog 27 #[.pointer (some ⟨q, 0, none⟩)] w fun e w' => e = .returned (.tuple #[(tm x).agg', .bool true]) ∧ Below w.heap.size w w' := by
  unfold Tm.agg'
  have hxT : x ∈ T.ino := by rw [hT]; simp
  have hb := Blk.new w 29 zeroT.cells
  have hq := h.alloc (.cells zeroT.cells 29)
  have B0 : Below w.heap.size w (w.alloc (.cells zeroT.cells 29)) := (Below.refl w.heap.size w).alloc (Nat.le_refl _) _
  unfold Tm.cells zeroT at hb hq B0
  clear h
  go_enter Try.func27, Try.ntmps27
  go_upto_region 1 with fail
  generalize w.alloc (.cells #[.int .i64 0, .int .i64 0, .int .i64 0, .int .i64 0, .bool false] 29) = W at hb hq B0 ⊢
  obtain ⟨R, hR⟩ : ∃ R, w.heap.size = R := ⟨_, rfl⟩
  rw [hR] at hb ⊢
  have HR := Lib.hid (show w.heap.size ≤ R by omega)
  clear hR
  obtain ⟨q0, q1, q2⟩ := hq.hc
  have CF := First_row W hq.t
  rw [hT, show hd (x :: l) = x from rfl, show decide ((x :: l) ≠ []) = true from rfl, hnd_in hq.t hxT] at CF
  obtain ⟨tx, htx⟩ : ∃ t, (s.f x).turn = t := ⟨_, rfl⟩
  rw [htx] at CF
  have HCF := Lib.hid CF
  have HB := Lib.hid (And.intro hb (And.intro B0 (And.intro hq htx)))
  clear CF hq hb B0 htx
  go_wp2_with fail
  refine HCF.out.mono ?_
  rintro e W1 ⟨rfl, b1⟩
  have hb1 := (HB.out.1.below b1 HB.out.1.lt).alloc (.cells #[.int .i64 x, .int .i64 tx] 69)
  have B1 := (HB.out.2.1.trans (b1.mono HB.out.2.1.size)).alloc (Nat.le_trans HB.out.2.1.size b1.size) (.cells #[.int .i64 x, .int .i64 tx] 69)
  have Q1 := (HB.out.2.2.1.below b1).alloc (.cells #[.int .i64 x, .int .i64 tx] 69)
  have hh1 := Blk.new W1 69 #[.int .i64 x, .int .i64 tx]
  have htx := HB.out.2.2.2
  clear HB HCF b1 q0 q1 q2
  go_upto_region 6 with fail
  generalize W1.alloc (.cells #[.int .i64 x, .int .i64 tx] 69) = W2 at hb1 B1 Q1 hh1 ⊢
  generalize W1.heap.size = hb at hh1 ⊢
  obtain ⟨q0, q1, q2⟩ := Q1.drew.hc
  obtain ⟨l1, l2⟩ := Q1.drew.look hxT
  obtain ⟨h0, h1⟩ := two_cells hh1.drew
  rw [htx] at l1 l2
  unfold ent at l2
  have fe := field_ent (tm x) x tx
  refine wp_region_still_tail 12 (by kernel_rfl) (by kernel_rfl) ?_
  change wpStill _ _ W2.drew (fun a' => wpList _ _ _ _ a' W2.drew) _ _
  have hb2 := hb1.drew
  have B2 := below_drewN B1 1
  change Below _ _ W2.drew at B2
  clear hb1 B1 Q1 hh1 htx
  generalize W2.drew = W3 at q0 q1 q2 l1 l2 h0 h1 hb2 B2 ⊢
  have c0 : W3.cell? ⟨R, 0, none⟩ = some (.int .i64 0) := hb2.cell 0
  have c1 : W3.cell? ⟨R, 1, none⟩ = some (.int .i64 0) := hb2.cell 1
  have c2 : W3.cell? ⟨R, 2, none⟩ = some (.int .i64 0) := hb2.cell 2
  have c3 : W3.cell? ⟨R, 3, none⟩ = some (.int .i64 0) := hb2.cell 3
  have c4 : W3.cell? ⟨R, 4, none⟩ = some (.bool false) := hb2.cell 4
  have fz := hb2.frozen
  have HB2 := Lib.hid (And.intro hb2 B2)
  clear hb2 B2
  simp only [List.take_succ_cons, List.take_zero, List.drop_succ_cons, List.drop_zero]
  still_step
  still_step
  still_step
  still_step
  still_step
  still_step
  still_step
  still_step
  still_step
  still_step
  still_step
  still_step
  refine wpStill_nil ?_
  clear q0 q1 q2 l1 l2 h0 h1
  go_wp2_with fail
  clear c0 c1 c2 c3 c4
  have hb5 : Blk (set5 W3 R (tm x)) R 29 (tm x).cells := set5_blk (a := zeroT) HB2.out.1
  obtain ⟨r0, r1, r2, r3, r4⟩ := bx5_cells hb5
  have B5 := set5_below (a := tm x) HB2.out.2 HR.out
  unfold set5 at r0 r1 r2 r3 r4 B5
  exact bodyPost_ret (v := .tuple #[.agg #[.int .i64 (tm x).id, .int .i64 (tm x).clock, .int .i64 (tm x).soft, .int .i64 (tm x).hard, .bool (tm x).lazy], .bool true]) (by simp [results, Try.results27, go_sem, r0, r1, r2, r3, r4]) rfl ⟨rfl, B5⟩
end Go.Proofs.Ytcoibhmgblicfaa.Q
/- The contract of queue's Add. No condition but that memory holds a queue. -/
set_option linter.unusedVariables false
set_option linter.unusedSimpArgs false
namespace Go.Proofs.Ytcoibhmgblicfaa.Q
open Go.RowKit Go.Proofs.Ytcoibhmgblicfaa.Aid Go.Proofs.Ytcoibhmgblicfaa.Tr Go.Proofs.Ytcoibhmgblicfaa.Kt
open Go.ChangeMaps (setBlock heap_setBlock_other)
def Tm.agg (a : Tm) : Value := .agg #[.int .i64 a.id, .int .i64 a.clock, .int .i64 a.soft, .int .i64 a.hard, .bool a.lazy]
theorem tm_cells {W : World} {b : Nat} {t : TypeId} {a : Tm} (h : Blk W b t a.cells) : W.cell? ⟨b, 0, none⟩ = some (.int .i64 a.id) ∧ W.cell? ⟨b, 1, none⟩ = some (.int .i64 a.clock) ∧ W.cell? ⟨b, 2, none⟩ = some (.int .i64 a.soft) ∧ W.cell? ⟨b, 3, none⟩ = some (.int .i64 a.hard) ∧ W.cell? ⟨b, 4, none⟩ = some (.bool a.lazy) := ⟨h.cell 0, h.cell 1, h.cell 2, h.cell 3, h.cell 4⟩
set_option maxHeartbeats 400000 in
set_option maxRecDepth 100000 in
theorem Add_nil (a : Tm) (w : World) : Calls Try.prog 21 #[.pointer none, a.agg] w fun e w' => e = .returned (.int .i64 1) ∧ Below w.heap.size w w' := by
  unfold Tm.agg
  go_enter Try.func21, Try.ntmps21
  go_wp2
  go_ret
  exact ⟨rfl, (Below.refl _ _).alloc (Nat.le_refl _) _⟩
set_option maxHeartbeats 400000 in
set_option maxRecDepth 100000 in
theorem Add_inval (q : Nat) (a : Tm) (ha : a.hard < a.soft) (w : World) : Calls Try.prog 21 #[.pointer (some ⟨q, 0, none⟩), a.agg] w fun e w' => e = .returned (.int .i64 2) ∧ Below w.heap.size w w' := by
  unfold Tm.agg
  have hb := Blk.new w 29 a.cells
  have B : Below w.heap.size w (w.alloc (.cells a.cells 29)) := (Below.refl w.heap.size w).alloc (Nat.le_refl _) _
  unfold Tm.cells at B
  obtain ⟨c0, c1, c2, c3, c4⟩ := tm_cells hb
  unfold Tm.cells at hb c0 c1 c2 c3 c4
  go_enter Try.func21, Try.ntmps21
  go_upto_region 1 with fail
  generalize w.alloc (.cells #[.int .i64 a.id, .int .i64 a.clock, .int .i64 a.soft, .int .i64 a.hard, .bool a.lazy] 29) = W at c0 c1 c2 c3 c4 B ⊢
  have HB := Lib.hid B
  clear B hb
  go_wp2_with fail
  go_ret
  exact ⟨rfl, HB.out⟩
set_option maxHeartbeats 400000 in
set_option maxRecDepth 100000 in
theorem Add_busy (q g gl m1 m2 : Nat) (s : TS) (T : Sh) (fl : List Nat) (tm : Nat → Tm) (A B : Value → Option Value) (a : Tm) (hid : I64 a.id) (ha : ¬ a.hard < a.soft) (w : World) (h : QIs w q g gl m1 m2 s T fl tm A B) (x : Nat) (hx : x ∈ T.ino) (he : (tm x).id = a.id) :
    Calls Try.prog 21 #[.pointer (some ⟨q, 0, none⟩), a.agg] w fun e w' => e = .returned (.int .i64 9) ∧ Below w.heap.size w w' := by
  unfold Tm.agg
  have hb := Blk.new w 29 a.cells
  have hq := h.alloc (.cells a.cells 29)
  have B : Below w.heap.size w (w.alloc (.cells a.cells 29)) := (Below.refl w.heap.size w).alloc (Nat.le_refl _) _
  obtain ⟨c0, c1, c2, c3, c4⟩ := tm_cells hb
  have hs : (A (.int .i64 a.id)).isSome = true := by rw [← he, (h.at_ x hx).1]; rfl
  unfold Tm.cells at hb c0 c1 c2 c3 c4 B hq
  clear h hx he
  go_enter Try.func21, Try.ntmps21
  go_upto_region 1 with fail
  generalize w.alloc (.cells #[.int .i64 a.id, .int .i64 a.clock, .int .i64 a.soft, .int .i64 a.hard, .bool a.lazy] 29) = W at c0 c1 c2 c3 c4 B hq ⊢
  have HB := Lib.hid B
  have HH := Lib.hid (Has_any q g gl m1 m2 s T fl tm A _ a.id hid W hq)
  rw [hs] at HH
  clear B hb hs hq
  go_wp2_with fail
  refine HH.out.mono ?_
  rintro e W1 ⟨rfl, b1⟩
  have HB1 := Lib.hid (HB.out.trans (b1.mono HB.out.size))
  clear HB b1 HH
  go_wp2_with fail
  go_ret
  exact ⟨rfl, HB1.out⟩
def AddPost (q g gl m1 m2 : Nat) (s : TS) (T : Sh) (tm : Nat → Tm) (a : Tm) (w : World) (e : Ending) (w' : World) : Prop :=
  e = .returned (.int .i64 0) ∧ ∃ s' T' fl' x pre post tm' A' B', QIs w' q g gl m1 m2 s' T' fl' tm' A' B' ∧ PutRes s T (cl a.soft) 0 s' T' x pre post ∧ tm' x = a ∧ (∀ y, y ≠ x → tm' y = tm y) ∧ Only (QF q g gl m1 m2) w w'
def setTm (tm : Nat → Tm) (x : Nat) (a : Tm) (y : Nat) : Tm := if y = x then a else tm y
theorem I64.nat {n : Nat} (h : n ≤ 100000) : I64 ((n : Nat) : Int) := by unfold I64; omega
/-- what the maps hold behind an Add -/
theorem QIs.added {w W W1 W2 : World} {q g gl m1 m2 : Nat} {s s' : TS} {T T' : Sh} {fl fl' : List Nat} {tm : Nat → Tm} {A B : Value → Option Value} {a : Tm} {x : Nat} {pre post : List Nat} {n1 n2 : Nat}
    (h : QIs w q g gl m1 m2 s T fl tm A B) (hid : I64 a.id) (hno : A (.int .i64 a.id) = none) (F : Full W g gl s' T' fl') (R : PutRes s T (cl a.soft) 0 s' T' x pre post)
    (M1 : MapIs Try.prog 3 W1 m1 (updM A (.int .i64 a.id) (ent a x (s'.f x).turn)) n1) (hn1 : n1 = T'.ino.length)
    (M2 : MapIs Try.prog 69 W2 m2 (updM B (han x (s'.f x).turn) (.int .i64 a.id)) n2) (hn2 : n2 = T'.ino.length)
    (htx : I64 (s'.f x).turn) (o1 : ∀ b, b ≠ m1 → b ≠ m2 → QF q g gl m1 m2 b → W2.heap[b]? = W.heap[b]?) (oq : W.heap[q]? = w.heap[q]?) (o2 : W2.heap[m1]? = W1.heap[m1]?) :
    QIs W2 q g gl m1 m2 s' T' fl' (setTm tm x a) (updM A (.int .i64 a.id) (ent a x (s'.f x).turn)) (updM B (han x (s'.f x).turn) (.int .i64 a.id)) := by
  have ne := h.ne
  have hxT : x ∉ T.ino := fun e => by
    have := F.rb.nd
    rw [R.ino'] at this
    exact (sub_nodup this).2 (by rw [← R.ino]; exact e)
  have hmem : ∀ y, y ∈ T'.ino ↔ y = x ∨ y ∈ T.ino := fun y => by
    rw [R.ino', R.ino]; simp only [List.mem_append, List.mem_cons]
    constructor
    · rintro (e | e | e)
      · exact .inr (.inl e)
      · exact .inl e
      · exact .inr (.inr e)
    · rintro (e | e | e)
      · exact .inr (.inl e)
      · exact .inl e
      · exact .inr (.inr e)
  have hold : ∀ y, y ∈ T.ino → y ≠ x ∧ (s'.f y).t = (s.f y).t ∧ (s'.f y).s = (s.f y).s ∧ (s'.f y).turn = (s.f y).turn := fun y hy => by
    have hyx : y ≠ x := fun e => hxT (e ▸ hy)
    exact ⟨hyx, R.old y (h.t.lt y hy) hyx⟩
  have hidne : ∀ y, y ∈ T.ino → (tm y).id ≠ a.id := fun y hy e => by
    have := (h.at_ y hy).1
    rw [e, hno] at this
    cases this
  refine ⟨?_, F.same (fun b hb => o1 b ?_ ?_ ?_), by rw [← hn1]; exact M1.same o2, by rw [← hn2]; exact M2, fun y hy => ?_, fun v e he => ?_, fun v e he => ?_, fun y hy => ?_, fun y hy => ?_, fun y hy => ?_, R.most.trans h.most, h.ne⟩
  · exact ((o1 q ne.2.2.1 ne.2.2.2.1 (.inl rfl)).trans oq).trans h.qb
  · rcases hb with rfl | rfl
    · exact Ne.symm ne.2.2.2.2.1
    · exact Ne.symm ne.2.2.2.2.2.1
  · rcases hb with rfl | rfl
    · exact Ne.symm ne.2.2.2.2.2.2.1
    · exact Ne.symm ne.2.2.2.2.2.2.2.1
  · rcases hb with rfl | rfl
    · exact .inr (.inl rfl)
    · exact .inr (.inr (.inl rfl))
  · rcases (hmem y).1 hy with rfl | hy
    · rw [show setTm tm y a y = a from if_pos rfl, updM_same, updM_same]; exact ⟨rfl, rfl⟩
    · obtain ⟨h1, h2, h3, h4⟩ := hold y hy
      rw [show setTm tm x a y = tm y from if_neg h1, h4, updM_ne, updM_ne]
      · exact h.at_ y hy
      · intro e; unfold han at e; simp only [Value.agg.injEq, Array.mk.injEq, List.cons.injEq, Value.int.injEq] at e; omega
      · intro e; injection e with _ e; exact hidne y hy e
  · by_cases ev : v = .int .i64 a.id
    · refine ⟨x, (hmem x).2 (.inl rfl), ?_⟩
      rw [show setTm tm x a x = a from if_pos rfl]; exact ev
    · rw [updM_ne ev] at he
      obtain ⟨y, hy, e⟩ := h.only v _ he
      refine ⟨y, (hmem y).2 (.inr hy), ?_⟩
      rw [show setTm tm x a y = tm y from if_neg (hold y hy).1]; exact e
  · by_cases ev : v = han x (s'.f x).turn
    · exact ⟨x, (hmem x).2 (.inl rfl), ev⟩
    · rw [updM_ne ev] at he
      obtain ⟨y, hy, e⟩ := h.onlyB v _ he
      exact ⟨y, (hmem y).2 (.inr hy), by rw [(hold y hy).2.2.2]; exact e⟩
  · rcases (hmem y).1 hy with rfl | hy
    · rw [show setTm tm y a y = a from if_pos rfl]; exact R.key
    · obtain ⟨h1, h2, h3, h4⟩ := hold y hy
      rw [show setTm tm x a y = tm y from if_neg h1, h2, h3]; exact h.key y hy
  · rcases (hmem y).1 hy with rfl | hy
    · rw [show setTm tm y a y = a from if_pos rfl]; exact hid
    · rw [show setTm tm x a y = tm y from if_neg (hold y hy).1]; exact h.wf y hy
  · rcases (hmem y).1 hy with rfl | hy
    · exact htx
    · rw [(hold y hy).2.2.2]; exact h.tn y hy
/-- what Put answers, written out -/
def PutQ (g gl : Nat) (s : TS) (T : Sh) (kt ks : Int) (w : World) (e : Ending) (w' : World) : Prop :=
  ∃ s' T' fl' x tx pre post, e = .returned (.tuple #[.agg #[.int .i64 ((x : Nat) : Int), .int .i64 tx], .int .i64 0]) ∧ (s'.f x).turn = tx ∧ Full w' g gl s' T' fl' ∧ PutRes s T kt ks s' T' x pre post ∧ Only (TF g gl) w w'
theorem putQ_of {P : Program} {f : FuncId} {args : Array Value} {g gl : Nat} {s : TS} {T : Sh} {kt ks : Int} {w : World} (h : Calls P f args w (PutPost g gl s T kt ks w)) : Calls P f args w (PutQ g gl s T kt ks w) := h.mono fun e w' ⟨s', T', fl', x, pre, post, h1, h2, h3, h4⟩ =>
  ⟨s', T', fl', x, _, pre, post, by rw [h1, hnd_in h2 (by rw [h3.ino']; simp)], rfl, h2, h3, h4⟩
/-- what stands in Add ahead of Put, and behind it -/
structure AMd (q g gl m1 m2 : Nat) (s : TS) (T : Sh) (fl : List Nat) (tm : Nat → Tm) (A B : Value → Option Value) (X : Nat) (a : Tm) (w W : World) : Prop where
  qi : QIs W q g gl m1 m2 s T fl tm A B
  bx : Blk W X 29 a.cells
  on_ : Only (QF q g gl m1 m2) w W
theorem AMd.alloc {q g gl m1 m2 : Nat} {s : TS} {T : Sh} {fl : List Nat} {tm : Nat → Tm} {A B : Value → Option Value} {X : Nat} {a : Tm} {w W : World} (h : AMd q g gl m1 m2 s T fl tm A B X a w W) (o : Obj) : AMd q g gl m1 m2 s T fl tm A B X a w (W.alloc o) := ⟨h.qi.alloc o, h.bx.alloc o, h.on_.alloc o⟩
theorem AMd.drew {q g gl m1 m2 : Nat} {s : TS} {T : Sh} {fl : List Nat} {tm : Nat → Tm} {A B : Value → Option Value} {X : Nat} {a : Tm} {w W : World} (h : AMd q g gl m1 m2 s T fl tm A B X a w W) : AMd q g gl m1 m2 s T fl tm A B X a w W.drew := ⟨h.qi.drew, h.bx.drew, h.on_.drew⟩
structure AMe (q g gl m1 m2 : Nat) (s : TS) (T : Sh) (fl : List Nat) (tm : Nat → Tm) (A B : Value → Option Value) (X : Nat) (a : Tm) (w W : World) (s' : TS) (T' : Sh) (fl' : List Nat) (x : Nat) (tx : Int) (pre post : List Nat) (HB : Nat) : Prop where
  qb : Blk W q 67 #[.pointer (some ⟨g, 0, none⟩), .map (some m1), .map (some m2)]
  f : Full W g gl s' T' fl'
  r : PutRes s T (cl a.soft) 0 s' T' x pre post
  etx : (s'.f x).turn = tx
  ma : MapIs Try.prog 3 W m1 A T.ino.length
  mb : MapIs Try.prog 69 W m2 B T.ino.length
  bx : Blk W X 29 a.cells
  bh : Blk W HB 69 (two_ x tx)
  nq : ¬ QF q g gl m1 m2 HB
  on_ : Only (QF q g gl m1 m2) w W
/-- behind Put, ahead of the handle's box -/
structure AMf (q g gl m1 m2 : Nat) (s : TS) (T : Sh) (fl : List Nat) (tm : Nat → Tm) (A B : Value → Option Value) (X : Nat) (a : Tm) (w W : World) (s' : TS) (T' : Sh) (fl' : List Nat) (x : Nat) (tx : Int) (pre post : List Nat) : Prop where
  qb : Blk W q 67 #[.pointer (some ⟨g, 0, none⟩), .map (some m1), .map (some m2)]
  f : Full W g gl s' T' fl'
  r : PutRes s T (cl a.soft) 0 s' T' x pre post
  etx : (s'.f x).turn = tx
  ma : MapIs Try.prog 3 W m1 A T.ino.length
  mb : MapIs Try.prog 69 W m2 B T.ino.length
  bx : Blk W X 29 a.cells
  on_ : Only (QF q g gl m1 m2) w W
theorem AMe.mk1 {q g gl m1 m2 : Nat} {s : TS} {T : Sh} {fl : List Nat} {tm : Nat → Tm} {A B : Value → Option Value} {X : Nat} {a : Tm} {w W W' : World} {s' : TS} {T' : Sh} {fl' : List Nat} {x : Nat} {tx : Int} {pre post : List Nat}
    (h : AMd q g gl m1 m2 s T fl tm A B X a w W) (htx : (s'.f x).turn = tx) (F : Full W' g gl s' T' fl') (R : PutRes s T (cl a.soft) 0 s' T' x pre post) (hX : ¬ QF q g gl m1 m2 X) (O : Only (TF g gl) W W') : AMf q g gl m1 m2 s T fl tm A B X a w W' s' T' fl' x tx pre post := by
  have ne := h.qi.ne
  refine ⟨O.blk h.qi.qb (by rintro (e | e); exact ne.1 e; exact ne.2.1 e), F, R, htx, h.qi.a.only O (by rintro (e | e); exact ne.2.2.2.2.1 e; exact ne.2.2.2.2.2.1 e), h.qi.b.only O (by rintro (e | e); exact ne.2.2.2.2.2.2.1 e; exact ne.2.2.2.2.2.2.2.1 e), O.blk h.bx ?_, h.on_.trans O (fun i _ hi => by rcases hi with rfl | rfl; exact .inr (.inl rfl); exact .inr (.inr (.inl rfl)))⟩
  rintro (rfl | rfl)
  · exact hX (.inr (.inl rfl))
  · exact hX (.inr (.inr (.inl rfl)))
theorem tf_qf {q g gl m1 m2 b : Nat} (h : TF g gl b) : QF q g gl m1 m2 b := by rcases h with rfl | rfl; exact .inr (.inl rfl); exact .inr (.inr (.inl rfl))
/-- the handle's box, made new -/
theorem AMf.box {q g gl m1 m2 : Nat} {s : TS} {T : Sh} {fl : List Nat} {tm : Nat → Tm} {A B : Value → Option Value} {X : Nat} {a : Tm} {w W : World} {s' : TS} {T' : Sh} {fl' : List Nat} {x : Nat} {tx : Int} {pre post : List Nat} (h : AMf q g gl m1 m2 s T fl tm A B X a w W s' T' fl' x tx pre post) :
    AMe q g gl m1 m2 s T fl tm A B X a w (W.alloc (.cells #[.int .i64 ((x : Nat) : Int), .int .i64 tx] 69)) s' T' fl' x tx pre post W.heap.size :=
  ⟨h.qb.alloc _, h.f.same (fun b hb => ((Below.refl W.heap.size W).alloc (Nat.le_refl _) _).block b (by rcases hb with rfl | rfl; exact h.f.m.b.lt; exact h.f.m.n.lt)), h.r, h.etx, h.ma.alloc _, h.mb.alloc _, h.bx.alloc _, Blk.new W _ _, (by rintro (e | e | e | e | e); exact Nat.ne_of_gt h.qb.lt e; exact Nat.ne_of_gt h.f.m.b.lt e; exact Nat.ne_of_gt h.f.m.n.lt e; exact Nat.ne_of_gt h.ma.lt e; exact Nat.ne_of_gt h.mb.lt e), h.on_.alloc _⟩
theorem AMf.fill {q g gl m1 m2 : Nat} {s : TS} {T : Sh} {fl : List Nat} {tm : Nat → Tm} {A B : Value → Option Value} {X : Nat} {a : Tm} {w W : World} {s' : TS} {T' : Sh} {fl' : List Nat} {x : Nat} {tx : Int} {pre post : List Nat} {H : Nat} (h : AMf q g gl m1 m2 s T fl tm A B X a w W s' T' fl' x tx pre post)
    (hH : Blk W H 69 #[.int .i64 0, .int .i64 0]) (hX : H ≠ X) (hQ : ¬ QF q g gl m1 m2 H) (hn : w.heap.size ≤ H) :
    AMe q g gl m1 m2 s T fl tm A B X a w ((W.setCell ⟨H, 0, none⟩ (.int .i64 ((x : Nat) : Int))).setCell ⟨H, 1, none⟩ (.int .i64 tx)) s' T' fl' x tx pre post H := by
  have ho : ∀ b, b ≠ H → ((W.setCell ⟨H, 0, none⟩ (.int .i64 ((x : Nat) : Int))).setCell ⟨H, 1, none⟩ (.int .i64 tx)).heap[b]? = W.heap[b]? := fun b hb => (Below.heap_setCell _ ⟨H, 1, none⟩ _ b hb).trans (Below.heap_setCell _ ⟨H, 0, none⟩ _ b hb)
  have e : ∀ b, QF q g gl m1 m2 b → ((W.setCell ⟨H, 0, none⟩ (.int .i64 ((x : Nat) : Int))).setCell ⟨H, 1, none⟩ (.int .i64 tx)).heap[b]? = W.heap[b]? := fun b hb => ho b (by rintro rfl; exact hQ hb)
  exact ⟨(e q (.inl rfl)).trans h.qb, h.f.same (fun b hb => e b (by rcases hb with rfl | rfl; exact .inr (.inl rfl); exact .inr (.inr (.inl rfl)))), h.r, h.etx, h.ma.same (e m1 (.inr (.inr (.inr (.inl rfl))))), h.mb.same (e m2 (.inr (.inr (.inr (.inr rfl))))), (ho X (Ne.symm hX)).trans h.bx, ((show Blk W H _ _ from hH).set_ 0 (.int .i64 ((x : Nat) : Int))).set_ 1 (.int .i64 tx), hQ, (h.on_.setCell (.inr hn) _).setCell (.inr hn) _⟩
theorem map_far {P : Program} {k : TypeId} {w : World} {b n : Nat} {m : Value → Option Value} (h : MapIs P k w b m n) (o : Obj) {i : Nat} (hi : i ≠ b) : (setBlock w b o).heap[i]? = w.heap[i]? := by
  obtain ⟨es, clock, hb, _⟩ := h
  exact heap_setBlock_other hb o hi
theorem map_only {S : Nat → Prop} {a : World} {P : Program} {k : TypeId} {w : World} {b n : Nat} {m : Value → Option Value} (h : MapIs P k w b m n) (ho : Only S a w) (o : Obj) (hS : S b) : Only S a (setBlock w b o) := by
  obtain ⟨es, clock, hb, _⟩ := h
  exact setBlock_only ho hb o (.inl hS)
theorem put_not {s s' : TS} {T T' : Sh} {kt ks : Int} {x : Nat} {pre post : List Nat} {w : World} {g gl : Nat} {fl' : List Nat} (R : PutRes s T kt ks s' T' x pre post) (F : Full w g gl s' T' fl') : x ∉ T.ino := fun e => by
  have := F.rb.nd
  rw [R.ino'] at this
  exact (sub_nodup this).2 (by rw [← R.ino]; exact e)
theorem QIs.added2 {w W W2 W3 : World} {q g gl m1 m2 : Nat} {s s' : TS} {T T' : Sh} {fl fl' : List Nat} {tm : Nat → Tm} {A B : Value → Option Value} {a : Tm} {x : Nat} {pre post : List Nat} {tx : Int} {X HB : Nat}
    (h : QIs w q g gl m1 m2 s T fl tm A B) (hid : I64 a.id) (hno : A (.int .i64 a.id) = none) (E : AMe q g gl m1 m2 s T fl tm A B X a w W s' T' fl' x tx pre post HB) (htx : I64 tx)
    (M1 : MapIs Try.prog 3 W2 m1 (updM A (.int .i64 a.id) (.agg #[.int .i64 a.id, .int .i64 a.clock, .int .i64 a.soft, .int .i64 a.hard, .bool a.lazy, .int .i64 x, .int .i64 tx])) (if (A (.int .i64 a.id)).isSome then T.ino.length else T.ino.length + 1))
    (M2 : MapIs Try.prog 69 W3 m2 (updM B (.agg #[.int .i64 x, .int .i64 tx]) (.int .i64 a.id)) (if (B (.agg #[.int .i64 x, .int .i64 tx])).isSome then T.ino.length else T.ino.length + 1))
    (e2 : ∀ i, i ≠ m1 → W2.heap[i]? = W.heap[i]?) (e3 : ∀ i, i ≠ m2 → W3.heap[i]? = W2.heap[i]?) (O3 : Only (QF q g gl m1 m2) w W3) : AddPost q g gl m1 m2 s T tm a w (.returned (.int .i64 0)) W3 := by
  have etx := E.etx
  subst etx
  have hx := put_not E.r E.f
  have hl : T'.ino.length = T.ino.length + 1 := by rw [E.r.ino', E.r.ino]; simp; omega
  have hB : B (.agg #[.int .i64 x, .int .i64 (s'.f x).turn]) = none := by
    cases e : B (.agg #[.int .i64 x, .int .i64 (s'.f x).turn]) with
    | none => rfl
    | some v =>
      obtain ⟨y, hy, ey⟩ := h.onlyB _ _ e
      unfold han at ey
      simp only [Value.agg.injEq, Array.mk.injEq, List.cons.injEq, Value.int.injEq] at ey
      have : x = y := by omega
      exact absurd (this ▸ hy) hx
  rw [hno] at M1
  rw [hB] at M2
  have ne := h.ne
  exact ⟨rfl, s', T', fl', x, pre, post, setTm tm x a, _, _, h.added hid hno E.f E.r M1 hl.symm M2 hl.symm htx (fun b h1 h2 _ => (e3 b h2).trans (e2 b h1)) (E.qb.trans h.qb.symm) (e3 m1 ne.2.2.2.2.2.2.2.2), E.r, if_pos rfl, fun y hy => if_neg hy, O3⟩
end Go.Proofs.Ytcoibhmgblicfaa.Q
