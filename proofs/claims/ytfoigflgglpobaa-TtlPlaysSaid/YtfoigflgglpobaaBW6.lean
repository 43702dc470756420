/- Lemmas and contracts for RowTtlPlays, merged by program out of Trj, Tea, Kt, Va, Vb, Vc, Vd, Ve, Vf. No condition. -/
import Derived.Test.YtfoigflgglpobaaBW0
import Derived.Test.YtfoigflgglpobaaBW2
import Derived.Test.YtfoigflgglpobaaBW5
import Derived.Test.YtfoigflgglpobaaProg
import Derived.StillTailTactics
import Derived.BigQuiet
set_option linter.unusedVariables false
set_option linter.unusedSimpArgs false
/- The contract of tree's search for a time. No condition but that memory holds a tree. -/
set_option linter.unusedVariables false
set_option linter.unusedSimpArgs false
namespace Go.Proofs.Ytfoigflgglpobaa.Tr
open Go.RowKit Go.Proofs.Ytfoigflgglpobaa.Aid
/-- where a search for a time ends -/
def atF (f : Nat → Nd) (τ : Int) : Sh → Nat → Nat
  | .nil, b => b
  | .node _ x k, b => if τ ≤ (f x).t then atF f τ (k false) x else atF f τ (k true) b
theorem atF_mem (f : Nat → Nd) (τ : Int) (t : Sh) : ∀ b, atF f τ t b = b ∨ atF f τ t b ∈ t.ino := by
  induction t with
  | nil => intro b; exact .inl rfl
  | node c x k ih =>
    intro b
    unfold atF
    split
    · rcases ih false x with h | h
      · rw [h]; exact .inr ((mem_node true).2 (.inl rfl))
      · exact .inr (mem_ino_side false h)
    · rcases ih true b with h | h
      · exact .inl h
      · exact .inr (mem_ino_side true h)
def ATRel (s : TS) (τ : Int) (F : Nat) (W : World) (m : Nat) (s6 s7 : Value) (wr : World) : Prop :=
  ∃ t u b, Rep s.f t u ∧ (∀ z, z ∈ t.ino → z < s.sz) ∧ atF s.f τ t b = F ∧ t.ino.length ≤ m ∧ s6 = .int .i64 b ∧ s7 = .int .i64 t.root ∧ wr = W
set_option maxHeartbeats 1000000 in
set_option maxRecDepth 100000 in
theorem At_any (g gl : Nat) (s : TS) (T : Sh) (w : World) (h : Rd w g gl s T) (τ : Int) :
    Calls Try.prog 19 #[.pointer (some ⟨g, 0, none⟩), .int .i64 τ] w fun e w' => e = .returned (.tuple #[hnd s (atF s.f τ T 0), .bool (decide (atF s.f τ T 0 ≠ 0))]) ∧ Below w.heap.size w w' := by
  have h2 := Blk.new w 29 (two_ 0 0)
  have B : Below w.heap.size w (w.alloc (.cells (two_ 0 0) 29)) := (Below.refl w.heap.size w).alloc (Nat.le_refl _) _
  have HR : Hid (w.heap.size ≤ w.heap.size) := Lib.hid (Nat.le_refl _)
  have HA := Lib.hid (h.alloc (.cells (two_ 0 0) 29))
  have hF : atF s.f τ T 0 < s.sz := by
    rcases atF_mem s.f τ T 0 with e | e
    · rw [e]; exact h.m.sz.1
    · exact h.lt _ e
  have HH := Lib.hid (fun (W : World) (hW : Rd W g gl s T) => handle_any g gl s W hW.m (atF s.f τ T 0) hF)
  obtain ⟨tn, htn⟩ : ∃ tn, hturn s (atF s.f τ T 0) = tn := ⟨_, rfl⟩
  obtain ⟨F, hFF⟩ : ∃ F, atF s.f τ T 0 = F := ⟨_, rfl⟩
  have S : Hid (∀ W, ATRel s τ F W T.ino.length (.int .i64 ((0 : Nat) : Int)) (.int .i64 T.root) W) := Lib.hid fun W => ⟨T, 0, 0, h.rep, h.lt, hFF, Nat.le_refl _, rfl, rfl, rfl⟩
  rw [hFF] at htn hF HH ⊢
  have ht : hnd s F = .agg #[.int .i64 F, .int .i64 tn] := by unfold hnd; rw [htn]
  rw [ht] at HH ⊢
  obtain ⟨b, hb⟩ : ∃ b, decide (F ≠ 0) = b := ⟨_, rfl⟩
  rw [hb] at HH ⊢
  have hroot := Lib.hid h.root
  clear h ht htn hFF hF hb
  go_enter Try.func19, Try.ntmps19
  go_upto_region 1 with fail
  change Blk (w.alloc (.cells #[.int .i64 0, .int .i64 0] 29)) _ _ _ at h2
  change Below _ _ (w.alloc (.cells #[.int .i64 0, .int .i64 0] 29)) at B
  change Hid (Rd (w.alloc (.cells #[.int .i64 0, .int .i64 0] 29)) _ _ _ _) at HA
  generalize w.alloc (.cells #[.int .i64 0, .int .i64 0] 29) = W at h2 B HA ⊢
  have q0 := HA.out.m.hc.1
  have q1 := HA.out.m.hc.2.1
  have hs := HA.out.m.sz
  rw [hroot.out] at q1
  go_wp2_with fail
  go_loopg [6, 7] T.ino.length (fun m s6 s7 wr => ATRel s τ F W m s6 s7 wr)
  case atStart => exact S.out W
  case round =>
    obtain ⟨t', u', bb, ht, hz, hF, hm, rfl, rfl, hw⟩ := hrel
    subst hw
    have HM := Lib.hid hm
    clear hm S q1
    cases t' with
    | nil =>
      have hz0 : ((Sh.nil.root : Nat) : Int) = 0 := rfl
      rw [hz0]
      simp only [atF] at hF
      subst hF
      clear hz0 ht hz
      go_wp2_with fail
      refine (HH.out _ HA.out).mono ?_
      rintro e W2 ⟨rfl, b2⟩
      have h3 := h2.below b2 h2.lt
      have B2 := B.trans (b2.mono B.size)
      obtain ⟨r0, r1⟩ := two_cells h3
      have f0 := h3.frozen
      go_wp2_with fail
      clear r0 r1
      have h5 := two_set h3 bb tn
      obtain ⟨r0, r1⟩ := two_cells h5
      exact bodyPost_ret (v := .tuple #[.agg #[.int .i64 bb, .int .i64 tn], .bool b]) (by simp [results, Try.results19, go_sem, r0, r1]) rfl ⟨rfl, two_below B2 HR.out _ _⟩
    | node c x k =>
      obtain ⟨h0, h1, h2', h3, h4⟩ := ht
      have hx : x < s.sz := hz x (by simp [Sh.ino])
      obtain ⟨kt, hkt⟩ : ∃ q, (s.f x).t = q := ⟨_, rfl⟩
      have ck : wr.cell? ⟨gl, x * 8, none⟩ = some (.int .i64 kt) := by rw [← hkt]; exact HA.out.m.n.cell x hx 0 (by omega)
      have cl : wr.cell? ⟨gl, x * 8 + 2, none⟩ = some (.int .i64 (k false).root) := by rw [← h3 false]; exact HA.out.m.l hx
      have cr : wr.cell? ⟨gl, x * 8 + 3, none⟩ = some (.int .i64 (k true).root) := by rw [← h3 true]; exact HA.out.m.r hx
      have c0 : ¬ ((x : Nat) : Int) = 0 := by omega
      have hroot' : (Sh.node c x k).root = x := rfl
      rw [hroot']
      unfold atF at hF
      rw [hkt] at hF
      have hl1 : (k false).ino.length + 1 ≤ (Sh.node c x k).ino.length := by simp only [Sh.ino, List.length_append, List.length_cons]; omega
      have hl2 : (k true).ino.length + 1 ≤ (Sh.node c x k).ino.length := by simp only [Sh.ino, List.length_append, List.length_cons]; omega
      have HL := Lib.hid (And.intro hl1 hl2)
      by_cases e : τ ≤ kt
      · rw [if_pos e] at hF
        have S2 := Lib.hid (show ATRel s τ F wr (k false).ino.length (.int .i64 x) (.int .i64 (k false).root) wr from ⟨k false, x, x, h4 false, fun z hz' => hz z (mem_ino_side false hz'), hF, Nat.le_refl _, rfl, rfl, rfl⟩)
        clear h0 h1 h2' h3 h4 hz hroot' hF hl1 hl2 hkt
        generalize (k false).root = R at cl S2
        go_wp2_with fail
        go_roundg (k false).ino.length
        case measure => have := HM.out; have := HL.out; omega
        case rel => exact S2.out
      · rw [if_neg e] at hF
        have S2 := Lib.hid (show ATRel s τ F wr (k true).ino.length (.int .i64 bb) (.int .i64 (k true).root) wr from ⟨k true, x, bb, h4 true, fun z hz' => hz z (mem_ino_side true hz'), hF, Nat.le_refl _, rfl, rfl, rfl⟩)
        clear h0 h1 h2' h3 h4 hz hroot' hF hl1 hl2 hkt
        generalize (k true).root = R at cr S2
        go_wp2_with fail
        go_roundg (k true).ino.length
        case measure => have := HM.out; have := HL.out; omega
        case rel => exact S2.out
end Go.Proofs.Ytfoigflgglpobaa.Tr
/- A tree as its callers hold it: rows of places, handles, and what boxes hold. No condition. -/
set_option linter.unusedVariables false
set_option linter.unusedSimpArgs false
namespace Go.Proofs.Ytfoigflgglpobaa.Tr
open Go.RowKit Go.Proofs.Ytfoigflgglpobaa.Aid
/-- the first of a row of places -/
def hd (l : List Nat) : Nat := l.head?.getD 0
/-- a tree that its caller made -/
structure TSt (w0 W : World) (g gl : Nat) (s : TS) (T : Sh) (fl : List Nat) : Prop where
  t : Full W g gl s T fl
  b : Below w0.heap.size w0 W
  g : w0.heap.size ≤ g
  gl : w0.heap.size ≤ gl
section
variable {w0 W W' : World} {g gl : Nat} {s s' : TS} {T T' : Sh} {fl fl' : List Nat}
theorem TSt.call (h : TSt w0 W g gl s T fl) (b : Below W.heap.size W W') : TSt w0 W' g gl s T fl := ⟨h.t.below b, h.b.trans (b.mono h.b.size), h.g, h.gl⟩
theorem TSt.drew (h : TSt w0 W g gl s T fl) : TSt w0 W.drew g gl s T fl := ⟨h.t.same fun _ _ => rfl, ⟨h.b.os, h.b.tape, h.b.output, h.b.size, h.b.block⟩, h.g, h.gl⟩
theorem TSt.drewN (h : TSt w0 W g gl s T fl) (n : Nat) : TSt w0 (W.drewN n) g gl s T fl := ⟨h.t.same fun _ _ => rfl, below_drewN h.b n, h.g, h.gl⟩
theorem TSt.alloc (h : TSt w0 W g gl s T fl) (o : Obj) : TSt w0 (W.alloc o) g gl s T fl := h.call ((Below.refl _ _).alloc (Nat.le_refl _) o)
theorem TSt.goes (h : TSt w0 W g gl s T fl) (k : Full W' g gl s' T' fl') (o : Only (TF g gl) W W') : TSt w0 W' g gl s' T' fl' :=
  ⟨k, Only.under h.b o (fun i hi => by rcases hi with rfl | rfl; exact h.g; exact h.gl) h.b.size, h.g, h.gl⟩
/-- what is written apart from the tree -/
theorem TSt.far (h : TSt w0 W g gl s T fl) {p : Addr} (h1 : p.block ≠ g) (h2 : p.block ≠ gl) (h3 : w0.heap.size ≤ p.block) (u : Value) : TSt w0 (W.setCell p u) g gl s T fl :=
  ⟨h.t.same fun i hi => Below.heap_setCell W p u i (by rintro rfl; rcases hi with e | e; exact h1 e; exact h2 e), h.b.setCell h3 u, h.g, h.gl⟩
theorem isH_in (h : Full W g gl s T fl) {x : Nat} (hx : x ∈ T.ino) : isH s x (s.f x).turn = true := by
  unfold isH
  have h0 := h.rd.ne0 hx
  have h1 := h.lt x hx
  have e : ((x : Nat) : Int).toNat = x := by simp
  rw [e, decide_eq_true (by omega), decide_eq_true (by omega), (h.tak x h1).2 hx, decide_eq_true rfl]; rfl
theorem isH_is (h : Full W g gl s T fl) {p t : Int} (hi : isH s p t = true) : ∃ x : Nat, p = x ∧ x ∈ T.ino ∧ (s.f x).turn = t := by
  obtain ⟨h1, h2, h3, h4⟩ := isH_at hi
  exact ⟨p.toNat, by omega, (h.tak p.toNat (by omega)).1 h3, h4⟩
theorem isH_not (h : Full W g gl s T fl) {x : Nat} {t : Int} (hx : x ∉ T.ino) : isH s x t = false := by
  cases hi : isH s x t with
  | false => rfl
  | true =>
    obtain ⟨y, h1, h2, _⟩ := isH_is h hi
    have : x = y := by omega
    subst this
    exact absurd h2 hx
theorem hd_ne (h : Full W g gl s T fl) {l : List Nat} (hl : ∀ z, z ∈ l → z ∈ T.ino) : decide (hd l ≠ 0) = decide (l ≠ []) := by
  cases l with
  | nil => rfl
  | cons a l =>
    have : a ≠ 0 := h.rd.ne0 (hl a (by simp))
    simp [hd, this]
theorem First_row (w : World) (h : Full w g gl s T fl) :
    Calls Try.prog 14 #[.pointer (some ⟨g, 0, none⟩)] w fun e w' => e = .returned (.tuple #[hnd s (hd T.ino), .bool (decide (T.ino ≠ []))]) ∧ Below w.heap.size w w' := by
  have := First_any g gl s T w h.rd
  rw [fst_ino T h.rb.rep] at this
  rw [← hd_ne h (l := T.ino) (fun z hz => hz)]
  exact this
theorem Next_row (w : World) (h : Full w g gl s T fl) {pre post : List Nat} {x : Nat} (e : T.ino = pre ++ x :: post) :
    Calls Try.prog 20 #[.pointer (some ⟨g, 0, none⟩), .agg #[.int .i64 x, .int .i64 (s.f x).turn]] w fun e w' => e = .returned (.tuple #[hnd s (hd post), .bool (decide (post ≠ []))]) ∧ Below w.heap.size w w' := by
  obtain ⟨C, c, kx, a1, a2, a3, a4⟩ := way_split h.rd e
  have := Next_any g gl s T w h.rd x _ (isH_in h (by rw [e]; simp)) C c x kx rfl a1 a2 a3
  rw [a4] at this
  rw [← hd_ne h (l := post) (fun z hz => by rw [e]; simp [hz])]
  exact this
theorem hnd_in (h : Full W g gl s T fl) {x : Nat} (hx : x ∈ T.ino) : hnd s x = .agg #[.int .i64 x, .int .i64 (s.f x).turn] := by
  unfold hnd hturn; rw [if_neg (h.rd.ne0 hx)]
theorem Key_row (w : World) (h : Full w g gl s T fl) {x : Nat} (hx : x ∈ T.ino) :
    Calls Try.prog 15 #[.pointer (some ⟨g, 0, none⟩), .agg #[.int .i64 x, .int .i64 (s.f x).turn]] w fun e w' => e = .returned (.tuple #[.agg #[.int .i64 (s.f x).t, .int .i64 (s.f x).s], .bool true]) ∧ Below w.heap.size w w' := by
  have := Key_yes g gl s T w h.rd x _ (isH_in h hx)
  simpa using this
/-- turns stay within bounds -/
def TnB (s : TS) (M : Int) : Prop := ∀ z, z < s.sz → 0 ≤ (s.f z).turn ∧ (s.f z).turn ≤ M
theorem TnB.put {kt ks : Int} {x : Nat} {pre post : List Nat} {M : Int} (h : TnB s M) (r : PutRes s T kt ks s' T' x pre post) (hM : 0 ≤ M) : TnB s' (M + 1) := fun z hz => by
  by_cases e : z = x
  · subst e
    rw [r.turn]
    split
    · rename_i h1; have := h z h1; omega
    · omega
  · rcases r.new z hz with h1 | h1
    · rw [(r.old z h1 e).2.2]; have := h z h1; omega
    · exact absurd h1 e
theorem TnB.drop {z : Nat} {pre post : List Nat} {M : Int} (h : TnB s M) (r : DropRes s T z s' T' pre post) : TnB s' M := fun y hy => by
  rw [r.turn]; exact h y (by rw [← r.sz]; exact hy)
theorem TnB.new (p : Int) : TnB (newS p) 0 := fun z hz => ⟨Int.le_refl _, Int.le_refl _⟩
theorem TnB.bnd {M : Int} (h : TnB s M) (hM : M ≤ 4611686018427387904) : ∀ z, z < s.sz → -4611686018427387904 ≤ (s.f z).turn ∧ (s.f z).turn ≤ 4611686018427387904 := fun z hz => by have := h z hz; omega
/-- boxes with handles, beside the tree -/
structure LSt (w0 W : World) (g gl : Nat) (s : TS) (T : Sh) (fl : List Nat) (bx : List (Nat × Int × Int)) : Prop where
  t : TSt w0 W g gl s T fl
  bx : ∀ e, e ∈ bx → Blk W e.1 29 (two_ e.2.1 e.2.2) ∧ e.1 ≠ g ∧ e.1 ≠ gl
theorem LSt.call {bx : List (Nat × Int × Int)} (h : LSt w0 W g gl s T fl bx) (b : Below W.heap.size W W') : LSt w0 W' g gl s T fl bx := ⟨h.t.call b, fun e he => ⟨(h.bx e he).1.below b (h.bx e he).1.lt, (h.bx e he).2⟩⟩
theorem LSt.drew {bx : List (Nat × Int × Int)} (h : LSt w0 W g gl s T fl bx) : LSt w0 W.drew g gl s T fl bx := ⟨h.t.drew, fun e he => ⟨(h.bx e he).1.drew, (h.bx e he).2⟩⟩
theorem LSt.drewN {bx : List (Nat × Int × Int)} (h : LSt w0 W g gl s T fl bx) (n : Nat) : LSt w0 (W.drewN n) g gl s T fl bx := ⟨h.t.drewN n, fun e he => ⟨(h.bx e he).1.drewN n, (h.bx e he).2⟩⟩
theorem LSt.goes {bx : List (Nat × Int × Int)} (h : LSt w0 W g gl s T fl bx) (k : Full W' g gl s' T' fl') (o : Only (TF g gl) W W') : LSt w0 W' g gl s' T' fl' bx :=
  ⟨h.t.goes k o, fun e he => ⟨o.blk (h.bx e he).1 (by rintro (x | x); exact (h.bx e he).2.1 x; exact (h.bx e he).2.2 x), (h.bx e he).2⟩⟩
theorem LSt.box {bx : List (Nat × Int × Int)} (h : LSt w0 W g gl s T fl bx) (a b : Int) : LSt w0 (W.alloc (.cells #[.int .i64 a, .int .i64 b] 29)) g gl s T fl ((W.heap.size, a, b) :: bx) :=
  ⟨h.t.alloc _, fun e he => by
    rcases List.mem_cons.1 he with rfl | he
    · have h1 := h.t.t.m.n.lt
      have h2 := h.t.t.m.b.lt
      exact ⟨Blk.new _ _ _, by dsimp only; omega, by dsimp only; omega⟩
    · exact ⟨(h.bx e he).1.alloc _, (h.bx e he).2⟩⟩
theorem LSt.cells {bx : List (Nat × Int × Int)} (h : LSt w0 W g gl s T fl bx) {e : Nat × Int × Int} (he : e ∈ bx) : W.cell? ⟨e.1, 0, none⟩ = some (.int .i64 e.2.1) ∧ W.cell? ⟨e.1, 1, none⟩ = some (.int .i64 e.2.2) := two_cells (h.bx e he).1
end
end Go.Proofs.Ytfoigflgglpobaa.Tr
/- The contracts of ktime's and of its reference's functions: what each returns for any numbers, with memory as it was. No condition. -/
set_option linter.unusedVariables false
set_option linter.unusedSimpArgs false
namespace Go.Proofs.Ytfoigflgglpobaa.Kt
open Go.RowKit Go.Proofs.Ytfoigflgglpobaa.Aid
attribute [local go_sem] max2_int min2_int max_two min_two
/-- the time that a number counts as -/
def cl (x : Int) : Int := if x > 4611686018427387903 then 4611686018427387903 else if x < -4611686018427387903 then -4611686018427387903 else x
theorem cl_bd (x : Int) : -4611686018427387903 ≤ cl x ∧ cl x ≤ 4611686018427387903 := by unfold cl; omega
theorem cl_mono {x y : Int} (h : x ≤ y) : cl x ≤ cl y := by unfold cl; omega
theorem cl_in {x : Int} (h : -4611686018427387903 ≤ x) (k : x ≤ 4611686018427387903) : cl x = x := by unfold cl; omega
def ad (a b : Int) : Int := if a ≥ 4611686018427387903 then 4611686018427387903 else cl (cl a + cl b)
def sb (a b : Int) : Int := if a ≥ 4611686018427387903 then 4611686018427387903 else cl (cl a - cl b)
theorem ad_bd (a b : Int) : -4611686018427387903 ≤ ad a b ∧ ad a b ≤ 4611686018427387903 := by unfold ad cl; omega
theorem sb_bd (a b : Int) : -4611686018427387903 ≤ sb a b ∧ sb a b ≤ 4611686018427387903 := by unfold sb cl; omega
def nev (a : Int) : Bool := decide (4611686018427387903 ≤ a)
def unt (now t : Int) : Int := if t ≥ 4611686018427387903 then 4611686018427387903 else if sb t now < 0 then 0 else sb t now
def btw (low t high : Int) : Int := if (if cl t < cl low then cl low else cl t) > cl high then cl high else if cl t < cl low then cl low else cl t

set_option maxHeartbeats 400000 in
theorem clamp_any (a : Int) (w : World) : Calls Try.prog 61 #[.int .i64 a] w fun e w' => e = .returned (.int .i64 (cl a)) ∧ w = w' := by
  go_enter Try.func61, Try.ntmps61
  go_wp2
  all_goals
    go_ret
    exact ⟨ret_int (by unfold cl; omega), rfl⟩
set_option maxHeartbeats 400000 in
theorem never_any (a : Int) (w : World) : Calls Try.prog 62 #[.int .i64 a] w fun e w' => e = .returned (.bool (nev a)) ∧ w = w' := by
  go_enter Try.func62, Try.ntmps62
  go_wp2
  go_ret
  exact ⟨ret_bool (by unfold nev; rfl), rfl⟩
set_option maxHeartbeats 400000 in
theorem rclamp_any (a : Int) (w : World) : Calls Try.prog 33 #[.int .i64 a] w fun e w' => e = .returned (.int .i64 (cl a)) ∧ w = w' := by
  go_enter Try.func33, Try.ntmps33
  go_wp2
  all_goals
    go_ret
    exact ⟨ret_int (by unfold cl; omega), rfl⟩
set_option maxHeartbeats 400000 in
theorem add_any (a b : Int) (w : World) : Calls Try.prog 66 #[.int .i64 a, .int .i64 b] w fun e w' => e = .returned (.int .i64 (ad a b)) ∧ w = w' := by
  have h1 := cl_bd a
  have h2 := cl_bd b
  by_cases h : 4611686018427387903 ≤ a
  · have hn : nev a = true := decide_eq_true h
    go_enter Try.func66, Try.ntmps66
    go_wp2_with (go_at_call 62; refine (never_any _ _).mono ?_; rintro e w' ⟨rfl, rfl⟩)
    go_ret
    exact ⟨ret_int (by unfold ad; omega), rfl⟩
  · have hn : nev a = false := decide_eq_false h
    go_enter Try.func66, Try.ntmps66
    go_wp2_with (first
      | (go_at_call 62; refine (never_any _ _).mono ?_; rintro e w' ⟨rfl, rfl⟩)
      | (go_at_call 61; refine (clamp_any _ _).mono ?_; rintro e w' ⟨rfl, rfl⟩))
    go_ret
    exact ⟨ret_int (by unfold ad; omega), rfl⟩
end Go.Proofs.Ytfoigflgglpobaa.Kt
/- What memory holds of a store; cutting a key. No condition but that memory holds a store. -/
set_option linter.unusedVariables false
set_option linter.unusedSimpArgs false
namespace Go.Proofs.Ytfoigflgglpobaa.V
open Go.RowKit Go.Proofs.Ytfoigflgglpobaa.Aid Go.Proofs.Ytfoigflgglpobaa.Tr Go.Proofs.Ytfoigflgglpobaa.Kt Go.Proofs.Ytfoigflgglpobaa.Q
open Go.ChangeMaps (setBlock heap_setBlock_other)
/-- a key, its value, its end -/
structure It where
  k : Int
  v : Int
  e : Int
/-- a key's cell -/
def cel (i : It) (x : Nat) (n : Int) : Value := .agg #[.int .i64 i.v, .int .i64 i.e, .int .i64 x, .int .i64 n]
def hnV (x : Nat) (n : Int) : Value := .agg #[.int .i64 x, .int .i64 n]
def zeroC : Value := .agg #[.int .i64 0, .int .i64 0, .int .i64 0, .int .i64 0]
theorem infoC : (Try.prog.info? 122).map (·.zero) = some (some zeroC) := by kernel_rfl
theorem infoI' : (Try.prog.info? 3).map (·.zero) = some (some (.int .i64 0)) := by kernel_rfl
theorem zeroC_run (w : World) : (zeroValue 122).run Try.prog w = .ok zeroC w := by
  have h := infoC
  cases e : Try.prog.info? 122 with
  | none => rw [e] at h; cases h
  | some i => rw [e] at h; simp only [Option.map_some, Option.some.injEq] at h; simp [zeroValue, typeInfo, e, h]
theorem zeroN_run (w : World) : (zeroValue 3).run Try.prog w = .ok (.int .i64 0) w := by
  have h := infoI'
  cases e : Try.prog.info? 3 with
  | none => rw [e] at h; cases h
  | some i => rw [e] at h; simp only [Option.map_some, Option.some.injEq] at h; simp [zeroValue, typeInfo, e, h]
/-- a store's cells -/
def stc (mo now sq : Int) (g m1 m2 : Nat) : Array Value := #[.int .i64 mo, .int .i64 now, .int .i64 sq, .pointer (some ⟨g, 0, none⟩), .map (some m1), .map (some m2)]
/-- a store: its struct, its tree, its maps; it tells each place's item -/
structure SIs (w : World) (q g gl m1 m2 : Nat) (s : TS) (T : Sh) (fl : List Nat) (it : Nat → It) (A B : Value → Option Value) (mo now sq : Int) : Prop where
  qb : Blk w q 120 (stc mo now sq g m1 m2)
  t : Full w g gl s T fl
  a : MapIs Try.prog 3 w m1 A T.ino.length
  b : MapIs Try.prog 29 w m2 B T.ino.length
  at_ : ∀ x, x ∈ T.ino → A (.int .i64 (it x).k) = some (cel (it x) x (s.f x).turn) ∧ B (hnV x (s.f x).turn) = some (.int .i64 (it x).k)
  only : ∀ v e, A v = some e → ∃ x, x ∈ T.ino ∧ v = .int .i64 (it x).k
  onlyB : ∀ v e, B v = some e → ∃ x, x ∈ T.ino ∧ v = hnV x (s.f x).turn
  key : ∀ x, x ∈ T.ino → (s.f x).t = (it x).e ∧ (s.f x).s ≤ sq
  wf : ∀ x, x ∈ T.ino → I64 (it x).k
  tn : ∀ x, x ∈ T.ino → I64 (s.f x).turn
  most : s.most = mo
  ne : q ≠ g ∧ q ≠ gl ∧ q ≠ m1 ∧ q ≠ m2 ∧ m1 ≠ g ∧ m1 ≠ gl ∧ m2 ≠ g ∧ m2 ≠ gl ∧ m1 ≠ m2
/-- the store's blocks -/
def SF (q g gl m1 m2 : Nat) (b : Nat) : Prop := b = q ∨ b = g ∨ b = gl ∨ b = m1 ∨ b = m2
theorem tf_sf {q g gl m1 m2 b : Nat} (h : TF g gl b) : SF q g gl m1 m2 b := by rcases h with rfl | rfl; exact .inr (.inl rfl); exact .inr (.inr (.inl rfl))
section
variable {w w' : World} {q g gl m1 m2 : Nat} {s : TS} {T : Sh} {fl : List Nat} {it : Nat → It} {A B : Value → Option Value} {mo now sq : Int}
theorem SIs.foot_lt (h : SIs w q g gl m1 m2 s T fl it A B mo now sq) {b : Nat} (hb : SF q g gl m1 m2 b) : b < w.heap.size := by
  rcases hb with rfl | rfl | rfl | rfl | rfl
  · exact h.qb.lt
  · exact h.t.m.b.lt
  · exact h.t.m.n.lt
  · exact h.a.lt
  · exact h.b.lt
theorem SIs.same (h : SIs w q g gl m1 m2 s T fl it A B mo now sq) (e : ∀ b, SF q g gl m1 m2 b → w'.heap[b]? = w.heap[b]?) : SIs w' q g gl m1 m2 s T fl it A B mo now sq :=
  ⟨(e q (.inl rfl)).trans h.qb, h.t.same (fun b hb => e b (tf_sf hb)), h.a.same (e m1 (.inr (.inr (.inr (.inl rfl))))), h.b.same (e m2 (.inr (.inr (.inr (.inr rfl))))), h.at_, h.only, h.onlyB, h.key, h.wf, h.tn, h.most, h.ne⟩
theorem SIs.below (h : SIs w q g gl m1 m2 s T fl it A B mo now sq) (b : Below w.heap.size w w') : SIs w' q g gl m1 m2 s T fl it A B mo now sq := h.same fun i hi => b.block i (h.foot_lt hi)
theorem SIs.alloc (h : SIs w q g gl m1 m2 s T fl it A B mo now sq) (o : Obj) : SIs (w.alloc o) q g gl m1 m2 s T fl it A B mo now sq := h.below ((Below.refl _ _).alloc (Nat.le_refl _) o)
theorem SIs.drewN (h : SIs w q g gl m1 m2 s T fl it A B mo now sq) (n : Nat) : SIs (w.drewN n) q g gl m1 m2 s T fl it A B mo now sq := h.same fun _ _ => rfl
theorem SIs.drew (h : SIs w q g gl m1 m2 s T fl it A B mo now sq) : SIs w.drew q g gl m1 m2 s T fl it A B mo now sq := h.same fun _ _ => rfl
theorem SIs.far (h : SIs w q g gl m1 m2 s T fl it A B mo now sq) {p : Addr} (hp : ¬ SF q g gl m1 m2 p.block) (u : Value) : SIs (w.setCell p u) q g gl m1 m2 s T fl it A B mo now sq := h.same fun b hb => Below.heap_setCell w p u b (by rintro rfl; exact hp hb)
theorem SIs.hc (h : SIs w q g gl m1 m2 s T fl it A B mo now sq) : w.cell? ⟨q, 0, none⟩ = some (.int .i64 mo) ∧ w.cell? ⟨q, 1, none⟩ = some (.int .i64 now) ∧ w.cell? ⟨q, 2, none⟩ = some (.int .i64 sq) ∧ w.cell? ⟨q, 3, none⟩ = some (.pointer (some ⟨g, 0, none⟩)) ∧ w.cell? ⟨q, 4, none⟩ = some (.map (some m1)) ∧ w.cell? ⟨q, 5, none⟩ = some (.map (some m2)) :=
  ⟨h.qb.cell 0, h.qb.cell 1, h.qb.cell 2, h.qb.cell 3, h.qb.cell 4, h.qb.cell 5⟩
/-- items of one key are one -/
theorem SIs.inj (h : SIs w q g gl m1 m2 s T fl it A B mo now sq) {x y : Nat} (hx : x ∈ T.ino) (hy : y ∈ T.ino) (e : (it x).k = (it y).k) : x = y := by
  have h1 := (h.at_ x hx).1
  have h2 := (h.at_ y hy).1
  rw [e, h2] at h1
  injection h1 with h1
  unfold cel at h1
  simp only [Value.agg.injEq, Array.mk.injEq, List.cons.injEq, Value.int.injEq] at h1
  omega
/-- a key is an item's, or none's -/
theorem SIs.has (h : SIs w q g gl m1 m2 s T fl it A B mo now sq) (k : Int) : (∃ x, x ∈ T.ino ∧ (it x).k = k ∧ A (.int .i64 k) = some (cel (it x) x (s.f x).turn)) ∨ ((∀ x, x ∈ T.ino → (it x).k ≠ k) ∧ A (.int .i64 k) = none) := by
  cases e : A (.int .i64 k) with
  | none =>
    refine .inr ⟨fun x hx he => ?_, rfl⟩
    have := (h.at_ x hx).1
    rw [he, e] at this
    cases this
  | some v =>
    obtain ⟨x, hx, he⟩ := h.only _ _ e
    have he' : (it x).k = k := by injection he with _ he; exact he.symm
    refine .inl ⟨x, hx, he', ?_⟩
    rw [← e, ← he']
    exact (h.at_ x hx).1
/-- what the maps hold behind a cut -/
theorem SIs.dropped {W W2 W3 : World} {s' : TS} {T' : Sh} {fl' : List Nat} {x : Nat} {pre post : List Nat}
    (h : SIs w q g gl m1 m2 s T fl it A B mo now sq) (hx : x ∈ T.ino) (F : Full W g gl s' T' fl') (R : DropRes s T x s' T' pre post)
    (M2 : MapIs Try.prog 29 W2 m2 (delM B (.agg #[.int .i64 x, .int .i64 (s.f x).turn])) (if (B (.agg #[.int .i64 x, .int .i64 (s.f x).turn])).isSome then T.ino.length - 1 else T.ino.length))
    (M1 : MapIs Try.prog 3 W3 m1 (delM A (.int .i64 (it x).k)) (if (A (.int .i64 (it x).k)).isSome then T.ino.length - 1 else T.ino.length))
    (e2 : ∀ i, i ≠ m2 → W2.heap[i]? = W.heap[i]?) (e3 : ∀ i, i ≠ m1 → W3.heap[i]? = W2.heap[i]?) (eq : W.heap[q]? = w.heap[q]?) :
    SIs W3 q g gl m1 m2 s' T' fl' it (delM A (.int .i64 (it x).k)) (delM B (.agg #[.int .i64 x, .int .i64 (s.f x).turn])) mo now sq := by
  have ne := h.ne
  obtain ⟨a1, b1⟩ := h.at_ x hx
  unfold hnV at b1
  rw [a1] at M1
  rw [b1] at M2
  have hl : T.ino.length - 1 = T'.ino.length := by rw [R.ino', R.ino]; simp
  have hnd : (pre ++ x :: post).Nodup := by rw [← R.ino]; exact h.t.rb.nd
  have hxn : x ∉ pre ++ post := (sub_nodup hnd).2
  have hmem : ∀ y, y ∈ T'.ino → y ∈ T.ino ∧ y ≠ x := fun y hy => by
    rw [R.ino'] at hy
    refine ⟨?_, fun e => hxn (e ▸ hy)⟩
    rw [R.ino]
    simp only [List.mem_append, List.mem_cons] at hy ⊢
    rcases hy with e | e
    · exact .inl e
    · exact .inr (.inr e)
  have hmem' : ∀ y, y ∈ T.ino → y ≠ x → y ∈ T'.ino := fun y hy hn => by
    rw [R.ino] at hy
    rw [R.ino']
    simp only [List.mem_append, List.mem_cons] at hy ⊢
    rcases hy with e | e | e
    · exact .inl e
    · exact absurd e hn
    · exact .inr e
  have o1 : ∀ b, b ≠ m1 → b ≠ m2 → W3.heap[b]? = W.heap[b]? := fun b h1 h2 => (e3 b h1).trans (e2 b h2)
  refine ⟨?_, F.same (fun b hb => o1 b ?_ ?_), by rw [← hl]; exact M1, by rw [← hl]; exact M2.same (e3 m2 (Ne.symm ne.2.2.2.2.2.2.2.2)), fun y hy => ?_, fun v e he => ?_, fun v e he => ?_, fun y hy => ?_, fun y hy => ?_, fun y hy => ?_, by rw [R.most]; exact h.most, h.ne⟩
  · exact ((o1 q ne.2.2.1 ne.2.2.2.1).trans eq).trans h.qb
  · rcases hb with rfl | rfl
    · exact Ne.symm ne.2.2.2.2.1
    · exact Ne.symm ne.2.2.2.2.2.1
  · rcases hb with rfl | rfl
    · exact Ne.symm ne.2.2.2.2.2.2.1
    · exact Ne.symm ne.2.2.2.2.2.2.2.1
  · obtain ⟨hy, hn⟩ := hmem y hy
    rw [R.turn, delM_ne, delM_ne]
    · exact h.at_ y hy
    · intro e; unfold hnV at e; simp only [Value.agg.injEq, Array.mk.injEq, List.cons.injEq, Value.int.injEq] at e; omega
    · intro e; injection e with _ e; exact hn (h.inj hy hx e)
  · by_cases ev : v = .int .i64 (it x).k
    · subst ev; rw [delM_same] at he; cases he
    · rw [delM_ne ev] at he
      obtain ⟨y, hy, e⟩ := h.only v _ he
      exact ⟨y, hmem' y hy (fun e' => ev (by rw [e, e'])), e⟩
  · by_cases ev : v = .agg #[.int .i64 x, .int .i64 (s.f x).turn]
    · subst ev; rw [delM_same] at he; cases he
    · rw [delM_ne ev] at he
      obtain ⟨y, hy, e⟩ := h.onlyB v _ he
      exact ⟨y, hmem' y hy (fun e' => ev (by rw [e, e']; rfl)), by rw [R.turn]; exact e⟩
  · obtain ⟨hy, hn⟩ := hmem y hy
    rw [(R.old y hn).1, (R.old y hn).2]; exact h.key y hy
  · exact h.wf y (hmem y hy).1
  · rw [R.turn]; exact h.tn y (hmem y hy).1
end
set_option maxHeartbeats 1000000 in
set_option maxRecDepth 100000 in
theorem cut_no (q g gl m1 m2 : Nat) (s : TS) (T : Sh) (fl : List Nat) (it : Nat → It) (A B : Value → Option Value) (mo now sq : Int) (k : Int) (hk : I64 k) (w : World) (h : SIs w q g gl m1 m2 s T fl it A B mo now sq) (hno : A (.int .i64 k) = none) :
    Calls Try.prog 65 #[.pointer (some ⟨q, 0, none⟩), .int .i64 k] w fun e w' => e = .returned (.bool false) ∧ Below w.heap.size w w' := by
  obtain ⟨q0, q1, q2, q3, q4, q5⟩ := h.hc
  have hl := (map_look kInt Try.underlying118 h.a (key_int hk) (zeroC_run w)).1
  rw [hno] at hl
  simp only [Option.getD_none, Option.isSome_none] at hl
  unfold zeroC at hl
  clear h hno
  go_enter Try.func65, Try.ntmps65
  go_wp2_with fail
  go_ret
  exact ⟨rfl, (Below.refl _ _).alloc (Nat.le_refl _) _⟩
end Go.Proofs.Ytfoigflgglpobaa.V
/- Cutting a key that is there. No condition but that memory holds a store. -/
set_option linter.unusedVariables false
set_option linter.unusedSimpArgs false
namespace Go.Proofs.Ytfoigflgglpobaa.V
open Go.RowKit Go.Proofs.Ytfoigflgglpobaa.Aid Go.Proofs.Ytfoigflgglpobaa.Tr Go.Proofs.Ytfoigflgglpobaa.Kt Go.Proofs.Ytfoigflgglpobaa.Q
open Go.ChangeMaps (setBlock heap_setBlock_other)
theorem mfar {P : Program} {k : TypeId} {w : World} {b n : Nat} {m : Value → Option Value} (h : MapIs P k w b m n) (o : Obj) {i : Nat} (hi : i ≠ b) : (setBlock w b o).heap[i]? = w.heap[i]? := by
  obtain ⟨es, c, h1, _⟩ := h.at_
  exact heap_setBlock_other h1 o hi
theorem monly {S : Nat → Prop} {a : World} {P : Program} {k : TypeId} {w : World} {b n : Nat} {m : Value → Option Value} (h : MapIs P k w b m n) (ho : Only S a w) (o : Obj) (hS : S b) : Only S a (setBlock w b o) := by
  obtain ⟨es, c, h1, _⟩ := h.at_
  exact setBlock_only ho h1 o (.inl hS)
def CutQ (q g gl m1 m2 : Nat) (s : TS) (T : Sh) (it : Nat → It) (mo now sq : Int) (x : Nat) (w : World) (e : Ending) (w' : World) : Prop :=
  e = .returned (.bool true) ∧ ∃ s' T' fl' pre post A' B', SIs w' q g gl m1 m2 s' T' fl' it A' B' mo now sq ∧ DropRes s T x s' T' pre post ∧ Only (SF q g gl m1 m2) w w'
/-- what stands in cut behind the tree's Drop -/
structure CMd (q g gl m1 m2 : Nat) (s : TS) (T : Sh) (A B : Value → Option Value) (mo now sq : Int) (x : Nat) (i : It) (tx : Int) (w W : World) (s' : TS) (T' : Sh) (fl' pre post : List Nat) (E : Nat) : Prop where
  qb : Blk W q 120 (stc mo now sq g m1 m2)
  f : Full W g gl s' T' fl'
  r : DropRes s T x s' T' pre post
  ma : MapIs Try.prog 3 W m1 A T.ino.length
  mb : MapIs Try.prog 29 W m2 B T.ino.length
  be : Blk W E 122 #[.int .i64 i.v, .int .i64 i.e, .int .i64 x, .int .i64 tx]
  on_ : Only (SF q g gl m1 m2) w W
theorem CMd.of {q g gl m1 m2 : Nat} {s : TS} {T : Sh} {fl : List Nat} {it : Nat → It} {A B : Value → Option Value} {mo now sq : Int} {x : Nat} {i : It} {tx : Int} {w W W' : World} {s' : TS} {T' : Sh} {fl' pre post : List Nat} {E : Nat}
    (h : SIs W q g gl m1 m2 s T fl it A B mo now sq) (be : Blk W E 122 #[.int .i64 i.v, .int .i64 i.e, .int .i64 x, .int .i64 tx]) (o : Only (SF q g gl m1 m2) w W)
    (hE : ¬ SF q g gl m1 m2 E) (F : Full W' g gl s' T' fl') (r : DropRes s T x s' T' pre post) (O : Only (TF g gl) W W') : CMd q g gl m1 m2 s T A B mo now sq x i tx w W' s' T' fl' pre post E := by
  have ne := h.ne
  exact ⟨O.blk h.qb (by rintro (e | e); exact ne.1 e; exact ne.2.1 e), F, r, h.a.only O (by rintro (e | e); exact ne.2.2.2.2.1 e; exact ne.2.2.2.2.2.1 e), h.b.only O (by rintro (e | e); exact ne.2.2.2.2.2.2.1 e; exact ne.2.2.2.2.2.2.2.1 e), O.blk be (fun e => hE (tf_sf e)), o.trans O (fun i _ hi => tf_sf hi)⟩
set_option maxHeartbeats 2000000 in
set_option maxRecDepth 100000 in
theorem cut_yes (q g gl m1 m2 : Nat) (s : TS) (T : Sh) (fl : List Nat) (it : Nat → It) (A B : Value → Option Value) (mo now sq : Int) (w : World) (h : SIs w q g gl m1 m2 s T fl it A B mo now sq) (x : Nat) (hx : x ∈ T.ino) :
    Calls Try.prog 65 #[.pointer (some ⟨q, 0, none⟩), .int .i64 (it x).k] w (CutQ q g gl m1 m2 s T it mo now sq x w) := by
  have HW := Lib.hid h
  have hid := h.wf x hx
  have CI := isH_in h.t hx
  obtain ⟨q0, q1, q2, q3, q4, q5⟩ := h.hc
  obtain ⟨tx, htx⟩ : ∃ t, (s.f x).turn = t := ⟨_, rfl⟩
  have hl := (map_look kInt Try.underlying118 h.a (key_int hid) (zeroC_run w)).1
  rw [(h.at_ x hx).1, htx] at hl
  simp only [Option.getD_some, Option.isSome_some] at hl
  unfold cel at hl
  have HX := Lib.hid (And.intro hx htx)
  rw [htx] at CI
  have CD : Hid (∀ W, Full W g gl s T fl → Calls Try.prog 17 #[.pointer (some ⟨g, 0, none⟩), .agg #[.int .i64 x, .int .i64 tx]] W (DropPost g gl s T fl x W)) := Lib.hid fun W hW => Drop_at g gl s T fl W hW x tx CI hx htx
  have Q2 := (h.alloc (.cells #[.int .i64 (it x).v, .int .i64 (it x).e, .int .i64 x, .int .i64 tx] 122)).drew
  have O2 := ((Only.refl (SF q g gl m1 m2) w).alloc (.cells #[.int .i64 (it x).v, .int .i64 (it x).e, .int .i64 x, .int .i64 tx] 122)).drew
  have be2 := (Blk.new w 122 #[.int .i64 (it x).v, .int .i64 (it x).e, .int .i64 x, .int .i64 tx]).drew
  have hE : ¬ SF q g gl m1 m2 w.heap.size := fun e => Nat.lt_irrefl _ (h.foot_lt e)
  clear CI h hx htx
  go_enter Try.func65, Try.ntmps65
  go_upto_region 4 with fail
  clear q0 q1 q2 q3 q4 q5 hl
  obtain ⟨E, hEe⟩ : ∃ E, w.heap.size = E := ⟨_, rfl⟩
  rw [hEe] at be2 hE ⊢
  clear hEe
  refine wp_region_still_tail 6 (by kernel_rfl) (by kernel_rfl) ?_
  change wpStill _ _ (w.alloc (.cells #[.int .i64 (it x).v, .int .i64 (it x).e, .int .i64 x, .int .i64 tx] 122)).drew (fun a' => wpList _ _ _ _ a' (w.alloc (.cells #[.int .i64 (it x).v, .int .i64 (it x).e, .int .i64 x, .int .i64 tx] 122)).drew) _ _
  generalize (w.alloc (.cells #[.int .i64 (it x).v, .int .i64 (it x).e, .int .i64 x, .int .i64 tx] 122)).drew = W2 at Q2 O2 be2 ⊢
  obtain ⟨q0, q1, q2, q3, q4, q5⟩ := Q2.hc
  have h2 : W2.cell? ⟨E, 2, none⟩ = some (.int .i64 x) := be2.cell 2
  have h3 : W2.cell? ⟨E, 3, none⟩ = some (.int .i64 tx) := be2.cell 3
  have CD2 := Lib.hid (CD.out W2 Q2.t)
  have HQ := Lib.hid (And.intro Q2 (And.intro be2 O2))
  clear Q2 be2 O2 CD
  simp only [List.take_succ_cons, List.take_zero, List.drop_succ_cons, List.drop_zero]
  still_step
  still_step
  still_step
  still_step
  still_step
  still_step
  refine wpStill_nil ?_
  clear q0 q1 q2 q3 q4 q5 h2 h3
  go_wp2_with fail
  refine CD2.out.mono ?_
  rintro e W3 ⟨rfl, s', T', pre, post, F3, R3, O3⟩
  obtain ⟨Q2, be2, O2⟩ := HQ.out
  have D3 := CMd.of Q2 be2 O2 hE F3 R3 O3
  clear Q2 be2 O2 HQ CD2 F3 R3 O3
  obtain ⟨hx, htx⟩ := HX.out
  have htxI : I64 tx := htx ▸ HW.out.tn x hx
  have hxI : I64 ((x : Nat) : Int) := by have h1 := HW.out.t.m.sz; have h2 := HW.out.t.lt x hx; unfold I64; omega
  have ne := HW.out.ne
  have nE1 : E ≠ m1 := fun e => hE (.inr (.inr (.inr (.inl e))))
  have nE2 : E ≠ m2 := fun e => hE (.inr (.inr (.inr (.inr e))))
  obtain ⟨es2, ck2, r2, N2⟩ := map_del (ty := 0) kHan Try.underlying112 (D3.mb.same (w' := W3.drew) rfl) (key_han hxI htxI)
  have e2 : ∀ i, i ≠ m2 → (setBlock W3.drew m2 (.map es2 ck2)).heap[i]? = W3.heap[i]? := fun i hi => mfar (D3.mb.same (w' := W3.drew) rfl) _ hi
  have O4 := monly (D3.mb.same (w' := W3.drew) rfl) D3.on_.drew (.map es2 ck2) (show SF q g gl m1 m2 m2 from .inr (.inr (.inr (.inr rfl))))
  obtain ⟨q0, q1, q2, q3, q4, q5⟩ : W3.drew.cell? ⟨q, 0, none⟩ = some (.int .i64 mo) ∧ W3.drew.cell? ⟨q, 1, none⟩ = some (.int .i64 now) ∧ W3.drew.cell? ⟨q, 2, none⟩ = some (.int .i64 sq) ∧ W3.drew.cell? ⟨q, 3, none⟩ = some (.pointer (some ⟨g, 0, none⟩)) ∧ W3.drew.cell? ⟨q, 4, none⟩ = some (.map (some m1)) ∧ W3.drew.cell? ⟨q, 5, none⟩ = some (.map (some m2)) :=
    ⟨D3.qb.drew.cell 0, D3.qb.drew.cell 1, D3.qb.drew.cell 2, D3.qb.drew.cell 3, D3.qb.drew.cell 4, D3.qb.drew.cell 5⟩
  have h2 : W3.drew.cell? ⟨E, 2, none⟩ = some (.int .i64 x) := D3.be.drew.cell 2
  have h3 : W3.drew.cell? ⟨E, 3, none⟩ = some (.int .i64 tx) := D3.be.drew.cell 3
  have HD := Lib.hid (And.intro D3 (And.intro N2 (And.intro e2 O4)))
  have HT := Lib.hid (And.intro hx htx)
  clear D3 N2 e2 O4 HX hx htx hxI htxI
  go_upto_region 5 with fail
  refine wp_region_still_tail 6 (by kernel_rfl) (by kernel_rfl) ?_
  change wpStill _ _ W3.drew (fun a' => wpList _ _ _ _ a' W3.drew) _ _
  simp only [List.take_succ_cons, List.take_zero, List.drop_succ_cons, List.drop_zero]
  still_step
  still_step
  still_step
  still_step
  still_step
  still_step
  refine wpStill_nil ?_
  clear q0 q1 q2 q3 q4 q5 h2 h3
  go_upto_region 6 with fail
  generalize hW4 : setBlock W3.drew m2 (.map es2 ck2) = W4 at HD ⊢
  obtain ⟨D3, N2, e2, O4⟩ := HD.out
  have ma4 := D3.ma.same (e2 m1 ne.2.2.2.2.2.2.2.2)
  have bq4 : Blk W4 q 120 (stc mo now sq g m1 m2) := (e2 q ne.2.2.2.1).trans D3.qb
  obtain ⟨es1, ck1, r1, N1⟩ := map_del (ty := 0) kInt Try.underlying118 ma4 (key_int hid)
  have e3 : ∀ i, i ≠ m1 → (setBlock W4 m1 (.map es1 ck1)).heap[i]? = W4.heap[i]? := fun i hi => mfar ma4 _ hi
  have O5 := monly ma4 O4 (.map es1 ck1) (show SF q g gl m1 m2 m1 from .inr (.inr (.inr (.inl rfl))))
  have htx : (s.f x).turn = tx := HT.out.2
  rw [← htx] at N2
  have Q5 := HW.out.dropped HT.out.1 D3.f D3.r N2 N1 e2 e3 (D3.qb.trans HW.out.qb.symm)
  have FIN := Lib.hid (And.intro Q5 (And.intro D3.r O5))
  obtain ⟨q0, q1, q2, q3, q4, q5⟩ : W4.cell? ⟨q, 0, none⟩ = some (.int .i64 mo) ∧ W4.cell? ⟨q, 1, none⟩ = some (.int .i64 now) ∧ W4.cell? ⟨q, 2, none⟩ = some (.int .i64 sq) ∧ W4.cell? ⟨q, 3, none⟩ = some (.pointer (some ⟨g, 0, none⟩)) ∧ W4.cell? ⟨q, 4, none⟩ = some (.map (some m1)) ∧ W4.cell? ⟨q, 5, none⟩ = some (.map (some m2)) :=
    ⟨bq4.cell 0, bq4.cell 1, bq4.cell 2, bq4.cell 3, bq4.cell 4, bq4.cell 5⟩
  clear D3 N2 e2 O4 ma4 bq4 N1 e3 O5 Q5 HD hW4 r2 htx
  go_wp2_with fail
  go_ret
  exact ⟨rfl, s', T', _, pre, post, _, _, FIN.out.1, FIN.out.2.1, FIN.out.2.2⟩
end Go.Proofs.Ytfoigflgglpobaa.V
/- The store's first key. No condition but that memory holds a store. -/
set_option linter.unusedVariables false
set_option linter.unusedSimpArgs false
namespace Go.Proofs.Ytfoigflgglpobaa.V
open Go.RowKit Go.Proofs.Ytfoigflgglpobaa.Aid Go.Proofs.Ytfoigflgglpobaa.Tr Go.Proofs.Ytfoigflgglpobaa.Kt Go.Proofs.Ytfoigflgglpobaa.Q
/-- the first key, or none -/
def fstK (it : Nat → It) (l : List Nat) : Int := match l with
  | [] => 0
  | x :: _ => (it x).k
set_option maxHeartbeats 1000000 in
set_option maxRecDepth 100000 in
theorem first_row (q g gl m1 m2 : Nat) (s : TS) (T : Sh) (fl : List Nat) (it : Nat → It) (A B : Value → Option Value) (mo now sq : Int) (w : World) (h : SIs w q g gl m1 m2 s T fl it A B mo now sq) :
    Calls Try.prog 64 #[.pointer (some ⟨q, 0, none⟩)] w fun e w' => e = .returned (.tuple #[.int .i64 (fstK it T.ino), .bool (decide (T.ino ≠ []))]) ∧ Below w.heap.size w w' := by
  have CF := First_row w h.t
  obtain ⟨p0, hp0⟩ : ∃ p, ((hd T.ino : Nat) : Int) = p := ⟨_, rfl⟩
  obtain ⟨p1, hp1⟩ : ∃ p, hturn s (hd T.ino) = p := ⟨_, rfl⟩
  have hnd0 : hnd s (hd T.ino) = .agg #[.int .i64 p0, .int .i64 p1] := by rw [← hp0, ← hp1]; rfl
  rw [hnd0] at CF
  have hpI : I64 p0 ∧ I64 p1 := by
    rw [← hp0, ← hp1]
    cases e : T.ino with
    | nil => exact ⟨by unfold I64 hd; simp, by unfold I64 hd hturn; simp⟩
    | cons x l =>
      have hx : x ∈ T.ino := by rw [e]; simp
      have h1 := h.t.m.sz
      have h2 := h.t.lt x hx
      have h3 := h.tn x hx
      refine ⟨by unfold I64; show _ ≤ ((x : Nat) : Int) ∧ ((x : Nat) : Int) ≤ _; omega, ?_⟩
      show I64 (hturn s x)
      unfold hturn
      rw [if_neg (h.t.rd.ne0 hx)]
      exact h3
  have hB : (B (.agg #[.int .i64 p0, .int .i64 p1])).getD (.int .i64 0) = .int .i64 (fstK it T.ino) := by
    cases e : T.ino with
    | nil =>
      have : B (.agg #[.int .i64 p0, .int .i64 p1]) = none := by
        cases eb : B (.agg #[.int .i64 p0, .int .i64 p1]) with
        | none => rfl
        | some v =>
          obtain ⟨x, hx, _⟩ := h.onlyB _ _ eb
          rw [e] at hx
          exact absurd hx (by simp)
      rw [this]; rfl
    | cons x l =>
      have hx : x ∈ T.ino := by rw [e]; simp
      have h1 := (h.at_ x hx).2
      have e0 : p0 = ((x : Nat) : Int) := by rw [← hp0, e]; rfl
      have e1 : p1 = (s.f x).turn := by
        rw [← hp1, e]
        show hturn s x = _
        unfold hturn
        rw [if_neg (h.t.rd.ne0 hx)]
      rw [e0, e1]
      unfold hnV at h1
      rw [h1]
      rfl
  obtain ⟨K, hK⟩ : ∃ K, fstK it T.ino = K := ⟨_, rfl⟩
  obtain ⟨ok, hok⟩ : ∃ q, decide (T.ino ≠ []) = q := ⟨_, rfl⟩
  rw [hok] at CF
  rw [hK] at hB
  rw [hK, hok]
  have HCF := Lib.hid CF
  have HW := Lib.hid (And.intro h (And.intro hpI hB))
  obtain ⟨q0, q1, q2, q3, q4, q5⟩ := h.hc
  clear CF hnd0 hp0 hp1 hpI hB hK hok h
  go_enter Try.func64, Try.ntmps64
  go_wp2_with fail
  refine HCF.out.mono ?_
  rintro e W1 ⟨rfl, b1⟩
  clear q0 q1 q2 q3 q4 q5
  have Q1 := ((HW.out.1.below b1).alloc (.cells #[.int .i64 p0, .int .i64 p1] 29)).drew
  have B1 := b1.alloc b1.size (.cells #[.int .i64 p0, .int .i64 p1] 29)
  have x1 := (Blk.new W1 29 #[.int .i64 p0, .int .i64 p1]).drew
  go_upto_region 2 with fail
  generalize W1.alloc (.cells #[.int .i64 p0, .int .i64 p1] 29) = W2 at Q1 B1 x1 ⊢
  generalize W1.heap.size = X at x1 ⊢
  obtain ⟨q0, q1, q2, q3, q4, q5⟩ := Q1.hc
  have h0 : W2.drew.cell? ⟨X, 0, none⟩ = some (.int .i64 p0) := x1.cell 0
  have h1 : W2.drew.cell? ⟨X, 1, none⟩ = some (.int .i64 p1) := x1.cell 1
  have hl := (map_look kHan Try.underlying112 Q1.b (key_han HW.out.2.1.1 HW.out.2.1.2) (zeroN_run W2.drew)).2
  rw [HW.out.2.2] at hl
  have HB := Lib.hid B1
  clear Q1 B1 x1 b1 HCF HW
  go_region
  all_goals
    go_wp2_with fail
    go_ret2
    exact ⟨rfl, below_drewN HB.out 1⟩
end Go.Proofs.Ytfoigflgglpobaa.V
/- A store as its callers see it: its row; cutting, the first. No condition but that memory holds a store. -/
set_option linter.unusedVariables false
set_option linter.unusedSimpArgs false
namespace Go.Proofs.Ytfoigflgglpobaa.V
open Go.RowKit Go.Proofs.Ytfoigflgglpobaa.Aid Go.Proofs.Ytfoigflgglpobaa.Tr Go.Proofs.Ytfoigflgglpobaa.Kt Go.Proofs.Ytfoigflgglpobaa.Q
/-- a store's blocks -/
structure VP where
  q : Nat
  g : Nat
  gl : Nat
  m1 : Nat
  m2 : Nat
def VP.F (P : VP) : Nat → Prop := SF P.q P.g P.gl P.m1 P.m2
/-- memory holds a store of these items, in order of their ends; at most M came so far -/
def VHas (w : World) (P : VP) (row : List It) (mo now : Int) (M : Int) : Prop := ∃ s T fl it A B sq, SIs w P.q P.g P.gl P.m1 P.m2 s T fl it A B mo now sq ∧ row = T.ino.map it ∧ TnB s M ∧ 0 ≤ sq ∧ sq ≤ M
section
variable {w w' : World} {P : VP} {row : List It} {mo now M : Int}
theorem VHas.foot_lt (h : VHas w P row mo now M) {b : Nat} (hb : P.F b) : b < w.heap.size := by
  obtain ⟨s, T, fl, it, A, B, sq, h, _⟩ := h; exact h.foot_lt hb
theorem VHas.same (h : VHas w P row mo now M) (e : ∀ b, P.F b → w'.heap[b]? = w.heap[b]?) : VHas w' P row mo now M := by
  obtain ⟨s, T, fl, it, A, B, sq, h, k⟩ := h; exact ⟨s, T, fl, it, A, B, sq, h.same e, k⟩
theorem VHas.below (h : VHas w P row mo now M) (b : Below w.heap.size w w') : VHas w' P row mo now M := h.same fun i hi => b.block i (h.foot_lt hi)
theorem VHas.alloc (h : VHas w P row mo now M) (o : Obj) : VHas (w.alloc o) P row mo now M := h.below ((Below.refl _ _).alloc (Nat.le_refl _) o)
theorem VHas.drewN (h : VHas w P row mo now M) (n : Nat) : VHas (w.drewN n) P row mo now M := h.same fun _ _ => rfl
theorem VHas.drew (h : VHas w P row mo now M) : VHas w.drew P row mo now M := h.same fun _ _ => rfl
theorem VHas.only {S : Nat → Prop} (h : VHas w P row mo now M) (o : Only S w w') (hs : ∀ b, P.F b → ¬ S b) : VHas w' P row mo now M := h.same fun b hb => o.block b (h.foot_lt hb) (hs b hb)
theorem VHas.wf (h : VHas w P row mo now M) {a : It} (ha : a ∈ row) : I64 a.k := by
  obtain ⟨s, T, fl, it, A, B, sq, h, rfl, _⟩ := h
  obtain ⟨x, hx, rfl⟩ := List.mem_map.1 ha
  exact h.wf x hx
theorem VHas.len (h : VHas w P row mo now M) : (row.length : Int) ≤ mo := by
  obtain ⟨s, T, fl, it, A, B, sq, h, rfl, _⟩ := h
  have h1 := h.t.cnt
  have h2 := h.t.m.sz
  have h3 := h.t.cap
  have h4 := h.most
  rw [List.length_map]
  omega
theorem VHas.keys (h : VHas w P row mo now M) : (row.map It.k).Nodup := by
  obtain ⟨s, T, fl, it, A, B, sq, h, rfl, _⟩ := h
  have hn := h.t.rb.nd
  rw [List.map_map]
  refine List.pairwise_map.2 (List.Pairwise.imp_of_mem ?_ hn)
  intro x y hx hy hxy e
  exact hxy (h.inj hx hy e)
theorem VHas.mono (h : VHas w P row mo now M) {M' : Int} (hM : M ≤ M') : VHas w P row mo now M' := by
  obtain ⟨s, T, fl, it, A, B, sq, h, k, t, h0, h1⟩ := h
  exact ⟨s, T, fl, it, A, B, sq, h, k, fun z hz => ⟨(t z hz).1, by have := (t z hz).2; omega⟩, h0, by omega⟩
theorem VHas.sorted (h : VHas w P row mo now M) : row.Pairwise (fun a b => a.e ≤ b.e) := by
  obtain ⟨s, T, fl, it, A, B, sq, h, rfl, _⟩ := h
  have hs := h.t.srt
  rw [List.pairwise_map]
  refine hs.imp_of_mem ?_
  intro x y hx hy e
  have h1 := (h.key x hx).1
  have h2 := (h.key y hy).1
  unfold kle at e
  omega
end
def hasV (row : List It) (k : Int) : Bool := row.any (fun b => decide (b.k = k))
def delV (row : List It) (k : Int) : List It := row.eraseP (fun b => decide (b.k = k))
def getV (row : List It) (k : Int) : It := (row.find? (fun b => decide (b.k = k))).getD ⟨0, 0, 0⟩
theorem hasV_iff {l : List Nat} {it : Nat → It} {k : Int} : hasV (l.map it) k = true ↔ ∃ x, x ∈ l ∧ (it x).k = k := by
  unfold hasV
  rw [List.any_eq_true]
  constructor
  · rintro ⟨b, hb, e⟩
    obtain ⟨x, hx, rfl⟩ := List.mem_map.1 hb
    exact ⟨x, hx, of_decide_eq_true e⟩
  · rintro ⟨x, hx, e⟩
    exact ⟨_, List.mem_map.2 ⟨x, hx, rfl⟩, decide_eq_true e⟩
theorem delV_no {row : List It} {k : Int} (h : hasV row k = false) : delV row k = row := by
  refine List.eraseP_of_forall_not fun b hb e => ?_
  have : hasV row k = true := List.any_eq_true.2 ⟨b, hb, e⟩
  rw [h] at this; cases this
theorem drop_rowV {s s' : TS} {T T' : Sh} {x : Nat} {pre post : List Nat} (R : DropRes s T x s' T' pre post) {it : Nat → It} (inj : ∀ y, y ∈ T.ino → (it y).k = (it x).k → y = x) (nd : T.ino.Nodup) : T'.ino.map it = delV (T.ino.map it) (it x).k := by
  rw [R.ino] at nd inj
  have hx := (sub_nodup nd).2
  have h1 : ∀ b, b ∈ pre.map it → ¬ (decide (b.k = (it x).k)) = true := fun b hb e => by
    obtain ⟨z, hz, rfl⟩ := List.mem_map.1 hb
    have := inj z (by simp [hz]) (of_decide_eq_true e)
    exact hx (by rw [← this]; simp [hz])
  rw [R.ino, R.ino']
  unfold delV
  simp only [List.map_append, List.map_cons]
  rw [List.eraseP_append_right _ h1, List.eraseP_cons_of_pos (by simp)]
theorem V_cut {w : World} {P : VP} {row : List It} {mo now M : Int} (h : VHas w P row mo now M) (k : Int) (hk : I64 k) :
    Calls Try.prog 65 #[.pointer (some ⟨P.q, 0, none⟩), .int .i64 k] w fun e w' => e = .returned (.bool (hasV row k)) ∧ VHas w' P (delV row k) mo now M ∧ Only P.F w w' := by
  have h0 := h
  obtain ⟨s, T, fl, it, A, B, sq, h, rfl, ht, hs⟩ := h
  rcases h.has k with ⟨x, hx, rfl, e⟩ | ⟨hn, e⟩
  · refine (cut_yes _ _ _ _ _ s T fl it A B mo now sq w h x hx).mono ?_
    rintro e w' ⟨rfl, s', T', fl', pre, post, A', B', h', R, o⟩
    have r1 := drop_rowV R (it := it) (fun y hy e => h.inj hy hx e) h.t.rb.nd
    exact ⟨by rw [hasV_iff.2 ⟨x, hx, rfl⟩], ⟨s', T', fl', it, A', B', sq, h', r1.symm, ht.drop R, hs⟩, o⟩
  · refine (cut_no _ _ _ _ _ s T fl it A B mo now sq k hk w h e).mono ?_
    rintro e w' ⟨rfl, b⟩
    have hno : hasV (T.ino.map it) k = false := by
      cases e : hasV (T.ino.map it) k with
      | false => rfl
      | true =>
        obtain ⟨x, hx, e⟩ := hasV_iff.1 e
        exact absurd e (hn x hx)
    rw [hno, delV_no hno]
    exact ⟨rfl, h0.below b, Only.of_below b _⟩
/-- the first key of a row -/
def fkV (row : List It) : Int := match row with
  | [] => 0
  | a :: _ => a.k
theorem V_first {w : World} {P : VP} {row : List It} {mo now M : Int} (h : VHas w P row mo now M) :
    Calls Try.prog 64 #[.pointer (some ⟨P.q, 0, none⟩)] w fun e w' => e = .returned (.tuple #[.int .i64 (fkV row), .bool (decide (row ≠ []))]) ∧ Below w.heap.size w w' := by
  obtain ⟨s, T, fl, it, A, B, sq, h, rfl, ht, hs⟩ := h
  refine (first_row _ _ _ _ _ s T fl it A B mo now sq w h).mono ?_
  rintro e w' ⟨rfl, b⟩
  refine ⟨?_, b⟩
  cases T.ino with
  | nil => rfl
  | cons x l => simp [fkV, fstK]
end Go.Proofs.Ytfoigflgglpobaa.V
/- A store reaches a time: what ended goes. No condition but that memory holds a store. -/
set_option linter.unusedVariables false
set_option linter.unusedSimpArgs false
namespace Go.Proofs.Ytfoigflgglpobaa.V
open Go.RowKit Go.Proofs.Ytfoigflgglpobaa.Aid Go.Proofs.Ytfoigflgglpobaa.Tr Go.Proofs.Ytfoigflgglpobaa.Kt Go.Proofs.Ytfoigflgglpobaa.Q
theorem VHas.cells {w : World} {P : VP} {row : List It} {mo now M : Int} (h : VHas w P row mo now M) : ∃ sq, w.cell? ⟨P.q, 0, none⟩ = some (.int .i64 mo) ∧ w.cell? ⟨P.q, 1, none⟩ = some (.int .i64 now) ∧ w.cell? ⟨P.q, 2, none⟩ = some (.int .i64 sq) ∧ w.cell? ⟨P.q, 3, none⟩ = some (.pointer (some ⟨P.g, 0, none⟩)) ∧ w.cell? ⟨P.q, 4, none⟩ = some (.map (some P.m1)) ∧ w.cell? ⟨P.q, 5, none⟩ = some (.map (some P.m2)) := by
  obtain ⟨s, T, fl, it, A, B, sq, h, _⟩ := h
  exact ⟨sq, h.hc⟩
theorem VHas.frozen {w : World} {P : VP} {row : List It} {mo now M : Int} (h : VHas w P row mo now M) (i : Nat) : w.frozen? ⟨P.q, i, none⟩ = false := by
  obtain ⟨s, T, fl, it, A, B, sq, h, _⟩ := h
  exact h.qb.frozen i
theorem SIs.now {w : World} {q g gl m1 m2 : Nat} {s : TS} {T : Sh} {fl : List Nat} {it : Nat → It} {A B : Value → Option Value} {mo now sq : Int} (h : SIs w q g gl m1 m2 s T fl it A B mo now sq) (n : Int) : SIs (w.setCell ⟨q, 1, none⟩ (.int .i64 n)) q g gl m1 m2 s T fl it A B mo n sq := by
  have far : ∀ b, b ≠ q → (w.setCell ⟨q, 1, none⟩ (.int .i64 n)).heap[b]? = w.heap[b]? := fun b hb => Below.heap_setCell w ⟨q, 1, none⟩ _ b hb
  have ne := h.ne
  exact ⟨h.qb.set_ 1 (.int .i64 n), h.t.same (fun b hb => far b (by rcases hb with rfl | rfl; exact Ne.symm ne.1; exact Ne.symm ne.2.1)), h.a.same (far m1 (Ne.symm ne.2.2.1)), h.b.same (far m2 (Ne.symm ne.2.2.2.1)), h.at_, h.only, h.onlyB, h.key, h.wf, h.tn, h.most, h.ne⟩
theorem VHas.setNow {w : World} {P : VP} {row : List It} {mo now M : Int} (h : VHas w P row mo now M) (n : Int) : VHas (w.setCell ⟨P.q, 1, none⟩ (.int .i64 n)) P row mo n M := by
  obtain ⟨s, T, fl, it, A, B, sq, h, k⟩ := h
  exact ⟨s, T, fl, it, A, B, sq, h.now n, k⟩
/-- a key that is there, looked up -/
theorem VHas.look {w : World} {P : VP} {row : List It} {mo now M : Int} (h : VHas w P row mo now M) {a : It} (ha : a ∈ row) : ∃ (x : Nat) (tx : Int), ∀ w', (∀ b, P.F b → w'.heap[b]? = w.heap[b]?) →
    (Instr.lookup 118 (.map (some P.m1)) (.int .i64 a.k) true).run Try.prog w' = .ok (.tuple #[.agg #[.int .i64 a.v, .int .i64 a.e, .int .i64 x, .int .i64 tx], .bool true]) w' ∧
    (Instr.lookup 118 (.map (some P.m1)) (.int .i64 a.k) false).run Try.prog w' = .ok (.agg #[.int .i64 a.v, .int .i64 a.e, .int .i64 x, .int .i64 tx]) w' := by
  obtain ⟨s, T, fl, it, A, B, sq, h, rfl, _⟩ := h
  obtain ⟨x, hx, rfl⟩ := List.mem_map.1 ha
  refine ⟨x, (s.f x).turn, fun w' e => ?_⟩
  have hl := map_look kInt Try.underlying118 (h.same e).a (key_int (h.wf x hx)) (zeroC_run w')
  rw [(h.at_ x hx).1] at hl
  exact hl
theorem VHas.miss {w : World} {P : VP} {row : List It} {mo now M : Int} (h : VHas w P row mo now M) {k : Int} (hk : I64 k) (hn : hasV row k = false) :
    (Instr.lookup 118 (.map (some P.m1)) (.int .i64 k) true).run Try.prog w = .ok (.tuple #[.agg #[.int .i64 0, .int .i64 0, .int .i64 0, .int .i64 0], .bool false]) w := by
  obtain ⟨s, T, fl, it, A, B, sq, h, rfl, _⟩ := h
  have hl := (map_look kInt Try.underlying118 h.a (key_int hk) (zeroC_run w)).1
  rcases h.has k with ⟨x, hx, e, _⟩ | ⟨_, e⟩
  · rw [hasV_iff.2 ⟨x, hx, e⟩] at hn; cases hn
  · rw [e] at hl
    exact hl
theorem infoN1 : (Try.prog.info? 3).map (·.size) = some 1 := by kernel_rfl
theorem field_cel (v e : Int) (x : Nat) (n : Int) (W : World) : (Instr.field 122 (.agg #[.int .i64 v, .int .i64 e, .int .i64 x, .int .i64 n]) 1).run Try.prog W = .ok (.int .i64 e) W := by
  have h := infoN1
  cases e1 : Try.prog.info? 3 with
  | none => rw [e1] at h; cases h
  | some i =>
    rw [e1] at h
    simp only [Option.map_some, Option.some.injEq] at h
    simp [Instr.field, run_underlying Try.underlying122, run_underlying Try.underlying3, part, isAgg, asAgg, sizeOf, typeInfo, e1, h]
/-- what is over -/
def ov (now : Int) (a : It) : Bool := decide (a.e ≤ now)
def RRel (w0 : World) (P : VP) (row : List It) (mo now M : Int) (m : Nat) (wr : World) : Prop :=
  ∃ row', m = row'.length ∧ VHas wr P row' mo now M ∧ Only P.F w0 wr ∧ row'.dropWhile (ov now) = row.dropWhile (ov now)
set_option maxHeartbeats 2000000 in
set_option maxRecDepth 100000 in
theorem V_reach {w : World} {P : VP} {row : List It} {mo now M : Int} (h : VHas w P row mo now M) (n : Int) :
    Calls Try.prog 63 #[.pointer (some ⟨P.q, 0, none⟩), .int .i64 n] w fun e w' => e = .returned (.tuple #[]) ∧ VHas w' P (row.dropWhile (ov (max now (cl n)))) mo (max now (cl n)) M ∧ Only P.F w w' := by
  obtain ⟨sq, q0, q1, q2, q3, q4, q5⟩ := h.drew.cells
  have z1 := h.drew.frozen 1
  obtain ⟨nn, hnn⟩ : ∃ x, max now (cl n) = x := ⟨_, rfl⟩
  have FIN := Lib.hid (show ∀ y, y = nn → VHas ((w.setCell ⟨P.q, 1, none⟩ (.int .i64 y)).drew) P row mo nn M ∧ Only P.F w ((w.setCell ⟨P.q, 1, none⟩ (.int .i64 y)).drew) from by
    rintro y rfl
    exact ⟨(h.setNow y).drew, (((Only.refl P.F w).setCell (p := ⟨P.q, 1, none⟩) (.inl (.inl rfl)) _)).drew⟩)
  rw [hnn]
  have HN := Lib.hid hnn
  clear h hnn
  go_enter Try.func63, Try.ntmps63
  go_upto_region 0 with fail
  go_cut [] (fun wx => VHas wx P row mo nn M ∧ Only P.F w wx)
  case first =>
    go_region_with (go_at_call 61; refine (clamp_any _ _).mono ?_; rintro e W5 ⟨rfl, rfl⟩)
    all_goals
      go_wp2_with fail
      all_goals
        go_meet
        first
          | (have e9 : now = nn := (by have := HN.out; omega)
             exact FIN.out now e9)
          | (have e9 : cl n = nn := (by have := HN.out; omega)
             exact FIN.out (cl n) e9)
  case rest =>
    obtain ⟨h1, o1⟩ := hcut
    clear q0 q1 q2 q3 q4 q5 z1 FIN HN
    have S := Lib.hid (show RRel w P row mo nn M row.length wc from ⟨row, rfl, h1, o1, rfl⟩)
    clear h1 o1
    go_wp2_with fail
    go_loopg [] row.length (fun m wr => RRel w P row mo nn M m wr)
    case atStart => exact S.out
    case round =>
      obtain ⟨row', rfl, hV, hO, hdw⟩ := hrel
      clear S
      have C := V_first hV
      cases row' with
      | nil =>
        have HC := Lib.hid (show Calls Try.prog 64 #[.pointer (some ⟨P.q, 0, none⟩)] wr fun e w' => e = .returned (.tuple #[.int .i64 0, .bool false]) ∧ Below wr.heap.size wr w' from C)
        have HH := Lib.hid (And.intro hV (And.intro hO hdw))
        clear C hV hO hdw
        go_wp2_with fail
        refine HC.out.mono ?_
        rintro e W1 ⟨rfl, b1⟩
        have H1 := Lib.hid (And.intro (HH.out.1.below b1) (HH.out.2.1.below b1))
        clear HC b1
        go_upto_region 2 with fail
        go_quiet (fail)
        go_wp2_with fail
        exact bodyPost_ret (v := .tuple #[]) (by simp [results, Try.results63, go_sem]) rfl ⟨rfl, by rw [← HH.out.2.2]; exact H1.out.1.drewN _, H1.out.2.drewN _⟩
      | cons a l =>
        obtain ⟨x, tx, hlk⟩ := hV.look (a := a) (by simp)
        have hak := hV.wf (a := a) (by simp)
        have HC := Lib.hid (show Calls Try.prog 64 #[.pointer (some ⟨P.q, 0, none⟩)] wr fun e w' => e = .returned (.tuple #[.int .i64 a.k, .bool true]) ∧ Below wr.heap.size wr w' from by
          have e1 : decide (a :: l ≠ []) = true := rfl
          rw [e1] at C
          exact C)
        have HH := Lib.hid (And.intro hV (And.intro hO (And.intro hdw (And.intro hlk hak))))
        clear C hV hO hdw hlk hak
        go_wp2_with fail
        refine HC.out.mono ?_
        rintro e W1 ⟨rfl, b1⟩
        have V1 := HH.out.1.below b1
        have O1 := HH.out.2.1.below b1
        have V1 := V1.drew
        have O1 := O1.drew
        have l1 := (HH.out.2.2.2.1 W1.drew (fun b hb => b1.block b (HH.out.1.foot_lt hb))).2
        clear HC b1
        go_upto_region 2 with fail
        refine wp_region_still_tail 14 (by kernel_rfl) (by kernel_rfl) ?_
        change wpStill _ _ W1.drew (fun a' => wpList _ _ _ _ a' W1.drew) _ _
        generalize W1.drew = V at V1 O1 l1 ⊢
        obtain ⟨sq', q0, q1, q2, q3, q4, q5⟩ := V1.cells
        have fe := field_cel a.v a.e x tx V
        have H1 := Lib.hid (And.intro V1 O1)
        clear V1 O1
        simp only [List.take_succ_cons, List.take_zero, List.drop_succ_cons, List.drop_zero]
        still_step
        still_step
        still_step
        still_step
        still_step
        still_step
        still_step
        still_step
        still_step
        still_step
        still_step
        still_step
        still_step
        still_step
        refine wpStill_nil ?_
        clear q0 q1 q2 q3 q4 q5 l1 fe
        by_cases hov : a.e ≤ nn
        · have d : decide (a.e > nn) = false := decide_eq_false (by omega)
          have HD := Lib.hid hov
          clear hov
          have HCC := Lib.hid (V_cut H1.out.1 a.k HH.out.2.2.2.2)
          go_wp2_with fail
          refine HCC.out.mono ?_
          rintro e W6 ⟨rfl, h6, o6⟩
          have e1 : delV (a :: l) a.k = l := by unfold delV; rw [List.eraseP_cons_of_pos (by simp)]
          rw [e1] at h6
          have ed : (a :: l).dropWhile (ov nn) = l.dropWhile (ov nn) := by rw [List.dropWhile_cons_of_pos (by unfold ov; exact decide_eq_true HD.out)]
          have FIN := Lib.hid (And.intro h6 (And.intro (H1.out.2.then o6) (ed.symm.trans HH.out.2.2.1)))
          clear h6 o6 HCC H1 HH e1 ed
          go_wp2_with fail
          go_roundg l.length
          case measure => simp
          case rel => exact ⟨l, rfl, FIN.out.1, FIN.out.2.1, FIN.out.2.2⟩
        · have d : decide (a.e > nn) = true := decide_eq_true (by omega)
          have HD := Lib.hid hov
          clear hov
          go_wp2_with fail
          have ed : (a :: l).dropWhile (ov nn) = a :: l := by rw [List.dropWhile_cons_of_neg (by unfold ov; simp; have := HD.out; omega)]
          exact bodyPost_ret (v := .tuple #[]) (by simp [results, Try.results63, go_sem]) rfl ⟨rfl, by rw [← HH.out.2.2.1, ed]; exact H1.out.1, H1.out.2⟩
end Go.Proofs.Ytfoigflgglpobaa.V
/- A key is laid down. No condition but that memory holds a store. -/
set_option linter.unusedVariables false
set_option linter.unusedSimpArgs false
namespace Go.Proofs.Ytfoigflgglpobaa.V
open Go.RowKit Go.Proofs.Ytfoigflgglpobaa.Aid Go.Proofs.Ytfoigflgglpobaa.Tr Go.Proofs.Ytfoigflgglpobaa.Kt Go.Proofs.Ytfoigflgglpobaa.Q
open Go.ChangeMaps (setBlock heap_setBlock_other)
def PutV (g gl : Nat) (s : TS) (T : Sh) (kt ks : Int) (w : World) (e : Ending) (w' : World) : Prop :=
  ∃ s' T' fl' x tx pre post, e = .returned (.tuple #[.agg #[.int .i64 ((x : Nat) : Int), .int .i64 tx], .int .i64 0]) ∧ (s'.f x).turn = tx ∧ Full w' g gl s' T' fl' ∧ PutRes s T kt ks s' T' x pre post ∧ Only (TF g gl) w w'
theorem putV_of {P : Program} {f : FuncId} {args : Array Value} {g gl : Nat} {s : TS} {T : Sh} {kt ks : Int} {w : World} (h : Calls P f args w (PutPost g gl s T kt ks w)) : Calls P f args w (PutV g gl s T kt ks w) := h.mono fun e w' ⟨s', T', fl', x, pre, post, h1, h2, h3, h4⟩ =>
  ⟨s', T', fl', x, _, pre, post, h1, (by unfold hturn; rw [if_neg h3.x0]), h2, h3, h4⟩
/-- behind Put, ahead of the handle's box -/
structure LMf (q g gl m1 m2 : Nat) (T : Sh) (s : TS) (A B : Value → Option Value) (mo now sq kt ks : Int) (w W : World) (s' : TS) (T' : Sh) (fl' : List Nat) (x : Nat) (tx : Int) (pre post : List Nat) : Prop where
  qb : Blk W q 120 (stc mo now sq g m1 m2)
  f : Full W g gl s' T' fl'
  r : PutRes s T kt ks s' T' x pre post
  etx : (s'.f x).turn = tx
  ma : MapIs Try.prog 3 W m1 A T.ino.length
  mb : MapIs Try.prog 29 W m2 B T.ino.length
  on_ : Only (SF q g gl m1 m2) w W
structure LMe (q g gl m1 m2 : Nat) (T : Sh) (s : TS) (A B : Value → Option Value) (mo now sq kt ks : Int) (w W : World) (s' : TS) (T' : Sh) (fl' : List Nat) (x : Nat) (tx : Int) (pre post : List Nat) (HB : Nat) : Prop where
  m : LMf q g gl m1 m2 T s A B mo now sq kt ks w W s' T' fl' x tx pre post
  bh : Blk W HB 29 #[.int .i64 ((x : Nat) : Int), .int .i64 tx]
  nq : ¬ SF q g gl m1 m2 HB
section
variable {q g gl m1 m2 : Nat} {s : TS} {T : Sh} {fl : List Nat} {it : Nat → It} {A B : Value → Option Value} {mo now sq kt ks : Int} {w W W' : World} {s' : TS} {T' : Sh} {fl' : List Nat} {x : Nat} {tx : Int} {pre post : List Nat}
theorem LMf.of (h : SIs W q g gl m1 m2 s T fl it A B mo now sq) (o : Only (SF q g gl m1 m2) w W) (htx : (s'.f x).turn = tx) (F : Full W' g gl s' T' fl') (R : PutRes s T kt ks s' T' x pre post) (O : Only (TF g gl) W W') : LMf q g gl m1 m2 T s A B mo now sq kt ks w W' s' T' fl' x tx pre post := by
  have ne := h.ne
  exact ⟨O.blk h.qb (by rintro (e | e); exact ne.1 e; exact ne.2.1 e), F, R, htx, h.a.only O (by rintro (e | e); exact ne.2.2.2.2.1 e; exact ne.2.2.2.2.2.1 e), h.b.only O (by rintro (e | e); exact ne.2.2.2.2.2.2.1 e; exact ne.2.2.2.2.2.2.2.1 e), o.trans O (fun i _ hi => tf_sf hi)⟩
theorem LMf.foot_lt (h : LMf q g gl m1 m2 T s A B mo now sq kt ks w W s' T' fl' x tx pre post) {b : Nat} (hb : SF q g gl m1 m2 b) : b < W.heap.size := by
  rcases hb with rfl | rfl | rfl | rfl | rfl
  · exact h.qb.lt
  · exact h.f.m.b.lt
  · exact h.f.m.n.lt
  · exact h.ma.lt
  · exact h.mb.lt
theorem LMf.same (h : LMf q g gl m1 m2 T s A B mo now sq kt ks w W s' T' fl' x tx pre post) (e : ∀ b, SF q g gl m1 m2 b → W'.heap[b]? = W.heap[b]?) (o : Only (SF q g gl m1 m2) w W') : LMf q g gl m1 m2 T s A B mo now sq kt ks w W' s' T' fl' x tx pre post :=
  ⟨(e q (.inl rfl)).trans h.qb, h.f.same (fun b hb => e b (tf_sf hb)), h.r, h.etx, h.ma.same (e m1 (.inr (.inr (.inr (.inl rfl))))), h.mb.same (e m2 (.inr (.inr (.inr (.inr rfl))))), o⟩
theorem LMf.box (h : LMf q g gl m1 m2 T s A B mo now sq kt ks w W s' T' fl' x tx pre post) : LMe q g gl m1 m2 T s A B mo now sq kt ks w (W.alloc (.cells #[.int .i64 ((x : Nat) : Int), .int .i64 tx] 29)) s' T' fl' x tx pre post W.heap.size :=
  ⟨h.same (fun b hb => ((Below.refl W.heap.size W).alloc (Nat.le_refl _) _).block b (h.foot_lt hb)) (h.on_.alloc _), Blk.new W _ _, fun e => Nat.lt_irrefl _ (h.foot_lt e)⟩
theorem LMf.fill {H : Nat} (h : LMf q g gl m1 m2 T s A B mo now sq kt ks w W s' T' fl' x tx pre post) (hH : Blk W H 29 #[.int .i64 0, .int .i64 0]) (hQ : ¬ SF q g gl m1 m2 H) (hn : w.heap.size ≤ H) :
    LMe q g gl m1 m2 T s A B mo now sq kt ks w ((W.setCell ⟨H, 0, none⟩ (.int .i64 ((x : Nat) : Int))).setCell ⟨H, 1, none⟩ (.int .i64 tx)) s' T' fl' x tx pre post H :=
  ⟨h.same (fun b hb => (Below.heap_setCell _ ⟨H, 1, none⟩ _ b (by rintro rfl; exact hQ hb)).trans (Below.heap_setCell _ ⟨H, 0, none⟩ _ b (by rintro rfl; exact hQ hb))) ((h.on_.setCell (.inr hn) _).setCell (.inr hn) _), (hH.set_ 0 (.int .i64 ((x : Nat) : Int))).set_ 1 (.int .i64 tx), hQ⟩
/-- the sequence goes on -/
theorem SIs.seq (h : SIs w q g gl m1 m2 s T fl it A B mo now sq) : SIs (w.setCell ⟨q, 2, none⟩ (.int .i64 (sq + 1))) q g gl m1 m2 s T fl it A B mo now (sq + 1) := by
  have far : ∀ b, b ≠ q → (w.setCell ⟨q, 2, none⟩ (.int .i64 (sq + 1))).heap[b]? = w.heap[b]? := fun b hb => Below.heap_setCell w ⟨q, 2, none⟩ _ b hb
  have ne := h.ne
  exact ⟨h.qb.set_ 2 (.int .i64 (sq + 1)), h.t.same (fun b hb => far b (by rcases hb with rfl | rfl; exact Ne.symm ne.1; exact Ne.symm ne.2.1)), h.a.same (far m1 (Ne.symm ne.2.2.1)), h.b.same (far m2 (Ne.symm ne.2.2.2.1)), h.at_, h.only, h.onlyB, fun x hx => ⟨(h.key x hx).1, by have := (h.key x hx).2; omega⟩, h.wf, h.tn, h.most, h.ne⟩
def setIt (it : Nat → It) (x : Nat) (a : It) (y : Nat) : It := if y = x then a else it y
/-- what the maps hold behind a laying -/
theorem SIs.added {w9 W0 W1 W2 : World} {a : It} {n1 n2 : Nat}
    (h : SIs w q g gl m1 m2 s T fl it A B mo now sq) (hk : I64 a.k) (hno : A (.int .i64 a.k) = none) (D : LMf q g gl m1 m2 T s A B mo now sq a.e ks w9 W0 s' T' fl' x tx pre post) (hks : ks ≤ sq)
    (M1 : MapIs Try.prog 3 W1 m1 (updM A (.int .i64 a.k) (cel a x tx)) n1) (hn1 : n1 = T.ino.length + 1)
    (M2 : MapIs Try.prog 29 W2 m2 (updM B (hnV x tx) (.int .i64 a.k)) n2) (hn2 : n2 = T.ino.length + 1)
    (htx : I64 tx) (e1 : ∀ i, i ≠ m1 → W1.heap[i]? = W0.heap[i]?) (e2 : ∀ i, i ≠ m2 → W2.heap[i]? = W1.heap[i]?) :
    SIs W2 q g gl m1 m2 s' T' fl' (setIt it x a) (updM A (.int .i64 a.k) (cel a x tx)) (updM B (hnV x tx) (.int .i64 a.k)) mo now sq := by
  have ne := h.ne
  have R := D.r
  have etx := D.etx
  subst etx
  have hl : T'.ino.length = T.ino.length + 1 := by rw [R.ino', R.ino]; simp; omega
  have hxT : x ∉ T.ino := fun e => by
    have := D.f.rb.nd
    rw [R.ino'] at this
    exact (sub_nodup this).2 (by rw [← R.ino]; exact e)
  have hmem : ∀ y, y ∈ T'.ino ↔ y = x ∨ y ∈ T.ino := fun y => by
    rw [R.ino', R.ino]; simp only [List.mem_append, List.mem_cons]
    constructor
    · rintro (e | e | e)
      · exact .inr (.inl e)
      · exact .inl e
      · exact .inr (.inr e)
    · rintro (e | e | e)
      · exact .inr (.inl e)
      · exact .inl e
      · exact .inr (.inr e)
  have hold : ∀ y, y ∈ T.ino → y ≠ x ∧ (s'.f y).t = (s.f y).t ∧ (s'.f y).s = (s.f y).s ∧ (s'.f y).turn = (s.f y).turn := fun y hy => by
    have hyx : y ≠ x := fun e => hxT (e ▸ hy)
    exact ⟨hyx, R.old y (h.t.lt y hy) hyx⟩
  have hkne : ∀ y, y ∈ T.ino → (it y).k ≠ a.k := fun y hy e => by
    have := (h.at_ y hy).1
    rw [e, hno] at this
    cases this
  have o1 : ∀ b, b ≠ m1 → b ≠ m2 → W2.heap[b]? = W0.heap[b]? := fun b h1 h2 => (e2 b h2).trans (e1 b h1)
  refine ⟨?_, D.f.same (fun b hb => o1 b ?_ ?_), by rw [hl, ← hn1]; exact M1.same (e2 m1 ne.2.2.2.2.2.2.2.2), by rw [hl, ← hn2]; exact M2, fun y hy => ?_, fun v e he => ?_, fun v e he => ?_, fun y hy => ?_, fun y hy => ?_, fun y hy => ?_, by rw [R.most]; exact h.most, h.ne⟩
  · exact (o1 q ne.2.2.1 ne.2.2.2.1).trans D.qb
  · rcases hb with rfl | rfl
    · exact Ne.symm ne.2.2.2.2.1
    · exact Ne.symm ne.2.2.2.2.2.1
  · rcases hb with rfl | rfl
    · exact Ne.symm ne.2.2.2.2.2.2.1
    · exact Ne.symm ne.2.2.2.2.2.2.2.1
  · rcases (hmem y).1 hy with rfl | hy
    · rw [show setIt it y a y = a from if_pos rfl, updM_same, updM_same]; exact ⟨rfl, rfl⟩
    · obtain ⟨h1, h2, h3, h4⟩ := hold y hy
      rw [show setIt it x a y = it y from if_neg h1, h4, updM_ne, updM_ne]
      · exact h.at_ y hy
      · intro e; unfold hnV at e; simp only [Value.agg.injEq, Array.mk.injEq, List.cons.injEq, Value.int.injEq] at e; omega
      · intro e; injection e with _ e; exact hkne y hy e
  · by_cases ev : v = .int .i64 a.k
    · refine ⟨x, (hmem x).2 (.inl rfl), ?_⟩
      rw [show setIt it x a x = a from if_pos rfl]; exact ev
    · rw [updM_ne ev] at he
      obtain ⟨y, hy, e⟩ := h.only v _ he
      refine ⟨y, (hmem y).2 (.inr hy), ?_⟩
      rw [show setIt it x a y = it y from if_neg (hold y hy).1]; exact e
  · by_cases ev : v = hnV x (s'.f x).turn
    · exact ⟨x, (hmem x).2 (.inl rfl), ev⟩
    · rw [updM_ne ev] at he
      obtain ⟨y, hy, e⟩ := h.onlyB v _ he
      exact ⟨y, (hmem y).2 (.inr hy), by rw [(hold y hy).2.2.2]; exact e⟩
  · rcases (hmem y).1 hy with rfl | hy
    · rw [show setIt it y a y = a from if_pos rfl]; exact ⟨R.key.1, by rw [R.key.2]; exact hks⟩
    · obtain ⟨h1, h2, h3, h4⟩ := hold y hy
      rw [show setIt it x a y = it y from if_neg h1, h2, h3]; exact h.key y hy
  · rcases (hmem y).1 hy with rfl | hy
    · rw [show setIt it y a y = a from if_pos rfl]; exact hk
    · rw [show setIt it x a y = it y from if_neg (hold y hy).1]; exact h.wf y hy
  · rcases (hmem y).1 hy with rfl | hy
    · exact htx
    · rw [(hold y hy).2.2.2]; exact h.tn y hy
end
end Go.Proofs.Ytfoigflgglpobaa.V
