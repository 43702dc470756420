/- Lemmas and contracts for RowBaseMoves, merged by program out of Bg, Bh, Bj, Bm, Leaf, Qv, Bn, Bp, Br, Lfa. No condition. -/
import Derived.Test.YtcoibhmgblicfaaBz15
import Derived.Test.YtcoibhmgblicfaaBz14
import Derived.Test.YtcoibhmgblicfaaBz12
import Derived.Test.YtcoibhmgblicfaaBz13
import Derived.Test.YtcoibhmgblicfaaBz11
import Derived.Deep.Slices
import Derived.ChangeSame
import Derived.ChangeArms
import Derived.OpenShut
import Derived.WideShapes
import Derived.Laws.Rows
import Derived.RowKit
set_option linter.unusedVariables false
set_option linter.unusedSimpArgs false
/- Base's Due. No condition but that memory holds a base. -/
set_option linter.unusedVariables false
set_option linter.unusedSimpArgs false
namespace Go.Proofs.Ytcoibhmgblicfaa.Ba
open Go.RowKit Go.Proofs.Ytcoibhmgblicfaa.Aid Go.Proofs.Ytcoibhmgblicfaa.Tr Go.Proofs.Ytcoibhmgblicfaa.Kt Go.Proofs.Ytcoibhmgblicfaa.Q
/-- is a timer due? -/
def dq (now : Int) (a : Tm) : Bool := !nev a.soft && decide (cl a.soft ≤ cl now)
theorem dueB_cons (a : Tm) (l : List Tm) (now : Int) : dueB (a :: l) now = dq now a := rfl
theorem due_any (t : Tm) (now : Int) (w : World) : Calls Try.prog 28 #[t.agg, .int .i64 now] w fun e w' => e = .returned (.bool (dq now t)) ∧ Below w.heap.size w w' := by
  have hb := Blk.new w 29 t.cells
  have B1 := (Below.refl w.heap.size w).alloc (Nat.le_refl _) (.cells t.cells 29)
  have c2 := hb.cell 2
  have HB := Lib.hid B1
  obtain ⟨n, hn⟩ : ∃ n, nev t.soft = n := ⟨_, rfl⟩
  have HN := Lib.hid hn
  clear B1 hb
  unfold Tm.cells at c2 HB
  unfold Tm.agg dq
  rw [hn]
  clear hn
  go_enter Try.func28, Try.ntmps28
  go_wp2_with fail
  refine (never_any _ _).mono ?_
  rintro e w1 ⟨rfl, rfl⟩
  rw [HN.out]
  cases n with
  | true =>
    go_wp2_with fail
    go_ret
    exact ⟨rfl, HB.out⟩
  | false =>
    go_wp2_with fail
    refine (clamp_any _ _).mono ?_
    rintro e w1 ⟨rfl, rfl⟩
    go_wp2_with fail
    refine (clamp_any _ _).mono ?_
    rintro e w1 ⟨rfl, rfl⟩
    go_wp2_with fail
    go_ret
    exact ⟨rfl, HB.out⟩
set_option maxHeartbeats 1000000 in
set_option maxRecDepth 100000 in
/-- nothing is there -/
theorem due1_none (w : World) {P : QP} {M : Int} (h : QHas w P [] M) (i k : Int) (gl go' gf : Nat) (x : Bool) (hf : Blk w gf 4 #[.bool x]) :
    Calls Try.prog 26 #[.int .i64 i, .int .i64 k, P.v, .pointer (some ⟨gl, 0, none⟩), .pointer (some ⟨go', 0, none⟩), .pointer (some ⟨gf, 0, none⟩)] w fun e w' => e = .returned (.bool true) ∧ Blk w' gf 4 #[.bool false] ∧ Only (one gf) w w' := by
  have C := QHas_first h
  rw [show (([] : List Tm).head?.getD zeroT) = zeroT from rfl, show decide (([] : List Tm) ≠ []) = false from rfl] at C
  unfold Tm.agg zeroT at C
  have HF := Lib.hid hf
  have HC := Lib.hid C
  clear C hf h
  go_enter Try.func26, Try.ntmps26
  go_wp2_with fail
  refine HC.out.mono ?_
  rintro e w1 ⟨rfl, b1⟩
  have B := b1.alloc b1.size (.cells zeroT.cells 29)
  have f0 := HF.out.below B HF.out.lt
  unfold zeroT Tm.cells at B f0
  go_upto_region 2 with fail
  generalize w1.alloc (.cells #[.int .i64 0, .int .i64 0, .int .i64 0, .int .i64 0, .bool false] 29) = W at B f0 ⊢
  have e0 := f0.drew.cell 0
  have x0 := f0.drew.frozen 0
  have FIN := Lib.hid (And.intro (f0.set_ 0 (.bool false)).drew (((Only.of_below B (one gf)).setCell (p := ⟨gf, 0, none⟩) (.inl rfl) (.bool false)).drew))
  clear B f0
  go_wp2_with fail
  go_region
  all_goals
    have e1 := FIN.out.1.cell 0
    go_wp2_with fail
    go_ret
    exact ⟨rfl, FIN.out.1, FIN.out.2⟩
set_option maxHeartbeats 2000000 in
set_option maxRecDepth 100000 in
/-- the other side's queue -/
theorem due1_other (w : World) {P : QP} {a : Tm} {l : List Tm} {M : Int} (h : QHas w P (a :: l) M) (i : Int) (k : Nat) (lz : Bool) (hk : k ≠ sd lz) (gl go' gf : Nat) (x : Bool) (hl : Blk w gl 4 #[.bool lz]) (hf : Blk w gf 4 #[.bool x]) :
    Calls Try.prog 26 #[.int .i64 i, .int .i64 k, P.v, .pointer (some ⟨gl, 0, none⟩), .pointer (some ⟨go', 0, none⟩), .pointer (some ⟨gf, 0, none⟩)] w fun e w' => e = .returned (.bool true) ∧ Blk w' gf 4 #[.bool false] ∧ Only (one gf) w w' := by
  have C := QHas_first h
  rw [show ((a :: l).head?.getD zeroT) = a from rfl, show decide (a :: l ≠ []) = true from rfl] at C
  unfold Tm.agg at C
  have HF := Lib.hid (And.intro hf hl)
  have HC := Lib.hid C
  have kn : (((k : Nat) : Int) == ((sd lz : Nat) : Int)) = false := by simpa using (show ((k : Nat) : Int) ≠ ((sd lz : Nat) : Int) by omega)
  generalize hS : ((sd lz : Nat) : Int) = S at kn
  have HS := Lib.hid hS
  have kn' : ¬ ((k : Nat) : Int) = S := by rw [← hS]; omega
  clear C hf h hl hS
  go_enter Try.func26, Try.ntmps26
  go_wp2_with fail
  refine HC.out.mono ?_
  rintro e w1 ⟨rfl, b1⟩
  have B := b1.alloc b1.size (.cells a.cells 29)
  have f0 := HF.out.1.below B HF.out.1.lt
  have l0 := HF.out.2.below B HF.out.2.lt
  unfold Tm.cells at B f0 l0
  go_upto_region 2 with fail
  generalize w1.alloc (.cells #[.int .i64 a.id, .int .i64 a.clock, .int .i64 a.soft, .int .i64 a.hard, .bool a.lazy] 29) = W at B f0 l0 ⊢
  have e0 := f0.drew.cell 0
  have x0 := f0.drew.frozen 0
  have e2 := l0.drew.cell 0
  have FIN := Lib.hid (And.intro (f0.set_ 0 (.bool false)).drew (((Only.of_below B (one gf)).setCell (p := ⟨gf, 0, none⟩) (.inl rfl) (.bool false)).drew))
  clear B f0 l0
  go_wp2_with fail
  first | (go_region_with (go_at_call 20; refine (side_any lz _).mono ?_; rintro e W5 ⟨rfl, rfl⟩; rw [HS.out])) | fail "no"
  all_goals
    have e1 := FIN.out.1.cell 0
    go_wp2_with fail
    go_ret
    exact ⟨rfl, FIN.out.1, FIN.out.2⟩
set_option maxHeartbeats 4000000 in
set_option maxRecDepth 100000 in
/-- its own side's queue -/
theorem due1_own (w : World) {P : QP} {a : Tm} {l : List Tm} {M : Int} (h : QHas w P (a :: l) M) (i : Nat) (hi : i < 3) (lz : Bool) (gl go' gf : Nat) (x : Bool) (o : Nat → Int) (hl : Blk w gl 4 #[.bool lz]) (ho : Blk w go' 23 (three o)) (hf : Blk w gf 4 #[.bool x]) :
    Calls Try.prog 26 #[.int .i64 i, .int .i64 (sd lz : Nat), P.v, .pointer (some ⟨gl, 0, none⟩), .pointer (some ⟨go', 0, none⟩), .pointer (some ⟨gf, 0, none⟩)] w fun e w' => e = .returned (.bool (!dq (o i) a)) ∧ Blk w' gf 4 #[.bool (dq (o i) a)] ∧ Only (one gf) w w' := by
  have C := QHas_first h
  rw [show ((a :: l).head?.getD zeroT) = a from rfl, show decide (a :: l ≠ []) = true from rfl] at C
  have D := Lib.hid (fun (W : World) => due_any a (o i) W)
  obtain ⟨d, hd⟩ : ∃ d, dq (o i) a = d := ⟨_, rfl⟩
  rw [hd] at D ⊢
  unfold Tm.agg at C D
  have HF := Lib.hid (And.intro hf (And.intro hl ho))
  have HC := Lib.hid C
  generalize hS : ((sd lz : Nat) : Int) = S
  have HS := Lib.hid hS
  have hi3 : ((i : Nat) : Int) < 3 := by omega
  have hi0 : (0 : Int) ≤ ((i : Nat) : Int) := by omega
  have HI := Lib.hid hi
  clear C hf h hl hS hd ho hi
  go_enter Try.func26, Try.ntmps26
  go_wp2_with fail
  refine HC.out.mono ?_
  rintro e w1 ⟨rfl, b1⟩
  have B := b1.alloc b1.size (.cells a.cells 29)
  have t0 := Blk.new w1 29 a.cells
  have f0 := HF.out.1.below B HF.out.1.lt
  have l0 := HF.out.2.1.below B HF.out.2.1.lt
  have o0 := HF.out.2.2.below B HF.out.2.2.lt
  unfold Tm.cells at B f0 l0 o0 t0
  go_upto_region 2 with fail
  generalize w1.alloc (.cells #[.int .i64 a.id, .int .i64 a.clock, .int .i64 a.soft, .int .i64 a.hard, .bool a.lazy] 29) = W at B f0 l0 o0 t0 ⊢
  generalize w1.heap.size = gt at t0 ⊢
  have e2 := l0.drew.cell 0
  have e3 := (o0.drew.cell i).trans (three_at o i HI.out)
  have t1 := t0.drew
  have c0 := t1.cell 0
  have c1 := t1.cell 1
  have c2 := t1.cell 2
  have c3 := t1.cell 3
  have c4 := t1.cell 4
  have HB := Lib.hid (And.intro (below_drewN B 1) f0.drew)
  clear B f0 l0 o0 t0 t1 b1 HC HF
  go_wp2_with fail
  go_region_with (first | (go_at_call 20; refine (side_any lz _).mono ?_; rintro e W5 ⟨rfl, rfl⟩; rw [HS.out]) | (go_at_call 28; refine (D.out _).mono ?_; rintro e W6 ⟨rfl, b6⟩; have f6 := HB.out.2.below b6 HB.out.2.lt; have e6 := f6.cell 0; have x6 := f6.frozen 0))
  all_goals
    have FIN := Lib.hid (And.intro (f6.set_ 0 (.bool d)) ((Only.of_below (HB.out.1.trans (b6.mono HB.out.1.size)) (one gf)).setCell (p := ⟨gf, 0, none⟩) (.inl rfl) (.bool d)))
    have e1 := FIN.out.1.cell 0
    clear f6 e6 x6 b6
    go_wp2_with fail
    go_ret
    exact ⟨rfl, FIN.out.1, FIN.out.2⟩
def due1 (row : List Tm) (now : Int) (k : Nat) (lz : Bool) : Bool := decide (k = sd lz) && dueB row now
theorem due1_any (w : World) {P : QP} {row : List Tm} {M : Int} (h : QHas w P row M) (i : Nat) (hi : i < 3) (k : Nat) (lz : Bool) (gl go' gf : Nat) (x : Bool) (o : Nat → Int) (hl : Blk w gl 4 #[.bool lz]) (ho : Blk w go' 23 (three o)) (hf : Blk w gf 4 #[.bool x]) :
    Calls Try.prog 26 #[.int .i64 i, .int .i64 k, P.v, .pointer (some ⟨gl, 0, none⟩), .pointer (some ⟨go', 0, none⟩), .pointer (some ⟨gf, 0, none⟩)] w fun e w' => e = .returned (.bool (!due1 row (o i) k lz)) ∧ Blk w' gf 4 #[.bool (due1 row (o i) k lz)] ∧ Only (one gf) w w' := by
  cases row with
  | nil =>
    have e1 : due1 [] (o i) k lz = false := by unfold due1; rw [show dueB [] (o i) = false from rfl, Bool.and_false]
    rw [e1]
    exact due1_none w h i k gl go' gf x hf
  | cons a l =>
    by_cases hk : k = sd lz
    · subst hk
      have e1 : due1 (a :: l) (o i) (sd lz) lz = dq (o i) a := by unfold due1; rw [decide_eq_true rfl, Bool.true_and]; rfl
      rw [e1]
      exact due1_own w h i hi lz gl go' gf x o hl ho hf
    · have e1 : due1 (a :: l) (o i) k lz = false := by unfold due1; rw [decide_eq_false hk, Bool.false_and]
      rw [e1]
      exact due1_other w h i k lz hk gl go' gf x hl hf
/-- is any due on that side? -/
def dueU (rows : Nat → List Tm) (o : Nat → Int) (lz : Bool) : Bool := (List.range 6).any fun j => due1 (rows j) (o (j / 2)) (j % 2) lz
set_option maxHeartbeats 1000000 in
set_option maxRecDepth 100000 in
theorem bdue_any (w : World) {b : Nat} {P : Nat → QP} {rows : Nat → List Tm} {M : Int} (h : BHas w b P rows M) (o : Nat → Int) (lz : Bool) :
    Calls Try.prog 11 #[.pointer (some ⟨b, 0, none⟩), .agg (three o), .bool lz] w fun e w' => e = .returned (.bool (dueU rows o lz)) ∧ Below w.heap.size w w' := by
  obtain ⟨x1, x2, x3, x4⟩ := box3 w (three o) #[.bool lz] #[.bool false] 23 4 4
  have h2 := h.below x4
  have hB : ∀ x, BF b P x → ¬ one (w.heap.size + 2) x := fun x hx e => by have := h.foot_lt hx; unfold one at e; omega
  have EA := each_any b P 26 #[.pointer (some ⟨w.heap.size + 1, 0, none⟩), .pointer (some ⟨w.heap.size, 0, none⟩), .pointer (some ⟨w.heap.size + 2, 0, none⟩)]
    (fun i W => BHas W b P rows M ∧ Below w.heap.size w W ∧ Blk W w.heap.size 23 (three o) ∧ Blk W (w.heap.size + 1) 4 #[.bool lz] ∧ Blk W (w.heap.size + 2) 4 #[.bool false] ∧ ∀ j, j < i → due1 (rows j) (o (j / 2)) (j % 2) lz = false)
    (fun W => Below w.heap.size w W ∧ Blk W (w.heap.size + 2) 4 #[.bool true] ∧ dueU rows o lz = true)
    _
    (Go.Proofs.enters_of Try.func26 (by kernel_rfl) rfl)
    (fun i W hJ => hJ.1.bb)
    (by
      rintro i hi W ⟨j1, j2, j3, j4, j5, j6⟩
      refine (due1_any W (j1.q i hi) (i / 2) (by omega) (i % 2) lz _ _ _ _ o j4 j3 j5).mono ?_
      rintro e W' ⟨rfl, k1, k2⟩
      have B' := k2.under j2 (B := w.heap.size) (fun x hx => by unfold one at hx; omega) j2.size
      cases e1 : due1 (rows i) (o (i / 2)) (i % 2) lz with
      | true => exact .inr ⟨rfl, B', by rw [← e1]; exact k1, List.any_eq_true.2 ⟨i, List.mem_range.2 hi, e1⟩⟩
      | false =>
        refine .inl ⟨rfl, j1.same fun x hx => k2.block x (j1.foot_lt hx) (hB x hx), B', k2.blk j3 (by unfold one; omega), k2.blk j4 (by unfold one; omega), by rw [← e1]; exact k1, fun j hj => ?_⟩
        by_cases e : j = i
        · subst e; exact e1
        · exact j6 j (by omega))
    ⟨h2, x4, x1, x2, x3, fun j hj => by omega⟩
  have EH := Lib.hid EA
  clear EA hB h2 x1 x2 x3 x4 h
  unfold three at EH ⊢
  go_enter Try.func11, Try.ntmps11
  go_wp2_with fail
  refine EH.out.mono ?_
  rintro e W3 ⟨rfl, ⟨_, k1, _, _, k2, k3⟩ | ⟨k1, k2, k3⟩⟩
  · have c0 := k2.cell 0
    have e1 : dueU rows o lz = false := by
      refine Bool.eq_false_iff.2 fun e => ?_
      obtain ⟨j, hj, ej⟩ := List.any_eq_true.1 e
      rw [k3 j (List.mem_range.1 hj)] at ej
      cases ej
    clear EH k2 k3
    go_wp2_with fail
    go_ret
    exact ⟨by rw [e1]; rfl, k1⟩
  · have c0 := k2.cell 0
    clear EH k2
    go_wp2_with fail
    go_ret
    exact ⟨by rw [k3]; rfl, k1⟩
end Go.Proofs.Ytcoibhmgblicfaa.Ba
/- Base's Expire. No condition but that memory holds a base. -/
set_option linter.unusedVariables false
set_option linter.unusedSimpArgs false
namespace Go.Proofs.Ytcoibhmgblicfaa.Ba
open Go.RowKit Go.Proofs.Ytcoibhmgblicfaa.Aid Go.Proofs.Ytcoibhmgblicfaa.Tr Go.Proofs.Ytcoibhmgblicfaa.Kt Go.Proofs.Ytcoibhmgblicfaa.Q
/-- the queue's blocks, and all from g on -/
def qup (P : QP) (g : Nat) (x : Nat) : Prop := P.F x ∨ g ≤ x
theorem only_up {P : QP} {g : Nat} {w w' : World} (b : Below g w w') : Only (qup P g) w w' := ⟨b.os, b.tape, b.output, b.size, fun i _ hn => b.block i (by
  rcases Nat.lt_or_ge i g with e | e
  · exact e
  · exact absurd (.inr e) hn)⟩
/-- the loop: what is still there, and what came out -/
def XRel (w0 : World) (P : QP) (M : Int) (row l : List Tm) (now : Int) (g : Nat) (m : Nat) (W : World) : Prop :=
  ∃ done rest v, row = done ++ rest ∧ m = rest.length ∧ (∀ a, a ∈ done → dq now a = true) ∧ QHas W P rest M ∧ Grows W g v (l ++ done) ∧ Only (qup P g) w0 W
theorem take_done {done rest : List Tm} {now : Int} (h : ∀ a, a ∈ done → dq now a = true) (hr : dueB rest now = false) : (done ++ rest).takeWhile (dq now) = done ∧ (done ++ rest).dropWhile (dq now) = rest := by
  induction done with
  | nil =>
    cases rest with
    | nil => exact ⟨rfl, rfl⟩
    | cons a l =>
      have e : dq now a = false := hr
      exact ⟨by rw [List.nil_append, List.takeWhile_cons_of_neg (by simp [e])], by rw [List.nil_append, List.dropWhile_cons_of_neg (by simp [e])]⟩
  | cons b l ih =>
    have e : dq now b = true := h b (by simp)
    obtain ⟨i1, i2⟩ := ih fun a ha => h a (by simp [ha])
    exact ⟨by rw [List.cons_append, List.takeWhile_cons_of_pos e, i1], by rw [List.cons_append, List.dropWhile_cons_of_pos e, i2]⟩
set_option maxHeartbeats 2000000 in
set_option maxRecDepth 100000 in
/-- the other side's queue -/
theorem exp1_other (w : World) (P : QP) (i : Int) (k : Nat) (lz : Bool) (hk : k ≠ sd lz) (gl go' g : Nat) (hl : Blk w gl 4 #[.bool lz]) :
    Calls Try.prog 29 #[.int .i64 i, .int .i64 k, P.v, .pointer (some ⟨gl, 0, none⟩), .pointer (some ⟨go', 0, none⟩), .pointer (some ⟨g, 0, none⟩)] w fun e w' => e = .returned (.bool true) ∧ w = w' := by
  have c0 := hl.cell 0
  have kn : (((k : Nat) : Int) == ((sd lz : Nat) : Int)) = false := by simpa using (show ((k : Nat) : Int) ≠ ((sd lz : Nat) : Int) by omega)
  generalize hS : ((sd lz : Nat) : Int) = S at kn
  have HS := Lib.hid hS
  have kn' : ¬ ((k : Nat) : Int) = S := by rw [← hS]; omega
  clear hS hl hk
  go_enter Try.func29, Try.ntmps29
  go_wp2_with fail
  go_loopg [] 0 (fun m wr => wr = w)
  case atStart => rfl
  case round =>
    subst hrel
    go_wp2_with fail
    refine (side_any lz _).mono ?_
    rintro e w2 ⟨rfl, rfl⟩
    rw [HS.out]
    go_wp2_with fail
    go_ret
    exact ⟨rfl, rfl⟩
set_option maxHeartbeats 2000000 in
set_option maxRecDepth 100000 in
/-- its own side's queue -/
theorem exp1_own (w : World) {P : QP} {row l : List Tm} {M : Int} (h : QHas w P row M) (i : Nat) (hi : i < 3) (lz : Bool) (gl go' g : Nat) (v : Value) (o : Nat → Int) (hl : Blk w gl 4 #[.bool lz]) (ho : Blk w go' 23 (three o)) (hg : Grows w g v l)
    (hll : l.length ≤ 1000) (h1 : gl < g) (h2 : go' < g) (hP : ∀ x, P.F x → x < g ∧ x ≠ gl ∧ x ≠ go') :
    Calls Try.prog 29 #[.int .i64 i, .int .i64 (sd lz : Nat), P.v, .pointer (some ⟨gl, 0, none⟩), .pointer (some ⟨go', 0, none⟩), .pointer (some ⟨g, 0, none⟩)] w fun e w' =>
      e = .returned (.bool true) ∧ QHas w' P (row.dropWhile (dq (o i))) M ∧ (∃ v', Grows w' g v' (l ++ row.takeWhile (dq (o i)))) ∧ Only (qup P g) w w' := by
  have hrl := h.len
  have S := Lib.hid (show XRel w P M row l (o i) g row.length w from ⟨[], row, v, rfl, rfl, fun a ha => absurd ha (by simp), h, by rw [List.append_nil]; exact hg, Only.refl _ w⟩)
  have HB := Lib.hid (And.intro hl (And.intro ho (And.intro (show ¬ qup P g gl from fun e => e.elim (fun e => (hP _ e).2.1 rfl) (by omega)) (show ¬ qup P g go' from fun e => e.elim (fun e => (hP _ e).2.2 rfl) (by omega)))))
  have hPg : ¬ P.F g := fun e => by have := (hP _ e).1; omega
  have HPg := Lib.hid (And.intro hPg hP)
  generalize hS : ((sd lz : Nat) : Int) = Sd
  have HS := Lib.hid hS
  have hi3 : ((i : Nat) : Int) < 3 := by omega
  have hi0 : (0 : Int) ≤ ((i : Nat) : Int) := by omega
  have HI := Lib.hid hi
  obtain ⟨i0, y0, hi0', hz0, hz1, hz2, hz3⟩ := infoTm'
  clear h hl ho hg h1 h2 hP hPg hS hi
  go_enter Try.func29, Try.ntmps29
  go_wp2_with fail
  go_loopg [] row.length (fun m wr => XRel w P M row l (o i) g m wr)
  case atStart => exact S.out
  case round =>
    obtain ⟨done, rest, v1, hrow, rfl, hd, hq, hG, hO⟩ := hrel
    have hl' := hO.blk HB.out.1 HB.out.2.2.1
    have ho' := hO.blk HB.out.2.1 HB.out.2.2.2
    have c0 := hl'.cell 0
    have c1 := (ho'.cell i).trans (three_at o i HI.out)
    have C := QHas_due hq (o i)
    have HW := Lib.hid (And.intro hrow (And.intro hd (And.intro hq (And.intro hG hO))))
    have hlen : done.length + rest.length = row.length := by rw [hrow, List.length_append]
    obtain ⟨d, hdu⟩ : ∃ d, dueB rest (o i) = d := ⟨_, rfl⟩
    rw [hdu] at C
    have HD := Lib.hid hdu
    clear hl' ho' hrow hd hq hG hO S hdu
    cases d with
    | false =>
      have C : Calls Try.prog 30 #[P.v, .int .i64 (o i)] wr fun e w' => e = .returned (.tuple #[.agg #[.int .i64 0, .int .i64 0, .int .i64 0, .int .i64 0, .bool false], .bool false]) ∧ QHas w' P rest M ∧ Only P.F wr w' := C
      have HC := Lib.hid C
      clear C
      go_wp2_with fail
      refine (side_any lz _).mono ?_
      rintro e w2 ⟨rfl, rfl⟩
      rw [HS.out]
      go_wp2_with fail
      refine HC.out.mono ?_
      rintro e W4 ⟨rfl, h4, o4⟩
      have H4 := h4.alloc (.cells zeroT.cells 29)
      have G4 := (HW.out.2.2.2.1.only o4 (fun x hx e => by have := (HPg.out.2 x e).1; omega)).alloc (.cells zeroT.cells 29)
      have O4 := (HW.out.2.2.2.2.trans o4 fun x _ hx => .inl hx).alloc (.cells zeroT.cells 29)
      have ed := take_done HW.out.2.1 HD.out
      rw [← HW.out.1] at ed
      have FIN := Lib.hid (And.intro H4 (And.intro G4 (And.intro O4 ed)))
      unfold zeroT Tm.cells at FIN
      clear h4 o4 H4 G4 O4 ed HC HW HD c0 c1
      go_wp2_with fail
      go_ret
      exact ⟨rfl, by rw [FIN.out.2.2.2.2]; exact FIN.out.1, ⟨_, by rw [FIN.out.2.2.2.1]; exact FIN.out.2.1⟩, FIN.out.2.2.1⟩
    | true =>
      cases rest with
      | nil => cases HD.out
      | cons a rest =>
        have C : Calls Try.prog 30 #[P.v, .int .i64 (o i)] wr fun e w' => e = .returned (.tuple #[.agg #[.int .i64 a.id, .int .i64 a.clock, .int .i64 a.soft, .int .i64 a.hard, .bool a.lazy], .bool true]) ∧ QHas w' P rest M ∧ Only P.F wr w' := C
        have HC := Lib.hid C
        clear C
        go_wp2_with fail
        refine (side_any lz _).mono ?_
        rintro e w2 ⟨rfl, rfl⟩
        rw [HS.out]
        go_wp2_with fail
        refine HC.out.mono ?_
        rintro e W4 ⟨rfl, h4, o4⟩
        have H4 := h4.alloc (.cells a.cells 29)
        have G4 := (HW.out.2.2.2.1.only o4 (fun x hx e => by have := (HPg.out.2 x e).1; omega)).alloc (.cells a.cells 29)
        have O4 := (HW.out.2.2.2.2.trans o4 fun x _ hx => .inl hx).alloc (.cells a.cells 29)
        have t4 := Blk.new W4 29 a.cells
        unfold Tm.cells at H4 G4 O4 t4
        go_upto_region 4 with fail
        generalize W4.alloc (.cells #[.int .i64 a.id, .int .i64 a.clock, .int .i64 a.soft, .int .i64 a.hard, .bool a.lazy] 29) = W5 at H4 G4 O4 t4 ⊢
        generalize W4.heap.size = gt at t4 ⊢
        have d0 := t4.cell 0
        have d1 := t4.cell 1
        have d2 := t4.cell 2
        have d3 := t4.cell 3
        have d4 := t4.cell 4
        have g0 := G4.b.cell 0
        have s6 := Blk.new W5 29 #[.int .i64 a.id, .int .i64 a.clock, .int .i64 a.soft, .int .i64 a.hard, .bool a.lazy]
        have G6 := G4.alloc (.cells #[.int .i64 a.id, .int .i64 a.clock, .int .i64 a.soft, .int .i64 a.hard, .bool a.lazy] 29)
        have H6 := H4.alloc (.cells #[.int .i64 a.id, .int .i64 a.clock, .int .i64 a.soft, .int .i64 a.hard, .bool a.lazy] 29)
        have O6 := O4.alloc (.cells #[.int .i64 a.id, .int .i64 a.clock, .int .i64 a.soft, .int .i64 a.hard, .bool a.lazy] 29)
        have hn : (l ++ done).length ≤ 2000 := by rw [List.length_append]; simp at hlen; omega
        have G6o := Lib.hid (And.intro G6 (And.intro H6 (And.intro O6 s6)))
        clear G4 H4 O4 t4 s6 G6 H6 O6 h4 o4 HC
        go_wp2_with (at_builtin; refine wpList_append_any _ (by rfl) _ _ _ (by rfl) (g + 1) 29 i0 y0 5 40 Try.underlying27 hi0' hz0 hz2 hz3 hz1 (by decide) v1 (l ++ done).length (tmc (l ++ done)) (by rfl) (by with_reducible exact G6o.out.1.o) (Value.slice (some ⟨W5.heap.size, 0, none⟩) 1 1) 1 (Tm.list a) (by rfl) (by exact src_block G6o.out.2.2.2 rfl 1) (tm_ones _) (by unfold maxLen; omega) (by omega) (by have := G6o.out.1.b.lt; omega) ?_; intro v2 w2 ho2 hg2 hb2; obtain ⟨A2, p2, rfl⟩ := own_parts ho2; have G2 := G6o.out.1.grown hg2; have c2 := G2.cell 0; have z2 := G2.frozen 0)
        have el : (l ++ done).length + 1 = (l ++ (done ++ [a])).length := by simp only [List.length_append, List.length_cons, List.length_nil]; omega
        have et : tmc (l ++ done) ++ Tm.list a = tmc (l ++ (done ++ [a])) := by rw [← List.append_assoc, tmc_app (l ++ done)]; simp [tmc]
        have hgl := G6o.out.1.b.lt
        have G7 := G6o.out.1.put (l' := l ++ (done ++ [a])) (v' := .slice A2 ((l ++ done).length + 1) p2) (by rw [← el, ← et]; exact ho2) hg2
        have B7 := ((Below.refl g _).grown hg2 (Nat.le_of_lt hgl) (fun b hb => by have := (own_block G6o.out.1.o hb).1; omega)).setCell (p := ⟨g, 0, none⟩) (Nat.le_refl _) (.slice A2 ((l ++ done).length + 1) p2)
        have Q7 := G6o.out.2.1.same (w' := w2.setCell ⟨g, 0, none⟩ (.slice A2 ((l ++ done).length + 1) p2)) fun x hx => B7.block x (HPg.out.2 x hx).1
        have O7 := G6o.out.2.2.1.then (only_up (P := P) B7)
        rw [show (l ++ done).length = l.length + done.length from List.length_append] at G7 Q7 O7
        have FIN := Lib.hid (And.intro G7 (And.intro Q7 O7))
        clear G7 B7 Q7 O7 el et G2 c2 z2 ho2 hb2 hg2 G6o
        go_roundg rest.length
        case measure => simp
        case rel => exact ⟨done ++ [a], rest, _, by rw [HW.out.1]; simp, rfl, fun c hc => (List.mem_append.1 hc).elim (HW.out.2.1 c) (fun e => by rw [List.mem_singleton.1 e]; exact HD.out), FIN.out.2.1, FIN.out.1, FIN.out.2.2⟩
def expR1 (row : List Tm) (now : Int) (k : Nat) (lz : Bool) : List Tm := if k = sd lz then row.dropWhile (dq now) else row
def expT1 (row : List Tm) (now : Int) (k : Nat) (lz : Bool) : List Tm := if k = sd lz then row.takeWhile (dq now) else []
theorem exp1_any (w : World) {P : QP} {row l : List Tm} {M : Int} (h : QHas w P row M) (i : Nat) (hi : i < 3) (k : Nat) (lz : Bool) (gl go' g : Nat) (v : Value) (o : Nat → Int) (hl : Blk w gl 4 #[.bool lz]) (ho : Blk w go' 23 (three o)) (hg : Grows w g v l)
    (hll : l.length ≤ 1000) (h1 : gl < g) (h2 : go' < g) (hP : ∀ x, P.F x → x < g ∧ x ≠ gl ∧ x ≠ go') :
    Calls Try.prog 29 #[.int .i64 i, .int .i64 k, P.v, .pointer (some ⟨gl, 0, none⟩), .pointer (some ⟨go', 0, none⟩), .pointer (some ⟨g, 0, none⟩)] w fun e w' =>
      e = .returned (.bool true) ∧ QHas w' P (expR1 row (o i) k lz) M ∧ (∃ v', Grows w' g v' (l ++ expT1 row (o i) k lz)) ∧ Only (qup P g) w w' := by
  by_cases hk : k = sd lz
  · subst hk
    unfold expR1 expT1
    rw [if_pos rfl, if_pos rfl]
    exact exp1_own w h i hi lz gl go' g v o hl ho hg hll h1 h2 hP
  · unfold expR1 expT1
    rw [if_neg hk, if_neg hk]
    refine (exp1_other w P i k lz hk gl go' g hl).mono ?_
    rintro e w' ⟨rfl, rfl⟩
    exact ⟨rfl, h, ⟨v, by rw [List.append_nil]; exact hg⟩, Only.refl _ _⟩
/-- what stays, and what comes out -/
def expR (rows : Nat → List Tm) (o : Nat → Int) (lz : Bool) (j : Nat) : List Tm := expR1 (rows j) (o (j / 2)) (j % 2) lz
def expT (rows : Nat → List Tm) (o : Nat → Int) (lz : Bool) (j : Nat) : List Tm := expT1 (rows j) (o (j / 2)) (j % 2) lz
def expU (rows : Nat → List Tm) (o : Nat → Int) (lz : Bool) (i j : Nat) : List Tm := if j < i then expR rows o lz j else rows j
theorem expT_le (rows : Nat → List Tm) (o : Nat → Int) (lz : Bool) (j : Nat) : (expT rows o lz j).length ≤ (rows j).length := by
  unfold expT expT1
  split
  · exact (List.takeWhile_sublist _).length_le
  · simp
theorem lenU_mono {rows rows' : Nat → List Tm} (h : ∀ j, (rows j).length ≤ (rows' j).length) : ∀ i, lenU rows i ≤ lenU rows' i
  | 0 => Nat.le_refl _
  | i + 1 => by
    have := lenU_mono h i
    have := h i
    show lenU rows i + _ ≤ lenU rows' i + _
    omega
set_option maxHeartbeats 1000000 in
set_option maxRecDepth 100000 in
theorem expire_any (w : World) {b : Nat} {P : Nat → QP} {rows : Nat → List Tm} {M : Int} (h : BHas w b P rows M) (o : Nat → Int) (lz : Bool) :
    Calls Try.prog 12 #[.pointer (some ⟨b, 0, none⟩), .agg (three o), .bool lz] w fun e w' => ∃ v, e = .returned v ∧ BHas w' b P (expR rows o lz) M ∧ w'.ownsRow (w.heap.size + 3) 29 5 v (rowsU (expT rows o lz) 6).length (tmc (rowsU (expT rows o lz) 6)) ∧ Only (BF b P) w w' := by
  obtain ⟨x1, x2, x3, x4⟩ := box3 w (three o) #[.bool lz] #[.slice none 0 0] 23 4 27
  have h2 := h.below x4
  have hP : ∀ i, i < 6 → ∀ x, (P i).F x → x < w.heap.size := fun i hi x e => (h.q i hi).foot_lt e
  have hb := h.bb.lt
  have EA := each_any b P 29 #[.pointer (some ⟨w.heap.size + 1, 0, none⟩), .pointer (some ⟨w.heap.size, 0, none⟩), .pointer (some ⟨w.heap.size + 2, 0, none⟩)]
    (fun i W => BHas W b P (expU rows o lz i) M ∧ Only (BF b P) w W ∧ Blk W w.heap.size 23 (three o) ∧ Blk W (w.heap.size + 1) 4 #[.bool lz] ∧ ∃ v, Grows W (w.heap.size + 2) v (rowsU (expT rows o lz) i))
    (fun W => False)
    _
    (Go.Proofs.enters_of Try.func29 (by kernel_rfl) rfl)
    (fun i W hJ => hJ.1.bb)
    (by
      rintro i hi W ⟨j1, j2, j3, j4, v, j5⟩
      have hle := lenU_mono (expT_le rows o lz) i
      have hle2 := lenU_le h i (by omega)
      rw [← rowsU_len] at hle
      have hqi : QHas W (P i) (rows i) M := by
        have := j1.q i hi
        unfold expU at this
        rw [if_neg (by omega)] at this
        exact this
      refine (exp1_any W hqi (i / 2) (by omega) (i % 2) lz _ _ _ v o j4 j3 j5 (by omega) (by omega) (by omega) (fun x hx => by have := hP i hi x hx; omega)).mono ?_
      rintro e W' ⟨rfl, k1, ⟨v', k2⟩, k3⟩
      have hno : ∀ x, ¬ (P i).F x → x < w.heap.size + 2 → ¬ qup (P i) (w.heap.size + 2) x := fun x h1 h2 e => e.elim h1 (by omega)
      have O' : Only (BF b P) w W' := j2.trans k3 fun x hx e => by
        rcases e with e | e
        · exact .inr ⟨i, hi, e⟩
        · omega
      refine .inl ⟨rfl, ⟨k3.blk j1.bb (hno _ (h.nb i hi) (by omega)), fun j hj => ?_, h.d, h.nb⟩, O', k3.blk j3 (hno _ (fun e => by have := hP i hi _ e; omega) (by omega)), k3.blk j4 (hno _ (fun e => by have := hP i hi _ e; omega) (by omega)), v', k2⟩
      by_cases e : j = i
      · subst e
        unfold expU
        rw [if_pos (by omega)]
        exact k1
      · have hq := (j1.q j hj).only k3 fun x hx e' => hno x (h.d j i hj hi e x hx) (by have := hP j hj x hx; omega) e'
        unfold expU at hq ⊢
        by_cases hji : j < i
        · rw [if_pos hji] at hq; rw [if_pos (by omega)]; exact hq
        · rw [if_neg hji] at hq; rw [if_neg (by omega)]; exact hq)
    ⟨by have : expU rows o lz 0 = rows := by (funext j; unfold expU; rw [if_neg (by omega)])
        rw [this]; exact h2, Only.of_below x4 _, x1, x2, _, x3, own_zero _ _ _ _⟩
  have EH := Lib.hid EA
  clear EA h2 x1 x2 x3 x4 h hP hb
  unfold three at EH ⊢
  go_enter Try.func12, Try.ntmps12
  go_wp2_with fail
  refine EH.out.mono ?_
  rintro e W3 ⟨rfl, ⟨k1, k2, _, _, v, k3⟩ | k1⟩
  · have c0 := k3.b.cell 0
    have o1 := k3.o
    obtain ⟨A1, p1, rfl⟩ := own_parts o1
    have k1' : BHas W3 b P (expR rows o lz) M := ⟨k1.bb, fun j hj => by have := k1.q j hj; unfold expU at this; rw [if_pos hj] at this; exact this, k1.d, k1.nb⟩
    have FIN := Lib.hid (And.intro k1' (And.intro o1 k2))
    clear EH k1 k2 k3 o1 k1'
    go_wp2_with fail
    go_ret
    exact ⟨_, rfl, FIN.out.1, FIN.out.2.1, FIN.out.2.2⟩
  · exact absurd k1 id
end Go.Proofs.Ytcoibhmgblicfaa.Ba
/- Base's calls on no base. -/
set_option linter.unusedVariables false
set_option linter.unusedSimpArgs false
namespace Go.Proofs.Ytcoibhmgblicfaa.Ba
open Go.RowKit Go.Proofs.Ytcoibhmgblicfaa.Aid Go.Proofs.Ytcoibhmgblicfaa.Tr Go.Proofs.Ytcoibhmgblicfaa.Kt Go.Proofs.Ytcoibhmgblicfaa.Q
theorem each_nil (fid : FuncId) (caps : Array Value) (w : World) : Calls Try.prog 22 #[.pointer none, .func (.func fid) #[] caps] w fun e w' => e = .returned (.tuple #[]) ∧ w = w' := by
  go_enter Try.func22, Try.ntmps22
  go_wp2_with fail
  exact bodyPost_ret (v := .tuple #[]) (by simp [results, Try.results22, go_sem]) rfl ⟨rfl, rfl⟩
theorem next_nil (o : Nat → Int) (lz : Bool) (w : World) : Calls Try.prog 17 #[.pointer none, .agg (three o), .bool lz] w fun e w' => e = .returned (.int .i64 4611686018427387903) ∧ Below w.heap.size w w' := by
  obtain ⟨x1, x2, x3, x4⟩ := box3 w (three o) #[.bool lz] #[.int .i64 4611686018427387903] 23 4 3
  have c0 := x3.cell 0
  have HB := Lib.hid x4
  clear x1 x2 x3 x4
  unfold three at c0 HB ⊢
  go_enter Try.func17, Try.ntmps17
  go_wp2_with fail
  refine (each_nil _ _ _).mono ?_
  rintro e w1 ⟨rfl, rfl⟩
  go_wp2_with fail
  go_ret
  exact ⟨rfl, HB.out⟩
theorem has_nil (id : Int) (w : World) : Calls Try.prog 15 #[.pointer none, .int .i64 id] w fun e w' => e = .returned (.bool false) ∧ Below w.heap.size w w' := by
  have b1 := Blk.new (w.alloc (.cells #[.int .i64 id] 3)) 4 #[.bool false]
  have B1 := (Below.refl w.heap.size w).alloc (Nat.le_refl _) (.cells #[.int .i64 id] 3)
  have B2 := B1.alloc B1.size (.cells #[.bool false] 4)
  have s1 : (w.alloc (.cells #[.int .i64 id] 3)).heap.size = w.heap.size + 1 := by simp
  rw [s1] at b1
  have c0 := b1.cell 0
  have HB := Lib.hid B2
  clear b1 B1 B2 s1
  go_enter Try.func15, Try.ntmps15
  go_wp2_with fail
  refine (each_nil _ _ _).mono ?_
  rintro e w1 ⟨rfl, rfl⟩
  go_wp2_with fail
  go_ret
  exact ⟨rfl, HB.out⟩
end Go.Proofs.Ytcoibhmgblicfaa.Ba
/- A base that its caller made; base's calls whose answers the document fixes. No condition. -/
set_option linter.unusedVariables false
set_option linter.unusedSimpArgs false
namespace Go.Proofs.Ytcoibhmgblicfaa.Ba
open Go.RowKit Go.Proofs.Ytcoibhmgblicfaa.Aid Go.Proofs.Ytcoibhmgblicfaa.Tr Go.Proofs.Ytcoibhmgblicfaa.Kt Go.Proofs.Ytcoibhmgblicfaa.Q
structure BSt (w0 W : World) (b : Nat) (P : Nat → QP) (rows : Nat → List Tm) (M : Int) : Prop where
  h : BHas W b P rows M
  bl : Below w0.heap.size w0 W
  f : ∀ x, BF b P x → w0.heap.size ≤ x
section
variable {w0 W W' : World} {b : Nat} {P : Nat → QP} {rows rows' : Nat → List Tm} {M M' : Int}
theorem BSt.call (h : BSt w0 W b P rows M) (k : Below W.heap.size W W') : BSt w0 W' b P rows M := ⟨h.h.below k, h.bl.trans (k.mono h.bl.size), h.f⟩
theorem BSt.alloc (h : BSt w0 W b P rows M) (o : Obj) : BSt w0 (W.alloc o) b P rows M := h.call ((Below.refl _ _).alloc (Nat.le_refl _) o)
theorem BSt.drewN (h : BSt w0 W b P rows M) (n : Nat) : BSt w0 (W.drewN n) b P rows M := ⟨h.h.drewN n, below_drewN h.bl n, h.f⟩
theorem BSt.drew (h : BSt w0 W b P rows M) : BSt w0 W.drew b P rows M := h.drewN 1
theorem BSt.goes (h : BSt w0 W b P rows M) (k : BHas W' b P rows' M') (o : Only (BF b P) W W') : BSt w0 W' b P rows' M' := ⟨k, Only.under h.bl o h.f h.bl.size, h.f⟩
theorem BSt.mono (h : BSt w0 W b P rows M) (hM : M ≤ M') : BSt w0 W b P rows M' := ⟨h.h.mono hM, h.bl, h.f⟩
end
def ta' : Tm := ⟨1, 1, 105, 110, false⟩
def tb' : Tm := ⟨2, 0, 7, 7, true⟩
def tc' : Tm := ⟨0, 3, 0, 0, false⟩
def w0' : Nat → List Tm := fun _ => []
def w1' : Nat → List Tm := startR w0' ta'
def w2' : Nat → List Tm := startR w1' tb'
def o1' : Nat → Int := fun i => if i = 1 then 100 else 0
def o2' : Nat → Int := fun i => if i = 1 then 90 else 0
def o3' : Nat → Int := fun _ => 9
def o4' : Nat → Int := fun i => if i = 1 then 200 else 9
def w3' : Nat → List Tm := expR w2' o4' false
theorem f1 : startE w0' ta' = 0 := by kernel_rfl
theorem f2 : startE w1' tb' = 0 := by kernel_rfl
theorem f3 : nxU w2' o1' false 6 = 5 := by kernel_rfl
theorem f4 : nxU w2' o2' true 6 = 7 := by kernel_rfl
theorem f5 : dueU w2' o3' true = true := by kernel_rfl
theorem f6 : rowsU (expT w2' o4' false) 6 = [ta'] := by kernel_rfl
theorem f7 : hasB w3' 2 = true := by kernel_rfl
theorem f8 : hasT (w3' 0) 2 = false ∧ hasT (w3' 2) 2 = false ∧ hasT (w3' 3) 2 = false ∧ hasT (w3' 4) 2 = false ∧ hasT (w3' 5) 2 = false := ⟨by kernel_rfl, by kernel_rfl, by kernel_rfl, by kernel_rfl, by kernel_rfl⟩
def w4' : Nat → List Tm := fun j => if j = 1 then delT (w3' 1) 2 else w3' j
theorem f9 : lenU w4' 6 = 0 := by kernel_rfl
theorem f10 : startE w4' tc' = 2 := by kernel_rfl
theorem f11 : startR w4' tc' = w4' := by funext j; unfold startR; rw [f10]; rfl
set_option maxHeartbeats 8000000 in
set_option maxRecDepth 100000 in
theorem bfixed_any (w : World) : Calls Try.prog 5 #[] w fun e w' => e = .returned (.bool true) ∧ Below w.heap.size w w' := by
  go_enter Try.func5, Try.ntmps5
  go_wp2_with fail
  refine (new_any w).mono ?_
  rintro e W0 ⟨b, P, rfl, h0, g0, b0⟩
  have L0 := Lib.hid (show BSt w W0 b P w0' 0 from ⟨h0, b0, g0⟩)
  clear h0 g0 b0
  have HC1 := Lib.hid (show Calls Try.prog 8 #[.pointer (some ⟨b, 0, none⟩), .agg #[.int .i64 1, .int .i64 1, .int .i64 105, .int .i64 110, .bool false]] W0 fun e w' => e = .returned (.int .i64 0) ∧ BHas w' b P w1' 1 ∧ Only (BF b P) W0 w' from start_any W0 L0.out.h ta' (i64s _ (by decide)) (by omega))
  go_wp2_with fail
  refine HC1.out.mono ?_
  rintro e W1 ⟨rfl, h1, o1⟩
  have L1 := Lib.hid (L0.out.goes h1 o1)
  clear L0 HC1 h1 o1
  have HC1 := Lib.hid (show Calls Try.prog 8 #[.pointer (some ⟨b, 0, none⟩), .agg #[.int .i64 2, .int .i64 0, .int .i64 7, .int .i64 7, .bool true]] W1 fun e w' => e = .returned (.int .i64 0) ∧ BHas w' b P w2' 2 ∧ Only (BF b P) W1 w' from start_any W1 L1.out.h tb' (i64s _ (by decide)) (by omega))
  go_wp2_with fail
  refine HC1.out.mono ?_
  rintro e W2 ⟨rfl, h1, o1⟩
  have L2 := L1.out.goes h1 o1
  clear L1 HC1 h1 o1
  have hx := Blk.new W2 23 #[.int .i64 0, .int .i64 100, .int .i64 0]
  have L3 := Lib.hid (L2.alloc (.cells #[.int .i64 0, .int .i64 100, .int .i64 0] 23))
  have hxf : ¬ BF b P W2.heap.size := fun e => Nat.lt_irrefl _ (L2.h.foot_lt e)
  have hxb : w.heap.size ≤ W2.heap.size := L2.bl.size
  clear L2
  go_upto_region 5 with fail
  generalize W2.alloc (.cells #[.int .i64 0, .int .i64 100, .int .i64 0] 23) = W3 at hx L3 ⊢
  generalize W2.heap.size = gx at hx hxf hxb ⊢
  have x0 := hx.cell 0
  have x1 := hx.cell 1
  have x2 := hx.cell 2
  have HX := Lib.hid (And.intro hx (And.intro hxf hxb))
  clear hx hxf hxb
  have HC1 := Lib.hid (show Calls Try.prog 17 #[.pointer (some ⟨b, 0, none⟩), .agg #[.int .i64 0, .int .i64 100, .int .i64 0], .bool false] W3 fun e w' => e = .returned (.int .i64 5) ∧ Below W3.heap.size W3 w' from next_any W3 L3.out.h o1' false)
  go_wp2_with fail
  refine HC1.out.mono ?_
  rintro e W4 ⟨rfl, b4⟩
  have L4 := Lib.hid (L3.out.call b4)
  have X4 := Lib.hid (HX.out.1.below b4 HX.out.1.lt)
  clear L3 HC1 b4 x0 x1 x2
  have HC1 := Lib.hid (show Calls Try.prog 17 #[.pointer (some ⟨b, 0, none⟩), .agg #[.int .i64 0, .int .i64 90, .int .i64 0], .bool true] W4 fun e w' => e = .returned (.int .i64 7) ∧ Below W4.heap.size W4 w' from next_any W4 L4.out.h o2' true)
  go_wp2_with fail
  refine HC1.out.mono ?_
  rintro e W5 ⟨rfl, b5⟩
  have L5 := Lib.hid (L4.out.call b5)
  have X5 := Lib.hid (X4.out.below b5 X4.out.lt)
  clear L4 X4 HC1 b5
  have HC1 := Lib.hid (show Calls Try.prog 11 #[.pointer (some ⟨b, 0, none⟩), .agg #[.int .i64 9, .int .i64 9, .int .i64 9], .bool true] W5 fun e w' => e = .returned (.bool true) ∧ Below W5.heap.size W5 w' from bdue_any W5 L5.out.h o3' true)
  go_wp2_with fail
  refine HC1.out.mono ?_
  rintro e W6 ⟨rfl, b6⟩
  have L6 := Lib.hid (L5.out.call b6)
  have X6 := Lib.hid (X5.out.below b6 X5.out.lt)
  clear L5 X5 HC1 b6
  have HC1 := expire_any W6 L6.out.h o4' false
  rw [f6] at HC1
  have HC1 := Lib.hid (show Calls Try.prog 12 #[.pointer (some ⟨b, 0, none⟩), .agg #[.int .i64 9, .int .i64 200, .int .i64 9], .bool false] W6 fun e w' => ∃ v, e = .returned v ∧ BHas w' b P w3' 2 ∧ w'.ownsRow (W6.heap.size + 3) 29 5 v 1 (tmc [ta']) ∧ Only (BF b P) W6 w' from HC1)
  go_wp2_with fail
  refine HC1.out.mono ?_
  rintro e W7 ⟨v7, rfl, h7, ow, o7⟩
  have hb6 : ∀ x, BF b P x → x < W6.heap.size := fun x hx => L6.out.h.foot_lt hx
  have L7 := Lib.hid (L6.out.goes h7 o7)
  have X7 := Lib.hid (o7.blk X6.out HX.out.2.1)
  have hov := fun bb hb => (own_block (b := bb) ow hb)
  obtain ⟨A7, p7, rfl⟩ := own_parts ow
  have hA : ∃ q, A7 = some ⟨q, 0, none⟩ := by
    obtain ⟨_, ⟨_, h1⟩ | ⟨q, cap, cur, e, _⟩⟩ := ow
    · cases h1
    · injection e with e1; exact ⟨q, e1⟩
  obtain ⟨q, rfl⟩ := hA
  have r7 := Lib.hid (And.intro ow (hov q rfl))
  clear L6 X6 HC1 h7 o7 ow hov
  have HC1 := Lib.hid (cancel_any W7 L7.out.h 2 (i64s _ (by decide)))
  go_wp2_with fail
  refine HC1.out.mono ?_
  rintro e W8 ⟨t8, ok8, rfl, hc8, o8⟩
  have hz : ok8 = true ∧ BHas W8 b P w4' 2 := by
    cases hc8 with
    | no h1 h2 => rw [f7] at h1; cases h1
    | yes i h1 h2 h3 h4 =>
      obtain ⟨g0, g2, g3, g4, g5⟩ := f8
      rcases (by omega : i = 0 ∨ i = 1 ∨ i = 2 ∨ i = 3 ∨ i = 4 ∨ i = 5) with rfl | rfl | rfl | rfl | rfl | rfl
      · rw [g0] at h2; cases h2
      · exact ⟨rfl, h4⟩
      · rw [g2] at h2; cases h2
      · rw [g3] at h2; cases h2
      · rw [g4] at h2; cases h2
      · rw [g5] at h2; cases h2
  obtain ⟨rfl, h8⟩ := hz
  have L8 := L7.out.goes h8 o8
  have X8 := o8.blk X7.out HX.out.2.1
  have hqn : ¬ BF b P q := fun e => by have := hb6 q e; have := r7.out.2.1; omega
  have ow8 := own_same r7.out.1 (w' := W8) fun bb hb => o8.block bb (own_block r7.out.1 hb).2 (by injection hb with hb; subst hb; exact hqn)
  have L9 := L8.alloc (.cells t8.cells 29)
  have X9 := X8.alloc (.cells t8.cells 29)
  have ow9 := own_alloc ow8 (.cells t8.cells 29)
  have c9 := own_cell ow9 (j := 0) (u := .int .i64 1) rfl
  have HL := Lib.hid (And.intro L9 X9)
  clear HC1 hc8 h8 o8 L8 X8 L9 X9 ow8 ow9 L7 X7 hb6 r7 hqn
  unfold Tm.agg
  unfold Tm.cells at HL c9
  go_upto_region 10 with fail
  generalize W8.alloc (.cells #[.int .i64 t8.id, .int .i64 t8.clock, .int .i64 t8.soft, .int .i64 t8.hard, .bool t8.lazy] 29) = W9 at HL c9 ⊢
  have HC1 := len_any W9 HL.out.1.h
  rw [f9] at HC1
  have HC1 := Lib.hid HC1
  go_wp2_with fail
  refine HC1.out.mono ?_
  rintro e Wa ⟨rfl, ba⟩
  have La := Lib.hid (HL.out.1.call ba)
  have Xa := Lib.hid (HL.out.2.below ba HL.out.2.lt)
  clear HC1 ba HL c9
  have HC1 := start_any Wa La.out.h tc' (i64s _ (by decide)) (by omega)
  rw [f10, f11] at HC1
  have HC1 := Lib.hid (show Calls Try.prog 8 #[.pointer (some ⟨b, 0, none⟩), .agg #[.int .i64 0, .int .i64 3, .int .i64 0, .int .i64 0, .bool false]] Wa fun e w' => e = .returned (.int .i64 2) ∧ BHas w' b P w4' 3 ∧ Only (BF b P) Wa w' from HC1)
  go_wp2_with fail
  refine HC1.out.mono ?_
  rintro e Wb ⟨rfl, hb, ob⟩
  have Lb := Lib.hid (La.out.goes hb ob)
  have Xb := Lib.hid (ob.blk Xa.out HX.out.2.1)
  clear La Xa HC1 hb ob
  have HC1 := Lib.hid (show Calls Try.prog 8 #[.pointer none, .agg #[.int .i64 0, .int .i64 0, .int .i64 0, .int .i64 0, .bool false]] Wb fun e w' => e = .returned (.int .i64 1) ∧ Below Wb.heap.size Wb w' from start_nil zeroT Wb)
  go_wp2_with fail
  refine HC1.out.mono ?_
  rintro e Wc ⟨rfl, bc⟩
  have Lc := Lib.hid (Lb.out.call bc)
  have xc := Xb.out.below bc Xb.out.lt
  clear HC1 Lb Xb bc
  have x0 := xc.cell 0
  have x1 := xc.cell 1
  have x2 := xc.cell 2
  have HC1 := Lib.hid (show Calls Try.prog 17 #[.pointer none, .agg #[.int .i64 0, .int .i64 100, .int .i64 0], .bool true] Wc fun e w' => e = .returned (.int .i64 4611686018427387903) ∧ Below Wc.heap.size Wc w' from next_nil o1' true Wc)
  clear xc
  go_wp2_with fail
  refine HC1.out.mono ?_
  rintro e Wd ⟨rfl, bd⟩
  have Ld := Lib.hid (Lc.out.call bd)
  clear HC1 bd Lc x0 x1 x2
  have HC1 := Lib.hid (has_nil 1 Wd)
  go_wp2_with fail
  refine HC1.out.mono ?_
  rintro e We ⟨rfl, be⟩
  have Le := Lib.hid (Ld.out.call be)
  clear HC1 be Ld
  go_wp2_with fail
  go_ret
  exact ⟨rfl, Le.out.bl⟩
end Go.Proofs.Ytcoibhmgblicfaa.Ba
/- Arguments that are structs, arrays, and slices of those, whose innermost parts are ints and bools: what their cells hold. Plain theorems over any program; no condition. -/
set_option linter.unusedVariables false
namespace Go.Proofs.Ytcoibhmgblicfaa.Leaf
open Go.RowKit Go.ChangeShapes Go.WideShapes Go.Deep
inductive Lf where
  | int (k : IntKind)
  | bool
def Lf.fits : Lf → Value → Prop
  | .int k, v => ∃ n, v = .int k n ∧ (Lit.int k n).wf = true
  | .bool, v => ∃ b, v = .bool b
inductive Fits : List Lf → List Value → Prop where
  | nil : Fits [] []
  | cons {l : Lf} {v : Value} {ls : List Lf} {vs : List Value} : l.fits v → Fits ls vs → Fits (l :: ls) (v :: vs)
theorem Fits.length {ls : List Lf} {vs : List Value} (h : Fits ls vs) : vs.length = ls.length := by
  induction h with
  | nil => rfl
  | cons _ _ ih => simp [ih]
theorem Fits.append {a b : List Lf} {x y : List Value} (h : Fits a x) (k : Fits b y) : Fits (a ++ b) (x ++ y) := by
  induction h with
  | nil => simpa using k
  | cons h1 _ ih => exact .cons h1 ih
theorem Fits.int {k : IntKind} {ls : List Lf} {vs : List Value} (h : Fits (.int k :: ls) vs) : ∃ n r, vs = .int k n :: r ∧ (Lit.int k n).wf = true ∧ Fits ls r := by
  cases h with
  | cons h1 h2 =>
    obtain ⟨n, rfl, hw⟩ := h1
    exact ⟨n, _, rfl, hw, h2⟩
theorem Fits.bool {ls : List Lf} {vs : List Value} (h : Fits (.bool :: ls) vs) : ∃ b r, vs = .bool b :: r ∧ Fits ls r := by
  cases h with
  | cons h1 h2 =>
    obtain ⟨b, rfl⟩ := h1
    exact ⟨b, _, rfl, h2⟩
theorem Fits.done {vs : List Value} (h : Fits [] vs) : vs = [] := by cases h; rfl
def leavesFs (g : TypeId → Option (List Lf)) (c : TypeId → Nat) : Nat → List Field → Option (List Lf)
  | _, [] => some []
  | acc, f :: fs => (g f.type).bind fun l => if f.offset = acc ∧ c f.type = l.length then (leavesFs g c (acc + l.length) fs).map (l ++ ·) else none
def leaves (P : Program) : Nat → TypeId → Option (List Lf)
  | 0, _ => none
  | n + 1, t => match P.underlying t with
    | some (.int k) => some [.int k]
    | some .bool => some [.bool]
    | some (.array m e) => (leaves P n e).bind fun l => if P.cellsOf e = l.length ∧ P.cellsOf t = m * l.length then some (List.replicate m l).flatten else none
    | some (.struct fs) => (leavesFs (leaves P n) P.cellsOf 0 fs.toList).bind fun l => if P.cellsOf t = l.length then some l else none
    | _ => none
theorem fits_fields {g : TypeId → Option (List Lf)} {c : TypeId → Nat} {cs : List Value} (fs : List Field) : ∀ (acc : Nat) (ls : List Lf), leavesFs g c acc fs = some ls →
    (∀ f ∈ fs, ∀ l, g f.type = some l → Fits l ((cs.drop f.offset).take (c f.type))) → Fits ls ((cs.drop acc).take ls.length) := by
  induction fs with
  | nil =>
    intro acc ls h _
    simp only [leavesFs, Option.some.injEq] at h
    subst h
    simpa using Fits.nil
  | cons f fs ih =>
    intro acc ls h hf
    simp only [leavesFs] at h
    obtain ⟨l, hl, h⟩ := Option.bind_eq_some_iff.1 h
    by_cases hc : f.offset = acc ∧ c f.type = l.length
    · rw [if_pos hc] at h
      obtain ⟨l', hl', rfl⟩ := Option.map_eq_some_iff.1 h
      have h1 := hf f List.mem_cons_self l hl
      rw [hc.1, hc.2] at h1
      have h2 := ih (acc + l.length) l' hl' (fun f' hf' => hf f' (List.mem_cons_of_mem _ hf'))
      rw [List.length_append, List.take_add, List.drop_drop]
      exact h1.append h2
    · rw [if_neg hc] at h
      cases h
theorem fits_array {l : List Lf} {cs : List Value} (m : Nat) (h : ∀ i, i < m → Fits l ((cs.drop (i * l.length)).take l.length)) : Fits (List.replicate m l).flatten (cs.take (m * l.length)) := by
  induction m with
  | zero => simpa using Fits.nil
  | succ m ih =>
    have h1 := ih (fun i hi => h i (by omega))
    have h2 := h m (by omega)
    rw [List.replicate_succ', List.flatten_append, Nat.succ_mul, List.take_add]
    simpa using h1.append h2
theorem leaves_fit {H : Type} {enc : TypeId × Value → H} {P : Program} {w : World} {base : Nat} {spare : Nat → Bool} {held : Bool} (n : Nat) : ∀ {t : TypeId} {ls : List Lf} {fuel : Nat} {cs : List Value} {x : DataW H × List MemPlace},
    leaves P n t = some ls → DataW.trod enc P w base spare held fuel t cs = some x → Fits ls cs := by
  induction n with
  | zero => intro t ls fuel cs x h; simp [leaves] at h
  | succ n ih =>
    intro t ls fuel cs x h ht
    unfold leaves at h
    split at h
    · next k hu =>
      obtain ⟨m, rfl, _, hw⟩ := DataW.trod_int hu ht
      simp only [Option.some.injEq] at h
      subst h
      exact .cons ⟨m, rfl, hw⟩ .nil
    · next hu =>
      obtain ⟨b, rfl, _⟩ := DataW.trod_bool hu ht
      simp only [Option.some.injEq] at h
      subst h
      exact .cons ⟨b, rfl⟩ .nil
    · next m e hu =>
      obtain ⟨l, hl, h⟩ := Option.bind_eq_some_iff.1 h
      by_cases hc : P.cellsOf e = l.length ∧ P.cellsOf t = m * l.length
      · rw [if_pos hc] at h
        simp only [Option.some.injEq] at h
        subst h
        obtain ⟨xs, m', _, _, hlen, hxl, hat⟩ := DataW.trod_array hu ht
        have := fits_array (cs := cs) m (fun i hi => by
          have h1 := hat i hi
          rw [hc.1] at h1
          have hx : xs[i]? = some (xs[i]'(by omega)) := List.getElem?_eq_getElem (by omega)
          exact ih hl (h1.trans hx))
        rwa [List.take_of_length_le (by rw [hlen, hc.2]; exact Nat.le_refl _)] at this
      · rw [if_neg hc] at h; cases h
    · next fs hu =>
      obtain ⟨l, hl, h⟩ := Option.bind_eq_some_iff.1 h
      by_cases hc : P.cellsOf t = l.length
      · rw [if_pos hc] at h
        simp only [Option.some.injEq] at h
        subst h
        obtain ⟨xs, m', _, _, hlen, hxl, hat⟩ := DataW.trod_struct hu ht
        have := fits_fields (cs := cs) fs.toList 0 l hl (fun f hf l' hl' => by
          obtain ⟨i, hi, rfl⟩ := List.mem_iff_getElem.1 hf
          have hi' : i < fs.size := by simpa using hi
          have h1 := hat i fs[i] (by simp [hi'])
          have hx : xs[i]? = some (xs[i]'(by omega)) := List.getElem?_eq_getElem (by omega)
          have h2 := ih (t := fs[i].type) (by simpa using hl') (h1.trans hx)
          simpa using h2)
        rwa [List.drop_zero, List.take_of_length_le (by rw [hlen, hc]; exact Nat.le_refl _)] at this
      · rw [if_neg hc] at h; cases h
    · cases h
/-- a slice that came in: at each place the cells of one element -/
def Row (w : World) (ls : List Lf) (A : Option Addr) (n : Nat) : Prop :=
  n = 0 ∨ ∃ x, ∃ E : Nat → List Value, A = some x ∧ x.block < w.heap.size ∧ n ≤ maxLen ∧ ∀ k, k < n → Fits ls (E k) ∧ ∀ j, j < ls.length → w.cell? (x.add (k * ls.length + j)) = (E k)[j]?
theorem open_row {H : Type} {enc : TypeId × Value → H} {P : Program} {w : World} {base : Nat} {spare : Nat → Bool} {held : Bool} {t e : TypeId} {A : Option Addr} {len cap : Nat} {d : DataW H} {p : List MemPlace} {ls : List Lf} (k : Nat)
    (ht : P.underlying t = some (.slice e)) (hl : leaves P k e = some ls) (hc : P.cellsOf e = ls.length) (hpos : 0 < ls.length) (h : DataW.Trod enc P w base spare held t (.slice A len cap) d p) : Row w ls A len := by
  obtain ⟨fuel, h⟩ := h
  rcases open_slice ht h with ⟨hcs, _⟩ | ⟨a, len', cap', m, n, D, Pl, hcs, hb, hll, hm, hmm, hx, hi⟩
  · simp [Value.cells] at hcs
    exact .inl hcs.2.1
  · simp [Value.cells] at hcs
    obtain ⟨rfl, rfl, rfl⟩ := hcs
    by_cases h0 : len = 0
    · exact .inl h0
    have hlm : len ≤ m := by rw [hmm]; split <;> omega
    have each : ∀ i, i < len → ∃ cs', Fits ls cs' ∧ ∀ j, j < ls.length → w.cell? (a.add (i * ls.length + j)) = cs'[j]? := by
      intro i hi'
      obtain ⟨cs', hcell, ht'⟩ := hi i (by omega)
      obtain ⟨_, hcl, hat⟩ := World.cells?_some hcell
      refine ⟨cs', leaves_fit k hl ht', fun j hj => ?_⟩
      rw [← hat j (by omega), hc, Go.Deep.add_add]
    refine .inr ⟨a, fun i => if hi' : i < len then (each i hi').choose else [], rfl, ?_, by omega, fun i hi' => ?_⟩
    · obtain ⟨cs', hf, hat⟩ := each 0 (by omega)
      have := hat 0 hpos
      have hl0 : 0 < cs'.length := by rw [hf.length]; exact hpos
      rw [List.getElem?_eq_getElem hl0] at this
      have := block_lt_of_cell this
      unfold Addr.add at this
      split at this <;> exact this
    · simp only [hi', dif_pos]
      exact (each i hi').choose_spec
theorem open_flat {H : Type} {enc : TypeId × Value → H} {P : Program} {w : World} {base b0 : Nat} {spare : Nat → Bool} {held : Bool} {r : Reach} {t : TypeId} {fs : Array Field} {v : Value} {d : DataW H} {p : List MemPlace} {ls : List Lf} (k : Nat)
    (hs : P.underlying t = some (.struct fs)) (hl : leaves P k t = some ls) (hv : Value.okWide P w r b0 t v) (h : DataW.Trod enc P w base spare held t v d p) : ∃ cs, v = .agg cs ∧ Fits ls cs.toList := by
  obtain ⟨cs, rfl, hsz⟩ := okWide_struct hs hv
  obtain ⟨fuel, h⟩ := h
  exact ⟨cs, rfl, leaves_fit k hl h⟩
/-- the cells of element k, told one by one -/
theorem cell_of {w : World} {x : Addr} {k c j : Nat} {E : List Value} {v : Value} (h : ∀ j, j < c → w.cell? (x.add (k * c + j)) = E[j]?) (hj : j < c) (hv : E[j]? = some v) :
    w.cell? (if j = 0 then x.add (k * c) else ⟨(x.add (k * c)).block, (x.add (k * c)).off + j, none⟩) = some v := by
  rw [← hv, ← h j hj, ← Go.Deep.add_add]
  congr 1
end Go.Proofs.Ytcoibhmgblicfaa.Leaf
/- QueuePlays: what stands from round to round, in plain Lean. No condition. -/
set_option linter.unusedVariables false
set_option linter.unusedSimpArgs false
namespace Go.Proofs.Ytcoibhmgblicfaa.Q
open Go.RowKit Go.Proofs.Ytcoibhmgblicfaa.Aid Go.Proofs.Ytcoibhmgblicfaa.Tr Go.Proofs.Ytcoibhmgblicfaa.Kt
/-- an act: its kind, a timer, a time -/
structure QA where
  kind : Int
  t : Tm
  now : Int
def QA.cells (a : QA) : Array Value := #[.int .u8 a.kind, .int .i64 a.t.id, .int .i64 a.t.clock, .int .i64 a.t.soft, .int .i64 a.t.hard, .bool a.t.lazy, .int .i64 a.now]
def ActQ (w : World) (x : Addr) (a : QA) : Prop := w.cell? x = some (.int .u8 a.kind) ∧ w.cell? ⟨x.block, x.off + 1, none⟩ = some (.int .i64 a.t.id) ∧ w.cell? ⟨x.block, x.off + 2, none⟩ = some (.int .i64 a.t.clock) ∧ w.cell? ⟨x.block, x.off + 3, none⟩ = some (.int .i64 a.t.soft) ∧ w.cell? ⟨x.block, x.off + 4, none⟩ = some (.int .i64 a.t.hard) ∧ w.cell? ⟨x.block, x.off + 5, none⟩ = some (.bool a.t.lazy) ∧ w.cell? ⟨x.block, x.off + 6, none⟩ = some (.int .i64 a.now)
/-- the acts that came in, as they read whenever nothing old has changed -/
def ActsQ (w : World) (B : Nat) (A : Option Addr) (n : Nat) : Prop := ∀ k, k < n → ∃ x, A = some x ∧ ∃ a : QA, (0 ≤ a.kind ∧ a.kind ≤ 255) ∧ I64 a.t.id ∧ ∀ w', Below B w w' → ActQ w' (x.add (k * 7)) a
theorem i64_of {n : Int} (h : -9223372036854775808 ≤ n ∧ n ≤ 9223372036854775807) : I64 n := h
theorem actsQ_of {w : World} {A : Option Addr} {n : Nat} (h : Leaf.Row w [.int .u8, .int .i64, .int .i64, .int .i64, .int .i64, .bool, .int .i64] A n) : ActsQ w w.heap.size A n := by
  intro k hk
  rcases h with rfl | ⟨x, E, rfl, hx, _, hE⟩
  · omega
  obtain ⟨hf, hc⟩ := hE k hk
  obtain ⟨k0, r0, e0, w0, f0⟩ := hf.int
  obtain ⟨k1, r1, rfl, w1, f1⟩ := f0.int
  obtain ⟨k2, r2, rfl, w2, f2⟩ := f1.int
  obtain ⟨k3, r3, rfl, w3, f3⟩ := f2.int
  obtain ⟨k4, r4, rfl, w4, f4⟩ := f3.int
  obtain ⟨k5, r5, rfl, f5⟩ := f4.bool
  obtain ⟨k6, r6, rfl, w6, f6⟩ := f5.int
  obtain rfl := f6.done
  refine ⟨x, rfl, ⟨k0, ⟨k1, k2, k3, k4, k5⟩, k6⟩, bounds_u8 w0, i64_of (bounds_i64 w1), fun w' hb => ?_⟩
  have c := fun j hj v hv => Leaf.cell_of (c := 7) (j := j) (v := v) hc hj hv
  have key : ∀ q : Addr, q.block = x.block → w'.cell? q = w.cell? q := fun q hq => hb.cell (by rw [hq]; exact hx)
  exact ⟨(key _ (add_block _ _)).trans (c 0 (by decide) _ (by rw [e0]; rfl)), (key ⟨(x.add (k * 7)).block, (x.add (k * 7)).off + 1, none⟩ (add_block _ _)).trans (c 1 (by decide) _ (by rw [e0]; rfl)), (key ⟨(x.add (k * 7)).block, (x.add (k * 7)).off + 2, none⟩ (add_block _ _)).trans (c 2 (by decide) _ (by rw [e0]; rfl)), (key ⟨(x.add (k * 7)).block, (x.add (k * 7)).off + 3, none⟩ (add_block _ _)).trans (c 3 (by decide) _ (by rw [e0]; rfl)), (key ⟨(x.add (k * 7)).block, (x.add (k * 7)).off + 4, none⟩ (add_block _ _)).trans (c 4 (by decide) _ (by rw [e0]; rfl)), (key ⟨(x.add (k * 7)).block, (x.add (k * 7)).off + 5, none⟩ (add_block _ _)).trans (c 5 (by decide) _ (by rw [e0]; rfl)), (key ⟨(x.add (k * 7)).block, (x.add (k * 7)).off + 6, none⟩ (add_block _ _)).trans (c 6 (by decide) _ (by rw [e0]; rfl))⟩
/-- what stands in QueuePlays: the queue, and the law's row -/
structure LMd (w0 W : World) (P : QP) (row : List Tm) (base : Nat) (v : Value) (l : List Tm) (M : Int) : Prop where
  s : QSt w0 W P row M
  r : RSl W base v l
  d : (∀ b, P.F b → b < base) ∧ w0.heap.size ≤ base ∧ base ≤ W.heap.size
section
variable {w0 W W' : World} {P : QP} {row row' l l' : List Tm} {base : Nat} {v v' : Value} {M M' : Int}
theorem LMd.call (h : LMd w0 W P row base v l M) (b : Below W.heap.size W W') : LMd w0 W' P row base v l M := ⟨h.s.call b, rsl_below h.r b, h.d.1, h.d.2.1, Nat.le_trans h.d.2.2 b.size⟩
theorem LMd.alloc (h : LMd w0 W P row base v l M) (o : Obj) : LMd w0 (W.alloc o) P row base v l M := h.call ((Below.refl _ _).alloc (Nat.le_refl _) o)
theorem LMd.drewN (h : LMd w0 W P row base v l M) (n : Nat) : LMd w0 (W.drewN n) P row base v l M := ⟨h.s.drewN n, rsl_drewN h.r n, h.d⟩
theorem LMd.drew (h : LMd w0 W P row base v l M) : LMd w0 W.drew P row base v l M := h.drewN 1
theorem LMd.goes (h : LMd w0 W P row base v l M) (k : QHas W' P row' M') (o : Only P.F W W') : LMd w0 W' P row' base v l M' :=
  ⟨h.s.goes k o, rsl_only h.r o (fun b hb hF => by have := h.d.1 b hF; omega), h.d.1, h.d.2.1, Nat.le_trans h.d.2.2 o.size⟩
theorem LMd.rowed (h : LMd w0 W P row base v l M) (r : RSl W base v' l') : LMd w0 W P row base v' l' M := ⟨h.s, r, h.d⟩
theorem LMd.mono (h : LMd w0 W P row base v l M) (hM : M ≤ M') : LMd w0 W P row base v l M' := ⟨⟨h.s.q.mono hM, h.s.b, h.s.f⟩, h.r, h.d⟩
theorem LMd.stands (h : LMd w0 W P row base v l M) : Stands (fun W' => LMd w0 W' P row base v l M ∧ W.heap.size ≤ W'.heap.size) W.heap.size := by
  have hv : ∀ b, v.ownBlock = some b → b < W.heap.size := fun b hb => (rsl_block h.r hb).2
  have hF : ∀ b, P.F b → b < W.heap.size := fun b hb => h.s.q.foot_lt hb
  refine ⟨fun W' h' => h'.2, fun W' o h' => ⟨h'.1.alloc o, by simp; omega⟩, fun W' h' => ⟨h'.1.drew, h'.2⟩, fun W1 W2 row1 h' g' hr => ?_⟩
  have ne : ∀ b, b < W.heap.size → some b ≠ row1 := fun b hb e => by have := hr b e.symm; omega
  have d := h'.1.d
  have d0 := h.d
  have sz := g'.size
  refine ⟨⟨⟨h'.1.s.q.same fun b hb => g'.block b (h'.1.s.q.foot_lt hb) (ne b (hF b hb)), ?_, h'.1.s.f⟩, rsl_same h'.1.r fun b hb => g'.block b (rsl_block h'.1.r hb).2 (ne b (hv b hb)), d.1, d.2.1, by omega⟩, by omega⟩
  exact h'.1.s.b.grown g' h'.1.s.b.size (fun k hk => by have := hr k hk; omega)
end
/-- where it is in a row, and whether -/
theorem plc_no {row : List Tm} {id r : Int} (h : PlcIs row id r) (hn : hasT row id = false) : r = -1 := by
  rcases h with ⟨h, _⟩ | ⟨k, b, rfl, hk, hb, e⟩
  · exact h
  · have : hasT row id = true := List.any_eq_true.2 ⟨b, List.mem_of_getElem? hb, decide_eq_true e⟩
    rw [hn] at this; cases this
theorem split_at {α : Type} {l : List α} {k : Nat} {b : α} (h : l[k]? = some b) : l = l.take k ++ b :: l.drop (k + 1) := by
  have hk : k < l.length := (List.getElem?_eq_some_iff.1 h).1
  have h1 := (List.take_append_drop k l).symm
  rw [List.drop_eq_getElem_cons hk] at h1
  have h2 : l[k] = b := by rw [List.getElem?_eq_getElem hk] at h; injection h
  rw [h2] at h1
  exact h1
theorem plc_yes {row : List Tm} {id r : Int} (h : PlcIs row id r) (hd : (row.map Tm.id).Nodup) (hy : hasT row id = true) : ∃ k : Nat, r = k ∧ k < row.length ∧ row[k]? = some (getT row id) ∧ delT row id = row.take k ++ row.drop (k + 1) := by
  rcases h with ⟨_, hn⟩ | ⟨k, b, rfl, hk, hb, e⟩
  · obtain ⟨b, hb, e⟩ := List.any_eq_true.1 hy
    exact absurd (of_decide_eq_true e) (hn b hb)
  · have hs := split_at hb
    have h1 : ∀ c, c ∈ row.take k → ¬ (decide (c.id = id)) = true := fun c hc e' => by
      rw [hs, List.map_append, List.map_cons, List.nodup_append] at hd
      exact hd.2.2 c.id (List.mem_map.2 ⟨c, hc, rfl⟩) b.id (by simp) ((of_decide_eq_true e').trans e.symm)
    have h2 : getT row id = b := by
      unfold getT
      rw [hs, List.find?_append, List.find?_eq_none.2 h1, Option.none_or, List.find?_cons_of_pos (by simp [e])]
      rfl
    refine ⟨k, rfl, hk, by rw [h2]; exact hb, ?_⟩
    have h3 : delT (row.take k ++ b :: row.drop (k + 1)) id = row.take k ++ row.drop (k + 1) := by
      unfold delT
      rw [List.eraseP_append_right _ h1, List.eraseP_cons_of_pos (by simp [e])]
    rw [← hs] at h3
    exact h3
theorem hasT_mem {row : List Tm} {a : Tm} (h : a ∈ row) : hasT row a.id = true := List.any_eq_true.2 ⟨a, h, decide_eq_true rfl⟩
theorem insT_len (a : Tm) (l : List Tm) : (insT a l).length = l.length + 1 := by
  have := atT_le a l
  unfold insT
  simp only [List.length_append, List.length_take, List.length_cons, List.length_drop]
  omega
theorem delT_no {row : List Tm} {id : Int} (h : hasT row id = false) : delT row id = row := by
  refine List.eraseP_of_forall_not fun b hb e => ?_
  have : hasT row id = true := List.any_eq_true.2 ⟨b, hb, e⟩
  rw [h] at this; cases this
def QRl (w0 : World) (P : QP) (base N : Nat) (m : Nat) (s4 s27 : Value) (wr : World) : Prop :=
  ∃ (k : Nat) (row : List Tm), k ≤ N ∧ m = N - k ∧ s27 = .int .i64 k ∧ LMd w0 wr P row base s4 row k
def QCut (w0 : World) (P : QP) (base k : Nat) (s4 : Value) (wx : World) : Prop := ∃ row, LMd w0 wx P row base s4 row (k + 1 : Nat)
def QIn (w0 : World) (P : QP) (row : List Tm) (base : Nat) (v v14 : Value) (M : Int) (m : Nat) (s186 : Value) (wr : World) : Prop :=
  ∃ j : Nat, j ≤ row.length ∧ m = row.length - j ∧ s186 = .int .i64 j ∧ LMd w0 wr P row base v row M ∧ RSl wr base v14 row
end Go.Proofs.Ytcoibhmgblicfaa.Q
/- A base's rows as one row: what comes, what goes, what is due. Plain Lean, no program in sight; no condition. -/
set_option linter.unusedVariables false
set_option linter.unusedSimpArgs false
namespace Go.Proofs.Ytcoibhmgblicfaa.Ba
open Go.RowKit Go.Proofs.Ytcoibhmgblicfaa.Aid Go.Proofs.Ytcoibhmgblicfaa.Tr Go.Proofs.Ytcoibhmgblicfaa.Kt Go.Proofs.Ytcoibhmgblicfaa.Q
/-- does one stand ahead of another, or with it? -/
def bef (a t : Tm) : Bool := if a.clock ≠ t.clock then decide (a.clock < t.clock) else if a.lazy ≠ t.lazy then !a.lazy else decide (cl a.soft ≤ cl t.soft)
def atB (t : Tm) (l : List Tm) : Nat := (l.takeWhile (fun a => bef a t)).length
def putB (t : Tm) (l : List Tm) : List Tm := l.takeWhile (fun a => bef a t) ++ t :: l.dropWhile (fun a => bef a t)
theorem atB_le (t : Tm) (l : List Tm) : atB t l ≤ l.length := (List.takeWhile_sublist _).length_le
theorem tw_take (p : Tm → Bool) (l : List Tm) : l.takeWhile p = l.take (l.takeWhile p).length ∧ l.dropWhile p = l.drop (l.takeWhile p).length := by
  induction l with
  | nil => exact ⟨rfl, rfl⟩
  | cons a l ih =>
    cases e : p a with
    | true =>
      rw [List.takeWhile_cons_of_pos e, List.dropWhile_cons_of_pos e]
      exact ⟨by rw [List.length_cons, List.take_succ_cons, ← ih.1], by rw [List.length_cons, List.drop_succ_cons]; exact ih.2⟩
    | false =>
      rw [List.takeWhile_cons_of_neg (by simp [e]), List.dropWhile_cons_of_neg (by simp [e])]
      exact ⟨rfl, rfl⟩
theorem putB_at (t : Tm) (l : List Tm) : putB t l = l.take (atB t l) ++ t :: l.drop (atB t l) := by
  obtain ⟨h1, h2⟩ := tw_take (fun a => bef a t) l
  unfold putB atB
  rw [← h1, ← h2]
theorem tw_step (p : Tm → Bool) : ∀ (l : List Tm) (k : Nat) (b : Tm), k ≤ (l.takeWhile p).length → l[k]? = some b → (p b = true ↔ k < (l.takeWhile p).length)
  | [], k, b, _, h => by simp at h
  | a :: l, k, b, hk, h => by
    cases e : p a with
    | true =>
      rw [List.takeWhile_cons_of_pos e] at hk ⊢
      cases k with
      | zero => simp at h; subst h; simp [e]
      | succ k =>
        have := tw_step p l k b (by simpa using hk) (by simpa using h)
        simpa using this
    | false =>
      rw [List.takeWhile_cons_of_neg (by simp [e])] at hk ⊢
      simp at hk
      subst hk
      simp at h
      subst h
      simp [e]
theorem atB_step (t : Tm) (l : List Tm) (k : Nat) (b : Tm) (hk : k ≤ atB t l) (h : l[k]? = some b) : bef b t = true ↔ k < atB t l := tw_step (fun a => bef a t) l k b hk h
theorem insT_sorted {t : Tm} : ∀ {l : List Tm}, l.Pairwise (fun a b => cl a.soft ≤ cl b.soft) → (insT t l).Pairwise (fun a b => cl a.soft ≤ cl b.soft)
  | [], _ => by unfold insT; simp
  | a :: l, h => by
    obtain ⟨h1, h2⟩ := List.pairwise_cons.1 h
    have ih := insT_sorted (t := t) h2
    unfold insT at ih ⊢
    unfold atT
    by_cases e : cl t.soft < cl a.soft
    · rw [if_pos e]
      refine List.pairwise_cons.2 ⟨fun b hb => ?_, h⟩
      rcases List.mem_cons.1 hb with rfl | hb
      · omega
      · have := h1 b hb; omega
    · rw [if_neg e, List.take_succ_cons, List.drop_succ_cons, List.cons_append]
      refine List.pairwise_cons.2 ⟨fun b hb => ?_, ih⟩
      rcases List.mem_append.1 hb with hb | hb
      · exact h1 b (List.mem_of_mem_take hb)
      · rcases List.mem_cons.1 hb with rfl | hb
        · omega
        · exact h1 b (List.mem_of_mem_drop hb)
/-- what the rows hold: each timer in its place, no id twice -/
structure RI (rows : Nat → List Tm) : Prop where
  pl : ∀ j, j < 6 → ∀ t, t ∈ rows j → 0 ≤ t.clock ∧ t.clock < 3 ∧ place t = j
  ids : ((rowsU rows 6).map Tm.id).Nodup
  so : ∀ j, j < 6 → (rows j).Pairwise (fun a b => cl a.soft ≤ cl b.soft)
theorem mem_rowsU {rows : Nat → List Tm} {t : Tm} : ∀ {n : Nat}, t ∈ rowsU rows n ↔ ∃ j, j < n ∧ t ∈ rows j
  | 0 => by simp [rowsU]
  | n + 1 => by
    show t ∈ rowsU rows n ++ rows n ↔ _
    rw [List.mem_append, mem_rowsU]
    constructor
    · rintro (⟨j, hj, h⟩ | h)
      · exact ⟨j, by omega, h⟩
      · exact ⟨n, by omega, h⟩
    · rintro ⟨j, hj, h⟩
      by_cases e : j = n
      · subst e; exact .inr h
      · exact .inl ⟨j, by omega, h⟩
theorem rowsU_congr {rows rows' : Nat → List Tm} : ∀ {n : Nat}, (∀ j, j < n → rows j = rows' j) → rowsU rows n = rowsU rows' n
  | 0, _ => rfl
  | n + 1, h => by
    show rowsU rows n ++ rows n = rowsU rows' n ++ rows' n
    rw [rowsU_congr fun j hj => h j (by omega), h n (by omega)]
theorem RI.sub {rows rows' : Nat → List Tm} (h : RI rows) (hs : ∀ j, (rows' j).Sublist (rows j)) : RI rows' := by
  refine ⟨fun j hj t ht => h.pl j hj t ((hs j).subset ht), ?_, fun j hj => (h.so j hj).sublist (hs j)⟩
  have : ∀ n, (rowsU rows' n).Sublist (rowsU rows n) := by
    intro n
    induction n with
    | zero => exact List.Sublist.refl _
    | succ n ih => exact ih.append (hs n)
  exact h.ids.sublist ((this 6).map _)
theorem RI.nil : RI (fun _ => []) := ⟨fun j _ t ht => absurd ht (by simp), by simp [rowsU], fun j _ => List.Pairwise.nil⟩
theorem bef_lt {a t : Tm} (ha : 0 ≤ a.clock ∧ a.clock < 3) (ht : 0 ≤ t.clock ∧ t.clock < 3) (h : place a < place t) : bef a t = true := by
  unfold place sd at h
  unfold bef
  by_cases e : a.clock = t.clock
  · rw [if_neg (by simp [e])]
    rw [e] at h
    cases ea : a.lazy <;> cases et : t.lazy <;> simp [ea, et] at h ⊢ <;> omega
  · rw [if_pos e]
    refine decide_eq_true ?_
    split at h <;> split at h <;> omega
theorem bef_gt {a t : Tm} (ha : 0 ≤ a.clock ∧ a.clock < 3) (ht : 0 ≤ t.clock ∧ t.clock < 3) (h : place t < place a) : bef a t = false := by
  unfold place sd at h
  unfold bef
  by_cases e : a.clock = t.clock
  · rw [if_neg (by simp [e])]
    rw [e] at h
    cases ea : a.lazy <;> cases et : t.lazy <;> simp [ea, et] at h ⊢ <;> omega
  · rw [if_pos e]
    refine decide_eq_false ?_
    split at h <;> split at h <;> omega
theorem bef_eq {a t : Tm} (ha : 0 ≤ a.clock ∧ a.clock < 3) (ht : 0 ≤ t.clock ∧ t.clock < 3) (h : place a = place t) : bef a t = decide (cl a.soft ≤ cl t.soft) := by
  unfold place sd at h
  unfold bef
  have e : a.clock = t.clock := by split at h <;> split at h <;> omega
  rw [if_neg (by simp [e])]
  rw [e] at h
  have el : a.lazy = t.lazy := by cases ea : a.lazy <;> cases et : t.lazy <;> simp [ea, et] at h ⊢
  rw [if_neg (by simp [el])]
theorem insT_put (t : Tm) : ∀ (l : List Tm) (p : Tm → Bool), (∀ a, a ∈ l → p a = decide (cl a.soft ≤ cl t.soft)) → insT t l = l.takeWhile p ++ t :: l.dropWhile p
  | [], _, _ => rfl
  | a :: l, p, h => by
    have ih := insT_put t l p fun b hb => h b (by simp [hb])
    have ha := h a (by simp)
    unfold insT at ih ⊢
    unfold atT
    by_cases e : cl t.soft < cl a.soft
    · rw [if_pos e]
      have e1 : p a = false := by rw [ha]; exact decide_eq_false (by omega)
      rw [List.takeWhile_cons_of_neg (by simp [e1]), List.dropWhile_cons_of_neg (by simp [e1])]
      rfl
    · rw [if_neg e]
      have e1 : p a = true := by rw [ha]; exact decide_eq_true (by omega)
      rw [List.takeWhile_cons_of_pos e1, List.dropWhile_cons_of_pos e1, List.take_succ_cons, List.drop_succ_cons, List.cons_append, ih]
      rfl
theorem tw_pos {p : Tm → Bool} {A B : List Tm} (h : ∀ a, a ∈ A → p a = true) : (A ++ B).takeWhile p = A ++ B.takeWhile p ∧ (A ++ B).dropWhile p = B.dropWhile p := by
  induction A with
  | nil => exact ⟨rfl, rfl⟩
  | cons a l ih =>
    obtain ⟨i1, i2⟩ := ih fun b hb => h b (by simp [hb])
    have e := h a (by simp)
    exact ⟨by rw [List.cons_append, List.takeWhile_cons_of_pos e, i1]; rfl, by rw [List.cons_append, List.dropWhile_cons_of_pos e, i2]⟩
theorem tw_neg {p : Tm → Bool} {A B : List Tm} (h : ∀ a, a ∈ B → p a = false) : (A ++ B).takeWhile p = A.takeWhile p ∧ (A ++ B).dropWhile p = A.dropWhile p ++ B := by
  induction A with
  | nil =>
    cases B with
    | nil => exact ⟨rfl, rfl⟩
    | cons b l =>
      have e := h b (by simp)
      exact ⟨by rw [List.nil_append, List.takeWhile_cons_of_neg (by simp [e])]; rfl, by rw [List.nil_append, List.dropWhile_cons_of_neg (by simp [e])]; rfl⟩
  | cons a l ih =>
    obtain ⟨i1, i2⟩ := ih
    cases e : p a with
    | true => exact ⟨by rw [List.cons_append, List.takeWhile_cons_of_pos e, List.takeWhile_cons_of_pos e, i1], by rw [List.cons_append, List.dropWhile_cons_of_pos e, List.dropWhile_cons_of_pos e, i2]⟩
    | false => exact ⟨by rw [List.cons_append, List.takeWhile_cons_of_neg (by simp [e]), List.takeWhile_cons_of_neg (by simp [e])], by rw [List.cons_append, List.dropWhile_cons_of_neg (by simp [e]), List.dropWhile_cons_of_neg (by simp [e])]; rfl⟩
/-- a timer comes in its place -/
theorem put_rows {rows : Nat → List Tm} (h : RI rows) {t : Tm} (ht : 0 ≤ t.clock ∧ t.clock < 3) : ∀ n, n ≤ 6 → place t < n → putB t (rowsU rows n) = rowsU (fun j => if j = place t then insT t (rows j) else rows j) n
  | 0, _, hp => by omega
  | n + 1, hn, hp => by
    show putB t (rowsU rows n ++ rows n) = rowsU _ n ++ _
    by_cases e : place t = n
    · have h1 : ∀ a, a ∈ rowsU rows n → bef a t = true := fun a ha => by
        obtain ⟨j, hj, ha⟩ := mem_rowsU.1 ha
        have := h.pl j (by omega) a ha
        exact bef_lt ⟨this.1, this.2.1⟩ ht (by omega)
      obtain ⟨i1, i2⟩ := tw_pos (p := fun a => bef a t) (B := rows n) h1
      have h2 : rowsU (fun j => if j = place t then insT t (rows j) else rows j) n = rowsU rows n := rowsU_congr fun j hj => by rw [if_neg (by omega)]
      unfold putB
      rw [i1, i2, h2]
      show _ = _ ++ (if n = place t then _ else _)
      rw [if_pos e.symm, insT_put t (rows n) (fun a => bef a t) fun a ha => by
        have := h.pl n (by omega) a ha
        exact bef_eq ⟨this.1, this.2.1⟩ ht (by omega)]
      simp
    · have h1 : ∀ a, a ∈ rows n → bef a t = false := fun a ha => by
        have := h.pl n (by omega) a ha
        exact bef_gt ⟨this.1, this.2.1⟩ ht (by omega)
      obtain ⟨i1, i2⟩ := tw_neg (p := fun a => bef a t) (A := rowsU rows n) h1
      have ih := put_rows h ht n (by omega) (by omega)
      unfold putB at ih ⊢
      rw [i1, i2]
      show _ = _ ++ (if n = place t then _ else _)
      rw [if_neg (fun e' => e e'.symm), ← ih]
      simp
theorem has_rows (rows : Nat → List Tm) (id : Int) : hasT (rowsU rows 6) id = hasB rows id := by
  unfold hasT hasB hasT rowsU rowsU rowsU rowsU rowsU rowsU rowsU
  simp only [List.any_append, List.any_nil, Bool.false_or]
theorem hasT_app (l k : List Tm) (id : Int) : hasT (l ++ k) id = (hasT l id || hasT k id) := by unfold hasT; rw [List.any_append]
theorem getT_app (l k : List Tm) (id : Int) : getT (l ++ k) id = if hasT l id then getT l id else getT k id := by
  unfold getT hasT
  rw [List.find?_append]
  cases e : l.find? (fun b => decide (b.id = id)) with
  | none =>
    have : (l.any fun b => decide (b.id = id)) = false := by
      rw [List.find?_eq_none] at e
      refine Bool.eq_false_iff.2 fun h => ?_
      obtain ⟨b, hb, hb'⟩ := List.any_eq_true.1 h
      exact e b hb hb'
    rw [this]; rfl
  | some b =>
    have : (l.any fun b => decide (b.id = id)) = true := List.any_eq_true.2 ⟨b, List.mem_of_find?_eq_some e, List.find?_some (p := fun b : Tm => decide (b.id = id)) e⟩
    rw [this]; rfl
theorem delT_app (l k : List Tm) (id : Int) : delT (l ++ k) id = if hasT l id then delT l id ++ k else l ++ delT k id := by
  unfold delT hasT
  cases e : l.any fun b => decide (b.id = id) with
  | true =>
    obtain ⟨b, hb, hb'⟩ := List.any_eq_true.1 e
    rw [if_pos rfl, List.eraseP_append_left (p := fun b => decide (b.id = id)) hb' _ hb]
  | false =>
    rw [if_neg (by simp), List.eraseP_append_right]
    intro b hb hb'
    rw [List.any_eq_true.2 ⟨b, hb, hb'⟩] at e
    cases e
/-- one goes out of its row -/
theorem del_rows {rows : Nat → List Tm} {id : Int} {i : Nat} (hy : hasT (rows i) id = true) (hn : ∀ j, j < i → hasT (rows j) id = false) : ∀ n, i < n → hasT (rowsU rows n) id = true ∧ getT (rowsU rows n) id = getT (rows i) id ∧ delT (rowsU rows n) id = rowsU (fun j => if j = i then delT (rows i) id else rows j) n
  | 0, h => by omega
  | n + 1, h => by
    show hasT (rowsU rows n ++ rows n) id = true ∧ getT (rowsU rows n ++ rows n) id = _ ∧ delT (rowsU rows n ++ rows n) id = rowsU _ n ++ (if n = i then _ else _)
    rw [hasT_app, getT_app, delT_app]
    by_cases e : i = n
    · have h0 : hasT (rowsU rows n) id = false := by
        refine Bool.eq_false_iff.2 fun h => ?_
        obtain ⟨b, hb, hb'⟩ := List.any_eq_true.1 h
        obtain ⟨j, hj, hb⟩ := mem_rowsU.1 hb
        have := hn j (by omega)
        unfold hasT at this
        rw [List.any_eq_true.2 ⟨b, hb, hb'⟩] at this
        cases this
      subst e
      rw [h0, hy, if_neg (by simp), if_neg (by simp), if_pos rfl, rowsU_congr (rows := fun j => if j = i then delT (rows i) id else rows j) (rows' := rows) (n := i) fun j hj => by rw [if_neg (by omega)]]
      exact ⟨rfl, rfl, rfl⟩
    · obtain ⟨i1, i2, i3⟩ := del_rows hy hn n (by omega)
      rw [i1, if_pos rfl, if_pos rfl, i2, i3, if_neg (fun e' => e e'.symm)]
      exact ⟨rfl, rfl, rfl⟩
theorem RI.del {rows : Nat → List Tm} (h : RI rows) (i : Nat) (id : Int) : RI (fun j => if j = i then delT (rows i) id else rows j) := h.sub fun j => by
  by_cases e : j = i
  · subst e; rw [if_pos rfl]; exact List.eraseP_sublist
  · rw [if_neg e]; exact List.Sublist.refl _
/-- due, by the law's words -/
def duL (o : Nat → Int) (lz : Bool) (t : Tm) : Bool := decide (t.lazy = lz) && dq (o t.clock.toNat) t
theorem dq_mono {now : Int} {a b : Tm} (h : cl a.soft ≤ cl b.soft) (hb : dq now b = true) : dq now a = true := by
  unfold dq nev at hb ⊢
  simp only [Bool.and_eq_true, Bool.not_eq_true', decide_eq_false_iff_not, decide_eq_true_eq] at hb ⊢
  have h1 : cl b.soft < 4611686018427387903 := by have := hb.1; unfold cl; split; omega; split <;> omega
  refine ⟨fun h2 => ?_, by omega⟩
  have h3 : cl a.soft = 4611686018427387903 := by unfold cl; split; rfl; split <;> omega
  omega
theorem dq_split {now : Int} : ∀ {l : List Tm}, l.Pairwise (fun a b => cl a.soft ≤ cl b.soft) → l.filter (dq now) = l.takeWhile (dq now) ∧ l.filter (fun t => !dq now t) = l.dropWhile (dq now)
  | [], _ => ⟨rfl, rfl⟩
  | a :: l, h => by
    obtain ⟨h1, h2⟩ := List.pairwise_cons.1 h
    obtain ⟨i1, i2⟩ := dq_split (now := now) h2
    cases e : dq now a with
    | true =>
      rw [List.filter_cons_of_pos e, List.takeWhile_cons_of_pos e, List.filter_cons_of_neg (by simp [e]), List.dropWhile_cons_of_pos e]
      exact ⟨by rw [i1], i2⟩
    | false =>
      have hno : ∀ b, b ∈ l → dq now b = false := fun b hb => by
        cases eb : dq now b with
        | false => rfl
        | true => rw [dq_mono (h1 b hb) eb] at e; cases e
      rw [List.filter_cons_of_neg (by simp [e]), List.takeWhile_cons_of_neg (by simp [e]), List.filter_cons_of_pos (by simp [e]), List.dropWhile_cons_of_neg (by simp [e])]
      refine ⟨List.filter_eq_nil_iff.2 fun b hb => by simp [hno b hb], ?_⟩
      rw [List.filter_eq_self.2 fun b hb => by simp [hno b hb]]
theorem place_sd {t : Tm} {j : Nat} (h : place t = j) (h0 : 0 ≤ t.clock ∧ t.clock < 3) : t.clock.toNat = j / 2 ∧ sd t.lazy = j % 2 := by
  unfold place at h
  have : sd t.lazy < 2 := by unfold sd; split <;> omega
  omega
theorem sd_inj {a b : Bool} : (a = b) ↔ sd a = sd b := by cases a <;> cases b <;> simp [sd]
/-- those that are due, and those that stay, of all rows -/
theorem exp_rows {rows : Nat → List Tm} (h : RI rows) (o : Nat → Int) (lz : Bool) : ∀ n, n ≤ 6 → (rowsU rows n).filter (duL o lz) = rowsU (expT rows o lz) n ∧ (rowsU rows n).filter (fun t => !duL o lz t) = rowsU (expR rows o lz) n
  | 0, _ => ⟨rfl, rfl⟩
  | n + 1, hn => by
    obtain ⟨i1, i2⟩ := exp_rows h o lz n (by omega)
    show (rowsU rows n ++ rows n).filter _ = rowsU _ n ++ expT1 (rows n) (o (n / 2)) (n % 2) lz ∧ (rowsU rows n ++ rows n).filter _ = rowsU _ n ++ expR1 (rows n) (o (n / 2)) (n % 2) lz
    rw [List.filter_append, List.filter_append, i1, i2]
    unfold expT1 expR1
    by_cases e : n % 2 = sd lz
    · rw [if_pos e, if_pos e]
      obtain ⟨j1, j2⟩ := dq_split (now := o (n / 2)) (h.so n (by omega))
      have hc : ∀ t, t ∈ rows n → duL o lz t = dq (o (n / 2)) t := fun t ht => by
        have hp := h.pl n (by omega) t ht
        obtain ⟨p1, p2⟩ := place_sd hp.2.2 ⟨hp.1, hp.2.1⟩
        unfold duL
        rw [p1, decide_eq_true (sd_inj.2 (by omega)), Bool.true_and]
      rw [← j1, ← j2, List.filter_congr hc, List.filter_congr (p := fun t => !duL o lz t) (q := fun t => !dq (o (n / 2)) t) (fun t ht => by rw [hc t ht])]
      exact ⟨rfl, rfl⟩
    · rw [if_neg e, if_neg e]
      have hc : ∀ t, t ∈ rows n → duL o lz t = false := fun t ht => by
        have hp := h.pl n (by omega) t ht
        obtain ⟨p1, p2⟩ := place_sd hp.2.2 ⟨hp.1, hp.2.1⟩
        unfold duL
        rw [decide_eq_false (fun e' => e (by rw [← p2]; exact sd_inj.1 e')), Bool.false_and]
      rw [List.filter_eq_nil_iff.2 fun t ht => by simp [hc t ht], List.filter_eq_self.2 fun t ht => by simp [hc t ht]]
      exact ⟨rfl, rfl⟩
theorem RI.exp {rows : Nat → List Tm} (h : RI rows) (o : Nat → Int) (lz : Bool) : RI (expR rows o lz) := h.sub fun j => by
  unfold expR expR1
  split
  · exact List.dropWhile_sublist _
  · exact List.Sublist.refl _
theorem due_rows {rows : Nat → List Tm} (h : RI rows) (o : Nat → Int) (lz : Bool) : dueU rows o lz = decide (0 < ((rowsU rows 6).filter (duL o lz)).length) := by
  rw [(exp_rows h o lz 6 (Nat.le_refl _)).1]
  have key : ∀ j, due1 (rows j) (o (j / 2)) (j % 2) lz = decide (0 < (expT rows o lz j).length) := fun j => by
    unfold expT expT1 due1
    by_cases e : j % 2 = sd lz
    · rw [if_pos e, decide_eq_true e, Bool.true_and]
      cases rows j with
      | nil => rfl
      | cons a l =>
        rw [dueB_cons]
        cases ea : dq (o (j / 2)) a with
        | true => rw [List.takeWhile_cons_of_pos ea]; simp
        | false => rw [List.takeWhile_cons_of_neg (by simp [ea])]; rfl
    · rw [if_neg e, decide_eq_false e]; rfl
  cases hd : dueU rows o lz with
  | true =>
    obtain ⟨j, hj, hj'⟩ := List.any_eq_true.1 hd
    rw [key j] at hj'
    have hl := of_decide_eq_true hj'
    obtain ⟨t, ht⟩ := List.exists_mem_of_length_pos hl
    exact (decide_eq_true (List.length_pos_of_mem (mem_rowsU.2 ⟨j, List.mem_range.1 hj, ht⟩))).symm
  | false =>
    refine (decide_eq_false fun hl => ?_).symm
    obtain ⟨t, ht⟩ := List.exists_mem_of_length_pos hl
    obtain ⟨j, hj, ht⟩ := mem_rowsU.1 ht
    have : dueU rows o lz = true := List.any_eq_true.2 ⟨j, List.mem_range.2 hj, by rw [key j]; exact decide_eq_true (List.length_pos_of_mem ht)⟩
    rw [hd] at this; cases this
/-- the first time, by the law's words -/
def nxF (o : Nat → Int) (lz : Bool) (f : Int) (t : Tm) : Int := if lz || !t.lazy then min f (sb t.soft (o t.clock.toNat)) else f
theorem sb_mono {a b : Int} (h : cl a ≤ cl b) (off : Int) : sb a off ≤ sb b off := by
  have h1 := sb_bd a off
  unfold sb
  by_cases hb : b ≥ 4611686018427387903
  · rw [if_pos hb]
    unfold sb at h1
    omega
  · have h2 : cl b < 4611686018427387903 := by unfold cl; split; omega; split <;> omega
    have ha : ¬ a ≥ 4611686018427387903 := fun e => by
      have : cl a = 4611686018427387903 := by unfold cl; split; rfl; split <;> omega
      omega
    rw [if_neg ha, if_neg hb]
    exact cl_mono (by omega)
theorem nx_no (off : Int) : ∀ (l : List Tm) (f : Int), l.foldl (fun f t => if false = true then min f (sb t.soft off) else f) f = f
  | [], f => rfl
  | a :: l, f => by rw [List.foldl_cons, if_neg (by simp)]; exact nx_no off l f
theorem nx_yes (off : Int) : ∀ (l : List Tm) (g : Int), (∀ b, b ∈ l → g ≤ sb b.soft off) → l.foldl (fun f t => if true = true then min f (sb t.soft off) else f) g = g
  | [], g, _ => rfl
  | a :: l, g, h => by
    have := h a (by simp)
    rw [List.foldl_cons, if_pos rfl, Int.min_eq_left this]
    exact nx_yes off l g fun b hb => h b (by simp [hb])
theorem nx_row {l : List Tm} (hs : l.Pairwise (fun a b => cl a.soft ≤ cl b.soft)) (off : Int) (use : Bool) (f : Int) : l.foldl (fun f t => if use then min f (sb t.soft off) else f) f = nxv l off use f := by
  cases use with
  | false =>
    rw [nx_no]
    unfold nxv
    cases l with
    | nil => rfl
    | cons a l => simp only; rw [if_neg (by simp)]
  | true =>
    cases l with
    | nil => rfl
    | cons a l =>
      have h1 := (List.pairwise_cons.1 hs).1
      have e1 : nxv (a :: l) off true f = min f (sb a.soft off) := by unfold nxv; simp
      rw [e1, List.foldl_cons, if_pos rfl]
      exact nx_yes off l _ fun b hb => Int.le_trans (Int.min_le_right _ _) (sb_mono (h1 b hb) off)
theorem nx_rows {rows : Nat → List Tm} (h : RI rows) (o : Nat → Int) (lz : Bool) : ∀ n, n ≤ 6 → (rowsU rows n).foldl (nxF o lz) 4611686018427387903 = nxU rows o lz n
  | 0, _ => rfl
  | n + 1, hn => by
    show (rowsU rows n ++ rows n).foldl _ _ = nxv (rows n) (o (n / 2)) (lz || decide (n % 2 = 0)) (nxU rows o lz n)
    rw [List.foldl_append, nx_rows h o lz n (by omega), ← nx_row (h.so n (by omega))]
    have hc : ∀ (l : List Tm), (∀ t, t ∈ l → t ∈ rows n) → ∀ f, l.foldl (nxF o lz) f = l.foldl (fun f t => if (lz || decide (n % 2 = 0)) = true then min f (sb t.soft (o (n / 2))) else f) f := by
      intro l
      induction l with
      | nil => intro _ f; rfl
      | cons a l ih =>
        intro hm f
        have hp := h.pl n (by omega) a (hm a (by simp))
        obtain ⟨p1, p2⟩ := place_sd hp.2.2 ⟨hp.1, hp.2.1⟩
        have e1 : (!a.lazy) = decide (n % 2 = 0) := by
          cases ea : a.lazy with
          | false => rw [ea] at p2; exact (decide_eq_true (by rw [← p2]; rfl)).symm
          | true => rw [ea] at p2; exact (decide_eq_false (by rw [← p2]; simp [sd])).symm
        rw [List.foldl_cons, List.foldl_cons, ih fun t ht => hm t (by simp [ht])]
        unfold nxF
        rw [e1, p1]
    exact hc (rows n) (fun t ht => ht) _
/-- what coming answers, by the law's words -/
theorem start_rows {rows : Nat → List Tm} (h : RI rows) (t : Tm) (hl : (rowsU rows 6).length < 64) :
    (t.clock < 0 ∨ 2 < t.clock → startE rows t = 2) ∧ (¬ (t.clock < 0 ∨ 2 < t.clock) → (hasB rows t.id = true → startE rows t = 9) ∧ (hasB rows t.id = false → (t.hard < t.soft → startE rows t = 2) ∧ (¬ t.hard < t.soft → startE rows t = 0))) := by
  unfold startE
  refine ⟨fun hc => by rw [if_pos (by omega)], fun hc => ⟨fun hb => by rw [if_neg (by omega), if_pos hb], fun hb => ?_⟩⟩
  have hp := place_lt (t := t) (by omega) (by omega)
  have hb' : hasT (rows (place t)) t.id = false := by
    cases e : hasT (rows (place t)) t.id with
    | false => rfl
    | true => rw [hasB_yes hp e] at hb; cases hb
  have hlen : (rows (place t)).length < 64 := by
    have : ∀ n, place t < n → (rows (place t)).length ≤ (rowsU rows n).length := by
      intro n
      induction n with
      | zero => intro h; omega
      | succ n ih =>
        intro hp
        show _ ≤ (rowsU rows n ++ rows n).length
        rw [List.length_append]
        by_cases e : place t = n
        · subst e; omega
        · have := ih (by omega); omega
    have := this 6 hp
    omega
  rw [if_neg (by omega), if_neg (by rw [hb]; simp)]
  unfold addE
  rw [hb']
  refine ⟨fun h1 => by rw [if_pos h1], fun h1 => by rw [if_neg h1, if_neg (by simp), if_neg (by omega)]⟩
theorem startR_no {rows : Nat → List Tm} {t : Tm} (h : startE rows t ≠ 0) : startR rows t = rows := by
  funext j
  unfold startR
  rw [if_neg (fun e => h e.1)]
/-- one comes: its rows, as one row -/
theorem startR_yes {rows : Nat → List Tm} (h : RI rows) {t : Tm} (hc : 0 ≤ t.clock ∧ t.clock < 3) (he : startE rows t = 0) (hb : hasB rows t.id = false) : rowsU (startR rows t) 6 = putB t (rowsU rows 6) ∧ RI (startR rows t) := by
  have hp := place_lt hc.1 hc.2
  have ea : addE (rows (place t)) t = 0 := by
    unfold startE at he
    rw [if_neg (by omega), if_neg (by rw [hb]; simp)] at he
    exact he
  have e1 : startR rows t = fun j => if j = place t then insT t (rows j) else rows j := by
    funext j
    unfold startR
    by_cases e : j = place t
    · subst e
      rw [if_pos ⟨he, rfl⟩, if_pos rfl]
      unfold addR
      rw [if_pos ea]
    · rw [if_neg (fun e' => e e'.2), if_neg e]
  have e2 := put_rows h hc 6 (Nat.le_refl _) hp
  rw [e1]
  refine ⟨e2.symm, ⟨fun j hj a ha => ?_, ?_, fun j hj => ?_⟩⟩
  · by_cases e : j = place t
    · subst e
      rw [if_pos rfl] at ha
      unfold insT at ha
      rcases List.mem_append.1 ha with ha | ha
      · exact h.pl _ hj a (List.mem_of_mem_take ha)
      · rcases List.mem_cons.1 ha with rfl | ha
        · exact ⟨hc.1, hc.2, rfl⟩
        · exact h.pl _ hj a (List.mem_of_mem_drop ha)
    · rw [if_neg e] at ha
      exact h.pl j hj a ha
  · rw [← e2]
    have hperm : (putB t (rowsU rows 6)).Perm (t :: rowsU rows 6) := by
      unfold putB
      refine List.perm_middle.trans (List.Perm.cons _ ?_)
      rw [List.takeWhile_append_dropWhile]
    refine (hperm.map Tm.id).nodup_iff.2 ?_
    rw [List.map_cons, List.nodup_cons]
    refine ⟨fun hm => ?_, h.ids⟩
    obtain ⟨b, hb1, hb2⟩ := List.mem_map.1 hm
    have : hasT (rowsU rows 6) t.id = true := List.any_eq_true.2 ⟨b, hb1, decide_eq_true hb2⟩
    rw [has_rows, hb] at this
    cases this
  · by_cases e : j = place t
    · subst e
      rw [if_pos rfl]
      exact insT_sorted (h.so _ hj)
    · rw [if_neg e]
      exact h.so j hj
theorem putB_len (t : Tm) (l : List Tm) : (putB t l).length = l.length + 1 := by
  have h : (l.takeWhile (fun a => bef a t)).length + (l.dropWhile (fun a => bef a t)).length = l.length := by rw [← List.length_append, List.takeWhile_append_dropWhile]
  unfold putB
  simp only [List.length_append, List.length_cons]
  omega
end Go.Proofs.Ytcoibhmgblicfaa.Ba
/- BasePlays: what stands from round to round. No condition. -/
set_option linter.unusedVariables false
set_option linter.unusedSimpArgs false
namespace Go.Proofs.Ytcoibhmgblicfaa.Ba
open Go.RowKit Go.Proofs.Ytcoibhmgblicfaa.Aid Go.Proofs.Ytcoibhmgblicfaa.Tr Go.Proofs.Ytcoibhmgblicfaa.Kt Go.Proofs.Ytcoibhmgblicfaa.Q
/-- an act: its kind, a timer, three times -/
structure BA where
  kind : Int
  t : Tm
  o : Nat → Int
def BA.cells (a : BA) : Array Value := #[.int .u8 a.kind, .int .i64 a.t.id, .int .i64 a.t.clock, .int .i64 a.t.soft, .int .i64 a.t.hard, .bool a.t.lazy, .int .i64 (a.o 0), .int .i64 (a.o 1), .int .i64 (a.o 2)]
def ActB (w : World) (x : Addr) (a : BA) : Prop := w.cell? x = some (.int .u8 a.kind) ∧ ∀ j v, 0 < j → a.cells[j]? = some v → w.cell? ⟨x.block, x.off + j, none⟩ = some v
/-- the acts that came in, as they read whenever nothing old has changed -/
def ActsB (w : World) (B : Nat) (A : Option Addr) (n : Nat) : Prop := ∀ k, k < n → ∃ x, A = some x ∧ ∃ a : BA, (0 ≤ a.kind ∧ a.kind ≤ 255) ∧ I64 a.t.id ∧ ∀ w', Below B w w' → ActB w' (x.add (k * 9)) a
theorem actsB_of {w : World} {A : Option Addr} {n : Nat} (h : Leaf.Row w [.int .u8, .int .i64, .int .i64, .int .i64, .int .i64, .bool, .int .i64, .int .i64, .int .i64] A n) : ActsB w w.heap.size A n := by
  intro k hk
  rcases h with rfl | ⟨x, E, rfl, hx, _, hE⟩
  · omega
  obtain ⟨hf, hc⟩ := hE k hk
  obtain ⟨k0, r0, e0, w0, f0⟩ := hf.int
  obtain ⟨k1, r1, rfl, w1, f1⟩ := f0.int
  obtain ⟨k2, r2, rfl, w2, f2⟩ := f1.int
  obtain ⟨k3, r3, rfl, w3, f3⟩ := f2.int
  obtain ⟨k4, r4, rfl, w4, f4⟩ := f3.int
  obtain ⟨k5, r5, rfl, f5⟩ := f4.bool
  obtain ⟨k6, r6, rfl, w6, f6⟩ := f5.int
  obtain ⟨k7, r7, rfl, w7, f7⟩ := f6.int
  obtain ⟨k8, r8, rfl, w8, f8⟩ := f7.int
  obtain rfl := f8.done
  refine ⟨x, rfl, ⟨k0, ⟨k1, k2, k3, k4, k5⟩, fun i => if i = 0 then k6 else if i = 1 then k7 else k8⟩, bounds_u8 w0, i64_of (bounds_i64 w1), fun w' hb => ?_⟩
  have key : ∀ q : Addr, q.block = x.block → w'.cell? q = w.cell? q := fun q hq => hb.cell (by rw [hq]; exact hx)
  refine ⟨(key _ (add_block _ _)).trans (Leaf.cell_of (c := 9) (j := 0) hc (by decide) (by rw [e0]; rfl)), fun j v hj hv => ?_⟩
  have hj9 : j < 9 := (Array.getElem?_eq_some_iff.1 hv).1
  have := Leaf.cell_of (c := 9) (j := j) (v := v) hc hj9 (by rw [e0, ← hv]; show _ = (_ : Array Value)[j]?; rw [← Array.getElem?_toList]; rfl)
  rw [if_neg (by omega)] at this
  exact (key ⟨(x.add (k * 9)).block, (x.add (k * 9)).off + j, none⟩ (add_block _ _)).trans this
theorem ActB.all {w : World} {x : Addr} {a : BA} (h : ActB w x a) : w.cell? x = some (.int .u8 a.kind) ∧ w.cell? ⟨x.block, x.off + 1, none⟩ = some (.int .i64 a.t.id) ∧ w.cell? ⟨x.block, x.off + 2, none⟩ = some (.int .i64 a.t.clock) ∧ w.cell? ⟨x.block, x.off + 3, none⟩ = some (.int .i64 a.t.soft) ∧ w.cell? ⟨x.block, x.off + 4, none⟩ = some (.int .i64 a.t.hard) ∧ w.cell? ⟨x.block, x.off + 5, none⟩ = some (.bool a.t.lazy) ∧ w.cell? ⟨x.block, x.off + 6, none⟩ = some (.int .i64 (a.o 0)) ∧ w.cell? ⟨x.block, x.off + 7, none⟩ = some (.int .i64 (a.o 1)) ∧ w.cell? ⟨x.block, x.off + 8, none⟩ = some (.int .i64 (a.o 2)) :=
  ⟨h.1, h.2 1 _ (by decide) rfl, h.2 2 _ (by decide) rfl, h.2 3 _ (by decide) rfl, h.2 4 _ (by decide) rfl, h.2 5 _ (by decide) rfl, h.2 6 _ (by decide) rfl, h.2 7 _ (by decide) rfl, h.2 8 _ (by decide) rfl⟩
theorem bx9 {w : World} {X : Nat} {T : TypeId} {a : BA} (h : Blk w X T a.cells) : w.cell? ⟨X, 0, none⟩ = some (.int .u8 a.kind) ∧ w.cell? ⟨X, 1, none⟩ = some (.int .i64 a.t.id) ∧ w.cell? ⟨X, 2, none⟩ = some (.int .i64 a.t.clock) ∧ w.cell? ⟨X, 3, none⟩ = some (.int .i64 a.t.soft) ∧ w.cell? ⟨X, 4, none⟩ = some (.int .i64 a.t.hard) ∧ w.cell? ⟨X, 5, none⟩ = some (.bool a.t.lazy) ∧ w.cell? ⟨X, 6, none⟩ = some (.int .i64 (a.o 0)) ∧ w.cell? ⟨X, 7, none⟩ = some (.int .i64 (a.o 1)) ∧ w.cell? ⟨X, 8, none⟩ = some (.int .i64 (a.o 2)) :=
  ⟨h.cell 0, h.cell 1, h.cell 2, h.cell 3, h.cell 4, h.cell 5, h.cell 6, h.cell 7, h.cell 8⟩
/-- what stands in BasePlays: the base, the law's row, the offsets' box -/
structure LM (w0 W : World) (b : Nat) (P : Nat → QP) (rows : Nat → List Tm) (base : Nat) (v : Value) (l : List Tm) (OB : Nat) (off : Nat → Int) (M : Int) : Prop where
  s : BSt w0 W b P rows M
  r : RSl W base v l
  f : Blk W OB 23 (three off)
  d : (∀ x, BF b P x → x < base) ∧ w0.heap.size ≤ base ∧ base ≤ W.heap.size ∧ OB < base ∧ ¬ BF b P OB
section
variable {w0 W W' : World} {b base OB : Nat} {P : Nat → QP} {rows rows' : Nat → List Tm} {l l' : List Tm} {v v' : Value} {off : Nat → Int} {M M' : Int}
theorem LM.call (h : LM w0 W b P rows base v l OB off M) (k : Below W.heap.size W W') : LM w0 W' b P rows base v l OB off M := ⟨h.s.call k, rsl_below h.r k, h.f.below k h.f.lt, h.d.1, h.d.2.1, Nat.le_trans h.d.2.2.1 k.size, h.d.2.2.2⟩
theorem LM.alloc (h : LM w0 W b P rows base v l OB off M) (o : Obj) : LM w0 (W.alloc o) b P rows base v l OB off M := h.call ((Below.refl _ _).alloc (Nat.le_refl _) o)
theorem LM.drewN (h : LM w0 W b P rows base v l OB off M) (n : Nat) : LM w0 (W.drewN n) b P rows base v l OB off M := ⟨h.s.drewN n, rsl_drewN h.r n, h.f.drewN n, h.d⟩
theorem LM.drew (h : LM w0 W b P rows base v l OB off M) : LM w0 W.drew b P rows base v l OB off M := h.drewN 1
theorem LM.goes (h : LM w0 W b P rows base v l OB off M) (k : BHas W' b P rows' M') (o : Only (BF b P) W W') : LM w0 W' b P rows' base v l OB off M' :=
  ⟨h.s.goes k o, rsl_only h.r o (fun x hx hF => by have := h.d.1 x hF; omega), o.blk h.f h.d.2.2.2.2, h.d.1, h.d.2.1, Nat.le_trans h.d.2.2.1 o.size, h.d.2.2.2⟩
theorem LM.rowed (h : LM w0 W b P rows base v l OB off M) (r : RSl W base v' l') : LM w0 W b P rows base v' l' OB off M := ⟨h.s, r, h.f, h.d⟩
theorem LM.mono (h : LM w0 W b P rows base v l OB off M) (hM : M ≤ M') : LM w0 W b P rows base v l OB off M' := ⟨h.s.mono hM, h.r, h.f, h.d⟩
/-- a row of one's own goes on growing -/
theorem LM.grown (h : LM w0 W b P rows base v l OB off M) {B : Nat} {row : Option Nat} (g : W.grownBy W' row) (hr : ∀ q, row = some q → B ≤ q) (hB : W.heap.size ≤ B ∨ (base ≤ B ∧ ∀ q, v.ownBlock = some q → q < B)) : LM w0 W' b P rows base v l OB off M := by
  have hv : ∀ q, v.ownBlock = some q → q < W.heap.size ∧ some q ≠ row := fun q hq => by
    have h1 := (rsl_block h.r hq).2
    refine ⟨h1, fun e => ?_⟩
    have := hr q e.symm
    rcases hB with hB | ⟨_, hB⟩
    · omega
    · have := hB q hq; omega
  have hlt : ∀ q, q < base → q < W.heap.size ∧ some q ≠ row := fun q hq => by
    refine ⟨by have := h.d.2.2.1; omega, fun e => ?_⟩
    have := hr q e.symm
    rcases hB with hB | ⟨hB, _⟩
    · have := h.d.2.2.1; omega
    · omega
  have sz := g.size
  refine ⟨⟨h.s.h.same fun x hx => g.block x (hlt x (h.d.1 x hx)).1 (hlt x (h.d.1 x hx)).2, ?_, h.s.f⟩, rsl_same h.r fun q hq => g.block q (hv q hq).1 (hv q hq).2, (g.block OB (hlt OB h.d.2.2.2.1).1 (hlt OB h.d.2.2.2.1).2).trans h.f, h.d.1, h.d.2.1, by have := h.d.2.2.1; omega, h.d.2.2.2⟩
  exact h.s.bl.grown g h.s.bl.size (fun q hq => by
    have := hr q hq
    have h1 := h.s.bl.size
    have h2 := h.d.2.1
    rcases hB with hB | ⟨hB, _⟩ <;> omega)
theorem LM.stands (h : LM w0 W b P rows base v l OB off M) : Stands (fun W' => LM w0 W' b P rows base v l OB off M ∧ W.heap.size ≤ W'.heap.size) W.heap.size := by
  have hv : ∀ q, v.ownBlock = some q → q < W.heap.size := fun q hq => (rsl_block h.r hq).2
  refine ⟨fun W' h' => h'.2, fun W' o h' => ⟨h'.1.alloc o, by simp; omega⟩, fun W' h' => ⟨h'.1.drew, h'.2⟩, fun W1 W2 row1 h' g' hr => ?_⟩
  have sz := g'.size
  exact ⟨h'.1.grown g' hr (.inr ⟨h.d.2.2.1, hv⟩), by omega⟩
end
def BRl (w0 : World) (b : Nat) (P : Nat → QP) (base OB : Nat) (off : Nat → Int) (N m : Nat) (s6 s35 : Value) (wr : World) : Prop :=
  ∃ (k : Nat) (rows : Nat → List Tm), k ≤ N ∧ m = N - k ∧ s35 = .int .i64 k ∧ RI rows ∧ (rowsU rows 6).length ≤ k ∧ LM w0 wr b P rows base s6 (rowsU rows 6) OB off k
def BCut (w0 : World) (b : Nat) (P : Nat → QP) (base OB : Nat) (off : Nat → Int) (k : Nat) (s6 : Value) (wx : World) : Prop :=
  ∃ rows, RI rows ∧ (rowsU rows 6).length ≤ k + 1 ∧ LM w0 wx b P rows base s6 (rowsU rows 6) OB off (k + 1 : Nat)
/-- the loop that looks for the place -/
def PRl (w0 : World) (b : Nat) (P : Nat → QP) (rows : Nat → List Tm) (base : Nat) (v : Value) (OB : Nat) (off : Nat → Int) (M : Int) (X : Nat) (a : BA) (m : Nat) (s9 s41 : Value) (wr : World) : Prop :=
  ∃ (j : Nat) (r : Int), j ≤ (rowsU rows 6).length ∧ m = (rowsU rows 6).length - j ∧ s41 = .int .i64 j ∧ s9 = .int .i64 r ∧ ((r = -1 ∧ ∀ i c, i < j → (rowsU rows 6)[i]? = some c → c.id ≠ a.t.id) ∨ ∃ (i : Nat) (c : Tm), r = i ∧ i < j ∧ (rowsU rows 6)[i]? = some c ∧ c.id = a.t.id) ∧ LM w0 wr b P rows base v (rowsU rows 6) OB off M ∧ Blk wr X 31 a.cells
/-- behind that loop -/
def PCut (w0 : World) (b : Nat) (P : Nat → QP) (rows : Nat → List Tm) (base : Nat) (v : Value) (OB : Nat) (off : Nat → Int) (M : Int) (X : Nat) (a : BA) (s9 : Value) (wr : World) : Prop :=
  ∃ r : Int, s9 = .int .i64 r ∧ PlcIs (rowsU rows 6) a.t.id r ∧ LM w0 wr b P rows base v (rowsU rows 6) OB off M ∧ Blk wr X 31 a.cells
theorem plc_of {l : List Tm} {id r : Int} {j : Nat} (hj : l.length ≤ j) (h : (r = -1 ∧ ∀ i c, i < j → l[i]? = some c → c.id ≠ id) ∨ ∃ (i : Nat) (c : Tm), r = i ∧ i < j ∧ l[i]? = some c ∧ c.id = id) : PlcIs l id r := by
  rcases h with ⟨rfl, h⟩ | ⟨i, c, rfl, _, h, e⟩
  · refine .inl ⟨rfl, fun c hc => ?_⟩
    obtain ⟨i, hi, e⟩ := List.getElem_of_mem hc
    exact h i c (by omega) (by rw [List.getElem?_eq_getElem hi, e])
  · exact .inr ⟨i, c, rfl, (List.getElem?_eq_some_iff.1 h).1, h, e⟩
/-- two rows that grow, in blocks of their own -/
structure Two (W : World) (B : Nat) (v u : Value) (l k : List Tm) : Prop where
  o1 : W.ownsRow B 29 5 v l.length (tmc l)
  o2 : W.ownsRow B 29 5 u k.length (tmc k)
  ne : ∀ q, v.ownBlock = some q → u.ownBlock = some q → False
  b : B ≤ W.heap.size
section
variable {W W' : World} {B : Nat} {v v' u u' : Value} {l l' k k' : List Tm}
theorem Two.call (h : Two W B v u l k) (c : Below W.heap.size W W') : Two W' B v u l k := ⟨own_below h.o1 c, own_below h.o2 c, h.ne, Nat.le_trans h.b c.size⟩
theorem Two.alloc (h : Two W B v u l k) (o : Obj) : Two (W.alloc o) B v u l k := h.call ((Below.refl _ _).alloc (Nat.le_refl _) o)
theorem Two.drewN (h : Two W B v u l k) (n : Nat) : Two (W.drewN n) B v u l k := ⟨own_drewN h.o1 n, own_drewN h.o2 n, h.ne, h.b⟩
theorem Two.only {S : Nat → Prop} (h : Two W B v u l k) (o : Only S W W') (hs : ∀ x, B ≤ x → ¬ S x) : Two W' B v u l k :=
  ⟨own_same h.o1 fun q hq => o.block q (own_block h.o1 hq).2 (hs q (own_block h.o1 hq).1), own_same h.o2 fun q hq => o.block q (own_block h.o2 hq).2 (hs q (own_block h.o2 hq).1), h.ne, Nat.le_trans h.b o.size⟩
theorem Two.put1 (h : Two W B v u l k) (ho : W'.ownsRow B 29 5 v' l'.length (tmc l')) (g : W.grownBy W' v.ownBlock) (hb : v'.ownBlock = v.ownBlock ∨ v'.ownBlock = some W.heap.size) : Two W' B v' u l' k :=
  ⟨ho, own_same h.o2 fun q hq => g.block q (own_block h.o2 hq).2 (fun e => h.ne q e.symm hq), fun q hq hu => by
    rcases hb with hb | hb
    · rw [hb] at hq; exact h.ne q hq hu
    · rw [hb] at hq; injection hq with hq; subst hq; exact Nat.lt_irrefl _ (own_block h.o2 hu).2, Nat.le_trans h.b g.size⟩
theorem Two.put2 (h : Two W B v u l k) (ho : W'.ownsRow B 29 5 u' k'.length (tmc k')) (g : W.grownBy W' u.ownBlock) (hb : u'.ownBlock = u.ownBlock ∨ u'.ownBlock = some W.heap.size) : Two W' B v u' l k' :=
  ⟨own_same h.o1 fun q hq => g.block q (own_block h.o1 hq).2 (fun e => h.ne q hq e.symm), ho, fun q hq hu => by
    rcases hb with hb | hb
    · rw [hb] at hu; exact h.ne q hq hu
    · rw [hb] at hu; injection hu with hu; subst hu; exact Nat.lt_irrefl _ (own_block h.o1 hq).2, Nat.le_trans h.b g.size⟩
end
/-- the loop that parts those that are due from those that stay -/
def ERl (w0 : World) (b : Nat) (P : Nat → QP) (rows : Nat → List Tm) (base : Nat) (v : Value) (OB : Nat) (off : Nat → Int) (M : Int) (X B : Nat) (a : BA) (m : Nat) (s15 s16 s131 : Value) (wr : World) : Prop :=
  ∃ j : Nat, j ≤ (rowsU rows 6).length ∧ m = (rowsU rows 6).length - j ∧ s131 = .int .i64 j ∧ LM w0 wr b P rows base v (rowsU rows 6) OB off M ∧ Blk wr X 31 a.cells ∧ Two wr B s15 s16 (((rowsU rows 6).take j).filter (duL a.o a.t.lazy)) (((rowsU rows 6).take j).filter (fun t => !duL a.o a.t.lazy t))
def ECut (w0 : World) (b : Nat) (P : Nat → QP) (rows : Nat → List Tm) (base : Nat) (v : Value) (OB : Nat) (off : Nat → Int) (M : Int) (X B : Nat) (a : BA) (s15 s16 : Value) (wr : World) : Prop :=
  LM w0 wr b P rows base v (rowsU rows 6) OB off M ∧ Blk wr X 31 a.cells ∧ Two wr B s15 s16 ((rowsU rows 6).filter (duL a.o a.t.lazy)) ((rowsU rows 6).filter (fun t => !duL a.o a.t.lazy t))
/-- the loop that compares what came out -/
def CRl (w0 : World) (b : Nat) (P : Nat → QP) (rows : Nat → List Tm) (base : Nat) (v : Value) (l : List Tm) (OB : Nat) (off : Nat → Int) (M : Int) (B : Nat) (v15 v16 v19 : Value) (wl ll : List Tm) (m : Nat) (s181 : Value) (wr : World) : Prop :=
  ∃ j : Nat, j ≤ wl.length ∧ m = wl.length - j ∧ s181 = .int .i64 j ∧ LM w0 wr b P rows base v l OB off M ∧ Two wr B v15 v16 wl ll ∧ RSl wr B v19 wl
/-- the loop over all timers -/
def FRl (w0 : World) (b : Nat) (P : Nat → QP) (rows : Nat → List Tm) (base : Nat) (v v21 : Value) (OB : Nat) (off : Nat → Int) (M : Int) (m : Nat) (s22 s23 s211 : Value) (wr : World) : Prop :=
  ∃ j : Nat, j ≤ (rowsU rows 6).length ∧ m = (rowsU rows 6).length - j ∧ s211 = .int .i64 j ∧ s22 = .int .i64 (((rowsU rows 6).take j).foldl (nxF off false) 4611686018427387903) ∧ s23 = .int .i64 (((rowsU rows 6).take j).foldl (nxF off true) 4611686018427387903) ∧ LM w0 wr b P rows base v (rowsU rows 6) OB off M ∧ RSl wr base v21 (rowsU rows 6)
theorem rsl_head {w : World} {base n cap : Nat} {A : Option Addr} {l : List Tm} (h : RSl w base (.slice A n cap) l) {j : Nat} (hj : j < l.length) : ∃ q k, A = some ⟨q, k, none⟩ := by
  obtain ⟨A', cap', e, h1⟩ := rsl_parts h
  injection e with e1 e2 e3
  subst e1
  exact h1 j hj
theorem own_val {w : World} {base n : Nat} {v : Value} {e : TypeId} {size : Nat} {xs : List Value} (h : w.ownsRow base e size v n xs) : ∃ A cap, v = .slice A n cap := by
  obtain ⟨hl, ⟨rfl, h1⟩ | ⟨g, cap, cur, rfl, _⟩⟩ := h
  · exact ⟨none, 0, by rw [h1]⟩
  · exact ⟨_, _, rfl⟩
theorem filter_step {p : Tm → Bool} {l : List Tm} {j : Nat} {c : Tm} (hc : l[j]? = some c) : (l.take (j + 1)).filter p = if p c then (l.take j).filter p ++ [c] else (l.take j).filter p := by
  have hj : j < l.length := (List.getElem?_eq_some_iff.1 hc).1
  have he : l[j] = c := by rw [List.getElem?_eq_getElem hj] at hc; injection hc
  rw [List.take_succ_eq_append_getElem hj, List.filter_append, he]
  cases e : p c with
  | true => simp [e]
  | false => simp [e]
theorem fold_step {f : Int → Tm → Int} {l : List Tm} {j : Nat} {c : Tm} (x : Int) (hc : l[j]? = some c) : (l.take (j + 1)).foldl f x = f ((l.take j).foldl f x) c := by
  have hj : j < l.length := (List.getElem?_eq_some_iff.1 hc).1
  have he : l[j] = c := by rw [List.getElem?_eq_getElem hj] at hc; injection hc
  rw [List.take_succ_eq_append_getElem hj, List.foldl_append, he]
  rfl
theorem off_cells {w : World} {X : Nat} {T : TypeId} {o : Nat → Int} (h : Blk w X T (three o)) : w.cell? ⟨X, 0, none⟩ = some (.int .i64 (o 0)) ∧ w.cell? ⟨X, 1, none⟩ = some (.int .i64 (o 1)) ∧ w.cell? ⟨X, 2, none⟩ = some (.int .i64 (o 2)) := ⟨h.cell 0, h.cell 1, h.cell 2⟩
theorem nxF_no (off : Nat → Int) (f i s h : Int) (k : Nat) : nxF off false f ⟨i, k, s, h, true⟩ = f := rfl
theorem nxF_yes (off : Nat → Int) (f i s h : Int) (k : Nat) (z lz : Bool) (hz : (lz || !z) = true) : nxF off lz f ⟨i, k, s, h, z⟩ = min f (sb s (off k)) := by
  unfold nxF
  rw [if_pos hz, show ((⟨i, k, s, h, z⟩ : Tm).clock).toNat = k from Int.toNat_natCast k]
theorem tmc_one (l : List Tm) (c : Tm) : tmc l ++ Tm.list c = tmc (l ++ [c]) := by rw [tmc_app]; simp [tmc]
theorem len_one {α : Type} (l : List α) (c : α) : l.length + 1 = (l ++ [c]).length := by simp
end Go.Proofs.Ytcoibhmgblicfaa.Ba
/- BaseMoves: what stands from round to round; the plain part. No condition. -/
set_option linter.unusedVariables false
set_option linter.unusedSimpArgs false
namespace Go.Proofs.Ytcoibhmgblicfaa.Ba
open Go.RowKit Go.Proofs.Ytcoibhmgblicfaa.Aid Go.Proofs.Ytcoibhmgblicfaa.Tr Go.Proofs.Ytcoibhmgblicfaa.Kt Go.Proofs.Ytcoibhmgblicfaa.Q
def TmB (w : World) (x : Addr) (a : Tm) : Prop := w.cell? x = some (.int .i64 a.id) ∧ w.cell? ⟨x.block, x.off + 1, none⟩ = some (.int .i64 a.clock) ∧ w.cell? ⟨x.block, x.off + 2, none⟩ = some (.int .i64 a.soft) ∧ w.cell? ⟨x.block, x.off + 3, none⟩ = some (.int .i64 a.hard) ∧ w.cell? ⟨x.block, x.off + 4, none⟩ = some (.bool a.lazy)
/-- the timers that came in, as they read whenever nothing old has changed -/
def TmsB (w : World) (B : Nat) (A : Option Addr) (n : Nat) : Prop := ∀ k, k < n → ∃ x, A = some x ∧ ∃ a : Tm, I64 a.id ∧ ∀ w', Below B w w' → TmB w' (x.add (k * 5)) a
theorem tmsB_of {w : World} {A : Option Addr} {n : Nat} (h : Leaf.Row w [.int .i64, .int .i64, .int .i64, .int .i64, .bool] A n) : TmsB w w.heap.size A n := by
  intro k hk
  rcases h with rfl | ⟨x, E, rfl, hx, _, hE⟩
  · omega
  obtain ⟨hf, hc⟩ := hE k hk
  obtain ⟨k0, r0, e0, w0, f0⟩ := hf.int
  obtain ⟨k1, r1, rfl, w1, f1⟩ := f0.int
  obtain ⟨k2, r2, rfl, w2, f2⟩ := f1.int
  obtain ⟨k3, r3, rfl, w3, f3⟩ := f2.int
  obtain ⟨k4, r4, rfl, f4⟩ := f3.bool
  obtain rfl := f4.done
  refine ⟨x, rfl, ⟨k0, k1, k2, k3, k4⟩, i64_of (bounds_i64 w0), fun w' hb => ?_⟩
  have c := fun j hj v hv => Leaf.cell_of (c := 5) (j := j) (v := v) hc hj hv
  have key : ∀ q : Addr, q.block = x.block → w'.cell? q = w.cell? q := fun q hq => hb.cell (by rw [hq]; exact hx)
  exact ⟨(key _ (add_block _ _)).trans (c 0 (by decide) _ (by rw [e0]; rfl)), (key ⟨(x.add (k * 5)).block, (x.add (k * 5)).off + 1, none⟩ (add_block _ _)).trans (c 1 (by decide) _ (by rw [e0]; rfl)), (key ⟨(x.add (k * 5)).block, (x.add (k * 5)).off + 2, none⟩ (add_block _ _)).trans (c 2 (by decide) _ (by rw [e0]; rfl)), (key ⟨(x.add (k * 5)).block, (x.add (k * 5)).off + 3, none⟩ (add_block _ _)).trans (c 3 (by decide) _ (by rw [e0]; rfl)), (key ⟨(x.add (k * 5)).block, (x.add (k * 5)).off + 4, none⟩ (add_block _ _)).trans (c 4 (by decide) _ (by rw [e0]; rfl))⟩
/-- one base goes on, another one stands -/
theorem BSt.only {w0 W W' : World} {b : Nat} {P : Nat → QP} {rows : Nat → List Tm} {M : Int} {S : Nat → Prop} (h : BSt w0 W b P rows M) (o : Only S W W') (hs : ∀ x, BF b P x → ¬ S x) (hS : ∀ x, S x → w0.heap.size ≤ x) : BSt w0 W' b P rows M :=
  ⟨h.h.same fun x hx => o.block x (h.h.foot_lt hx) (hs x hx), Only.under h.bl o hS h.bl.size, h.f⟩
theorem BSt.congr {w0 W : World} {b : Nat} {P : Nat → QP} {rows rows' : Nat → List Tm} {M : Int} (h : BSt w0 W b P rows M) (e : ∀ j, j < 6 → rows j = rows' j) : BSt w0 W b P rows' M :=
  ⟨⟨h.h.bb, fun i hi => by rw [← e i hi]; exact h.h.q i hi, h.h.d, h.h.nb⟩, h.bl, h.f⟩
/-- three bases, the times' box -/
structure T3 (w0 W : World) (a b c : Nat) (Pa Pb Pc : Nat → QP) (ra rb rc : Nat → List Tm) (base OB : Nat) (off : Nat → Int) (M : Int) : Prop where
  sa : BSt w0 W a Pa ra M
  sb : BSt w0 W b Pb rb M
  sc : BSt w0 W c Pc rc M
  dab : ∀ x, BF a Pa x → ¬ BF b Pb x
  dac : ∀ x, BF a Pa x → ¬ BF c Pc x
  dbc : ∀ x, BF b Pb x → ¬ BF c Pc x
  f : Blk W OB 23 (three off)
  la : ∀ x, BF a Pa x → x < base
  lb : ∀ x, BF b Pb x → x < base
  lc : ∀ x, BF c Pc x → x < base
  l0 : w0.heap.size ≤ base
  l1 : base ≤ W.heap.size
  na : ¬ BF a Pa OB
  nb : ¬ BF b Pb OB
  nc : ¬ BF c Pc OB
section
variable {w0 W W' : World} {a b c base OB : Nat} {Pa Pb Pc : Nat → QP} {ra rb rc r' : Nat → List Tm} {off : Nat → Int} {M M' : Int}
theorem T3.call (h : T3 w0 W a b c Pa Pb Pc ra rb rc base OB off M) (k : Below W.heap.size W W') : T3 w0 W' a b c Pa Pb Pc ra rb rc base OB off M :=
  ⟨h.sa.call k, h.sb.call k, h.sc.call k, h.dab, h.dac, h.dbc, h.f.below k h.f.lt, h.la, h.lb, h.lc, h.l0, Nat.le_trans h.l1 k.size, h.na, h.nb, h.nc⟩
theorem T3.alloc (h : T3 w0 W a b c Pa Pb Pc ra rb rc base OB off M) (o : Obj) : T3 w0 (W.alloc o) a b c Pa Pb Pc ra rb rc base OB off M := h.call ((Below.refl _ _).alloc (Nat.le_refl _) o)
theorem T3.drewN (h : T3 w0 W a b c Pa Pb Pc ra rb rc base OB off M) (n : Nat) : T3 w0 (W.drewN n) a b c Pa Pb Pc ra rb rc base OB off M :=
  ⟨h.sa.drewN n, h.sb.drewN n, h.sc.drewN n, h.dab, h.dac, h.dbc, h.f.drewN n, h.la, h.lb, h.lc, h.l0, h.l1, h.na, h.nb, h.nc⟩
theorem T3.drew (h : T3 w0 W a b c Pa Pb Pc ra rb rc base OB off M) : T3 w0 W.drew a b c Pa Pb Pc ra rb rc base OB off M := h.drewN 1
theorem T3.goA (h : T3 w0 W a b c Pa Pb Pc ra rb rc base OB off M) (k : BHas W' a Pa r' M') (o : Only (BF a Pa) W W') (hM : M ≤ M') : T3 w0 W' a b c Pa Pb Pc r' rb rc base OB off M' :=
  ⟨h.sa.goes k o, (h.sb.only o (fun x hx e => h.dab x e hx) h.sa.f).mono hM, (h.sc.only o (fun x hx e => h.dac x e hx) h.sa.f).mono hM, h.dab, h.dac, h.dbc, o.blk h.f h.na, h.la, h.lb, h.lc, h.l0, Nat.le_trans h.l1 o.size, h.na, h.nb, h.nc⟩
theorem T3.goB (h : T3 w0 W a b c Pa Pb Pc ra rb rc base OB off M) (k : BHas W' b Pb r' M') (o : Only (BF b Pb) W W') (hM : M ≤ M') : T3 w0 W' a b c Pa Pb Pc ra r' rc base OB off M' :=
  ⟨(h.sa.only o (fun x hx e => h.dab x hx e) h.sb.f).mono hM, h.sb.goes k o, (h.sc.only o (fun x hx e => h.dbc x e hx) h.sb.f).mono hM, h.dab, h.dac, h.dbc, o.blk h.f h.nb, h.la, h.lb, h.lc, h.l0, Nat.le_trans h.l1 o.size, h.na, h.nb, h.nc⟩
theorem T3.goC (h : T3 w0 W a b c Pa Pb Pc ra rb rc base OB off M) (k : BHas W' c Pc r' M') (o : Only (BF c Pc) W W') (hM : M ≤ M') : T3 w0 W' a b c Pa Pb Pc ra rb r' base OB off M' :=
  ⟨(h.sa.only o (fun x hx e => h.dac x hx e) h.sc.f).mono hM, (h.sb.only o (fun x hx e => h.dbc x hx e) h.sc.f).mono hM, h.sc.goes k o, h.dab, h.dac, h.dbc, o.blk h.f h.nc, h.la, h.lb, h.lc, h.l0, Nat.le_trans h.l1 o.size, h.na, h.nb, h.nc⟩
theorem T3.mono (h : T3 w0 W a b c Pa Pb Pc ra rb rc base OB off M) (hM : M ≤ M') : T3 w0 W a b c Pa Pb Pc ra rb rc base OB off M' :=
  ⟨h.sa.mono hM, h.sb.mono hM, h.sc.mono hM, h.dab, h.dac, h.dbc, h.f, h.la, h.lb, h.lc, h.l0, h.l1, h.na, h.nb, h.nc⟩
theorem T3.congrC (h : T3 w0 W a b c Pa Pb Pc ra rb rc base OB off M) (e : ∀ j, j < 6 → rc j = r' j) : T3 w0 W a b c Pa Pb Pc ra rb r' base OB off M :=
  ⟨h.sa, h.sb, h.sc.congr e, h.dab, h.dac, h.dbc, h.f, h.la, h.lb, h.lc, h.l0, h.l1, h.na, h.nb, h.nc⟩
end
/-- rows whose timers came by Start -/
structure GI (rows : Nat → List Tm) : Prop where
  r : RI rows
  h : ∀ t, t ∈ rowsU rows 6 → ¬ t.hard < t.soft
theorem GI.nil : GI (fun _ => []) := ⟨RI.nil, fun t ht => absurd ht (by simp [rowsU])⟩
theorem start_zero {rows : Nat → List Tm} {t : Tm} (h : startE rows t = 0) : (0 ≤ t.clock ∧ t.clock < 3) ∧ hasB rows t.id = false ∧ ¬ t.hard < t.soft := by
  unfold startE at h
  by_cases hc : t.clock < 0 ∨ 3 ≤ t.clock
  · rw [if_pos hc] at h; cases h
  · rw [if_neg hc] at h
    cases hb : hasB rows t.id with
    | true => rw [hb, if_pos rfl] at h; cases h
    | false =>
      rw [hb, if_neg (by simp)] at h
      unfold addE at h
      by_cases h1 : t.hard < t.soft
      · rw [if_pos h1] at h; cases h
      · exact ⟨by omega, rfl, h1⟩
theorem mem_putB {t a : Tm} {l : List Tm} (h : a ∈ putB t l) : a = t ∨ a ∈ l := by
  unfold putB at h
  rcases List.mem_append.1 h with h | h
  · exact .inr ((List.takeWhile_sublist _).subset h)
  · rcases List.mem_cons.1 h with rfl | h
    · exact .inl rfl
    · exact .inr ((List.dropWhile_sublist _).subset h)
theorem GI.start {rows : Nat → List Tm} (h : GI rows) (t : Tm) : GI (startR rows t) ∧ (rowsU (startR rows t) 6).length ≤ (rowsU rows 6).length + 1 := by
  by_cases e : startE rows t = 0
  · obtain ⟨hc, hb, hh⟩ := start_zero e
    obtain ⟨e1, e2⟩ := startR_yes h.r hc e hb
    refine ⟨⟨e2, fun a ha => ?_⟩, by rw [e1, putB_len]; exact Nat.le_refl _⟩
    rw [e1] at ha
    rcases mem_putB ha with rfl | ha
    · exact hh
    · exact h.h a ha
  · rw [startR_no e]
    exact ⟨h, Nat.le_succ _⟩
/-- the rows, in order, by the law's word -/
theorem RI.bef {rows : Nat → List Tm} (h : RI rows) : ∀ n, n ≤ 6 → (rowsU rows n).Pairwise (fun a b => bef a b = true)
  | 0, _ => List.Pairwise.nil
  | n + 1, hn => by
    show (rowsU rows n ++ rows n).Pairwise _
    refine List.pairwise_append.2 ⟨h.bef n (by omega), ?_, fun a ha b hb => ?_⟩
    · refine (h.so n (by omega)).imp_of_mem fun {a b} ha hb e => ?_
      have pa := h.pl n (by omega) a ha
      have pb := h.pl n (by omega) b hb
      rw [bef_eq ⟨pa.1, pa.2.1⟩ ⟨pb.1, pb.2.1⟩ (pa.2.2.trans pb.2.2.symm)]
      exact decide_eq_true e
    · obtain ⟨j, hj, ha⟩ := mem_rowsU.1 ha
      have pa := h.pl j (by omega) a ha
      have pb := h.pl n (by omega) b hb
      exact bef_lt ⟨pa.1, pa.2.1⟩ ⟨pb.1, pb.2.1⟩ (by omega)
theorem putB_last {t : Tm} {l : List Tm} (h : ∀ a, a ∈ l → bef a t = true) : putB t l = l ++ [t] := by
  obtain ⟨i1, i2⟩ := tw_pos (p := fun a => bef a t) (A := l) (B := []) h
  rw [List.append_nil] at i1 i2
  unfold putB
  rw [i1, i2]
  simp
theorem rowsU_place {rows : Nat → List Tm} (h : RI rows) (j : Nat) : ∀ n, n ≤ 6 → (rowsU rows n).filter (fun t => decide (place t = j)) = if j < n then rows j else []
  | 0, _ => rfl
  | n + 1, hn => by
    show (rowsU rows n ++ rows n).filter _ = _
    rw [List.filter_append, rowsU_place h j n (by omega)]
    by_cases e : n = j
    · subst e
      rw [if_neg (by omega), if_pos (by omega), List.nil_append]
      exact List.filter_eq_self.2 fun t ht => decide_eq_true (h.pl n (by omega) t ht).2.2
    · rw [List.filter_eq_nil_iff.2 fun t ht e' => e ((h.pl n (by omega) t ht).2.2.symm.trans (of_decide_eq_true e')), List.append_nil]
      by_cases hj : j < n
      · rw [if_pos hj, if_pos (by omega)]
      · rw [if_neg hj, if_neg (by omega)]
theorem rows_eq {rows rows' : Nat → List Tm} (h : RI rows) (h' : RI rows') (e : rowsU rows 6 = rowsU rows' 6) (j : Nat) (hj : j < 6) : rows j = rows' j := by
  have h1 := rowsU_place h j 6 (Nat.le_refl _)
  have h2 := rowsU_place h' j 6 (Nat.le_refl _)
  rw [if_pos hj] at h1 h2
  rw [← h1, ← h2, e]
/-- the first one goes out -/
theorem canc_head {ra : Nat → List Tm} {t : Tm} {rest : List Tm} {i : Nat} (h : RI ra) (e : rowsU ra 6 = t :: rest) (hi : i < 6) (hy : hasT (ra i) t.id = true) (hn : ∀ j, j < i → hasT (ra j) t.id = false) :
    getT (ra i) t.id = t ∧ rowsU (fun j => if j = i then delT (ra i) t.id else ra j) 6 = rest ∧ RI (fun j => if j = i then delT (ra i) t.id else ra j) := by
  obtain ⟨y1, y2, y3⟩ := del_rows hy hn 6 hi
  refine ⟨?_, ?_, h.del i t.id⟩
  · rw [← y2, e]
    unfold getT
    rw [List.find?_cons_of_pos (by simp)]
    rfl
  · rw [← y3, e]
    unfold delT
    rw [List.eraseP_cons_of_pos (by simp)]
theorem has_head {ra : Nat → List Tm} {t : Tm} {rest : List Tm} (e : rowsU ra 6 = t :: rest) : hasB ra t.id = true := by
  rw [← has_rows, e]
  exact List.any_eq_true.2 ⟨t, by simp, by simp⟩
/-- and comes last elsewhere -/
theorem put_last {R rc : Nat → List Tm} {t : Tm} {j : Nat} (h : GI R) (hc : RI rc) (e : rowsU rc 6 = (rowsU R 6).take j) (ht : (rowsU R 6)[j]? = some t) (hl : (rowsU R 6).length ≤ 50) :
    startE rc t = 0 ∧ rowsU (startR rc t) 6 = (rowsU R 6).take (j + 1) ∧ RI (startR rc t) := by
  have hj : j < (rowsU R 6).length := (List.getElem?_eq_some_iff.1 ht).1
  have hx : (rowsU R 6)[j] = t := by rw [List.getElem?_eq_getElem hj] at ht; injection ht
  have hm : t ∈ rowsU R 6 := List.mem_of_getElem? ht
  obtain ⟨i, hi, hmi⟩ := mem_rowsU.1 hm
  have hp := h.r.pl i hi t hmi
  have hs := split_at ht
  have hb : hasB rc t.id = false := by
    rw [← has_rows, e]
    refine Bool.eq_false_iff.2 fun h1 => ?_
    obtain ⟨b, hb, hb'⟩ := List.any_eq_true.1 h1
    have hd := h.r.ids
    rw [hs, List.map_append, List.map_cons, List.nodup_append] at hd
    exact hd.2.2 b.id (List.mem_map.2 ⟨b, hb, rfl⟩) t.id (by simp) (of_decide_eq_true hb')
  have h0 : startE rc t = 0 := ((start_rows hc t (by rw [e, List.length_take]; omega)).2 (by omega)).2 hb |>.2 (h.h t hm)
  obtain ⟨e1, e2⟩ := startR_yes hc ⟨hp.1, hp.2.1⟩ h0 hb
  refine ⟨h0, ?_, e2⟩
  have hbf := h.r.bef 6 (Nat.le_refl _)
  rw [hs] at hbf
  rw [e1, e, putB_last fun a ha => (List.pairwise_append.1 hbf).2.2 a ha t (by simp), List.take_succ_eq_append_getElem hj, hx]
/-- behind each of the two passes -/
def XR (R : Nat → List Tm) (o : Nat → Int) : Nat → (Nat → List Tm)
  | 0 => R
  | k + 1 => expR (XR R o k) o (decide (k = 1))
def L1 (w0 : World) (a b c : Nat) (Pa Pb Pc : Nat → QP) (base OB : Nat) (off : Nat → Int) (N m : Nat) (s29 : Value) (wr : World) : Prop :=
  ∃ (k : Nat) (R : Nat → List Tm), k ≤ N ∧ m = N - k ∧ s29 = .int .i64 k ∧ GI R ∧ (rowsU R 6).length ≤ k ∧ T3 w0 wr a b c Pa Pb Pc R R (fun _ => []) base OB off k
def L2 (w0 : World) (a b c : Nat) (Pa Pb Pc : Nat → QP) (base OB : Nat) (off : Nat → Int) (R : Nat → List Tm) (v42 : Value) (m : Nat) (s44 : Value) (wr : World) : Prop :=
  ∃ (j : Nat) (ra rc : Nat → List Tm), j ≤ (rowsU R 6).length ∧ m = (rowsU R 6).length - j ∧ s44 = .int .i64 j ∧ RI ra ∧ rowsU ra 6 = (rowsU R 6).drop j ∧ RI rc ∧ rowsU rc 6 = (rowsU R 6).take j ∧ T3 w0 wr a b c Pa Pb Pc ra R rc base OB off (50 + j : Nat) ∧ RSl wr base v42 (rowsU R 6)
def L3 (w0 : World) (a b c : Nat) (Pa Pb Pc : Nat → QP) (base OB : Nat) (off : Nat → Int) (ra R : Nat → List Tm) (HB : Nat) (m : Nat) (s71 : Value) (wr : World) : Prop :=
  ∃ k : Nat, k ≤ 2 ∧ m = 2 - k ∧ s71 = .int .i64 k ∧ T3 w0 wr a b c Pa Pb Pc ra (XR R off k) (XR R off k) base OB off 100 ∧ Blk wr HB 4 #[.bool false, .bool true]
def L4 (w0 : World) (a b c : Nat) (Pa Pb Pc : Nat → QP) (base OB : Nat) (off : Nat → Int) (ra R : Nat → List Tm) (HB : Nat) (v16 v17 : Value) (l : List Tm) (m : Nat) (s90 : Value) (wr : World) : Prop :=
  ∃ j : Nat, j ≤ l.length ∧ m = l.length - j ∧ s90 = .int .i64 j ∧ T3 w0 wr a b c Pa Pb Pc ra R R base OB off 100 ∧ Blk wr HB 4 #[.bool false, .bool true] ∧ RSl wr base v16 l ∧ RSl wr base v17 l
end Go.Proofs.Ytcoibhmgblicfaa.Ba
/- An array of plain leaves that came in by value. No condition. -/
set_option linter.unusedVariables false
namespace Go.Proofs.Ytcoibhmgblicfaa.Leaf
open Go.RowKit Go.ChangeShapes Go.WideShapes Go.Deep
theorem okWide_arr {P : Program} {w : World} {r : Reach} {base : Nat} {t e : TypeId} {n : Nat} {v : Value} (ht : P.underlying t = some (.array n e)) (h : Value.okWide P w r base t v) : ∃ cs, v = .agg cs := by
  simp only [Value.okWide, ht] at h
  obtain ⟨cs, h1, _⟩ := h
  exact ⟨cs, h1⟩
theorem open_arr {H : Type} {enc : TypeId × Value → H} {P : Program} {w : World} {base b0 : Nat} {spare : Nat → Bool} {held : Bool} {r : Reach} {t e : TypeId} {n : Nat} {v : Value} {d : DataW H} {p : List MemPlace} {ls : List Lf} (k : Nat)
    (hs : P.underlying t = some (.array n e)) (hl : leaves P k t = some ls) (hv : Value.okWide P w r b0 t v) (h : DataW.Trod enc P w base spare held t v d p) : ∃ cs, v = .agg cs ∧ Fits ls cs.toList := by
  obtain ⟨cs, rfl⟩ := okWide_arr hs hv
  obtain ⟨fuel, h⟩ := h
  exact ⟨cs, rfl, leaves_fit k hl h⟩
theorem len_in' {w : World} {A : Option Addr} {n : Nat} {ls : List Leaf.Lf} (h : Leaf.Row w ls A n) : n ≤ maxLen := by
  rcases h with rfl | ⟨_, _, _, _, h, _⟩
  · exact Nat.zero_le _
  · exact h
end Go.Proofs.Ytcoibhmgblicfaa.Leaf
