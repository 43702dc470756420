/- Lemmas and contracts for RowBaseMoves, merged by program out of Bf. No condition. -/
import Derived.Test.YtcoibhmgblicfaaBz12
import Derived.Test.YtcoibhmgblicfaaBz14
import Derived.StillTailTactics
set_option linter.unusedVariables false
set_option linter.unusedSimpArgs false
/- Base's Next. No condition but that memory holds a base. -/
set_option linter.unusedVariables false
set_option linter.unusedSimpArgs false
namespace Go.Proofs.Ytcoibhmgblicfaa.Ba
open Go.RowKit Go.Proofs.Ytcoibhmgblicfaa.Aid Go.Proofs.Ytcoibhmgblicfaa.Tr Go.Proofs.Ytcoibhmgblicfaa.Kt Go.Proofs.Ytcoibhmgblicfaa.Q
/-- what one queue says of the first time -/
def nxv (row : List Tm) (off : Int) (use : Bool) (f : Int) : Int := match row with
  | [] => f
  | a :: _ => if use then min f (sb a.soft off) else f
def InB (f : Int) : Prop := -4611686018427387903 ≤ f ∧ f ≤ 4611686018427387903
theorem nxv_in {row : List Tm} {off f : Int} {use : Bool} (h : InB f) : InB (nxv row off use f) := by
  unfold nxv
  have h1 := fun a => sb_bd a off
  unfold InB at h ⊢
  split
  · exact h
  · rename_i a l
    have := h1 a.soft
    split <;> omega
theorem first_two {f x : Int} (hf : InB f) (hx : InB x) : firstOf [f, x] = min f x := by
  unfold InB at hf hx
  show mnc (mnc 4611686018427387903 f) x = _
  unfold mnc
  rw [cl_in hf.1 hf.2, cl_in hx.1 hx.2]
  omega
/-- three offsets in their box -/
def three (o : Nat → Int) : Array Value := #[.int .i64 (o 0), .int .i64 (o 1), .int .i64 (o 2)]
theorem three_at (o : Nat → Int) : ∀ i, i < 3 → (three o)[i]? = some (.int .i64 (o i))
  | 0, _ => rfl
  | 1, _ => rfl
  | 2, _ => rfl
theorem sd_no : sd false = 0 := rfl
/-- nothing is there, or it does not count -/
theorem next1_skip (w : World) {P : QP} {row : List Tm} {M : Int} (h : QHas w P row M) (i : Int) (k : Nat) (lz : Bool) (gl gf go' : Nat) (hl : Blk w gl 4 #[.bool lz])
    (hn : row = [] ∨ (lz = false ∧ k ≠ 0)) :
    Calls Try.prog 37 #[.int .i64 i, .int .i64 k, P.v, .pointer (some ⟨gl, 0, none⟩), .pointer (some ⟨gf, 0, none⟩), .pointer (some ⟨go', 0, none⟩)] w fun e w' => e = .returned (.bool true) ∧ Below w.heap.size w w' := by
  have C := QHas_first h
  generalize row.head?.getD zeroT = t at C
  unfold Tm.agg at C
  have HL := Lib.hid hl
  rcases hn with hn | ⟨rfl, hk⟩
  · rw [decide_eq_false (by simp [hn])] at C
    have HC := Lib.hid C
    clear C hl h hn
    go_enter Try.func37, Try.ntmps37
    go_wp2_with fail
    refine HC.out.mono ?_
    rintro e w1 ⟨rfl, b1⟩
    have B := Lib.hid (b1.alloc b1.size (.cells #[.int .i64 t.id, .int .i64 t.clock, .int .i64 t.soft, .int .i64 t.hard, .bool t.lazy] 29))
    go_wp2_with fail
    go_ret
    exact ⟨rfl, B.out⟩
  · obtain ⟨ok, hok⟩ : ∃ q, decide (row ≠ []) = q := ⟨_, rfl⟩
    rw [hok] at C
    have HC := Lib.hid C
    clear C hl h hok
    have hk0 : ((k : Nat) : Int) ≠ 0 := by omega
    cases ok with
    | false =>
      go_enter Try.func37, Try.ntmps37
      go_wp2_with fail
      refine HC.out.mono ?_
      rintro e w1 ⟨rfl, b1⟩
      have B := Lib.hid (b1.alloc b1.size (.cells #[.int .i64 t.id, .int .i64 t.clock, .int .i64 t.soft, .int .i64 t.hard, .bool t.lazy] 29))
      go_wp2_with fail
      go_ret
      exact ⟨rfl, B.out⟩
    | true =>
      have kn : (((k : Nat) : Int) == ((0 : Nat) : Int)) = false := by simpa using hk
      go_enter Try.func37, Try.ntmps37
      go_wp2_with fail
      refine HC.out.mono ?_
      rintro e w1 ⟨rfl, b1⟩
      have B := Lib.hid (b1.alloc b1.size (.cells #[.int .i64 t.id, .int .i64 t.clock, .int .i64 t.soft, .int .i64 t.hard, .bool t.lazy] 29))
      have l0 := ((HL.out.below b1 HL.out.lt).alloc (.cells #[.int .i64 t.id, .int .i64 t.clock, .int .i64 t.soft, .int .i64 t.hard, .bool t.lazy] 29)).cell 0
      go_wp2_with fail
      refine (side_any false _).mono ?_
      rintro e w2 ⟨rfl, rfl⟩
      rw [sd_no]
      go_wp2_with fail
      go_ret
      exact ⟨rfl, B.out⟩
theorem two_ints (W : World) (a b : Int) (T : TypeId) : ∀ k, k < 2 → (W.alloc (.cells #[.int .i64 a, .int .i64 b] T)).cell? ((⟨W.heap.size, 0, none⟩ : Addr).add k) = some (.int .i64 ([a, b].getD k 0)) := by
  intro k hk
  have b1 := Blk.new W T #[.int .i64 a, .int .i64 b]
  rcases (by omega : k = 0 ∨ k = 1) with rfl | rfl
  · exact b1.cell 0
  · exact b1.cell 1
set_option maxHeartbeats 4000000 in
set_option maxRecDepth 100000 in
/-- one is there that counts -/
theorem next1_take (w : World) {P : QP} {a : Tm} {l : List Tm} {M : Int} (h : QHas w P (a :: l) M) (i : Nat) (hi : i < 3) (k : Nat) (lz : Bool) (gl gf go' : Nat) (f : Int) (o : Nat → Int) (hl : Blk w gl 4 #[.bool lz])
    (hf : Blk w gf 3 #[.int .i64 f]) (ho : Blk w go' 23 (three o)) (hn : lz = true ∨ k = 0) (hfb : InB f) :
    Calls Try.prog 37 #[.int .i64 i, .int .i64 k, P.v, .pointer (some ⟨gl, 0, none⟩), .pointer (some ⟨gf, 0, none⟩), .pointer (some ⟨go', 0, none⟩)] w fun e w' => e = .returned (.bool true) ∧ Blk w' gf 3 #[.int .i64 (min f (sb a.soft (o i)))] ∧ Only (one gf) w w' := by
  have C := QHas_first h
  have hz : InB (sb a.soft (o i)) := sb_bd _ _
  rw [show ((a :: l).head?.getD zeroT) = a from rfl, show decide (a :: l ≠ []) = true from rfl] at C
  unfold Tm.agg at C
  have HB := Lib.hid (And.intro hl (And.intro hf ho))
  have HC := Lib.hid C
  have HI := Lib.hid (And.intro hi (first_two hfb hz))
  clear C hl hf ho h hi
  rw [show min f (sb a.soft (o i)) = firstOf [f, sb a.soft (o i)] from HI.out.2.symm]
  go_enter Try.func37, Try.ntmps37
  go_wp2_with fail
  refine HC.out.mono ?_
  rintro e w1 ⟨rfl, b1⟩
  have B := b1.alloc b1.size (.cells #[.int .i64 a.id, .int .i64 a.clock, .int .i64 a.soft, .int .i64 a.hard, .bool a.lazy] 29)
  have t1 := Blk.new w1 29 #[.int .i64 a.id, .int .i64 a.clock, .int .i64 a.soft, .int .i64 a.hard, .bool a.lazy]
  have s1 : (w1.alloc (.cells #[.int .i64 a.id, .int .i64 a.clock, .int .i64 a.soft, .int .i64 a.hard, .bool a.lazy] 29)).heap.size = w1.heap.size + 1 := by simp
  have l0 := HB.out.1.below B HB.out.1.lt
  have f0 := HB.out.2.1.below B HB.out.2.1.lt
  have o0 := HB.out.2.2.below B HB.out.2.2.lt
  go_upto_region 2 with fail
  generalize w1.alloc (.cells #[.int .i64 a.id, .int .i64 a.clock, .int .i64 a.soft, .int .i64 a.hard, .bool a.lazy] 29) = W at B t1 l0 f0 o0 s1 ⊢
  generalize w1.heap.size = gt at t1 ⊢
  have c0 := l0.cell 0
  have HW := Lib.hid (And.intro B (And.intro f0 s1))
  have e0 := f0.drew.cell 0
  have x0 := f0.drew.frozen 0
  have lt0 := f0.drew.lt
  have e1 := (o0.drew.cell i).trans (three_at o i HI.out.1)
  have e2 := t1.drew.cell 2
  have F2 := Lib.hid (fun (T : TypeId) => first_any ⟨W.heap.size, 0, none⟩ [f, sb a.soft (o i)] 2 2 (W.alloc (.cells #[.int .i64 f, .int .i64 (sb a.soft (o i))] T)).drew rfl (by omega) (two_ints W f (sb a.soft (o i)) T))
  have f3 := fun (T : TypeId) => (f0.alloc (.cells #[.int .i64 f, .int .i64 (sb a.soft (o i))] T)).drew
  have g0 := fun (T : TypeId) => (f3 T).cell 0
  have g1 := fun (T : TypeId) => (f3 T).frozen 0
  have hi3 : ((i : Nat) : Int) < 3 := by have := HI.out.1; omega
  have hi0 : (0 : Int) ≤ ((i : Nat) : Int) := by omega
  have FIN : Blk ((W.alloc (.cells #[.int .i64 f, .int .i64 (sb a.soft (o i))] 3)).setCell ⟨gf, 0, none⟩ (.int .i64 (firstOf [f, sb a.soft (o i)]))).drew gf 3 #[.int .i64 (firstOf [f, sb a.soft (o i)])] ∧ Only (one gf) w ((W.alloc (.cells #[.int .i64 f, .int .i64 (sb a.soft (o i))] 3)).setCell ⟨gf, 0, none⟩ (.int .i64 (firstOf [f, sb a.soft (o i)]))).drew :=
    ⟨((f0.alloc (.cells #[.int .i64 f, .int .i64 (sb a.soft (o i))] 3)).set_ 0 (.int .i64 (firstOf [f, sb a.soft (o i)]))).drew, ((Only.of_below (B.alloc B.size (.cells #[.int .i64 f, .int .i64 (sb a.soft (o i))] 3)) (one gf)).setCell (p := ⟨gf, 0, none⟩) (.inl rfl) (.int .i64 (firstOf [f, sb a.soft (o i)]))).drew⟩
  have HF3 := Lib.hid FIN
  clear FIN
  clear B t1 l0 f0 o0 s1 b1 HC HB f3
  cases lz with
  | true =>
    go_wp2_with fail
    go_region_with (first | (go_at_call 39; refine (sub_any _ _ _).mono ?_; rintro e W5 ⟨rfl, rfl⟩) | (go_at_call 38; refine (F2.out _).mono ?_; rintro e W6 ⟨rfl, rfl⟩))
    all_goals
      go_wp2_with fail
      go_ret
      exact ⟨rfl, HF3.out.1, HF3.out.2⟩
  | false =>
    obtain rfl : k = 0 := hn.resolve_left (by simp)
    go_wp2_with fail
    refine (side_any false _).mono ?_
    rintro e w2 ⟨rfl, rfl⟩
    rw [sd_no]
    go_wp2_with fail
    go_region_with (first | (go_at_call 39; refine (sub_any _ _ _).mono ?_; rintro e W5 ⟨rfl, rfl⟩) | (go_at_call 38; refine (F2.out _).mono ?_; rintro e W6 ⟨rfl, rfl⟩))
    all_goals
      go_wp2_with fail
      go_ret
      exact ⟨rfl, HF3.out.1, HF3.out.2⟩
/-- one queue's word on the first time -/
theorem next1_any (w : World) {P : QP} {row : List Tm} {M : Int} (h : QHas w P row M) (i : Nat) (hi : i < 3) (k : Nat) (lz : Bool) (gl gf go' : Nat) (f : Int) (o : Nat → Int) (hl : Blk w gl 4 #[.bool lz])
    (hf : Blk w gf 3 #[.int .i64 f]) (ho : Blk w go' 23 (three o)) (hfb : InB f) :
    Calls Try.prog 37 #[.int .i64 i, .int .i64 k, P.v, .pointer (some ⟨gl, 0, none⟩), .pointer (some ⟨gf, 0, none⟩), .pointer (some ⟨go', 0, none⟩)] w fun e w' => e = .returned (.bool true) ∧ Blk w' gf 3 #[.int .i64 (nxv row (o i) (lz || decide (k = 0)) f)] ∧ Only (one gf) w w' := by
  cases row with
  | nil =>
    refine (next1_skip w h i k lz gl gf go' hl (.inl rfl)).mono ?_
    rintro e w' ⟨rfl, b⟩
    exact ⟨rfl, hf.below b hf.lt, Only.of_below b _⟩
  | cons a l =>
    by_cases hn : lz = true ∨ k = 0
    · have e1 : (lz || decide (k = 0)) = true := by
        rcases hn with rfl | rfl
        · rfl
        · simp
      rw [e1]
      exact next1_take w h i hi k lz gl gf go' f o hl hf ho hn hfb
    · have hz : lz = false := by
        cases lz with
        | false => rfl
        | true => exact absurd (.inl rfl) hn
      have hk : k ≠ 0 := fun e => hn (.inr e)
      rw [hz, decide_eq_false hk]
      refine (next1_skip w h i k lz gl gf go' hl (.inr ⟨hz, hk⟩)).mono ?_
      rintro e w' ⟨rfl, b⟩
      exact ⟨rfl, hf.below b hf.lt, Only.of_below b _⟩
/-- what the first queues say of the first time -/
def nxU (rows : Nat → List Tm) (o : Nat → Int) (lz : Bool) : Nat → Int
  | 0 => 4611686018427387903
  | i + 1 => nxv (rows i) (o (i / 2)) (lz || decide (i % 2 = 0)) (nxU rows o lz i)
theorem nxU_in (rows : Nat → List Tm) (o : Nat → Int) (lz : Bool) : ∀ i, InB (nxU rows o lz i)
  | 0 => by unfold nxU InB; omega
  | i + 1 => nxv_in (nxU_in rows o lz i)
/-- three boxes -/
theorem box3 (w : World) (c1 c2 c3 : Array Value) (T1 T2 T3 : TypeId) :
    Blk (((w.alloc (.cells c1 T1)).alloc (.cells c2 T2)).alloc (.cells c3 T3)) w.heap.size T1 c1 ∧ Blk (((w.alloc (.cells c1 T1)).alloc (.cells c2 T2)).alloc (.cells c3 T3)) (w.heap.size + 1) T2 c2 ∧ Blk (((w.alloc (.cells c1 T1)).alloc (.cells c2 T2)).alloc (.cells c3 T3)) (w.heap.size + 2) T3 c3 ∧
    Below w.heap.size w (((w.alloc (.cells c1 T1)).alloc (.cells c2 T2)).alloc (.cells c3 T3)) := by
  have b1 := Blk.new w T1 c1
  have B1 := (Below.refl w.heap.size w).alloc (Nat.le_refl _) (.cells c1 T1)
  have s1 : (w.alloc (.cells c1 T1)).heap.size = w.heap.size + 1 := by simp
  generalize w.alloc (.cells c1 T1) = W1 at b1 B1 s1 ⊢
  have b2 := Blk.new W1 T2 c2
  have B2 := B1.alloc B1.size (.cells c2 T2)
  have s2 : (W1.alloc (.cells c2 T2)).heap.size = w.heap.size + 2 := by simp [s1]
  have b1 := b1.alloc (.cells c2 T2)
  rw [s1] at b2
  generalize W1.alloc (.cells c2 T2) = W2 at b1 b2 B2 s2 ⊢
  have b3 := Blk.new W2 T3 c3
  rw [s2] at b3
  exact ⟨b1.alloc _, b2.alloc _, b3, B2.alloc B2.size _⟩
set_option maxHeartbeats 1000000 in
set_option maxRecDepth 100000 in
theorem next_any (w : World) {b : Nat} {P : Nat → QP} {rows : Nat → List Tm} {M : Int} (h : BHas w b P rows M) (o : Nat → Int) (lz : Bool) :
    Calls Try.prog 17 #[.pointer (some ⟨b, 0, none⟩), .agg (three o), .bool lz] w fun e w' => e = .returned (.int .i64 (nxU rows o lz 6)) ∧ Below w.heap.size w w' := by
  obtain ⟨x1, x2, x3, x4⟩ := box3 w (three o) #[.bool lz] #[.int .i64 4611686018427387903] 23 4 3
  have h2 := h.below x4
  have hB : ∀ x, BF b P x → ¬ one (w.heap.size + 2) x := fun x hx e => by have := h.foot_lt hx; unfold one at e; omega
  have EA := each_any b P 37 #[.pointer (some ⟨w.heap.size + 1, 0, none⟩), .pointer (some ⟨w.heap.size + 2, 0, none⟩), .pointer (some ⟨w.heap.size, 0, none⟩)]
    (fun i W => BHas W b P rows M ∧ Below w.heap.size w W ∧ Blk W w.heap.size 23 (three o) ∧ Blk W (w.heap.size + 1) 4 #[.bool lz] ∧ Blk W (w.heap.size + 2) 3 #[.int .i64 (nxU rows o lz i)])
    (fun W => False)
    _
    (Go.Proofs.enters_of Try.func37 (by kernel_rfl) rfl)
    (fun i W hJ => hJ.1.bb)
    (by
      rintro i hi W ⟨j1, j2, j3, j4, j5⟩
      refine (next1_any W (j1.q i hi) (i / 2) (by omega) (i % 2) lz _ _ _ _ o j4 j5 j3 (nxU_in _ _ _ _)).mono ?_
      rintro e W' ⟨rfl, k1, k2⟩
      have B' := k2.under j2 (B := w.heap.size) (fun x hx => by unfold one at hx; omega) j2.size
      exact .inl ⟨rfl, j1.same fun x hx => k2.block x (j1.foot_lt hx) (hB x hx), B', k2.blk j3 (by unfold one; omega), k2.blk j4 (by unfold one; omega), k1⟩)
    ⟨h2, x4, x1, x2, x3⟩
  have EH := Lib.hid EA
  clear EA hB h2 x1 x2 x3 x4 h
  unfold three at EH ⊢
  go_enter Try.func17, Try.ntmps17
  go_wp2_with fail
  refine EH.out.mono ?_
  rintro e W3 ⟨rfl, ⟨_, k1, _, _, k2⟩ | k1⟩
  · have c0 := k2.cell 0
    clear EH k2
    go_wp2_with fail
    go_ret
    exact ⟨rfl, k1⟩
  · exact absurd k1 id
end Go.Proofs.Ytcoibhmgblicfaa.Ba
