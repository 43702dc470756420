/- The contract of backoff.Wait: the n-th wait. No condition but the plan's own bounds. -/
import Derived.Test.YtdplpehphjgffaaBk
set_option linter.unusedVariables false
set_option linter.unusedSimpArgs false
namespace Go.Proofs.Ytdplpehphjgffaa.Bk
open Go.RowKit Go.Proofs.Ytdplpehphjgffaa.Aid Go.Proofs.Ytdplpehphjgffaa.Kt
attribute [local go_sem] max2_int min2_int max_two min_two
/-- the closure's own memory: the number, what comes out, the plan -/
structure Mem (W : World) (bn bo bp : Nat) (n o : Int) (p : Pl) : Prop where
  hn : Blk W bn 3 #[.int .i64 n]
  ho : Blk W bo 3 #[.int .i64 o]
  hp : Blk W bp 23 p.cells
  no : bn ≠ bo
  op : bo ≠ bp
theorem Mem.below {W W' : World} {bn bo bp : Nat} {n o : Int} {p : Pl} (h : Mem W bn bo bp n o p) (hb : Below W.heap.size W W') : Mem W' bn bo bp n o p :=
  ⟨h.hn.below hb h.hn.lt, h.ho.below hb h.ho.lt, h.hp.below hb h.hp.lt, h.no, h.op⟩
theorem Mem.drewN {W : World} {bn bo bp : Nat} {n o : Int} {p : Pl} (h : Mem W bn bo bp n o p) (k : Nat) : Mem (W.drewN k) bn bo bp n o p := ⟨h.hn.drewN k, h.ho.drewN k, h.hp.drewN k, h.no, h.op⟩
theorem Mem.alloc {W : World} {bn bo bp : Nat} {n o : Int} {p : Pl} (h : Mem W bn bo bp n o p) (x : Obj) : Mem (W.alloc x) bn bo bp n o p := ⟨h.hn.alloc x, h.ho.alloc x, h.hp.alloc x, h.no, h.op⟩
theorem Mem.out {W : World} {bn bo bp : Nat} {n o : Int} {p : Pl} (h : Mem W bn bo bp n o p) (v : Int) : Mem (W.setCell ⟨bo, 0, none⟩ (.int .i64 v)) bn bo bp n v p :=
  ⟨h.hn.far h.no _, by simpa using h.ho.set_ 0 (.int .i64 v), h.hp.far h.op.symm _, h.no, h.op⟩
set_option maxHeartbeats 1000000 in
theorem w1_below (bn bo bp : Nat) (n o : Int) (p : Pl) (W : World) (h : Mem W bn bo bp n o p) (i x : Int) (hn : n < 0) :
    Calls Try.prog 54 #[.int .i64 i, .int .i64 x, .pointer (some ⟨bn, 0, none⟩), .pointer (some ⟨bo, 0, none⟩), .pointer (some ⟨bp, 0, none⟩)] W fun e W' => e = .returned (.bool false) ∧ Mem W' bn bo bp n o p ∧ W.grownBy W' (some bo) := by
  have q0 : W.cell? ⟨bn, 0, none⟩ = some (.int .i64 n) := h.hn.cell 0
  go_enter Try.func54, Try.ntmps54
  go_wp2
  go_ret
  exact ⟨rfl, h, World.grownBy.refl _ _⟩
set_option maxHeartbeats 1000000 in
theorem w1_stop (bn bo bp : Nat) (n o : Int) (p : Pl) (ok : p.ok) (W : World) (h : Mem W bn bo bp n o p) (i x : Int) (hx : 1 ≤ x ∧ x ≤ p.great) (hn : 0 ≤ n) (hs : n ≤ i ∨ p.great ≤ x ∨ nx p x ≤ x) :
    Calls Try.prog 54 #[.int .i64 i, .int .i64 x, .pointer (some ⟨bn, 0, none⟩), .pointer (some ⟨bo, 0, none⟩), .pointer (some ⟨bp, 0, none⟩)] W fun e W' => e = .returned (.bool false) ∧ Mem W' bn bo bp n x p ∧ W.grownBy W' (some bo) := by
  have q0 : W.cell? ⟨bn, 0, none⟩ = some (.int .i64 n) := h.hn.cell 0
  have q1 : W.cell? ⟨bo, 0, none⟩ = some (.int .i64 o) := h.ho.cell 0
  have q2 : W.cell? ⟨bp, 2, none⟩ = some (.int .i64 p.great) := h.hp.cell 2
  have q3 : W.cell? ⟨bp, 0, none⟩ = some (.int .i64 p.first) := h.hp.cell 0
  have q4 : W.cell? ⟨bp, 1, none⟩ = some (.int .i64 p.factor) := h.hp.cell 1
  have f0 := h.ho.frozen
  have n1 := h.no
  have n2 := h.op
  by_cases h1 : n ≤ i
  · go_enter Try.func54, Try.ntmps54
    go_wp2
    first
      | (go_ret; exact ⟨rfl, h.out x, only_setCell (World.grownBy.refl _ _) (.inl rfl) _⟩)
      | (go_quiet (fail); go_wp2; go_ret; exact ⟨rfl, (h.out x).drewN _, only_drewN (only_setCell (World.grownBy.refl _ _) (.inl rfl) _) _⟩)
  by_cases h2 : p.great ≤ x
  · go_enter Try.func54, Try.ntmps54
    go_wp2
    first
      | (go_ret; exact ⟨rfl, h.out x, only_setCell (World.grownBy.refl _ _) (.inl rfl) _⟩)
      | (go_quiet (fail); go_wp2; go_ret; exact ⟨rfl, (h.out x).drewN _, only_drewN (only_setCell (World.grownBy.refl _ _) (.inl rfl) _) _⟩)
  have h3 : nx p x ≤ x := by omega
  clear hs
  go_enter Try.func54, Try.ntmps54
  go_wp2_with (go_at_call 55; refine (next_any p ok x hx _).mono ?_; rintro e W1 ⟨rfl, b1⟩)
  go_ret
  exact ⟨ret_bool (by first | rfl | exact decide_eq_false (by omega)), (h.out x).below b1, grown_below (only_setCell (World.grownBy.refl _ _) (.inl rfl) _) b1⟩
set_option maxHeartbeats 1000000 in
theorem w1_goes (bn bo bp : Nat) (n o : Int) (p : Pl) (ok : p.ok) (W : World) (h : Mem W bn bo bp n o p) (i x : Int) (hx : 1 ≤ x ∧ x ≤ p.great) (hn : 0 ≤ n) (h1 : i < n) (h2 : x < p.great) (h3 : x < nx p x) :
    Calls Try.prog 54 #[.int .i64 i, .int .i64 x, .pointer (some ⟨bn, 0, none⟩), .pointer (some ⟨bo, 0, none⟩), .pointer (some ⟨bp, 0, none⟩)] W fun e W' => e = .returned (.bool true) ∧ Mem W' bn bo bp n x p ∧ W.grownBy W' (some bo) := by
  have q0 : W.cell? ⟨bn, 0, none⟩ = some (.int .i64 n) := h.hn.cell 0
  have q1 : W.cell? ⟨bo, 0, none⟩ = some (.int .i64 o) := h.ho.cell 0
  have q2 : W.cell? ⟨bp, 2, none⟩ = some (.int .i64 p.great) := h.hp.cell 2
  have q3 : W.cell? ⟨bp, 0, none⟩ = some (.int .i64 p.first) := h.hp.cell 0
  have q4 : W.cell? ⟨bp, 1, none⟩ = some (.int .i64 p.factor) := h.hp.cell 1
  have f0 := h.ho.frozen
  have n1 := h.no
  have n2 := h.op
  go_enter Try.func54, Try.ntmps54
  go_wp2_with (go_at_call 55; refine (next_any p ok x hx _).mono ?_; rintro e W1 ⟨rfl, b1⟩)
  go_ret
  exact ⟨ret_bool (by first | rfl | exact decide_eq_true (by omega)), (h.out x).below b1, grown_below (only_setCell (World.grownBy.refl _ _) (.inl rfl) _) b1⟩
theorem Mem.grown {W W' : World} {bn bo bp : Nat} {n o : Int} {p : Pl} {r : Option Nat} (h : Mem W bn bo bp n o p) (hb : W.grownBy W' r) (h1 : some bn ≠ r) (h2 : some bo ≠ r) (h3 : some bp ≠ r) : Mem W' bn bo bp n o p :=
  ⟨h.hn.grown hb h1, h.ho.grown hb h2, h.hp.grown hb h3, h.no, h.op⟩
/-- a round's head: so many waits were told -/
def ERel (p : Pl) (n : Int) (bn bo bp bq : Nat) (W : World) (m : Nat) (s4 s5 : Value) (wr : World) : Prop :=
  ∃ (i : Nat) (o : Int), m = (p.great - wt p i).toNat ∧ s5 = .int .i64 i ∧ s4 = .int .i64 (wt p i) ∧ (i : Int) ≤ (if n < 0 then 0 else n) ∧ (i : Int) ≤ wt p i ∧ (i = 0 → o = 0) ∧ Mem wr bn bo bp n o p ∧ Blk wr bq 23 p.cells ∧ W.grownBy wr (some bo)
set_option maxHeartbeats 2000000 in
set_option maxRecDepth 100000 in
theorem each_wait (bn bo bp : Nat) (n : Int) (p : Pl) (ok : p.ok) (W : World) (h : Mem W bn bo bp n 0 p) (hn : -9223372036854775808 ≤ n ∧ n ≤ 9223372036854775807) :
    Calls Try.prog 53 #[.agg #[.int .i64 p.first, .int .i64 p.factor, .int .i64 p.great], .func (.func 54) #[] #[.pointer (some ⟨bn, 0, none⟩), .pointer (some ⟨bo, 0, none⟩), .pointer (some ⟨bp, 0, none⟩)]] W fun e W' => e = .returned (.tuple #[]) ∧ Mem W' bn bo bp n (wait p n) p ∧ W.grownBy W' (some bo) := by
  have HO := Lib.hid ok
  have HH := Lib.hid h
  have a1 := ok.a
  have hbo := h.ho.lt
  clear ok h
  go_enter Try.func53, Try.ntmps53
  go_wp2_with fail
  refine (right_yes p HO.out _).mono ?_
  rintro e W1 ⟨rfl, b1⟩
  have hb := Blk.new W 23 p.cells
  have hb1 := hb.below b1 hb.lt
  have hm := (HH.out.alloc (.cells p.cells 23)).below b1
  have g1 : W.grownBy W1 (some bo) := grown_below (only_alloc (World.grownBy.refl W (some bo)) (.cells p.cells 23)) b1
  have hqo : W.heap.size ≠ bo := by omega
  generalize W.heap.size = bq at hb1 hqo ⊢
  clear hb b1
  have q0 : W1.cell? ⟨bq, 0, none⟩ = some (.int .i64 p.first) := hb1.cell 0
  go_wp2_with fail
  go_loopg [4, 5] (p.great - wt p 0).toNat (fun m s4 s5 wr => ERel p n bn bo bp bq W m s4 s5 wr)
  case atStart => exact ⟨0, 0, rfl, rfl, rfl, by split <;> simp <;> omega, by unfold wt; simp; omega, fun _ => rfl, hm, hb1, g1⟩
  case round =>
    obtain ⟨i, o, hm2, rfl, rfl, hi1, hi2, hi0, hmem, hbq, hgr⟩ := hrel
    have HM := Lib.hid hm2
    have HI0 := Lib.hid hi0
    clear hi0
    have hx := wt_bd p HO.out i
    have hi3 : (i : Int) ≤ 1125899906842624 := by have := HO.out.c; omega
    clear hm2 q0
    have q0 : wr.cell? ⟨bq, 0, none⟩ = some (.int .i64 p.first) := hbq.cell 0
    have q1 : wr.cell? ⟨bq, 1, none⟩ = some (.int .i64 p.factor) := hbq.cell 1
    have q2 : wr.cell? ⟨bq, 2, none⟩ = some (.int .i64 p.great) := hbq.cell 2
    by_cases hn0 : n < 0
    · go_wp2_with fail
      refine (w1_below bn bo bp n o p _ hmem _ _ hn0).mono ?_
      rintro e W2 ⟨rfl, h2, g2⟩
      go_wp2_with fail
      go_end0
      refine ⟨rfl, ?_, grown_trans hgr g2⟩
      have hi : i = 0 := by rw [if_pos hn0] at hi1; omega
      have e : wait p n = 0 := by unfold wait; rw [if_pos hn0]
      rw [e]
      have := HI0.out hi
      subst this
      exact h2
    · rw [if_neg hn0] at hi1
      have en : wait p n = wt p n.toNat := by unfold wait; rw [if_neg hn0]
      by_cases hs : n ≤ (i : Int) ∨ p.great ≤ wt p i ∨ nx p (wt p i) ≤ wt p i
      · have e : wait p n = wt p i := by
          rw [en]
          rcases hs with h1 | h1 | h1
          · rw [show n.toNat = i by omega]
          · exact wt_far p HO.out i n.toNat (by omega) (wt_top p HO.out i h1)
          · exact wt_far p HO.out i n.toNat (by omega) (by have := wt_mono p HO.out i; have : wt p (i + 1) = nx p (wt p i) := rfl; omega)
        have HE := Lib.hid e
        have HS := Lib.hid hs
        clear e hs en
        go_wp2_with fail
        refine (w1_stop bn bo bp n o p HO.out _ hmem _ _ hx (by omega) HS.out).mono ?_
        rintro e W2 ⟨rfl, h2, g2⟩
        go_wp2_with fail
        go_end0
        exact ⟨rfl, by rw [HE.out]; exact h2, grown_trans hgr g2⟩
      · have h1 : (i : Int) < n := by omega
        have h2 : wt p i < p.great := by omega
        have h3 : wt p i < nx p (wt p i) := by omega
        clear hs en
        go_wp2_with fail
        refine (w1_goes bn bo bp n o p HO.out _ hmem _ _ hx (by omega) h1 h2 h3).mono ?_
        rintro e W2 ⟨rfl, hm2', g2⟩
        have hbq2 := hbq.grown g2 (by intro he; injection he with he; exact hqo he)
        have q0 : W2.cell? ⟨bq, 0, none⟩ = some (.int .i64 p.first) := hbq2.cell 0
        have q1 : W2.cell? ⟨bq, 1, none⟩ = some (.int .i64 p.factor) := hbq2.cell 1
        have q2 : W2.cell? ⟨bq, 2, none⟩ = some (.int .i64 p.great) := hbq2.cell 2
        go_wp2_with fail
        refine (next_any p HO.out _ hx _).mono ?_
        rintro e W3 ⟨rfl, b3⟩
        go_wp2_with fail
        have hx2 := wt_bd p HO.out (i + 1)
        have ewt : wt p (i + 1) = nx p (wt p i) := rfl
        go_roundg (p.great - wt p (i + 1)).toNat
        case measure => have := HM.out; omega
        case rel => exact ⟨i + 1, _, rfl, by go_num, rfl, by rw [if_neg (by omega)]; omega, by omega, fun h => by omega, hm2'.below b3, hbq2.below b3 hbq2.lt, grown_below (grown_trans hgr g2) b3⟩
set_option maxHeartbeats 2000000 in
set_option maxRecDepth 100000 in
theorem wait_ok (n : Int) (hn : -9223372036854775808 ≤ n ∧ n ≤ 9223372036854775807) (p : Pl) (ok : p.ok) (w : World) :
    Calls Try.prog 13 #[.agg #[.int .i64 p.first, .int .i64 p.factor, .int .i64 p.great], .int .i64 n] w fun e w' => e = .returned (.int .i64 (wait p n)) ∧ Below w.heap.size w w' := by
  have HO := Lib.hid ok
  clear ok
  have hmf : ∀ (fn : Fn) (first cap : Array Value) (w : World), (Instr.makeFunc fn first cap).run Try.prog w = .ok (.func fn first cap) w := fun _ _ _ _ => rfl
  go_enter Try.func13, Try.ntmps13
  have hm : Mem (((w.alloc (.cells p.cells 23)).alloc (.cells #[.int .i64 n] 3)).alloc (.cells #[.int .i64 0] 3)) (w.heap.size + 1) (w.heap.size + 1 + 1) w.heap.size n 0 p := by
    have e1 : (w.alloc (.cells p.cells 23)).heap.size = w.heap.size + 1 := by simp
    have e2 : ((w.alloc (.cells p.cells 23)).alloc (.cells #[.int .i64 n] 3)).heap.size = w.heap.size + 1 + 1 := by simp
    have h1 := Blk.new (w.alloc (.cells p.cells 23)) 3 #[.int .i64 n]
    have h2 := Blk.new ((w.alloc (.cells p.cells 23)).alloc (.cells #[.int .i64 n] 3)) 3 #[.int .i64 0]
    rw [e1] at h1
    rw [e2] at h2
    exact ⟨h1.alloc _, h2, ((Blk.new w 23 p.cells).alloc _).alloc _, by omega, by omega⟩
  have HM := Lib.hid hm
  clear hm
  go_wp2_with fail
  refine (each_wait _ _ _ n p HO.out _ HM.out hn).mono ?_
  rintro e w1 ⟨rfl, h1, g1⟩
  have q0 : w1.cell? ⟨w.heap.size + 1 + 1, 0, none⟩ = some (.int .i64 (wait p n)) := h1.ho.cell 0
  go_wp2_with fail
  go_ret
  refine ⟨rfl, below_grown (g := w.heap.size + 1 + 1) ?_ g1 (by omega)⟩
  exact (((Below.refl w.heap.size w).alloc (Nat.le_refl _) _).alloc (by simp) _).alloc (by simp; omega) _
set_option maxHeartbeats 2000000 in
theorem each_no (f : Value) (p : Pl) (no : ¬ p.ok) (W : World) :
    Calls Try.prog 53 #[.agg #[.int .i64 p.first, .int .i64 p.factor, .int .i64 p.great], f] W fun e W' => e = .returned (.tuple #[]) ∧ Below W.heap.size W W' := by
  have HN := Lib.hid no
  clear no
  go_enter Try.func53, Try.ntmps53
  go_wp2_with fail
  refine (right_no p HN.out _).mono ?_
  rintro e W1 ⟨rfl, b1⟩
  go_wp2_with fail
  refine bodyPost_ret (results_none rfl _ _ _) rfl ?_
  exact ⟨rfl, ((Below.refl W.heap.size W).alloc (Nat.le_refl _) _).trans (b1.mono (by simp))⟩
set_option maxHeartbeats 2000000 in
theorem wait_no (n : Int) (p : Pl) (no : ¬ p.ok) (w : World) :
    Calls Try.prog 13 #[.agg #[.int .i64 p.first, .int .i64 p.factor, .int .i64 p.great], .int .i64 n] w fun e w' => e = .returned (.int .i64 0) ∧ Below w.heap.size w w' := by
  have HN := Lib.hid no
  clear no
  have hmf : ∀ (fn : Fn) (first cap : Array Value) (w : World), (Instr.makeFunc fn first cap).run Try.prog w = .ok (.func fn first cap) w := fun _ _ _ _ => rfl
  have h2 : Blk (((w.alloc (.cells p.cells 23)).alloc (.cells #[.int .i64 n] 3)).alloc (.cells #[.int .i64 0] 3)) (w.heap.size + 1 + 1) 3 #[.int .i64 0] := by
    have e2 : ((w.alloc (.cells p.cells 23)).alloc (.cells #[.int .i64 n] 3)).heap.size = w.heap.size + 1 + 1 := by simp
    have h2 := Blk.new ((w.alloc (.cells p.cells 23)).alloc (.cells #[.int .i64 n] 3)) 3 #[.int .i64 0]
    rwa [e2] at h2
  have H2 := Lib.hid h2
  clear h2
  go_enter Try.func13, Try.ntmps13
  go_wp2_with fail
  refine (each_no _ p HN.out _).mono ?_
  rintro e w1 ⟨rfl, b1⟩
  have q0 : w1.cell? ⟨w.heap.size + 1 + 1, 0, none⟩ = some (.int .i64 0) := (H2.out.below b1 H2.out.lt).cell 0
  go_wp2_with fail
  go_ret
  refine ⟨rfl, Below.trans ?_ (b1.mono ?_)⟩
  · exact (((Below.refl w.heap.size w).alloc (Nat.le_refl _) _).alloc (by simp) _).alloc (by simp; omega) _
  · simp; omega
end Go.Proofs.Ytdplpehphjgffaa.Bk
