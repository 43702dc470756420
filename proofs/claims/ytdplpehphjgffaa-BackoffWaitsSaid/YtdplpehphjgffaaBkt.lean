/- The contracts of backoff.Total and backoff.Tries. No condition but the plan's own bounds. -/
import Derived.Test.YtdplpehphjgffaaBkw
set_option linter.unusedVariables false
set_option linter.unusedSimpArgs false
namespace Go.Proofs.Ytdplpehphjgffaa.Bk
open Go.RowKit Go.Proofs.Ytdplpehphjgffaa.Aid Go.Proofs.Ytdplpehphjgffaa.Kt
attribute [local go_sem] max2_int min2_int max_two min_two
/-- the first waits together, as ktime adds them -/
def sm (p : Pl) : Nat → Int
  | 0 => 0
  | n + 1 => ad (sm p n) (wt p n)
/-- the first waits together -/
def ex (p : Pl) : Nat → Int
  | 0 => 0
  | n + 1 => ex p n + wt p n
def stop (n : Int) : Nat := if n < 10000 then n.toNat else 10000
/-- how many waits are within a time -/
def trg (p : Pl) : Nat → Nat → Int → Nat
  | 0, i, _ => i
  | f + 1, i, left => if left < wt p i then i else trg p f (i + 1) (left - wt p i)
/-- two numbers that a closure holds -/
structure Two (W : World) (ba bb : Nat) (a b : Int) : Prop where
  ha : Blk W ba 3 #[.int .i64 a]
  hb : Blk W bb 3 #[.int .i64 b]
  ne : ba ≠ bb
theorem Two.below {W W' : World} {ba bb : Nat} {a b : Int} (h : Two W ba bb a b) (hb : Below W.heap.size W W') : Two W' ba bb a b := ⟨h.ha.below hb h.ha.lt, h.hb.below hb h.hb.lt, h.ne⟩
theorem Two.alloc {W : World} {ba bb : Nat} {a b : Int} (h : Two W ba bb a b) (x : Obj) : Two (W.alloc x) ba bb a b := ⟨h.ha.alloc x, h.hb.alloc x, h.ne⟩
theorem Two.setA {W : World} {ba bb : Nat} {a b : Int} (h : Two W ba bb a b) (v : Int) : Two (W.setCell ⟨ba, 0, none⟩ (.int .i64 v)) ba bb v b := ⟨by simpa using h.ha.set_ 0 (.int .i64 v), h.hb.far h.ne.symm _, h.ne⟩
theorem Two.setB {W : World} {ba bb : Nat} {a b : Int} (h : Two W ba bb a b) (v : Int) : Two (W.setCell ⟨bb, 0, none⟩ (.int .i64 v)) ba bb a v := ⟨h.ha.far h.ne _, by simpa using h.hb.set_ 0 (.int .i64 v), h.ne⟩
set_option maxHeartbeats 1000000 in
set_option maxRecDepth 100000 in
theorem t1_stop (bn bo : Nat) (n o : Int) (W : World) (h : Two W bn bo n o) (i : Nat) (x : Int) (hi : (i : Int) ≤ 10000) (hs : stop n ≤ i) :
    Calls Try.prog 56 #[.int .i64 i, .int .i64 x, .pointer (some ⟨bn, 0, none⟩), .pointer (some ⟨bo, 0, none⟩)] W fun e W' => e = .returned (.bool false) ∧ W = W' := by
  have q0 : W.cell? ⟨bn, 0, none⟩ = some (.int .i64 n) := h.ha.cell 0
  have hs2 : (n < 10000 ∧ n ≤ i) ∨ (10000 ≤ n ∧ (10000 : Int) ≤ i) := by unfold stop at hs; split at hs <;> omega
  clear hs
  rcases hs2 with ⟨h1, h2⟩ | ⟨h1, h2⟩
  all_goals
    go_enter Try.func56, Try.ntmps56
    go_wp2
    all_goals
      go_ret
      exact ⟨rfl, rfl⟩
set_option maxHeartbeats 1000000 in
set_option maxRecDepth 100000 in
theorem t1_goes (bn bo : Nat) (n o : Int) (W : World) (h : Two W bn bo n o) (i : Nat) (x : Int) (hi : (i : Int) ≤ 10000) (hs : i < stop n) :
    Calls Try.prog 56 #[.int .i64 i, .int .i64 x, .pointer (some ⟨bn, 0, none⟩), .pointer (some ⟨bo, 0, none⟩)] W fun e W' => e = .returned (.bool true) ∧ Two W' bn bo n (ad o x) ∧ W.grownBy W' (some bo) := by
  have q0 : W.cell? ⟨bn, 0, none⟩ = some (.int .i64 n) := h.ha.cell 0
  have q1 : W.cell? ⟨bo, 0, none⟩ = some (.int .i64 o) := h.hb.cell 0
  have f0 := h.hb.frozen
  have HT := Lib.hid h
  have hs2 : (n < 10000 ∧ (i : Int) < n) ∨ (10000 ≤ n ∧ (i : Int) < 10000) := by unfold stop at hs; split at hs <;> omega
  clear hs
  rcases hs2 with ⟨h1, h2⟩ | ⟨h1, h2⟩
  all_goals
    go_enter Try.func56, Try.ntmps56
    go_wp2_with (go_at_call 57; refine (add_any _ _ _).mono ?_; rintro e W1 ⟨rfl, rfl⟩)
    all_goals
      go_ret
      exact ⟨rfl, HT.out.setB _, only_setCell (World.grownBy.refl _ _) (.inl rfl) _⟩
def TRel (p : Pl) (n : Int) (bn bo bq : Nat) (W : World) (m : Nat) (s4 s5 : Value) (wr : World) : Prop :=
  ∃ (i : Nat), m = stop n - i ∧ s5 = .int .i64 i ∧ s4 = .int .i64 (wt p i) ∧ i ≤ stop n ∧ Two wr bn bo n (sm p i) ∧ Blk wr bq 23 p.cells ∧ W.grownBy wr (some bo)
set_option maxHeartbeats 2000000 in
set_option maxRecDepth 100000 in
theorem each_total (bn bo : Nat) (n : Int) (p : Pl) (ok : p.ok) (W : World) (h : Two W bn bo n 0) :
    Calls Try.prog 53 #[.agg #[.int .i64 p.first, .int .i64 p.factor, .int .i64 p.great], .func (.func 56) #[] #[.pointer (some ⟨bn, 0, none⟩), .pointer (some ⟨bo, 0, none⟩)]] W fun e W' => e = .returned (.tuple #[]) ∧ Two W' bn bo n (sm p (stop n)) ∧ W.grownBy W' (some bo) := by
  have HO := Lib.hid ok
  have HH := Lib.hid h
  have a1 := ok.a
  have hbo := h.hb.lt
  have hst : stop n ≤ 10000 := by unfold stop; split <;> omega
  clear ok h
  go_enter Try.func53, Try.ntmps53
  go_wp2_with fail
  refine (right_yes p HO.out _).mono ?_
  rintro e W1 ⟨rfl, b1⟩
  have hb := Blk.new W 23 p.cells
  have hb1 := hb.below b1 hb.lt
  have hm := (HH.out.alloc (.cells p.cells 23)).below b1
  have g1 : W.grownBy W1 (some bo) := grown_below (only_alloc (World.grownBy.refl W (some bo)) (.cells p.cells 23)) b1
  have hqo : W.heap.size ≠ bo := by omega
  generalize W.heap.size = bq at hb1 hqo ⊢
  clear hb b1
  have q0 : W1.cell? ⟨bq, 0, none⟩ = some (.int .i64 p.first) := hb1.cell 0
  go_wp2_with fail
  go_loopg [4, 5] (stop n) (fun m s4 s5 wr => TRel p n bn bo bq W m s4 s5 wr)
  case atStart => exact ⟨0, by omega, rfl, rfl, by omega, hm, hb1, g1⟩
  case round =>
    obtain ⟨i, hm2, rfl, rfl, hi1, hmem, hbq, hgr⟩ := hrel
    have HM := Lib.hid hm2
    have hx := wt_bd p HO.out i
    clear hm2 q0
    have q0 : wr.cell? ⟨bq, 0, none⟩ = some (.int .i64 p.first) := hbq.cell 0
    have q1 : wr.cell? ⟨bq, 1, none⟩ = some (.int .i64 p.factor) := hbq.cell 1
    have q2 : wr.cell? ⟨bq, 2, none⟩ = some (.int .i64 p.great) := hbq.cell 2
    by_cases hlt : i < stop n
    · go_wp2_with fail
      refine (t1_goes bn bo n _ _ hmem i _ (by omega) hlt).mono ?_
      rintro e W2 ⟨rfl, hm2', g2⟩
      have hbq2 := hbq.grown g2 (by intro he; injection he with he; exact hqo he)
      have q0 : W2.cell? ⟨bq, 0, none⟩ = some (.int .i64 p.first) := hbq2.cell 0
      have q1 : W2.cell? ⟨bq, 1, none⟩ = some (.int .i64 p.factor) := hbq2.cell 1
      have q2 : W2.cell? ⟨bq, 2, none⟩ = some (.int .i64 p.great) := hbq2.cell 2
      go_wp2_with fail
      refine (next_any p HO.out _ hx _).mono ?_
      rintro e W3 ⟨rfl, b3⟩
      go_wp2_with fail
      go_roundg (stop n - (i + 1))
      case measure => have := HM.out; omega
      case rel => exact ⟨i + 1, rfl, by go_num, rfl, by omega, hm2'.below b3, hbq2.below b3 hbq2.lt, grown_below (grown_trans hgr g2) b3⟩
    · have hie : i = stop n := by omega
      have HIE := Lib.hid hie
      have hge : stop n ≤ i := by omega
      clear hie
      go_wp2_with fail
      refine (t1_stop bn bo n _ _ hmem i _ (by omega) hge).mono ?_
      rintro e W2 ⟨rfl, rfl⟩
      go_wp2_with fail
      go_end0
      exact ⟨rfl, by rw [← HIE.out]; exact hmem, hgr⟩
set_option maxHeartbeats 1000000 in
set_option maxRecDepth 100000 in
theorem r1_stop (bl bt : Nat) (l t : Int) (W : World) (h : Two W bl bt l t) (i : Nat) (x : Int) (hi : (i : Int) ≤ 10000) (hs : l < x ∨ (i : Int) = 10000) :
    Calls Try.prog 59 #[.int .i64 i, .int .i64 x, .pointer (some ⟨bl, 0, none⟩), .pointer (some ⟨bt, 0, none⟩)] W fun e W' => e = .returned (.bool false) ∧ W = W' := by
  have q0 : W.cell? ⟨bl, 0, none⟩ = some (.int .i64 l) := h.ha.cell 0
  by_cases h1 : l < x
  · go_enter Try.func59, Try.ntmps59
    go_wp2
    go_ret
    exact ⟨rfl, rfl⟩
  · have h2 : (10000 : Int) ≤ i := by omega
    clear hs
    go_enter Try.func59, Try.ntmps59
    go_wp2
    go_ret
    exact ⟨rfl, rfl⟩
set_option maxHeartbeats 1000000 in
set_option maxRecDepth 100000 in
theorem r1_goes (bl bt : Nat) (l : Int) (W : World) (i : Nat) (h : Two W bl bt l i) (x : Int) (hl : l ≤ 4611686018427387903) (hx : 1 ≤ x) (hi : (i : Int) < 10000) (h1 : x ≤ l) :
    Calls Try.prog 59 #[.int .i64 i, .int .i64 x, .pointer (some ⟨bl, 0, none⟩), .pointer (some ⟨bt, 0, none⟩)] W fun e W' => e = .returned (.bool true) ∧ Two W' bl bt (l - x) (i + 1 : Nat) ∧ (∀ b, b < W.heap.size → b ≠ bl → b ≠ bt → ∀ t cs, Blk W b t cs → Blk W' b t cs) ∧ ∀ B, B ≤ bl ∧ B ≤ bt → Below B W W' := by
  have q0 : W.cell? ⟨bl, 0, none⟩ = some (.int .i64 l) := h.ha.cell 0
  have q1 : W.cell? ⟨bt, 0, none⟩ = some (.int .i64 i) := h.hb.cell 0
  have f0 := h.ha.frozen
  have f1 := h.hb.frozen
  have hne := h.ne
  go_enter Try.func59, Try.ntmps59
  go_wp2
  go_ret
  exact ⟨rfl, (h.setA (l - x)).setB (i + 1 : Nat), fun b _ h1 h2 t cs hb => (hb.far h1 _).far h2 _, fun B hB => ((Below.refl B W).setCell hB.1 _).setCell hB.2 _⟩
/-- a round's head of Tries -/
def RRel (p : Pl) (K : Nat) (bl bt bq B : Nat) (W : World) (m : Nat) (s4 s5 : Value) (wr : World) : Prop :=
  ∃ (i : Nat) (l : Int), m = 10000 - i ∧ s5 = .int .i64 i ∧ s4 = .int .i64 (wt p i) ∧ (i : Int) ≤ 10000 ∧ -4611686018427387903 ≤ l ∧ l ≤ 4611686018427387903 ∧ trg p (10000 - i) i l = K ∧ Two wr bl bt l i ∧ Blk wr bq 23 p.cells ∧ Below B W wr
set_option maxHeartbeats 2000000 in
set_option maxRecDepth 100000 in
theorem each_tries (B : Nat) (bl bt : Nat) (L : Int) (hL : -4611686018427387903 ≤ L ∧ L ≤ 4611686018427387903) (p : Pl) (ok : p.ok) (W : World) (h : Two W bl bt L 0) (hB : B ≤ bl ∧ B ≤ bt) :
    Calls Try.prog 53 #[.agg #[.int .i64 p.first, .int .i64 p.factor, .int .i64 p.great], .func (.func 59) #[] #[.pointer (some ⟨bl, 0, none⟩), .pointer (some ⟨bt, 0, none⟩)]] W fun e W' => e = .returned (.tuple #[]) ∧ (∃ l, Two W' bl bt l (trg p 10000 0 L)) ∧ Below B W W' := by
  have HO := Lib.hid ok
  have HH := Lib.hid h
  have a1 := ok.a
  have hbo := h.hb.lt
  have hba := h.ha.lt
  obtain ⟨K, hK⟩ : ∃ K, trg p 10000 0 L = K := ⟨_, rfl⟩
  rw [hK]
  have HK := Lib.hid hK
  clear ok h hK
  go_enter Try.func53, Try.ntmps53
  go_wp2_with fail
  refine (right_yes p HO.out _).mono ?_
  rintro e W1 ⟨rfl, b1⟩
  have hb := Blk.new W 23 p.cells
  have hb1 := hb.below b1 hb.lt
  have hm := (HH.out.alloc (.cells p.cells 23)).below b1
  have g1 : Below B W W1 := ((Below.refl B W).alloc (by omega) (.cells p.cells 23)).trans (b1.mono (by simp; omega))
  have hqo : W.heap.size ≠ bl ∧ W.heap.size ≠ bt := by omega
  generalize W.heap.size = bq at hb1 hqo ⊢
  clear hb b1
  have q0 : W1.cell? ⟨bq, 0, none⟩ = some (.int .i64 p.first) := hb1.cell 0
  go_wp2_with fail
  go_loopg [4, 5] (10000 - 0) (fun m s4 s5 wr => RRel p K bl bt bq B W m s4 s5 wr)
  case atStart => exact ⟨0, L, rfl, rfl, rfl, by decide, hL.1, hL.2, HK.out, hm, hb1, g1⟩
  case round =>
    obtain ⟨i, l, hm2, rfl, rfl, hi1, hl0, hl1, htr, hmem, hbq, hgr⟩ := hrel
    have HM := Lib.hid hm2
    have HT := Lib.hid htr
    have hx := wt_bd p HO.out i
    have hgc := HO.out.c
    clear hm2 q0 htr
    have q0 : wr.cell? ⟨bq, 0, none⟩ = some (.int .i64 p.first) := hbq.cell 0
    have q1 : wr.cell? ⟨bq, 1, none⟩ = some (.int .i64 p.factor) := hbq.cell 1
    have q2 : wr.cell? ⟨bq, 2, none⟩ = some (.int .i64 p.great) := hbq.cell 2
    by_cases hs : l < wt p i ∨ (i : Int) = 10000
    · have hKi : Hid (K = i) := Lib.hid (by
        rw [← HT.out]
        by_cases h0 : (i : Int) = 10000
        · rw [show 10000 - i = 0 by omega]; rfl
        · rw [show 10000 - i = (9999 - i) + 1 by omega]
          unfold trg
          rw [if_pos (by omega)])
      have HS := Lib.hid hs
      clear hs
      go_wp2_with fail
      refine (r1_stop bl bt l _ _ hmem i _ hi1 HS.out).mono ?_
      rintro e W2 ⟨rfl, rfl⟩
      go_wp2_with fail
      go_end0
      exact ⟨rfl, ⟨l, by rw [hKi.out]; exact hmem⟩, hgr⟩
    · have h1 : wt p i ≤ l := by omega
      have h2 : (i : Int) < 10000 := by omega
      have HT2 : Hid (trg p (10000 - (i + 1)) (i + 1) (l - wt p i) = K) := Lib.hid (by
        rw [← HT.out, show 10000 - i = (10000 - (i + 1)) + 1 by omega]
        conv => rhs; unfold trg
        rw [if_neg (by omega)])
      clear hs
      go_wp2_with fail
      refine (r1_goes bl bt l _ i hmem _ hl1 hx.1 h2 h1).mono ?_
      rintro e W2 ⟨rfl, hm2', g2, gb2⟩
      have hbq2 := g2 bq hbq.lt hqo.1 hqo.2 _ _ hbq
      have q0 : W2.cell? ⟨bq, 0, none⟩ = some (.int .i64 p.first) := hbq2.cell 0
      have q1 : W2.cell? ⟨bq, 1, none⟩ = some (.int .i64 p.factor) := hbq2.cell 1
      have q2 : W2.cell? ⟨bq, 2, none⟩ = some (.int .i64 p.great) := hbq2.cell 2
      have hB2 : Below B W W2 := hgr.trans (gb2 B hB)
      clear g2 gb2
      go_wp2_with fail
      refine (next_any p HO.out _ hx _).mono ?_
      rintro e W3 ⟨rfl, b3⟩
      go_wp2_with fail
      have hBz : Hid (B ≤ W2.heap.size) := Lib.hid (by have := hm2'.ha.lt; omega)
      go_roundg (10000 - (i + 1))
      case measure => have := HM.out; omega
      case rel => exact ⟨i + 1, l - wt p i, rfl, by go_num, rfl, by omega, by omega, by omega, HT2.out, hm2'.below b3, hbq2.below b3 hbq2.lt, hB2.trans (b3.mono hBz.out)⟩
end Go.Proofs.Ytdplpehphjgffaa.Bk
