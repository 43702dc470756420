/- The walk of the statement TicklessSame: for any period, steps and stops it returns true. No condition. -/
import Derived.Test.YthginjllhlfadaaTkl
set_option linter.unusedVariables false
set_option linter.unusedSimpArgs false
namespace Go.Proofs.Ythginjllhlfadaa.Tk
open Go.RowKit Go.Proofs.Ythginjllhlfadaa.Aid Go.Proofs.Ythginjllhlfadaa.Kt Go.Proofs.Ythginjllhlfadaa.Fw
/-- how the two tickers stand, at a time -/
structure Pair (P N : Int) (ta tb : Tk) : Prop where
  oka : ta.ok
  okb : tb.ok
  pa : ta.period = P
  pb : tb.period = P
  sa : ta.stopped = false
  la : ta.left = 0
  na : ta.now = N
  nb : tb.now ≤ N
  nr : tb.stopped = false → tb.now = N
theorem upTo_at (n N : Int) (h : 0 ≤ n) (k : n ≤ N) (m : N ≤ 1152921504606846976) : upTo n N = N := by unfold upTo; omega
theorem Pair.advA {P N N' : Int} {ta tb : Tk} (h : Pair P N ta tb) (h1 : N ≤ N') (h2 : N' ≤ 1152921504606846976) : (ta.adv N').ok ∧ (ta.adv N').period = P ∧ (ta.adv N').stopped = false ∧ (ta.adv N').left = 0 ∧ (ta.adv N').now = N' := by
  have h0 := h.oka.n
  have hn := h.na
  exact ⟨h.oka.adv N', h.pa, h.sa, h.la, by unfold Tk.adv; simp only; exact upTo_at _ _ (by omega) (by omega) h2⟩
theorem Pair.adv {P N N' : Int} {ta tb : Tk} (h : Pair P N ta tb) (h1 : N ≤ N') (h2 : N' ≤ 1152921504606846976) : Pair P N' (ta.adv N') (tb.adv N') := by
  obtain ⟨a1, a2, a3, a4, a5⟩ := h.advA h1 h2
  have h0 := h.okb.n
  have hn := h.nb
  have e : (tb.adv N').now = N' := by unfold Tk.adv; simp only; exact upTo_at _ _ (by omega) (by omega) h2
  exact ⟨a1, h.okb.adv N', a2, h.pb, a3, a4, a5, by omega, fun _ => e⟩
theorem Pair.stop {P N N' : Int} {ta tb : Tk} (h : Pair P N ta tb) (h1 : N ≤ N') (h2 : N' ≤ 1152921504606846976) : Pair P N' (ta.adv N') { tb.adv N' with stopped := true } := by
  have k := h.adv h1 h2
  exact ⟨k.oka, ⟨k.okb.p, k.okb.n, k.okb.s, k.okb.c⟩, k.pa, k.pb, k.sa, k.la, k.na, k.nb, fun hh => by cases hh⟩
theorem Pair.start {P N N' : Int} {ta tb : Tk} (h : Pair P N ta tb) (h1 : N ≤ N') (h2 : N' ≤ 1152921504606846976) : Pair P N' (ta.adv N') (tb.skip N') := by
  obtain ⟨a1, a2, a3, a4, a5⟩ := h.advA h1 h2
  have h0 := h.okb.n
  have hn := h.nb
  have e : (tb.skip N').now = N' := by unfold Tk.skip; simp only; exact upTo_at _ _ (by omega) (by omega) h2
  exact ⟨a1, h.okb.skip N', a2, h.pb, a3, a4, a5, by omega, fun _ => e⟩
theorem Pair.wait {P N N' : Int} {ta tb : Tk} (h : Pair P N ta tb) (h1 : N ≤ N') (h2 : N' ≤ 1152921504606846976) (hs : tb.stopped = true) : Pair P N' (ta.adv N') tb := by
  obtain ⟨a1, a2, a3, a4, a5⟩ := h.advA h1 h2
  exact ⟨a1, h.okb, a2, h.pb, a3, a4, a5, Int.le_trans h.nb h1, fun hh => by rw [hs] at hh; cases hh⟩
theorem Pair.last {P N : Int} {ta tb : Tk} (h : Pair P N ta tb) (h1 : 0 ≤ N) (h2 : N ≤ 1152921504606846976) : Pair P N ta (tb.skip N) := by
  have h0 := h.okb.n
  have hn := h.nb
  have e : (tb.skip N).now = N := by unfold Tk.skip; simp only; exact upTo_at _ _ (by omega) (by omega) h2
  exact ⟨h.oka, h.okb.skip N, h.pa, h.pb, h.sa, h.la, h.na, by omega, fun _ => e⟩
/-- all ticks are the same, together; so is the next one -/
theorem Pair.same {P N : Int} {ta tb : Tk} (h : Pair P N ta tb) (hs : tb.stopped = false) : ta.came + ta.left = tb.came + tb.left ∧ ta.seen = tb.seen := by
  have e1 := h.oka.c.2.2
  have e2 := h.okb.c.2.2
  have e3 := h.oka.s
  have e4 := h.okb.s
  rw [h.na, h.pa] at e3
  rw [h.nr hs, h.pb] at e4
  omega
def TRel (P : Int) (n ga gb : Nat) (w : World) (m : Nat) (s9 i : Value) (wr : World) : Prop :=
  ∃ (k : Nat) (N : Int) (ta tb : Tk), k ≤ n ∧ m = n - k ∧ i = .int .i64 k ∧ s9 = .int .i64 N ∧ 0 ≤ N ∧ N ≤ 65535 * k ∧ Pair P N ta tb ∧ IsTk wr ga ta ∧ IsTk wr gb tb ∧ Below w.heap.size w wr
set_option maxHeartbeats 4000000 in
set_option maxRecDepth 100000 in
theorem same_some (p : Int) (hp : 0 ≤ p ∧ p ≤ 65535) (A1 : Option Addr) (n cap1 : Nat) (A2 : Option Addr) (m cap2 : Nat) (w : World) (hn : n ≤ 100) (hm : m ≤ maxLen)
    (hs : ∀ k, k < n → ∃ x, A1 = some x ∧ ∃ s : Int, (0 ≤ s ∧ s ≤ 65535) ∧ ∀ w', Below w.heap.size w w' → w'.cell? (x.add k) = some (.int .u16 s))
    (ht : ∀ k, k < m → ∃ x, A2 = some x ∧ ∃ b : Bool, ∀ w', Below w.heap.size w w' → w'.cell? (x.add k) = some (.bool b)) :
    Calls Try.prog 12 #[.int .u16 p, .slice A1 n cap1, .slice A2 m cap2] w fun e w' => e = .returned (.bool true) ∧ Below w.heap.size w w' := by
  unfold maxLen at hm
  have HS := Lib.hid hs
  have HT := Lib.hid ht
  clear hs ht
  go_enter Try.func12, Try.ntmps12
  go_wp2_with fail
  refine (fixed_any _).mono ?_
  rintro e w0 ⟨rfl, b0⟩
  go_wp2_with fail
  refine (new_ok (1 + p) _ (by omega)).mono ?_
  rintro e w1 ⟨rfl, h1, b1, z1⟩
  go_wp2_with fail
  refine (new_ok (1 + p) _ (by omega)).mono ?_
  rintro e w2 ⟨rfl, h2, b2, z2⟩
  have B2 : Below w.heap.size w w2 := (b0.trans (b1.mono b0.size)).trans (b2.mono (Nat.le_trans b0.size b1.size))
  have h1' := h1.below b2 h1.lt
  have HZ : Hid (w.heap.size ≤ w0.heap.size ∧ w.heap.size ≤ w1.heap.size ∧ w0.heap.size ≠ w1.heap.size) := Lib.hid ⟨b0.size, Nat.le_trans b0.size b1.size, by omega⟩
  generalize w0.heap.size = ga at h1' HZ ⊢
  generalize w1.heap.size = gb at h2 HZ ⊢
  clear h1 b0 b1 z1 b2 z2
  go_wp2_with fail
  go_loopg [9, 31] n (fun q s9 i wr => TRel (1 + p) n ga gb w q s9 i wr)
  case atStart => exact ⟨0, 0, ⟨1 + p, 0, false, 1, 1, 0⟩, ⟨1 + p, 0, false, 1, 1, 0⟩, Nat.zero_le _, rfl, rfl, rfl, by omega, by omega, ⟨ok_new _ (by omega), ok_new _ (by omega), rfl, rfl, rfl, rfl, rfl, by simp, fun _ => rfl⟩, h1', h2, B2⟩
  case round =>
    obtain ⟨k, N, ta, tb, hk, hq, rfl, rfl, hN0, hN1, hpair, ha, hb, bb⟩ := hrel
    have HQ := Lib.hid hq
    have HP := Lib.hid hpair
    clear hq hpair
    by_cases hlt : k < n
    · obtain ⟨x, rfl, s, hsb, hc⟩ := HS.out k hlt
      have c0 := hc _ bb
      clear hc
      go_upto_region 11 with fail
      go_wp2_with fail
      refine (advance_runs ga ta _ ha (N + s) HP.out.oka HP.out.sa).mono ?_
      rintro e w3 ⟨rfl, ha3, g3⟩
      have hb3 := hb.grown g3 (by intro he; injection he with he; exact HZ.out.2.2 he.symm)
      have bb3 := below_grown bb g3 HZ.out.1
      clear ha hb bb c0 g3
      by_cases hkm : k < m
      · obtain ⟨y, rfl, b, hc⟩ := HT.out k hkm
        have c0 := hc _ bb3
        clear hc
        cases b
        · cases hst : tb.stopped
          · go_wp2_with fail
            refine (advance_runs gb tb _ hb3 (N + s) HP.out.okb hst).mono ?_
            rintro e w4 ⟨rfl, hb4, g4⟩
            go_wp2_with fail
            go_roundg (n - k - 1)
            case measure => have := HQ.out; omega
            case rel => exact ⟨k + 1, N + s, ta.adv (N + s), tb.adv (N + s), by omega, by omega, rfl, rfl, by omega, by omega, HP.out.adv (by omega) (by omega), ha3.grown g4 (by intro he; injection he with he; exact HZ.out.2.2 he), hb4, below_grown bb3 g4 HZ.out.2.1⟩
          · go_wp2_with fail
            refine (advance_stopped gb tb _ hb3 (N + s) hst).mono ?_
            rintro e w4 ⟨rfl, rfl⟩
            go_wp2_with fail
            go_roundg (n - k - 1)
            case measure => have := HQ.out; omega
            case rel => exact ⟨k + 1, N + s, ta.adv (N + s), tb, by omega, by omega, rfl, rfl, by omega, by omega, HP.out.wait (by omega) (by omega) hst, ha3, hb3, bb3⟩
        · cases hst : tb.stopped
          · go_wp2_with (go_at_call 49; refine (running_some gb tb _ hb3).mono ?_; rintro e w4 ⟨rfl, rfl⟩)
            refine (stop_runs gb tb _ hb3 (N + s) HP.out.okb hst).mono ?_
            rintro e w4 ⟨rfl, hb4, g4⟩
            go_wp2_with fail
            go_roundg (n - k - 1)
            case measure => have := HQ.out; omega
            case rel => exact ⟨k + 1, N + s, ta.adv (N + s), { tb.adv (N + s) with stopped := true }, by omega, by omega, rfl, rfl, by omega, by omega, HP.out.stop (by omega) (by omega), ha3.grown g4 (by intro he; injection he with he; exact HZ.out.2.2 he), hb4, below_grown bb3 g4 HZ.out.2.1⟩
          · go_wp2_with (go_at_call 49; refine (running_some gb tb _ hb3).mono ?_; rintro e w4 ⟨rfl, rfl⟩)
            refine (start_stopped gb tb _ hb3 (N + s) HP.out.okb hst).mono ?_
            rintro e w4 ⟨rfl, hb4, g4⟩
            go_wp2_with fail
            go_roundg (n - k - 1)
            case measure => have := HQ.out; omega
            case rel => exact ⟨k + 1, N + s, ta.adv (N + s), tb.skip (N + s), by omega, by omega, rfl, rfl, by omega, by omega, HP.out.start (by omega) (by omega), ha3.grown g4 (by intro he; injection he with he; exact HZ.out.2.2 he), hb4, below_grown bb3 g4 HZ.out.2.1⟩
      · cases hst : tb.stopped
        · go_wp2_with fail
          refine (advance_runs gb tb _ hb3 (N + s) HP.out.okb hst).mono ?_
          rintro e w4 ⟨rfl, hb4, g4⟩
          go_wp2_with fail
          go_roundg (n - k - 1)
          case measure => have := HQ.out; omega
          case rel => exact ⟨k + 1, N + s, ta.adv (N + s), tb.adv (N + s), by omega, by omega, rfl, rfl, by omega, by omega, HP.out.adv (by omega) (by omega), ha3.grown g4 (by intro he; injection he with he; exact HZ.out.2.2 he), hb4, below_grown bb3 g4 HZ.out.2.1⟩
        · go_wp2_with fail
          refine (advance_stopped gb tb _ hb3 (N + s) hst).mono ?_
          rintro e w4 ⟨rfl, rfl⟩
          go_wp2_with fail
          go_roundg (n - k - 1)
          case measure => have := HQ.out; omega
          case rel => exact ⟨k + 1, N + s, ta.adv (N + s), tb, by omega, by omega, rfl, rfl, by omega, by omega, HP.out.wait (by omega) (by omega) hst, ha3, hb3, bb3⟩
    · have := HQ.out
      obtain rfl : k = n := by omega
      have hpair := HP.out
      cases hst : tb.stopped
      · obtain ⟨h1, h2⟩ := hpair.same hst
        have hla := hpair.la
        have oka := HP.out.oka.c
        have okb := HP.out.okb.c
        have obd := HP.out.oka.bd
        have obe := HP.out.okb.bd
        have e1 : (ta.came + ta.left == tb.came + tb.left) = true := beq_iff_eq.2 h1
        have e2 : (ta.left == 0) = true := beq_iff_eq.2 hla
        have e3 : (nthv (cl 0) (per ta.period) ta.seen == nthv (cl 0) (per tb.period) tb.seen) = true := by rw [h2, hpair.pa, hpair.pb]; simp
        have ka : 0 ≤ ta.came ∧ 0 ≤ ta.left ∧ ta.came + ta.left ≤ 1152921504606846977 := by omega
        have kb : 0 ≤ tb.came ∧ 0 ≤ tb.left ∧ tb.came + tb.left ≤ 1152921504606846977 := by omega
        clear h1 h2 hla hpair oka okb obd obe
        go_wp2_with (go_at_call 49; refine (running_some gb tb _ hb).mono ?_; rintro e w4 ⟨rfl, rfl⟩)
        refine (counts_some _ _ _ ha).mono ?_
        rintro e w4 ⟨rfl, n4, rfl⟩
        go_wp2_with fail
        refine (counts_some _ _ _ (Blk.drewN hb n4)).mono ?_
        rintro e w5 ⟨rfl, n5, rfl⟩
        go_wp2_with fail
        refine (next_runs _ _ _ (Blk.drewN ha (n4 + n5)) HP.out.oka HP.out.sa).mono ?_
        rintro e w6 ⟨rfl, b6⟩
        go_wp2_with fail
        refine (next_runs _ _ _ ((Blk.drewN hb (n4 + n5)).below b6 hb.lt) HP.out.okb hst).mono ?_
        rintro e w7 ⟨rfl, b7⟩
        go_wp2_with fail
        go_ret
        have B := below_drewN bb (n4 + n5)
        have B6 := B.trans (b6.mono B.size)
        exact ⟨rfl, B6.trans (b7.mono B6.size)⟩
      · have hlast := hpair.last hN0 (by omega)
        have hss : (tb.skip N).stopped = false := rfl
        obtain ⟨h1, h2⟩ := hlast.same hss
        have hla := hpair.la
        have oka := HP.out.oka.c
        have okb := hlast.okb.c
        have obd := HP.out.oka.bd
        have obe := hlast.okb.bd
        have e1 : (ta.came + ta.left == (tb.skip N).came + (tb.skip N).left) = true := beq_iff_eq.2 h1
        have e2 : (ta.left == 0) = true := beq_iff_eq.2 hla
        have e3 : (nthv (cl 0) (per ta.period) ta.seen == nthv (cl 0) (per (tb.skip N).period) (tb.skip N).seen) = true := by rw [h2, hlast.pa, hlast.pb]; simp
        have HL := Lib.hid hlast
        have ka : 0 ≤ ta.came ∧ 0 ≤ ta.left ∧ ta.came + ta.left ≤ 1152921504606846977 := by omega
        have kb : 0 ≤ (tb.skip N).came ∧ 0 ≤ (tb.skip N).left ∧ (tb.skip N).came + (tb.skip N).left ≤ 1152921504606846977 := by omega
        clear h1 h2 hla hpair hlast oka okb obd obe
        go_wp2_with (go_at_call 49; refine (running_some gb tb _ hb).mono ?_; rintro e w4 ⟨rfl, rfl⟩)
        refine (start_stopped gb tb _ hb N HP.out.okb hst).mono ?_
        rintro e w4 ⟨rfl, hb4, g4⟩
        have ha4 := ha.grown g4 (by intro he; injection he with he; exact HZ.out.2.2 he)
        have bb4 := below_grown bb g4 HZ.out.2.1
        generalize tb.skip N = tc at HL hb4 e1 e3 kb hss ⊢
        go_wp2_with fail
        refine (counts_some _ _ _ ha4).mono ?_
        rintro e w5 ⟨rfl, n5, rfl⟩
        go_wp2_with fail
        refine (counts_some _ _ _ (Blk.drewN hb4 n5)).mono ?_
        rintro e w6 ⟨rfl, n6, rfl⟩
        go_wp2_with fail
        refine (next_runs _ _ _ (Blk.drewN ha4 (n5 + n6)) HP.out.oka HP.out.sa).mono ?_
        rintro e w7 ⟨rfl, b7⟩
        go_wp2_with fail
        refine (next_runs _ _ _ ((Blk.drewN hb4 (n5 + n6)).below b7 hb4.lt) HL.out.okb hss).mono ?_
        rintro e w8 ⟨rfl, b8⟩
        go_wp2_with fail
        go_ret
        have B := below_drewN bb4 (n5 + n6)
        have B7 := B.trans (b7.mono B.size)
        exact ⟨rfl, B7.trans (b8.mono B7.size)⟩
set_option maxHeartbeats 2000000 in
set_option maxRecDepth 100000 in
theorem same_big (p : Int) (hp : 0 ≤ p ∧ p ≤ 65535) (A1 : Option Addr) (n cap1 : Nat) (A2 : Option Addr) (m cap2 : Nat) (w : World) (hn : 100 < n) (hm : n ≤ maxLen) :
    Calls Try.prog 12 #[.int .u16 p, .slice A1 n cap1, .slice A2 m cap2] w fun e w' => e = .returned (.bool true) ∧ Below w.heap.size w w' := by
  unfold maxLen at hm
  go_enter Try.func12, Try.ntmps12
  go_wp2_with fail
  refine (fixed_any _).mono ?_
  rintro e w0 ⟨rfl, b0⟩
  go_wp2_with fail
  go_ret
  exact ⟨rfl, b0⟩
theorem same_any (p : Int) (hp : 0 ≤ p ∧ p ≤ 65535) (A1 : Option Addr) (n cap1 : Nat) (w : World) (z1 : n = 0 ∨ ∃ x, ∃ zs : List Int, A1 = some x ∧ x.block < w.heap.size ∧ zs.length = n ∧ n ≤ maxLen ∧ (∀ k, k < n → w.cell? (x.add k) = some (.int .u16 (zs.getD k 0))) ∧ ∀ q ∈ zs, (Lit.int .u16 q).wf = true)
    (A2 : Option Addr) (m cap2 : Nat) (z2 : Leaf.Row w [.bool] A2 m) :
    Calls Try.prog 12 #[.int .u16 p, .slice A1 n cap1, .slice A2 m cap2] w fun e w' => e = .returned (.bool true) ∧ Below w.heap.size w w' := by
  by_cases hn : 100 < n
  · rcases z1 with rfl | ⟨_, _, _, _, _, hm, _⟩
    · omega
    · exact same_big p hp A1 n cap1 A2 m cap2 w hn hm
  have hm2 : m ≤ maxLen := by
    rcases z2 with rfl | ⟨_, _, _, _, h, _⟩
    · exact Nat.zero_le _
    · exact h
  refine same_some p hp A1 n cap1 A2 m cap2 w (by omega) hm2 (fun k hk => ?_) (fun k hk => ?_)
  · rcases z1 with rfl | ⟨x, zs, rfl, hx, hl, _, hc, hw⟩
    · omega
    · refine ⟨x, rfl, zs.getD k 0, bounds_u16 (hw _ ?_), fun w' hb => ?_⟩
      · have : k < zs.length := by omega
        simp [List.getD, this]
      · rw [hb.cell (p := x.add k) (by rw [add_block]; exact hx)]; exact hc k hk
  · rcases z2 with rfl | ⟨x, E, rfl, hx, _, hE⟩
    · omega
    · obtain ⟨hf, hc⟩ := hE k hk
      obtain ⟨b, r, e, f⟩ := hf.bool
      obtain rfl := f.done
      refine ⟨x, rfl, b, fun w' hb => ?_⟩
      rw [hb.cell (p := x.add k) (by rw [add_block]; exact hx)]
      have := hc 0 (by decide)
      rw [e] at this
      simpa using this
end Go.Proofs.Ythginjllhlfadaa.Tk
