/- The walk of the statement BackoffRetries: for any plan, number and acts it returns true. No condition. -/
import Derived.Test.YtdplpehphjgffaaBkh
set_option linter.unusedVariables false
set_option linter.unusedSimpArgs false
namespace Go.Proofs.Ytdplpehphjgffaa.Bk
open Go.RowKit Go.Proofs.Ytdplpehphjgffaa.Aid Go.Proofs.Ytdplpehphjgffaa.Kt
attribute [local go_sem] max2_int min2_int max_two min_two
/-- an act: its kind, and a time -/
structure Deed where
  kind : Int
  n : Int
def DeedAt (w : World) (x : Addr) (a : Deed) : Prop := w.cell? x = some (.int .u8 a.kind) ∧ w.cell? ⟨x.block, x.off + 1, none⟩ = some (.int .i64 a.n)
/-- the acts that came in, as they read whenever nothing old has changed -/
def Deeds (w : World) (B : Nat) (A : Option Addr) (n : Nat) : Prop := ∀ k, k < n → ∃ x, A = some x ∧ ∃ a : Deed, (0 ≤ a.kind ∧ a.kind ≤ 255) ∧ (-9223372036854775808 ≤ a.n ∧ a.n ≤ 9223372036854775807) ∧ ∀ w', Below B w w' → DeedAt w' (x.add (k * 2)) a
theorem deeds_of {w : World} {A : Option Addr} {n : Nat} (h : Leaf.Row w [.int .u8, .int .i64] A n) : Deeds w w.heap.size A n := by
  intro k hk
  rcases h with rfl | ⟨x, E, rfl, hx, _, hE⟩
  · omega
  obtain ⟨hf, hc⟩ := hE k hk
  obtain ⟨k0, r0, e0, w0, f0⟩ := hf.int
  obtain ⟨k1, r1, rfl, w1, f1⟩ := f0.int
  obtain rfl := f1.done
  refine ⟨x, rfl, ⟨k0, k1⟩, bounds_u8 w0, bounds_i64 w1, fun w' hb => ?_⟩
  have c := fun j hj v hv => Leaf.cell_of (c := 2) (j := j) (v := v) hc hj hv
  have key : ∀ q : Addr, q.block = x.block → w'.cell? q = w.cell? q := fun q hq => hb.cell (by rw [hq]; exact hx)
  refine ⟨(key _ (add_block _ _)).trans (c 0 (by decide) _ (by rw [e0]; rfl)), (key ⟨(x.add (k * 2)).block, (x.add (k * 2)).off + 1, none⟩ (add_block _ _)).trans (c 1 (by decide) _ (by rw [e0]; rfl))⟩
theorem len_of {w : World} {A : Option Addr} {n : Nat} {ls : List Leaf.Lf} (h : Leaf.Row w ls A n) : n ≤ maxLen := by
  rcases h with rfl | ⟨_, _, _, _, h, _⟩
  · exact Nat.zero_le _
  · exact h
/-- the plan's block, and the retry's -/
structure RSt (P G : Nat) (w0 : World) (r : Rt) (W : World) : Prop where
  e : Env r.p P P w0 W
  b : Blk W G 92 r.cells
  l : P < G
theorem RSt.call {P G : Nat} {w0 W W' : World} {r : Rt} (h : RSt P G w0 r W) (b : Below W.heap.size W W') : RSt P G w0 r W' := ⟨h.e.call b, h.b.below b h.b.lt, h.l⟩
theorem RSt.drewN {P G : Nat} {w0 W : World} {r : Rt} (h : RSt P G w0 r W) (n : Nat) : RSt P G w0 r (W.drewN n) := ⟨h.e.drewN n, h.b.drewN n, h.l⟩
theorem RSt.drew {P G : Nat} {w0 W : World} {r : Rt} (h : RSt P G w0 r W) : RSt P G w0 r W.drew := ⟨h.e.drew, h.b.drew, h.l⟩
theorem RSt.alloc {P G : Nat} {w0 W : World} {r : Rt} (h : RSt P G w0 r W) (o : Obj) : RSt P G w0 r (W.alloc o) := h.call ((Below.refl _ _).alloc (Nat.le_refl _) o)
theorem RSt.goes {P G : Nat} {w0 W W' : World} {r r' : Rt} (h : RSt P G w0 r W) (hp : r'.p = r.p) (b : Blk W' G 92 r'.cells) (g : W.grownBy W' (some G)) : RSt P G w0 r' W' := by
  have hne : some P ≠ some G := by intro he; injection he with he; have := h.l; omega
  refine ⟨⟨?_, ?_, Nat.le_refl _⟩, b, h.l⟩
  · rw [hp]; exact h.e.h.grown g hne
  · exact h.e.b.grown g (Nat.le_of_lt h.e.h.lt) (fun k hk => by injection hk with hk; have := h.l; omega)
def QRel (p : Pl) (most : Int) (P G : Nat) (w0 : World) (N : Nat) (m : Nat) (s8 s9 s10 s38 : Value) (wr : World) : Prop :=
  ∃ (k : Nat) (r : Rt), m = N - k ∧ k ≤ N ∧ s38 = .int .i64 k ∧ s8 = .int .i64 r.n ∧ s9 = .int .i64 r.un ∧ s10 = .bool r.over ∧ r.p = p ∧ r.most = most ∧ (0 ≤ r.n ∧ r.n ≤ most) ∧ RSt P G w0 r wr
theorem wait_is (p : Pl) (n : Int) (h : 0 ≤ n) : wait p n = wt p n.toNat := by unfold wait; rw [if_neg (by omega)]
set_option maxHeartbeats 8000000 in
set_option maxRecDepth 100000 in
theorem retries_ok (p : Pl) (ok : p.ok) (most : Int) (hm : 1 ≤ most ∧ most ≤ 1000) (A : Option Addr) (N cap : Nat) (hN : N ≤ 60) (w : World) (hd : Deeds w w.heap.size A N) :
    Calls Try.prog 5 #[.agg #[.int .i64 p.first, .int .i64 p.factor, .int .i64 p.great], .int .i64 most, .slice A N cap] w fun e w' => e = .returned (.bool true) ∧ Below w.heap.size w w' := by
  have HO := Lib.hid ok
  clear ok
  obtain ⟨P, hP⟩ : ∃ P, P = w.heap.size := ⟨_, rfl⟩
  have HE := Env.start p w
  rw [← hP] at HE hd
  have HD := Lib.hid hd
  have HP := Lib.hid hP
  clear hd
  go_enter Try.func5, Try.ntmps5
  go_wp2_with fail
  rw [← hP]
  clear hP
  refine (fixed_any _).mono ?_
  rintro e w1 ⟨rfl, b1⟩
  have H1 := HE.call b1
  clear HE b1
  obtain ⟨q0, q1, q2⟩ := H1.cells
  go_wp2_with fail
  refine (new_good p most HO.out hm _).mono ?_
  rintro e w2 ⟨G, rfl, hg, h2, b2⟩
  have H2 : RSt P G w ⟨p, most, 0, 0, false⟩ w2 := ⟨H1.call b2, h2, by have := H1.h.lt; omega⟩
  clear H1 b2 h2 hg q0 q1 q2
  obtain ⟨q0, q1, q2⟩ := H2.e.cells
  simp only at q0 q1 q2
  go_wp2_with fail
  refine (lright_yes p HO.out _).mono ?_
  rintro e w3 ⟨rfl, b3⟩
  have H3 := H2.call b3
  clear H2 b3 q0 q1 q2
  go_wp2_with fail
  go_loopg [8, 9, 10, 38] N (fun m s8 s9 s10 s38 wr => QRel p most P G w N m s8 s9 s10 s38 wr)
  case atStart => exact ⟨0, ⟨p, most, 0, 0, false⟩, by omega, by omega, rfl, rfl, rfl, rfl, rfl, rfl, ⟨Int.le_refl _, by simp; omega⟩, H3⟩
  case round =>
    obtain ⟨k, r, hm2, hk, rfl, rfl, rfl, rfl, hrp, hrm, hrn, H4⟩ := hrel
    obtain ⟨rp, most', rn, run, ro⟩ := r
    simp only at hrp hrm hrn H4
    subst hrp hrm
    have HM := Lib.hid hm2
    clear hm2 H3
    by_cases hlt : k < N
    · obtain ⟨x, rfl, a, hak, han, hat⟩ := HD.out k hlt
      obtain ⟨q0, q1⟩ := hat _ H4.e.b
      clear hat
      go_upto_region 13 with fail
      have hba := Blk.new wr 37 #[.int .u8 a.kind, .int .i64 a.n]
      have H5 := H4.alloc (.cells #[.int .u8 a.kind, .int .i64 a.n] 37)
      have hGA : G < wr.heap.size := H4.b.lt
      clear q0 q1 H4
      generalize wr.alloc (.cells #[.int .u8 a.kind, .int .i64 a.n] 37) = wa at hba H5 ⊢
      generalize wr.heap.size = L at hba hGA ⊢
      have q0 : wa.cell? ⟨L, 0, none⟩ = some (.int .u8 a.kind) := hba.cell 0
      have q1 : wa.cell? ⟨L, 1, none⟩ = some (.int .i64 a.n) := hba.cell 1
      go_upto_block 2 with fail
      have h3 : a.kind % 3 = 0 ∨ a.kind % 3 = 1 ∨ a.kind % 3 = 2 := by omega
      generalize hq : a.kind % 3 = q at h3 ⊢
      clear hq
      rcases h3 with rfl | rfl | rfl
      · -- a failure
        by_cases hfull : rn = most'
        · have HF := Lib.hid hfull
          subst hfull
          go_wp2_with fail
          refine (fail_full ⟨rp, rn, rn, run, ro⟩ G a.n rfl _ H5.b).mono ?_
          rintro e w4 ⟨rfl, h4, g4⟩
          have H6 := H5.goes (r' := ⟨rp, rn, rn, run, true⟩) rfl h4 g4
          go_wp2_with fail
          go_roundg (N - (k + 1))
          case measure => have := HM.out; omega
          case rel => exact ⟨k + 1, ⟨rp, rn, rn, run, true⟩, by omega, by omega, by go_num, rfl, rfl, rfl, rfl, rfl, hrn, H6⟩
        · have hlm : rn < most' := by omega
          have hne : (rn == most') = false := by rw [beq_eq_false_iff_ne]; exact hfull
          clear hfull
          go_wp2_with fail
          refine (fail_goes ⟨rp, most', rn, run, ro⟩ G a.n ⟨HO.out, hm, hrn⟩ hlm _ H5.b).mono ?_
          rintro e w4 ⟨rfl, h4, g4⟩
          have hba2 := hba.grown g4 (by intro he; injection he with he; omega)
          have H6 := H5.goes (r' := ⟨rp, most', rn + 1, ad a.n (wait rp rn), ro⟩) rfl h4 g4
          clear q0 q1 H5 hba h4 g4
          have ewt : wt rp rn.toNat = wait rp rn := (wait_is rp rn hrn.1).symm
          have HL : Hid (∀ w, Calls Try.prog 18 #[.agg #[.int .i64 rp.first, .int .i64 rp.factor, .int .i64 rp.great], .int .i64 rn] w fun e w' => e = .returned (.int .i64 (wait rp rn)) ∧ Below w.heap.size w w') := Lib.hid fun w => by
            have := lwait_any rn (by omega) rp HO.out.fit w
            rwa [ewt] at this
          clear ewt
          generalize wait rp rn = x at H6 HL ⊢
          generalize hu : ad a.n x = u at H6 ⊢
          have HU := Lib.hid hu
          clear hu
          go_upto_region 20 with fail
          go_cut [9] (fun s9 wx => s9 = .int .i64 u ∧ RSt P G w ⟨rp, most', rn + 1, u, ro⟩ wx)
          case first =>
            have Hd := H6.drew
            have q0 : w4.cell? ⟨L, 1, none⟩ = some (.int .i64 a.n) := hba2.cell 1
            obtain ⟨x0, x1, x2⟩ := H6.e.cells
            simp only at x0 x1 x2
            have hbd := hba2.drew
            go_region_with (first
              | (go_at_call 18; refine (HL.out _).mono ?_; rintro e W1 ⟨rfl, b1⟩; have E1 := RSt.call (by assumption) b1; have hb1 := Blk.below (by assumption) b1 hbd.lt; have y0 : W1.cell? ⟨L, 1, none⟩ = some (.int .i64 a.n) := hb1.cell 1)
              | (go_at_call 22; refine (radd_any _ _ _).mono ?_; rintro e W2 ⟨rfl, rfl⟩))
            all_goals
              go_wp2_with fail
              go_meet
              exact ⟨by rw [HU.out], by assumption⟩
          case rest =>
            obtain ⟨rfl, H7⟩ := hcut
            clear H6 hba2
            have k1 : (u != u) = false := by simp
            go_wp2_with fail
            go_roundg (N - (k + 1))
            case measure => have := HM.out; omega
            case rel => exact ⟨k + 1, ⟨rp, most', rn + 1, u, ro⟩, by omega, by omega, by go_num, rfl, rfl, rfl, rfl, rfl, ⟨by simp; omega, by simp; omega⟩, H7⟩
      · -- a success
        go_wp2_with fail
        refine (done_some ⟨rp, most', rn, run, ro⟩ G _ H5.b).mono ?_
        rintro e w4 ⟨rfl, h4, g4⟩
        have H6 := H5.goes (r' := ⟨rp, most', 0, run, false⟩) rfl h4 g4
        go_wp2_with fail
        go_roundg (N - (k + 1))
        case measure => have := HM.out; omega
        case rel => exact ⟨k + 1, ⟨rp, most', 0, run, false⟩, by omega, by omega, by go_num, rfl, rfl, rfl, rfl, rfl, ⟨by simp, by simp; omega⟩, H6⟩
      · -- a question
        have hend : ∀ W, RSt P G w ⟨rp, most', rn, run, ro⟩ W → QRel rp most' P G w N (N - (k + 1)) (.int .i64 rn) (.int .i64 run) (.bool ro) (.int .i64 (↑(k + 1) : Int)) W := fun W H => ⟨k + 1, ⟨rp, most', rn, run, ro⟩, rfl, by omega, rfl, rfl, rfl, rfl, rfl, rfl, hrn, H⟩
        have HE := Lib.hid hend
        clear hend
        cases ro
        · cases hn0 : (rn == 0)
          · have k2 : (decide (run ≤ cl a.n) != decide (run ≤ cl a.n)) = false := by simp
            go_wp2_with fail
            refine (may_some ⟨rp, most', rn, run, false⟩ G a.n _ H5.b).mono ?_
            rintro e w4 ⟨rfl, n4, rfl⟩
            simp only [hn0, Bool.not_false, Bool.true_and, Bool.false_or]
            go_wp2_with fail
            refine (rclamp_any _ _).mono ?_
            rintro e w5 ⟨rfl, rfl⟩
            go_wp2_with fail
            go_roundg (N - (k + 1))
            case measure => have := HM.out; omega
            case rel => exact HE.out _ (H5.drewN _)
          · go_wp2_with fail
            refine (may_some ⟨rp, most', rn, run, false⟩ G a.n _ H5.b).mono ?_
            rintro e w4 ⟨rfl, n4, rfl⟩
            simp only [hn0, Bool.not_false, Bool.true_and, Bool.true_or]
            go_wp2_with fail
            go_roundg (N - (k + 1))
            case measure => have := HM.out; omega
            case rel => exact HE.out _ (H5.drewN _)
        · go_wp2_with fail
          refine (may_some ⟨rp, most', rn, run, true⟩ G a.n _ H5.b).mono ?_
          rintro e w4 ⟨rfl, n4, rfl⟩
          simp only [Bool.not_true, Bool.false_and]
          go_wp2_with fail
          go_roundg (N - (k + 1))
          case measure => have := HM.out; omega
          case rel => exact HE.out _ (H5.drewN _)
    · have hkN : k = N := by omega
      go_wp2_with fail
      go_ret
      have b := H4.e.b
      rw [HP.out] at b
      exact ⟨rfl, b⟩
end Go.Proofs.Ytdplpehphjgffaa.Bk
