/- The walk of the statement BackoffWaits: for any plan, number, time and draw it returns true. No condition. -/
import Derived.Test.YtdplpehphjgffaaBkh
set_option linter.unusedVariables false
set_option linter.unusedSimpArgs false
namespace Go.Proofs.Ytdplpehphjgffaa.Bk
open Go.RowKit Go.Proofs.Ytdplpehphjgffaa.Aid Go.Proofs.Ytdplpehphjgffaa.Kt
attribute [local go_sem] max2_int min2_int max_two min_two
theorem spr_bd (x d : Int) (hx : 0 ≤ x) : spr x d = (x / 2 + x % 2) + d % (x - (x / 2 + x % 2) + 1) ∧ 0 ≤ d % (x - (x / 2 + x % 2) + 1) ∧ d % (x - (x / 2 + x % 2) + 1) ≤ x - (x / 2 + x % 2) := by
  have e : (x + 1) / 2 = x / 2 + x % 2 := by omega
  have hp : 0 < x - (x / 2 + x % 2) + 1 := by omega
  refine ⟨by unfold spr; rw [e], Int.emod_nonneg _ (by omega), by have := Int.emod_lt_of_pos d hp; omega⟩
/-- a round's head: the first waits together, and the next one -/
def SRel (p : Pl) (P : Nat) (N : Nat) (w0 : World) (m : Nat) (s10 s11 s56 : Value) (wr : World) : Prop :=
  ∃ i : Nat, m = N - i ∧ i ≤ N ∧ s56 = .int .i64 i ∧ s10 = .int .i64 (ex p i) ∧ s11 = .int .i64 (wt p i) ∧ Env p P P w0 wr
def WantIs (p : Pl) (P : Nat) (x : Int) (w0 : World) (s9 : Value) (wx : World) : Prop := s9 = .int .i64 x ∧ Env p P P w0 wx
set_option maxHeartbeats 4000000 in
set_option maxRecDepth 100000 in
theorem waits_ok (p : Pl) (ok : p.ok) (n : Int) (hn : -9223372036854775808 ≤ n ∧ n ≤ 2000) (within : Int) (hw : -9223372036854775808 ≤ within ∧ within ≤ 9223372036854775807) (d : Int) (hd : 0 ≤ d ∧ d ≤ 18446744073709551615) (w : World) :
    Calls Try.prog 4 #[.agg #[.int .i64 p.first, .int .i64 p.factor, .int .i64 p.great], .int .i64 n, .int .i64 within, .int .u64 d] w fun e w' => e = .returned (.bool true) ∧ Below w.heap.size w w' := by
  have HO := Lib.hid ok
  have hn2 : -9223372036854775808 ≤ n ∧ n ≤ 9223372036854775807 := by omega
  have hxb := wait_bd p ok n
  have HWt : Hid (∀ w, Calls Try.prog 13 #[.agg #[.int .i64 p.first, .int .i64 p.factor, .int .i64 p.great], .int .i64 n] w fun e w' => e = .returned (.int .i64 (wait p n)) ∧ Below w.heap.size w w') := Lib.hid fun w => wait_ok n hn2 p ok w
  have HLw : Hid (0 ≤ n → ∀ w, Calls Try.prog 18 #[.agg #[.int .i64 p.first, .int .i64 p.factor, .int .i64 p.great], .int .i64 n] w fun e w' => e = .returned (.int .i64 (wait p n)) ∧ Below w.heap.size w w') := Lib.hid fun h0 w => by
    have := lwait_any n hn2 p ok.fit w
    rwa [show wt p n.toNat = wait p n by unfold wait; rw [if_neg (by omega)]] at this
  have HL0 : Hid (n < 0 → wait p n = 0) := Lib.hid fun h => by unfold wait; rw [if_pos h]
  obtain ⟨x, hx⟩ : ∃ x, wait p n = x := ⟨_, rfl⟩
  rw [hx] at HWt HLw HL0 hxb
  have HS : Hid (∀ w, Calls Try.prog 17 #[.agg #[.int .i64 p.first, .int .i64 p.factor, .int .i64 p.great], .int .i64 n, .int .u64 d] w fun e w' => e = .returned (.int .i64 (spr x d)) ∧ Below w.heap.size w w') := Lib.hid fun w => spread_of x n d hxb hd p w HWt.out
  have hsp := spr_bd x d hxb.1
  obtain ⟨sp, hsp0⟩ : ∃ sp, spr x d = sp := ⟨_, rfl⟩
  rw [hsp0] at HS hsp
  have hhalf : 0 ≤ x / 2 + x % 2 ∧ x / 2 + x % 2 ≤ x := by omega
  have hN : n.toNat ≤ 2000 := by omega
  obtain ⟨N, hN0⟩ : ∃ N, n.toNat = N := ⟨_, rfl⟩
  have HT : Hid (∀ w, Calls Try.prog 15 #[.agg #[.int .i64 p.first, .int .i64 p.factor, .int .i64 p.great], .int .i64 n] w fun e w' => e = .returned (.int .i64 (ex p N)) ∧ Below w.heap.size w w') := Lib.hid fun w => by
    have := total_ok n p ok w
    have hb := ex_bd p ok n.toNat
    rw [stop_any n hn.2, sm_ex p ok, if_neg (by omega), hN0] at this
    exact this
  have HN : Hid (n.toNat = N) := Lib.hid hN0
  rw [hN0] at hN
  obtain ⟨k, hk0, hk1, hk2, hk3⟩ := tries_tells p ok within hw
  have HTr : Hid (∀ w, Calls Try.prog 16 #[.agg #[.int .i64 p.first, .int .i64 p.factor, .int .i64 p.great], .int .i64 within] w fun e w' => e = .returned (.int .i64 (k : Int)) ∧ Below w.heap.size w w') := Lib.hid fun w => by
    have := tries_ok within p ok w
    rwa [hk0] at this
  have HTk : Hid (∀ w, Calls Try.prog 15 #[.agg #[.int .i64 p.first, .int .i64 p.factor, .int .i64 p.great], .int .i64 (k : Int)] w fun e w' => e = .returned (.int .i64 (sm p (stop k))) ∧ Below w.heap.size w w') := Lib.hid fun w => total_ok k p ok w
  have HTk1 : Hid (∀ w, Calls Try.prog 15 #[.agg #[.int .i64 p.first, .int .i64 p.factor, .int .i64 p.great], .int .i64 ((k : Int) + 1)] w fun e w' => e = .returned (.int .i64 (sm p (stop (k + 1 : Nat)))) ∧ Below w.heap.size w w') := Lib.hid fun w => total_ok (k + 1) p ok w
  generalize sm p (stop k) = T1 at HTk hk2
  generalize sm p (stop (k + 1 : Nat)) = T2 at HTk1 hk3
  have HK := Lib.hid hk3
  have HK2 := Lib.hid hk2
  have HSP := Lib.hid hsp
  clear ok hx hsp0 hN0 hk0 hk3 hk2 hsp
  obtain ⟨P, hP⟩ : ∃ P, P = w.heap.size := ⟨_, rfl⟩
  have HE := Env.start p w
  rw [← hP] at HE
  have HP := Lib.hid hP
  go_enter Try.func4, Try.ntmps4
  go_wp2_with fail
  rw [← hP]
  clear hP
  refine (fixed_any _).mono ?_
  rintro e w1 ⟨rfl, b1⟩
  have H1 := HE.call b1
  clear HE b1
  go_upto_region 3 with fail
  go_cut [22] (fun s22 wx => s22 = .bool false ∧ Env p P P w wx)
  case first =>
    have Hd := H1.drew
    obtain ⟨q0, q1, q2⟩ := H1.cells
    go_region_with (first | (go_at_call 14; refine (right_yes p HO.out _).mono ?_; rintro e W1 ⟨rfl, b1⟩; have E1 := Env.call (by assumption) b1; obtain ⟨x0, x1, x2⟩ := E1.cells) | (go_at_call 12; refine (lright_yes p HO.out _).mono ?_; rintro e W1 ⟨rfl, b1⟩; have E1 := Env.call (by assumption) b1; obtain ⟨x0, x1, x2⟩ := E1.cells))
    all_goals
      go_wp2_with fail
      go_meet
      exact ⟨rfl, by assumption⟩
  case rest =>
    obtain ⟨rfl, H2⟩ := hcut
    clear H1
    obtain ⟨q0, q1, q2⟩ := H2.cells
    go_wp2_with fail
    refine (lright_yes p HO.out _).mono ?_
    rintro e w3 ⟨rfl, b3⟩
    have H3 := H2.call b3
    clear H2 b3 q0 q1 q2
    obtain ⟨q0, q1, q2⟩ := H3.cells
    go_upto_if 48 with fail
    go_cut [9] (fun s9 wx => WantIs p P x w s9 wx)
    case first =>
      by_cases h0 : 0 ≤ n
      · go_wp2_with fail
        refine (HLw.out h0 _).mono ?_
        rintro e w4 ⟨rfl, b4⟩
        go_wp2_with fail
        go_meet
        exact ⟨rfl, H3.call b4⟩
      · have hl : n < 0 := by omega
        go_wp2_with fail
        go_meet
        exact ⟨by rw [HL0.out hl], H3⟩
    case rest =>
      obtain ⟨rfl, H4⟩ := hcut
      clear H3 q0 q1 q2
      obtain ⟨q0, q1, q2⟩ := H4.cells
      go_upto_region 13 with fail
      go_cut [55, 56] (fun s55 s56 wx => s55 = .int .i64 (N : Int) ∧ s56 = .int .i64 0 ∧ Env p P P w wx)
      case first =>
        go_wp2_with fail
        all_goals
          go_meet
          exact ⟨congrArg (Value.int .i64) (by have := HN.out; omega), rfl, H4⟩
      case rest =>
        obtain ⟨rfl, rfl, H5⟩ := hcut
        clear H4 q0 q1 q2
        go_wp2_with fail
        go_loopg [10, 11, 56] N (fun m s10 s11 s56 wr => SRel p P N w m s10 s11 s56 wr)
        case atStart => exact ⟨0, by omega, by omega, rfl, rfl, rfl, H5⟩
        case round =>
          obtain ⟨i, hm, hi, rfl, rfl, rfl, H6⟩ := hrel
          have HM := Lib.hid hm
          clear hm H5
          have eb := ex_bd p HO.out i
          have en := ex_nn p HO.out i
          have hx1 := wt_bd p HO.out i
          have hgr := HO.out.c
          by_cases hlt : (i : Int) < N
          · obtain ⟨q0, q1, q2⟩ := H6.cells
            have hfit : Hid (Pl.fit ⟨wt p i, p.factor, p.great⟩) := Lib.hid ⟨hx1.1, HO.out.b, hx1.2, hgr.2⟩
            have HL1 : Hid (∀ w, Calls Try.prog 18 #[.agg #[.int .i64 (wt p i), .int .i64 p.factor, .int .i64 p.great], .int .i64 1] w fun e w' => e = .returned (.int .i64 (wt p (i + 1))) ∧ Below w.heap.size w w') := Lib.hid fun w => lwait_any 1 (by omega) ⟨wt p i, p.factor, p.great⟩ hfit.out w
            go_wp2_with fail
            refine (HL1.out _).mono ?_
            rintro e w5 ⟨rfl, b5⟩
            have H7 := H6.call b5
            go_wp2_with fail
            go_roundg (N - (i + 1))
            case measure => have := HM.out; omega
            case rel => exact ⟨i + 1, by omega, by omega, by go_num, rfl, rfl, H7⟩
          · have hie : i = N := by omega
            subst hie
            clear hlt eb en hx1
            obtain ⟨q0, q1, q2⟩ := H6.cells
            go_wp2_with fail
            refine (HS.out _).mono ?_
            rintro e w8 ⟨rfl, b8⟩
            have H8 := H6.call b8
            clear H6 b8 q0 q1 q2
            obtain ⟨q0, q1, q2⟩ := H8.cells
            have f2 : decide (sp < x / 2 + x % 2) = false := by have := HSP.out; simp; omega
            have f3 : decide (x < sp) = false := by have := HSP.out; simp; omega
            have f4 : (sp != x / 2 + x % 2 + d % (x - (x / 2 + x % 2) + 1)) = false := by have := HSP.out.1; simp [this]
            have f5 : 0 ≤ d % (x - (x / 2 + x % 2) + 1) ∧ d % (x - (x / 2 + x % 2) + 1) ≤ x - (x / 2 + x % 2) := HSP.out.2
            go_wp2_with fail
            refine (HWt.out _).mono ?_
            rintro e w9 ⟨rfl, b9⟩
            have H9 := H8.call b9
            clear H8 b9 q0 q1 q2
            obtain ⟨q0, q1, q2⟩ := H9.cells
            have f1 : (x != x) = false := by simp
            go_wp2_with fail
            refine (HT.out _).mono ?_
            rintro e w10 ⟨rfl, b10⟩
            have H10 := H9.call b10
            clear H9 b10 q0 q1 q2
            obtain ⟨q0, q1, q2⟩ := H10.cells
            go_wp2_with fail
            refine (HTr.out _).mono ?_
            rintro e w11 ⟨rfl, b11⟩
            have H11 := H10.call b11
            clear H10 b11 q0 q1 q2 f1 f2 f3 f4 f5 hhalf
            obtain ⟨q0, q1, q2⟩ := H11.cells
            have hfin : ∀ (W : World), Env p P P w W → Below w.heap.size w W := fun W h => by have b := h.b; rwa [HP.out] at b
            have HF := Lib.hid hfin
            clear hfin
            have hlast : k = 10000 ∨ (k ≠ 10000 ∧ T2 = 4611686018427387903) ∨ (k ≠ 10000 ∧ T2 ≠ 4611686018427387903 ∧ cl within < T2) := by have := HK.out; omega
            have HLast := Lib.hid hlast
            clear hlast
            by_cases hk0 : 0 < k
            · have t1 : decide (within < T1) = false := by have := HK2.out hk0; simp; omega
              go_wp2_with fail
              refine (HTk.out _).mono ?_
              rintro e w12 ⟨rfl, b12⟩
              have H12 := H11.call b12
              clear H11 b12 q0 q1 q2
              obtain ⟨q0, q1, q2⟩ := H12.cells
              go_wp2_with fail
              refine (HTk1.out _).mono ?_
              rintro e w13 ⟨rfl, b13⟩
              have H13 := H12.call b13
              clear H12 b13 q0 q1 q2 t1
              rcases HLast.out with h | ⟨h1, h2⟩ | ⟨h1, h2, h3⟩
              · have t2 : ((k : Int) == 10000) = true := by simp; omega
                clear h
                go_wp2_with fail
                go_ret
                exact ⟨rfl, HF.out _ H13⟩
              · have t2 : ((k : Int) == 10000) = false := by simp; omega
                have t3 : (T2 == 4611686018427387903) = true := by simp [h2]
                clear h1 h2
                go_wp2_with fail
                go_ret
                exact ⟨rfl, HF.out _ H13⟩
              · have t2 : ((k : Int) == 10000) = false := by simp; omega
                have t3 : (T2 == 4611686018427387903) = false := by simp [h2]
                have t4 : decide (cl within < T2) = true := by simp [h3]
                clear h1 h2 h3
                go_wp2_with fail
                refine (rclamp_any _ _).mono ?_
                rintro e w14 ⟨rfl, rfl⟩
                go_wp2_with fail
                go_ret
                exact ⟨ret_bool (by first | rfl | exact t4), HF.out _ H13⟩
            · have hk00 : k = 0 := by omega
              subst hk00
              go_wp2_with fail
              refine (HTk1.out _).mono ?_
              rintro e w13 ⟨rfl, b13⟩
              have H13 := H11.call b13
              clear H11 b13 q0 q1 q2
              rcases HLast.out with h | ⟨h1, h2⟩ | ⟨h1, h2, h3⟩
              · omega
              · have t3 : (T2 == 4611686018427387903) = true := by simp [h2]
                clear h1 h2
                go_wp2_with fail
                go_ret
                exact ⟨rfl, HF.out _ H13⟩
              · have t3 : (T2 == 4611686018427387903) = false := by simp [h2]
                have t4 : decide (cl within < T2) = true := by simp [h3]
                clear h1 h2 h3
                go_wp2_with fail
                refine (rclamp_any _ _).mono ?_
                rintro e w14 ⟨rfl, rfl⟩
                go_wp2_with fail
                go_ret
                exact ⟨ret_bool (by first | rfl | exact t4), HF.out _ H13⟩
end Go.Proofs.Ytdplpehphjgffaa.Bk
