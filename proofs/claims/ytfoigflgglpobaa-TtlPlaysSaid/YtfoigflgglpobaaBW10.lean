/- Lemmas and contracts for RowTtlPlays, merged by program out of Vy. No condition. -/
import Derived.Test.YtfoigflgglpobaaBW9
import Derived.StillTailTactics
import Derived.Deep.RegionLaw
import Derived.BigQuiet
set_option linter.unusedVariables false
set_option linter.unusedSimpArgs false
/- TtlPlays: whatever is put, got, touched and dropped, all is what a plain row tells: the walk. No condition. -/
set_option linter.unusedVariables false
set_option linter.unusedSimpArgs false
namespace Go.Proofs.Ytfoigflgglpobaa.V
open Go.RowKit Go.BigFrame Go.Proofs.Ytfoigflgglpobaa.Aid Go.Proofs.Ytfoigflgglpobaa.Tr Go.Proofs.Ytfoigflgglpobaa.Kt Go.Proofs.Ytfoigflgglpobaa.Q
set_option maxHeartbeats 400000 in
set_option maxRecDepth 100000 in
theorem ttlPlays_big (mo : Int) (A : Option Addr) (N cap : Nat) (hN : 100 < N) (hmx : N ≤ maxLen) (w : World) : Calls Try.prog 10 #[.int .i64 mo, .slice A N cap] w fun e w' => e = .returned (.bool true) ∧ Below w.heap.size w w' := by
  have d : decide (((N : Nat) : Int) > 100) = true := decide_eq_true (by omega)
  go_enter Try.func10, Try.ntmps10
  go_wp2_with fail
  refine (vfixed_any w).mono ?_
  rintro e w1 ⟨rfl, b1⟩
  have HB := Lib.hid b1
  clear b1
  go_wp2_with fail
  go_ret
  exact ⟨rfl, HB.out⟩
set_option maxHeartbeats 400000 in
set_option maxRecDepth 100000 in
theorem ttlPlays_bad (mo : Int) (hmo : mo < 1 ∨ 1024 < mo) (A : Option Addr) (N cap : Nat) (hN : N ≤ 100) (w : World) : Calls Try.prog 10 #[.int .i64 mo, .slice A N cap] w fun e w' => e = .returned (.bool true) ∧ Below w.heap.size w w' := by
  have d : decide (((N : Nat) : Int) > 100) = false := decide_eq_false (by omega)
  have HM := Lib.hid hmo
  obtain ⟨x1, hx1⟩ : ∃ x, decide (mo < 1) = x := ⟨_, rfl⟩
  obtain ⟨x2, hx2⟩ : ∃ x, decide (mo > 1024) = x := ⟨_, rfl⟩
  have hx : x1 = true ∨ x1 = false ∧ x2 = true := by
    rcases hmo with h | h
    · exact .inl (by rw [← hx1]; exact decide_eq_true h)
    · by_cases h1 : mo < 1
      · omega
      · exact .inr ⟨by rw [← hx1]; exact decide_eq_false h1, by rw [← hx2]; exact decide_eq_true h⟩
  clear hmo
  go_enter Try.func10, Try.ntmps10
  go_wp2_with fail
  refine (vfixed_any w).mono ?_
  rintro e w1 ⟨rfl, b1⟩
  go_wp2_with fail
  refine (V_new_bad mo HM.out w1).mono ?_
  rintro e w2 ⟨rfl, rfl⟩
  rcases hx with rfl | ⟨rfl, rfl⟩
  all_goals
    go_wp2_with fail
    refine (N_get 1 1 w1).mono ?_
    rintro e w3 ⟨rfl, b3⟩
    go_wp2_with fail
    refine (N_drop 1 1 w3).mono ?_
    rintro e w4 ⟨rfl, b4⟩
    go_wp2_with fail
    refine (N_touch 1 1 1 w4).mono ?_
    rintro e w5 ⟨rfl, b5⟩
    go_wp2_with fail
    refine (N_keys 1 w5).mono ?_
    rintro e w6 ⟨rfl, rfl⟩
    go_wp2_with fail
    go_ret
    have s1 := b1.size
    have s3 := b3.size
    have s4 := b4.size
    exact ⟨rfl, ((b1.trans (b3.mono s1)).trans (b4.mono (Nat.le_trans s1 s3))).trans (b5.mono (by omega))⟩
set_option maxHeartbeats 8000000 in
set_option maxRecDepth 100000 in
theorem ttlPlays_any (p : Nat) (hp1 : 1 ≤ p) (hp2 : p ≤ 1024) (A : Option Addr) (N cap : Nat) (hN : N ≤ 100) (w : World) (hin : ActsV w w.heap.size A N) : Calls Try.prog 10 #[.int .i64 p, .slice A N cap] w fun e w' => e = .returned (.bool true) ∧ Below w.heap.size w w' := by
  have d : decide (((N : Nat) : Int) > 100) = false := decide_eq_false (by omega)
  have d1 : decide (((p : Nat) : Int) < 1) = false := decide_eq_false (by omega)
  have d2 : decide (((p : Nat) : Int) > 1024) = false := decide_eq_false (by omega)
  have HK := Lib.hid hin
  clear hin
  go_enter Try.func10, Try.ntmps10
  go_wp2_with fail
  refine (vfixed_any w).mono ?_
  rintro e V1 ⟨rfl, b1⟩
  go_wp2_with fail
  refine (V_new p hp1 hp2 V1).mono ?_
  rintro e W0 ⟨P, rfl, h0, f0, b0⟩
  have s1 := b1.size
  have s0 := b0.size
  have S0 : LVd w W0 P [] p (-4611686018427387903) W0.heap.size (.slice none 0 0) [] 0 :=
    ⟨⟨h0, b1.trans (b0.mono s1), fun b hb => by have := f0 b hb; omega⟩, irl_nil _ _, fun b hb => h0.foot_lt hb, by omega, Nat.le_refl _⟩
  have S := Lib.hid (show VRl w P p W0.heap.size N N (.slice none 0 0) (.int .i64 (-2305843009213693952)) (.int .i64 (0 : Nat)) W0 from ⟨0, [], -2305843009213693952, -4611686018427387903, by omega, rfl, rfl, rfl, ⟨by omega, by omega, .inr ⟨rfl, rfl⟩⟩, S0, by simp⟩)
  clear h0 f0 b0 b1 s1 s0 S0 d
  generalize W0.heap.size = base at S
  go_wp2_with fail
  go_loopg [8, 9, 63] N (fun m s8 s9 s63 wr => VRl w P p base N m s8 s9 s63 wr)
  case atStart => exact S.out
  case round =>
    obtain ⟨k, row, nL, nP, hk, rfl, rfl, rfl, hnow, HS, hends⟩ := hrel
    clear S d1 d2
    by_cases hlt : k < N
    · obtain ⟨x, rfl, a, hak, hkey, hnk, hat⟩ := HK.out k hlt
      obtain ⟨q0, q1, q2, q3, q4⟩ := hat _ HS.s.b
      clear hat
      go_upto_region 14 with fail
      have H2 := Lib.hid (And.intro (HS.act a) (And.intro hnow hends))
      clear q0 q1 q2 q3 q4 HS hnow hends
      generalize wr.alloc (.cells #[.int .u8 a.kind, .int .i64 a.now, .int .i64 a.key, .int .i64 a.val, .int .i64 a.keep] 93) = W2 at H2 ⊢
      generalize wr.heap.size = X at H2 ⊢
      obtain ⟨a0, a1, a2, a3, a4⟩ := H2.out.1.cells
      by_cases g1 : a.now < -1125899906842624
      · as_aux_lemma =>
        have e1 := decide_eq_true g1
        go_wp2_with fail
        go_ret
        exact ⟨rfl, H2.out.1.h.s.b⟩
      have e1 : decide (a.now < -1125899906842624) = false := decide_eq_false g1
      by_cases g2 : a.now > 1125899906842624
      · as_aux_lemma =>
        have e2 := decide_eq_true g2
        go_wp2_with fail
        go_ret
        exact ⟨rfl, H2.out.1.h.s.b⟩
      have e2 : decide (a.now > 1125899906842624) = false := decide_eq_false g2
      by_cases g3 : a.keep > 1125899906842624
      · as_aux_lemma =>
        have e3 := decide_eq_true g3
        go_wp2_with fail
        go_ret
        exact ⟨rfl, H2.out.1.h.s.b⟩
      have e3 : decide (a.keep > 1125899906842624) = false := decide_eq_false g3
      have HG := Lib.hid (And.intro g1 (And.intro g2 (And.intro g3 (And.intro hkey hnk))))
      clear g1 g2 g3 hnk hkey
      obtain ⟨q, hq⟩ : ∃ q, a.kind % 4 = q := ⟨_, rfl⟩
      have h4 : q = 0 ∨ q = 1 ∨ q = 2 ∨ q = 3 := by omega
      go_upto_region 16 with fail
      clear e1 e2 e3
      go_cut [88] (fun s88 wx => s88 = .bool (decide (q = 0 ∧ a.keep < 1)) ∧ W2 = wx)
      case first =>
       as_aux_lemma =>
        by_cases c0 : q = 0
        · subst c0
          by_cases c1 : a.keep < 1
          · have c2 := decide_eq_true c1
            go_wp2_with fail
            go_meet
            exact ⟨by rw [decide_eq_true (And.intro rfl c1)], rfl⟩
          · have c2 : decide (a.keep < 1) = false := decide_eq_false c1
            go_wp2_with fail
            go_meet
            exact ⟨by rw [decide_eq_false (p := 0 = 0 ∧ a.keep < 1) (fun h => c1 h.2)], rfl⟩
        · have c2 := beq_i c0
          go_wp2_with fail
          go_meet
          exact ⟨by rw [decide_eq_false (p := q = 0 ∧ a.keep < 1) (fun h => c0 h.1)], rfl⟩
      case rest =>
        obtain ⟨rfl, rfl⟩ := hcut
        cases hb : decide (q = 0 ∧ a.keep < 1) with
        | true =>
         as_aux_lemma =>
          obtain ⟨rfl, c1⟩ := of_decide_eq_true hb
          clear hb h4
          go_wp2_with fail
          refine (V_put_bad P a.now a.key a.val a.keep c1 _).mono ?_
          rintro e W3 ⟨rfl, rfl⟩
          go_wp2_with fail
          go_roundg (N - (k + 1))
          case measure => omega
          case rel => exact ⟨k + 1, row, nL, nP, by omega, rfl, by go_num, rfl, H2.out.2.1, H2.out.1.h.mono (by omega), H2.out.2.2⟩
        | false =>
          have hkp : q = 0 → ¬ a.keep < 1 := fun h h' => of_decide_eq_false hb ⟨h, h'⟩
          have HKP := Lib.hid hkp
          have hst := now_step (n := a.now) H2.out.2.1 (by have := HG.out.1; omega) (by have := HG.out.2.1; omega)
          obtain ⟨t, ht⟩ : ∃ t, max nL a.now = t := ⟨_, rfl⟩
          rw [ht] at hst
          have HM := Lib.hid (show (if nL < a.now then a.now else nL) = t from by rw [← ht]; split <;> omega)
          obtain ⟨r1, hr1⟩ : ∃ r1, row.dropWhile (ov t) = r1 := ⟨_, rfl⟩
          have HR := Lib.hid (And.intro hst (And.intro hr1 (show rowN row nP a.now = r1 from by unfold rowN; rw [hst.1]; exact hr1)))
          clear hb hkp hst hr1
          clear ht
          go_upto_block 2 with fail
          rw [HM.out]
          go_cut [8] (fun s8 wx => W2 = wx ∧ IRow W2 base s8 r1)
          case first =>
           as_aux_lemma =>
            --<D1
            go_wp2_with fail
            go_loopg [8] row.length (fun m s8 wr => VDr W2 base r1 t m s8 wr)
            case atStart => exact ⟨row, rfl, HR.out.2.1, H2.out.1.h.r, rfl⟩
            case round =>
              obtain ⟨l, rfl, hl, hIR, rfl⟩ := hrel
              obtain ⟨A8, cap8, rfl, hA8⟩ := irl_parts hIR
              have HI := Lib.hid (And.intro hl hIR)
              clear hl hIR
              cases l with
              | nil =>
                clear hA8
                go_wp2_with fail
                go_meet
                exact ⟨rfl, by have h := HI.out.2; rw [← HI.out.1]; exact h⟩
              | cons b l =>
                obtain ⟨o1, o2, rfl⟩ := hA8 0 (by simp)
                have c2 := (irl_it HI.out.2 (j := 0) (a := b) rfl).2.2
                simp only [Nat.zero_mul, Nat.add_zero] at c2
                have hcp := (irl_cap HI.out.2).2
                obtain ⟨n8, hn8⟩ : ∃ n, (b :: l).length = n := ⟨_, rfl⟩
                have z1 : (0 : Int) < ((n8 : Nat) : Int) := by rw [← hn8]; simp only [List.length_cons]; omega
                have z2 : 1 ≤ n8 := by rw [← hn8]; simp
                have z3 : 1 ≤ cap8 := by rw [hn8] at hcp; omega
                by_cases hle : b.e ≤ t
                · have e1 := decide_eq_true hle
                  have hdr := irl_drop (k := 1) HI.out.2 (by simp)
                  rw [hn8] at HI hdr ⊢
                  have HL := Lib.hid (show IRow W2 base (.slice (if cap8 = 1 then some ⟨o1, o2, none⟩ else some ⟨o1, o2 + 3, none⟩) (n8 - 1) (cap8 - 1)) l ∧ l.dropWhile (ov t) = r1 from ⟨by
                    have e9 : Option.map (fun x : Addr => x.add (1 * 3)) (some ⟨o1, o2, none⟩) = some ⟨o1, o2 + 3, none⟩ := by show some ((⟨o1, o2, none⟩ : Addr).add (1 * 3)) = _; rw [add0]
                    rw [e9] at hdr
                    exact hdr, by rw [← HI.out.1, List.dropWhile_cons_of_pos (show ov t b = true from decide_eq_true hle)]⟩)
                  clear hle hn8 hcp hA8 hdr
                  by_cases hc1 : cap8 = 1
                  · subst hc1
                    go_wp2_with fail
                    go_roundg l.length
                    case measure => simp
                    case rel => exact ⟨l, rfl, HL.out.2, HL.out.1, rfl⟩
                  · go_wp2_with fail
                    go_roundg l.length
                    case measure => simp
                    case rel =>
                      have h := HL.out.1
                      rw [if_neg hc1] at h
                      exact ⟨l, rfl, HL.out.2, h, rfl⟩
                · have e1 : decide (b.e ≤ t) = false := decide_eq_false hle
                  have HL := Lib.hid (And.intro hle hn8)
                  rw [hn8] at HI ⊢
                  clear hle hn8 hcp hA8
                  go_wp2_with fail
                  go_meet
                  exact ⟨rfl, by have h := HI.out.2; rw [← HI.out.1, List.dropWhile_cons_of_neg (by have := HL.out.1; simp [ov]; omega)]; exact h⟩
            -->D1
          case rest =>
            obtain ⟨rfl, hIR⟩ := hcut
            have hlen : r1.length ≤ 1024 := by
              have h1 := H2.out.1.h.s.q.len
              have h2 := (List.dropWhile_sublist (ov t) (l := row)).length_le
              rw [HR.out.2.1] at h2
              omega
            have hsub : ∀ b, b ∈ r1 → b ∈ row := fun b hb => (List.dropWhile_sublist (ov t)).subset (by rw [HR.out.2.1]; exact hb)
            have HF := Lib.hid (show Fresh r1 t ∧ (r1.map It.k).Nodup ∧ (∀ b, b ∈ r1 → b.e ≤ 4503599627370496) ∧ r1.length ≤ 1024 from
              ⟨by rw [← HR.out.2.1]; exact fresh_drop H2.out.1.h.s.q.sorted, by rw [← HR.out.2.1]; exact (H2.out.1.h.s.q.keys).sublist ((List.dropWhile_sublist (ov t)).map It.k), fun b hb => H2.out.2.2 b (hsub b hb), hlen⟩)
            have H3 := Lib.hid (H2.out.1.rowed hIR)
            obtain ⟨A8, cap8, rfl, hA8⟩ := irl_parts hIR
            have HA8 := Lib.hid hA8
            have HPL := Lib.hid (place_law base (.slice A8 r1.length cap8) r1 a.key W2 (by omega) hIR)
            clear hIR hA8 hlen hsub H2
            go_wp2_with fail
            refine HPL.out.mono ?_
            rintro e W3 ⟨r, rfl, hp, b3⟩
            have H4 := Lib.hid (H3.out.call b3)
            have HP := Lib.hid hp
            clear a0 a1 a2 a3 a4 HPL hp b3 H3
            obtain ⟨a0, a1, a2, a3, a4⟩ := H4.out.cells
            go_upto_block 4 with fail
            go_cut [8] from 100 to 309 (fun s8 wx => VCut w P p t base k X a s8 wx)
            case first =>
              have hstep := HR.out.1
              have HS := Lib.hid hstep
              clear hstep
              rcases h4 with rfl | rfl | rfl | rfl
              · as_aux_lemma =>
                --<A0
                have hkp := HKP.out rfl
                obtain ⟨z, hz⟩ : ∃ z, t + a.keep = z := ⟨_, rfl⟩
                have hz1 : t < z := by omega
                have hg := HG.out
                have hw : IntKind.i64.wrap (t + a.keep) = z := by rw [IntKind.wrap_i64]; have := HS.out; omega
                have had : ad t a.keep = z := by rw [← hz]; exact ad_keep HS.out.2.2.1 HS.out.2.2.2.1 (by omega) (by omega)
                have hz2 : z ≤ 4503599627370496 := by have := HS.out; omega
                have HZ := Lib.hid (And.intro hkp (And.intro hz1 (And.intro had hz2)))
                clear hkp hz hz1 had hz2 hg
                go_upto_region 25 with fail
                go_cut [133] from 100 to 309 (fun s133 wx => s133 = .bool (decide (hasV r1 a.key = false ∧ (r1.length : Int) = p)) ∧ W3 = wx)
                case first =>
                  cases hy : hasV r1 a.key with
                  | true =>
                    obtain ⟨K, rfl, hK, _, _⟩ := plcV_yes HP.out HF.out.2.1 hy
                    have c1 : decide ((K : Int) < 0) = false := decide_eq_false (by omega)
                    have HY := Lib.hid hy
                    clear hy
                    go_wp2_with fail
                    go_meet
                    exact ⟨by rw [decide_eq_false (fun h => by rw [HY.out] at h; cases h.1)], rfl⟩
                  | false =>
                    have hr := plcV_no HP.out hy
                    subst hr
                    have HY := Lib.hid hy
                    clear hy
                    by_cases c3 : (r1.length : Int) = p
                    · have c4 : ((r1.length : Int) == p) = true := by rw [c3]; exact beq_self_eq_true _
                      go_wp2_with fail
                      go_meet
                      exact ⟨by rw [decide_eq_true (And.intro HY.out c3)], rfl⟩
                    · have c4 := beq_i c3
                      go_wp2_with fail
                      go_meet
                      exact ⟨by rw [decide_eq_false (fun h => c3 (And.right h))], rfl⟩
                case rest =>
                  obtain ⟨rfl, rfl⟩ := hcut
                  go_upto_if 133 with fail
                  go_cut [8] from 100 to 309 (fun s8 wx => W3 = wx ∧ IRow W3 base s8 (mkRoom r1 p a.key))
                  case first =>
                    cases hb : decide (hasV r1 a.key = false ∧ (r1.length : Int) = p) with
                    | true =>
                      have hc := of_decide_eq_true hb
                      obtain ⟨n8, hn8⟩ : ∃ n, r1.length = n := ⟨_, rfl⟩
                      have hdr := irl_drop (k := 1) H4.out.h.r (by omega)
                      have z1 : 1 ≤ n8 := by omega
                      have hcp := (irl_cap H4.out.h.r).2
                      have z3 : 1 ≤ cap8 := by omega
                      have hmk : mkRoom r1 p a.key = r1.drop 1 := by unfold mkRoom; rw [if_pos hc, List.drop_one]
                      rw [← hmk, hn8] at hdr
                      obtain ⟨q8, o8, rfl⟩ := HA8.out 0 (by omega)
                      have e9 : Option.map (fun x : Addr => x.add (1 * 3)) (some ⟨q8, o8, none⟩) = some ⟨q8, o8 + 3, none⟩ := by show some ((⟨q8, o8, none⟩ : Addr).add (1 * 3)) = _; rw [add0]
                      rw [e9] at hdr
                      have HD := Lib.hid hdr
                      rw [hn8]
                      clear hb hc hn8 hdr hcp hmk e9
                      by_cases hc1 : cap8 = 1
                      · subst hc1
                        go_wp2_with fail
                        go_meet
                        exact ⟨rfl, HD.out⟩
                      · go_wp2_with fail
                        go_meet
                        have h := HD.out
                        rw [if_neg hc1] at h
                        exact ⟨rfl, h⟩
                    | false =>
                      have hc := of_decide_eq_false hb
                      clear hb
                      have hmk : mkRoom r1 p a.key = r1 := by unfold mkRoom; rw [if_neg hc]
                      have HMK := Lib.hid hmk
                      clear hc hmk
                      go_wp2_with fail
                      go_meet
                      exact ⟨rfl, by rw [HMK.out]; exact H4.out.h.r⟩
                  case rest =>
                    obtain ⟨rfl, hIR⟩ := hcut
                    obtain ⟨r2, hr2⟩ : ∃ r2, mkRoom r1 p a.key = r2 := ⟨_, rfl⟩
                    rw [hr2] at hIR
                    have hs2 : r2.Sublist r1 := by rw [← hr2]; unfold mkRoom; split; exact List.tail_sublist _; exact List.Sublist.refl _
                    have hl2 := hs2.length_le
                    have hl1 := HF.out.2.2.2
                    have HWL := Lib.hid (with_law base u8 r2 ⟨a.key, a.val, z⟩ W3 (by omega) (HF.out.2.1.sublist (hs2.map It.k)) hIR)
                    have HR2 := Lib.hid (And.intro hr2 hs2)
                    clear hr2 hs2 hl2 hl1
                    go_wp2_with fail
                    refine HWL.out.mono ?_
                    rintro e W4 ⟨v', rfl, ho, b4⟩
                    rw [← insV_len ⟨a.key, a.val, z⟩] at ho
                    have H5 := Lib.hid ((H4.out.call b4).rowed (irl_mono (irl_own ho) H4.out.h.d.2.2))
                    clear HWL ho b4 H4 a0 a1 a2 a3 a4
                    obtain ⟨a0, a1, a2, a3, a4⟩ := H5.out.cells
                    have HC := Lib.hid (V_put H5.out.h.s.q a.now a.key a.val a.keep HG.out.2.2.2.1 (by omega) (by omega) (by have := HZ.out.1; omega) (by rw [HS.out.1, HZ.out.2.2.1]; exact HZ.out.2.1))
                    rw [HS.out.1, HZ.out.2.2.1, HR.out.2.2, HR2.out.1] at HC
                    go_wp2_with fail
                    refine HC.out.mono ?_
                    rintro e W5 ⟨rfl, h5, o5⟩
                    have H6 := Lib.hid (H5.out.goes h5 o5)
                    clear HC h5 o5 H5 a0 a1 a2 a3 a4
                    go_wp2_with fail
                    go_meet
                    refine ⟨_, H6.out.mono (by omega), fresh_ins (fresh_del (HF.out.1.sub fun b hb => HR2.out.2.subset hb)) HZ.out.2.1, fun b hb => ?_⟩
                    rw [insV_at] at hb
                    rcases List.mem_append.1 hb with hb | hb
                    · exact HF.out.2.2.1 b (HR2.out.2.subset (List.mem_of_mem_eraseP (List.mem_of_mem_take hb)))
                    · rcases List.mem_cons.1 hb with rfl | hb
                      · exact HZ.out.2.2.2
                      · exact HF.out.2.2.1 b (HR2.out.2.subset (List.mem_of_mem_eraseP (List.mem_of_mem_drop hb)))
                -->A0
              · as_aux_lemma =>
                --<A1
                obtain ⟨g, hg⟩ : ∃ g, getV r1 a.key = g := ⟨_, rfl⟩
                have HC := V_get H4.out.h.s.q a.now a.key HG.out.2.2.2.1
                rw [HS.out.1, HR.out.2.2, hg] at HC
                cases hy : hasV r1 a.key with
                | false =>
                  have hr := plcV_no HP.out hy
                  subst hr
                  rw [hy] at HC
                  have HC := Lib.hid HC
                  have HY := Lib.hid (And.intro hy hg)
                  clear hy hg
                  go_wp2_with fail
                  refine HC.out.mono ?_
                  rintro e W4 ⟨rfl, h4, o4⟩
                  have H5 := Lib.hid (H4.out.goes h4 o4)
                  clear HC h4 o4 H4 a0 a1 a2 a3 a4
                  obtain ⟨a0, a1, a2, a3, a4⟩ := H5.out.cells
                  have HC := V_left H5.out.h.s.q a.now a.key HG.out.2.2.2.1
                  rw [now_same HS.out.2.2.2.2, fresh_row HF.out.1 HS.out.2.2.2.2, HY.out.1, if_neg (by decide)] at HC
                  have HC := Lib.hid HC
                  go_wp2_with fail
                  refine HC.out.mono ?_
                  rintro e W5 ⟨rfl, h5, o5⟩
                  have H6 := Lib.hid (H5.out.goes h5 o5)
                  clear HC h5 o5 H5 a0 a1 a2 a3 a4
                  go_wp2_with fail
                  go_meet
                  exact ⟨r1, H6.out.mono (by omega), HF.out.1, HF.out.2.2.1⟩
                | true =>
                  obtain ⟨K, rfl, hK, hg2, _⟩ := plcV_yes HP.out HF.out.2.1 hy
                  rw [hg] at hg2
                  have hf := HF.out.1 g (List.mem_of_getElem? hg2)
                  have he := HF.out.2.2.1 g (List.mem_of_getElem? hg2)
                  obtain ⟨y, hyy⟩ : ∃ y, g.e - t = y := ⟨_, rfl⟩
                  have hw : IntKind.i64.wrap (g.e - t) = y := by rw [IntKind.wrap_i64]; have := HS.out; omega
                  have hu : unt t g.e = y := by rw [← hyy]; exact unt_left HS.out.2.2.1 HS.out.2.2.2.1 hf (by omega)
                  obtain ⟨q8, o8, rfl⟩ := HA8.out K hK
                  rw [hy] at HC
                  have HC := Lib.hid HC
                  have HY := Lib.hid (And.intro hy (And.intro hg (And.intro hg2 hu)))
                  have c1 : (0 : Int) ≤ (K : Int) := by omega
                  clear hy hg hg2 hf he hyy hu HA8
                  go_wp2_with fail
                  refine HC.out.mono ?_
                  rintro e W4 ⟨rfl, h4, o4⟩
                  have H5 := Lib.hid (H4.out.goes h4 o4)
                  clear HC h4 o4 H4 a0 a1 a2 a3 a4
                  obtain ⟨a0, a1, a2, a3, a4⟩ := H5.out.cells
                  have HC := V_left H5.out.h.s.q a.now a.key HG.out.2.2.2.1
                  rw [now_same HS.out.2.2.2.2, fresh_row HF.out.1 HS.out.2.2.2.2, HY.out.1, if_pos rfl, HY.out.2.1, HY.out.2.2.2] at HC
                  have HC := Lib.hid HC
                  go_wp2_with fail
                  refine HC.out.mono ?_
                  rintro e W5 ⟨rfl, h5, o5⟩
                  have H6 := Lib.hid (H5.out.goes h5 o5)
                  clear HC h5 o5 H5 a0 a1 a2 a3 a4
                  obtain ⟨f0, f1, f2⟩ := irl_it H6.out.h.r HY.out.2.2.1
                  go_wp2_with fail
                  go_meet
                  exact ⟨r1, H6.out.mono (by omega), HF.out.1, HF.out.2.2.1⟩
                -->A1
              · as_aux_lemma =>
                --<A2
                obtain ⟨g, hg⟩ : ∃ g, getV r1 a.key = g := ⟨_, rfl⟩
                go_upto_region 36 with fail
                go_cut [17] from 100 to 309 (fun s17 wx => s17 = .bool (decide (hasV r1 a.key = true ∧ 1 ≤ a.keep)) ∧ W3 = wx)
                case first =>
                 as_aux_lemma =>
                  --<A2f
                  cases hy : hasV r1 a.key with
                  | true =>
                    obtain ⟨K, rfl, hK, _, _⟩ := plcV_yes HP.out HF.out.2.1 hy
                    have c1 : decide ((K : Int) ≥ 0) = true := decide_eq_true (by omega)
                    have c1' : (0 : Int) ≤ (K : Int) := by omega
                    have HY := Lib.hid hy
                    clear hy
                    by_cases ck : 1 ≤ a.keep
                    · have c2 : decide (a.keep ≥ 1) = true := decide_eq_true ck
                      go_wp2_with fail
                      go_meet
                      exact ⟨by rw [decide_eq_true (And.intro HY.out ck)], rfl⟩
                    · have c2 : decide (a.keep ≥ 1) = false := decide_eq_false ck
                      go_wp2_with fail
                      go_meet
                      exact ⟨by rw [decide_eq_false (fun h => absurd (And.right h) (by omega))], rfl⟩
                  | false =>
                    have hr := plcV_no HP.out hy
                    subst hr
                    have HY := Lib.hid hy
                    clear hy
                    go_wp2_with fail
                    go_meet
                    exact ⟨by rw [decide_eq_false (fun h => by rw [HY.out] at h; cases h.1)], rfl⟩
                  -->A2f
                case rest =>
                  obtain ⟨rfl, rfl⟩ := hcut
                  cases hb : decide (hasV r1 a.key = true ∧ 1 ≤ a.keep) with
                  | false =>
                   as_aux_lemma =>
                    --<A2n
                    have hno : hasV r1 a.key = false ∨ a.keep < 1 := by
                      have := of_decide_eq_false hb
                      cases hy : hasV r1 a.key with
                      | false => exact .inl rfl
                      | true => exact .inr (by have h2 : ¬ 1 ≤ a.keep := fun h => this ⟨hy, h⟩; omega)
                    have HC := V_touch_no H4.out.h.s.q a.now a.key a.keep HG.out.2.2.2.1 (by rw [HR.out.2.2]; exact hno)
                    rw [HS.out.1, HR.out.2.2] at HC
                    have HC := Lib.hid HC
                    clear hb hno hg
                    go_wp2_with fail
                    refine HC.out.mono ?_
                    rintro e W4 ⟨rfl, h4, o4⟩
                    have H5 := Lib.hid (H4.out.goes h4 o4)
                    clear HC h4 o4 H4 a0 a1 a2 a3 a4
                    go_wp2_with fail
                    go_meet
                    exact ⟨r1, H5.out.mono (by omega), HF.out.1, HF.out.2.2.1⟩
                    -->A2n
                  | true =>
                   as_aux_lemma =>
                    --<A2y
                    obtain ⟨hy, hkp⟩ := of_decide_eq_true hb
                    obtain ⟨K, rfl, hK, hg2, _⟩ := plcV_yes HP.out HF.out.2.1 hy
                    rw [hg] at hg2
                    obtain ⟨z, hz⟩ : ∃ z, t + a.keep = z := ⟨_, rfl⟩
                    have hgs := HG.out
                    have hw : IntKind.i64.wrap (t + a.keep) = z := by rw [IntKind.wrap_i64]; have := HS.out; omega
                    have had : ad t a.keep = z := by rw [← hz]; exact ad_keep HS.out.2.2.1 HS.out.2.2.2.1 (by omega) (by omega)
                    have hz1 : t < z := by omega
                    have hz2 : z ≤ 4503599627370496 := by have := HS.out; omega
                    have HC := V_touch_yes H4.out.h.s.q a.now a.key a.keep HG.out.2.2.2.1 (by omega) (by rw [HR.out.2.2]; exact hy) (by omega)
                    rw [HS.out.1, HR.out.2.2, hg, had] at HC
                    have HC := Lib.hid HC
                    obtain ⟨q8, o8, rfl⟩ := HA8.out K hK
                    have c1 : (0 : Int) ≤ (K : Int) := by omega
                    have HY := Lib.hid (And.intro hy (And.intro hg2 (And.intro hz1 hz2)))
                    clear hb hy hkp hg hg2 hz hgs had hz1 hz2 HA8
                    go_wp2_with fail
                    refine HC.out.mono ?_
                    rintro e W4 ⟨rfl, h4, o4⟩
                    have H5 := Lib.hid ((H4.out.goes h4 o4).drew)
                    clear HC h4 o4 H4 a0 a1 a2 a3 a4
                    obtain ⟨a0, a1, a2, a3, a4⟩ := H5.out.cells
                    obtain ⟨f0, f1, f2⟩ := irl_it H5.out.h.r HY.out.2.1
                    --<A2z
                    go_upto_region 40 with fail
                    refine wp_region_still_tail 13 (by kernel_rfl) (by kernel_rfl) ?_
                    change wpStill _ _ W4.drew (fun a' => wpList _ _ _ _ a' W4.drew) _ _
                    generalize W4.drew = V at a0 a1 a2 a3 a4 f0 f1 f2 H5 ⊢
                    have HWL := Lib.hid (with_law base _ r1 ⟨a.key, g.v, z⟩ V (by have := HF.out.2.2.2; omega) HF.out.2.1 H5.out.h.r)
                    --<A2w
                    simp only [List.take_succ_cons, List.take_zero, List.drop_succ_cons, List.drop_zero]
                    refine still_of_quiet _ _ ?_
                    repeat (go_big_quiet_step (fail))
                    refine wpQuiet_nil ?_
                    --<A2v
                    clear f0 f1 f2
                    go_wp2_with fail
                    refine HWL.out.mono ?_
                    rintro e W5 ⟨v', rfl, ho, b5⟩
                    rw [← insV_len ⟨a.key, g.v, z⟩] at ho
                    have H6 := Lib.hid ((H5.out.call b5).rowed (irl_mono (irl_own ho) H5.out.h.d.2.2))
                    clear HWL ho b5 H5 a0 a1 a2 a3 a4
                    go_wp2_with fail
                    go_meet
                    refine ⟨_, H6.out.mono (by omega), fresh_ins (fresh_del HF.out.1) HY.out.2.2.1, fun b hb => ?_⟩
                    rw [insV_at] at hb
                    rcases List.mem_append.1 hb with hb | hb
                    · exact HF.out.2.2.1 b (List.mem_of_mem_eraseP (List.mem_of_mem_take hb))
                    · rcases List.mem_cons.1 hb with rfl | hb
                      · exact HY.out.2.2.2
                      · exact HF.out.2.2.1 b (List.mem_of_mem_eraseP (List.mem_of_mem_drop hb))
                    -->A2v
                    -->A2w
                    -->A2z
                    -->A2y
                -->A2
              · as_aux_lemma =>
                --<A3
                have HC := V_drop H4.out.h.s.q a.now a.key HG.out.2.2.2.1
                rw [HS.out.1, HR.out.2.2] at HC
                cases hy : hasV r1 a.key with
                | false =>
                  have hr := plcV_no HP.out hy
                  subst hr
                  rw [hy, delV_no hy] at HC
                  have HC := Lib.hid HC
                  clear hy
                  go_wp2_with fail
                  refine HC.out.mono ?_
                  rintro e W4 ⟨rfl, h4, o4⟩
                  have H5 := Lib.hid (H4.out.goes h4 o4)
                  clear HC h4 o4 H4 a0 a1 a2 a3 a4
                  go_wp2_with fail
                  go_meet
                  exact ⟨r1, H5.out.mono (by omega), HF.out.1, HF.out.2.2.1⟩
                | true =>
                  obtain ⟨K, rfl, hK, hg2, hdl⟩ := plcV_yes HP.out HF.out.2.1 hy
                  rw [hy] at HC
                  have HC := Lib.hid HC
                  have HY := Lib.hid hdl
                  have c1 : (0 : Int) ≤ (K : Int) := by omega
                  clear hy hg2 hdl
                  go_wp2_with fail
                  refine HC.out.mono ?_
                  rintro e W4 ⟨rfl, h4, o4⟩
                  have H5 := Lib.hid (H4.out.goes h4 o4)
                  clear HC h4 o4 H4 a0 a1 a2 a3 a4
                  have HWL := Lib.hid (without_law base _ r1 K hK W4 (by have := HF.out.2.2.2; omega) H5.out.h.r)
                  go_wp2_with fail
                  refine HWL.out.mono ?_
                  rintro e W5 ⟨v', rfl, ho, b5⟩
                  have H6 := (H5.out.call b5).rowed (irl_mono (irl_own ho) H5.out.h.d.2.2)
                  rw [← HY.out] at H6
                  have HH6 := Lib.hid H6
                  clear HWL ho b5 H5 H6
                  go_wp2_with fail
                  go_meet
                  exact ⟨_, HH6.out.mono (by omega), fresh_del HF.out.1, fun b hb => HF.out.2.2.1 b (List.mem_of_mem_eraseP hb)⟩
                -->A3
            case rest =>
              as_aux_lemma =>
              --<R
              obtain ⟨row', H1, hfr, hen⟩ := hcut
              clear HP HF HKP h4 hak hq HM HA8 H4 a0 a1 a2 a3 a4
              have hTl : row'.length ≤ 1024 := by have := H1.h.s.q.len; omega
              obtain ⟨A9, cap9, rfl, hA9⟩ := irl_parts H1.h.r
              have HA9 := Lib.hid hA9
              have HS := Lib.hid (And.intro HR.out.1 (And.intro hfr hen))
              obtain ⟨a0, a1, a2, a3, a4⟩ := H1.cells
              obtain ⟨n, hn⟩ : ∃ n, row'.length = n := ⟨_, rfl⟩
              have HC := Lib.hid (V_keys_f H1.h.s.q (by omega) HS.out.2.1 a.now HS.out.1.2.2.2.2 hn)
              rw [hn] at HA9
              cases row' with
              | nil =>
               as_aux_lemma =>
                --<Rn
                have hn0 : n = 0 := hn.symm
                subst hn0
                have HH1 := Lib.hid H1
                simp only [List.length_nil] at HH1 ⊢
                clear H1 hA9 hfr hen hn
                go_wp2_with fail
                refine HC.out.mono ?_
                rintro e W4 ⟨⟨v, rfl, ho⟩, h4, o4⟩
                obtain ⟨KA, kc, rfl, hKA⟩ := own_parts ho
                have H5 := Lib.hid (HH1.out.goes h4 o4)
                clear HC h4 o4 HH1 a0 a1 a2 a3 a4 ho hKA
                obtain ⟨a0, a1, a2, a3, a4⟩ := H5.out.cells
                --<Rn1
                have HC := Lib.hid (V_next_f H5.out.h.s.q HS.out.2.1 a.now HS.out.1.2.2.2.2 (e0 := 4611686018427387903) rfl)
                go_wp2_with fail
                refine HC.out.mono ?_
                rintro e W5 ⟨rfl, h5, o5⟩
                have H6 := Lib.hid (H5.out.goes h5 o5)
                clear HC h5 o5 H5 a0 a1 a2 a3 a4
                obtain ⟨a0, a1, a2, a3, a4⟩ := H6.out.cells
                have HC := Lib.hid (V_len_f H6.out.h.s.q HS.out.2.1 a.now HS.out.1.2.2.2.2 (k := 0) rfl)
                go_wp2_with fail
                refine HC.out.mono ?_
                rintro e W6 ⟨rfl, h6, o6⟩
                have H7 := Lib.hid (H6.out.goes h6 o6)
                clear HC h6 o6 H6 a0 a1 a2 a3 a4
                --<Rn2
                go_wp2_with fail
                --<Rn3
                go_loopg [295] 0 (fun m s295 wr => s295 = .int .i64 0 ∧ LVd w wr P [] p t base (.slice A9 0 cap9) [] ((k + 1 : Nat) : Int))
                case atStart => exact ⟨rfl, H7.out.h⟩
                case round =>
                  obtain ⟨rfl, HJ⟩ := hrel
                  have HJ2 := Lib.hid HJ
                  clear HJ H7
                  go_wp2_with fail
                  go_roundg (N - (k + 1))
                  case measure => omega
                  case rel => exact ⟨k + 1, [], t, t, by omega, rfl, by go_num, rfl, HS.out.1.2.1, HJ2.out, by simp⟩
                -->Rn3
                -->Rn2
                -->Rn1
                -->Rn
              | cons b l =>
               as_aux_lemma =>
                --<Rc
                have hn0 : 0 < n := by rw [← hn]; simp
                have hl0 : (0 : Int) < ((n : Nat) : Int) := by omega
                obtain ⟨q9, o9, rfl⟩ := HA9.out 0 hn0
                have fe := (irl_it H1.h.r (j := 0) (a := b) rfl).2.2
                simp only [Nat.zero_mul, Nat.add_zero] at fe
                have HH1 := Lib.hid H1
                have HNN := Lib.hid hn
                rw [hn] at HH1 ⊢
                clear H1 hA9 hfr hen hn HA9
                go_wp2_with fail
                refine HC.out.mono ?_
                rintro e W4 ⟨⟨v, rfl, ho⟩, h4, o4⟩
                obtain ⟨KA, kc, rfl, hKA⟩ := own_parts ho
                obtain ⟨kq, rfl⟩ := hKA 0 hn0
                have HO := Lib.hid (And.intro ho HH1.out.h.s.q.above)
                have H5 := Lib.hid (HH1.out.goes h4 o4)
                clear HC h4 o4 HH1 a0 a1 a2 a3 a4 ho hKA fe
                generalize wc.heap.size = kb at HO
                obtain ⟨a0, a1, a2, a3, a4⟩ := H5.out.cells
                have HC := Lib.hid (V_next_f H5.out.h.s.q HS.out.2.1 a.now HS.out.1.2.2.2.2 (e0 := b.e) rfl)
                go_wp2_with fail
                refine HC.out.mono ?_
                rintro e W5 ⟨rfl, h5, o5⟩
                have H6 := Lib.hid (H5.out.goes h5 o5)
                have HO2 := Lib.hid (And.intro (own_only HO.out.1 o5 HO.out.2) HO.out.2)
                clear HC h5 o5 H5 a0 a1 a2 a3 a4 HO
                obtain ⟨a0, a1, a2, a3, a4⟩ := H6.out.cells
                have HC := Lib.hid (V_len_f H6.out.h.s.q HS.out.2.1 a.now HS.out.1.2.2.2.2 HNN.out)
                go_wp2_with fail
                refine HC.out.mono ?_
                rintro e W6 ⟨rfl, h6, o6⟩
                have S2 := Lib.hid (show VIn w P p t (b :: l) base kb (.slice (some ⟨q9, o9, none⟩) n cap9) (.slice (some ⟨kq, 0, none⟩) n kc) ((k + 1 : Nat) : Int) n (.int .i64 (0 : Nat)) W6 from
                  ⟨0, by omega, by rw [HNN.out]; omega, rfl, (H6.out.goes h6 o6).h, by rw [HNN.out]; exact own_only HO2.out.1 o6 HO2.out.2⟩)
                clear HC h6 o6 H6 a0 a1 a2 a3 a4 HO2
                go_wp2_with fail
                --<Rl
                go_loopg [295] n (fun m s295 wr => VIn w P p t (b :: l) base kb (.slice (some ⟨q9, o9, none⟩) n cap9) (.slice (some ⟨kq, 0, none⟩) n kc) ((k + 1 : Nat) : Int) m s295 wr)
                case atStart => exact S2.out
                case round =>
                  obtain ⟨j, hj, rfl, rfl, HJ, HV⟩ := hrel
                  clear S2
                  have hnn := HNN.out
                  by_cases hjl : j < n
                  · obtain ⟨c, hc⟩ : ∃ c, (b :: l)[j]? = some c := ⟨(b :: l)[j]'(by rw [hnn]; exact hjl), List.getElem?_eq_getElem (by rw [hnn]; exact hjl)⟩
                    have f0 := (irl_it HJ.r hc).1
                    rw [hnn] at HV
                    have v0 : wr.cell? ⟨kq, j, none⟩ = some (.int .i64 c.k) := own_cell HV (nums_at (by rw [List.getElem?_map, hc]; rfl))
                    have HH := Lib.hid (And.intro HJ HV)
                    have hjn : (j : Int) < (n : Int) := by omega
                    rw [hnn] at hj
                    clear HJ HV hc
                    go_upto_region 55 with fail
                    go_quiet (fail)
                    clear f0 v0
                    go_wp2_with fail
                    rw [hnn]
                    go_roundg (n - (j + 1))
                    case measure => omega
                    case rel => exact ⟨j + 1, by rw [HNN.out]; omega, by rw [HNN.out], by go_num, HH.out.1.drewN _, by rw [HNN.out]; exact own_drewN HH.out.2 _⟩
                  · have hje : j = n := by omega
                    subst hje
                    have HJ2 := Lib.hid HJ
                    clear HJ HV
                    go_wp2_with fail
                    go_roundg (N - (k + 1))
                    case measure => omega
                    case rel => exact ⟨k + 1, b :: l, t, t, by omega, rfl, by go_num, rfl, HS.out.1.2.1, HJ2.out, HS.out.2.2⟩
                -->Rl
                -->Rc
              -->R
    · have hke : k = N := by omega
      subst hke
      have HB := Lib.hid HS.s.b
      clear HS
      go_wp2_with fail
      go_ret
      exact ⟨rfl, HB.out⟩
theorem ttlPlays_walk (w : World) (mo : Int) (hmo : -9223372036854775808 ≤ mo ∧ mo ≤ 9223372036854775807) (A : Option Addr) (N cap : Nat) (hr : Leaf.Row w [.int .u8, .int .i64, .int .i64, .int .i64, .int .i64] A N) :
    Calls Try.prog 10 #[.int .i64 mo, .slice A N cap] w fun e w' => e = .returned (.bool true) ∧ Below w.heap.size w w' := by
  by_cases h : 100 < N
  · exact ttlPlays_big mo A N cap h (Leaf.len_in' hr) w
  · by_cases h1 : mo < 1 ∨ 1024 < mo
    · exact ttlPlays_bad mo h1 A N cap (by omega) w
    · obtain ⟨p, rfl⟩ : ∃ p : Nat, mo = p := ⟨mo.toNat, by omega⟩
      exact ttlPlays_any p (by omega) (by omega) A N cap (by omega) w (actsV_of hr)
end Go.Proofs.Ytfoigflgglpobaa.V
