/- Lemmas and contracts for RowBasePlays, merged by program out of Bo, Tsl. No condition. -/
import Derived.Test.YtcoibhmgblicfaaBz16
import Derived.Test.YtcoibhmgblicfaaBz10
import Derived.BigQuiet
import Derived.Deep.RegionLaw
import Derived.StillTailTactics
import Derived.Great.BuildSlice
set_option linter.unusedVariables false
set_option linter.unusedSimpArgs false
/- The law's before, due and put. No condition. -/
set_option linter.unusedVariables false
set_option linter.unusedSimpArgs false
namespace Go.Proofs.Ytcoibhmgblicfaa.Ba
open Go.RowKit Go.Proofs.Ytcoibhmgblicfaa.Aid Go.Proofs.Ytcoibhmgblicfaa.Tr Go.Proofs.Ytcoibhmgblicfaa.Kt Go.Proofs.Ytcoibhmgblicfaa.Q
def BTRel (w0 : World) (base : Nat) (v : Value) (l : List Tm) (X : Nat) (a : Tm) (m : Nat) (s5 : Value) (wr : World) : Prop :=
  ∃ k : Nat, k ≤ atB a l ∧ m = l.length - k ∧ s5 = .int .i64 k ∧ TMid w0 wr base v l X a
/-- two boxes -/
theorem box2 (w : World) (c1 c2 : Array Value) (T1 T2 : TypeId) :
    Blk ((w.alloc (.cells c1 T1)).alloc (.cells c2 T2)) w.heap.size T1 c1 ∧ Blk ((w.alloc (.cells c1 T1)).alloc (.cells c2 T2)) (w.heap.size + 1) T2 c2 ∧ Below w.heap.size w ((w.alloc (.cells c1 T1)).alloc (.cells c2 T2)) := by
  have b1 := Blk.new w T1 c1
  have B1 := (Below.refl w.heap.size w).alloc (Nat.le_refl _) (.cells c1 T1)
  have s1 : (w.alloc (.cells c1 T1)).heap.size = w.heap.size + 1 := by simp
  have b2 := Blk.new (w.alloc (.cells c1 T1)) T2 c2
  rw [s1] at b2
  exact ⟨b1.alloc _, b2, B1.alloc B1.size _⟩
set_option maxHeartbeats 1000000 in
set_option maxRecDepth 100000 in
theorem before_same (ai sa ah ti ts th c : Int) (l : Bool) (w : World) : Calls Try.prog 19 #[.agg #[.int .i64 ai, .int .i64 c, .int .i64 sa, .int .i64 ah, .bool l], .agg #[.int .i64 ti, .int .i64 c, .int .i64 ts, .int .i64 th, .bool l]] w fun e w' => e = .returned (.bool (decide (cl sa ≤ cl ts))) ∧ Below w.heap.size w w' := by
  obtain ⟨x1, x2, x3⟩ := box2 w #[.int .i64 ai, .int .i64 c, .int .i64 sa, .int .i64 ah, .bool l] #[.int .i64 ti, .int .i64 c, .int .i64 ts, .int .i64 th, .bool l] 29 29
  go_enter Try.func19, Try.ntmps19
  go_upto_region 1 with fail
  generalize (w.alloc (.cells #[.int .i64 ai, .int .i64 c, .int .i64 sa, .int .i64 ah, .bool l] 29)).alloc (.cells #[.int .i64 ti, .int .i64 c, .int .i64 ts, .int .i64 th, .bool l] 29) = W at x1 x2 x3 ⊢
  have a1 := x1.cell 1
  have a2 := x1.cell 2
  have a4 := x1.cell 4
  have t1 := x2.cell 1
  have t2 := x2.cell 2
  have t4 := x2.cell 4
  have HX := Lib.hid x3
  clear x1 x2 x3
  go_upto_region 5 with fail
  have a2' : W.drew.cell? ⟨w.heap.size, 2, none⟩ = some (.int .i64 sa) := a2
  have t2' : W.drew.cell? ⟨w.heap.size + 1, 2, none⟩ = some (.int .i64 ts) := t2
  go_quiet ((go_at_call 25; exact quiet_left (rclamp_any _ _)))
  go_wp2_with fail
  go_ret
  exact ⟨rfl, below_drewN HX.out _⟩
set_option maxHeartbeats 1000000 in
set_option maxRecDepth 100000 in
theorem before_side (ai sa ah ti ts th c : Int) (l l' : Bool) (hl : l ≠ l') (w : World) : Calls Try.prog 19 #[.agg #[.int .i64 ai, .int .i64 c, .int .i64 sa, .int .i64 ah, .bool l], .agg #[.int .i64 ti, .int .i64 c, .int .i64 ts, .int .i64 th, .bool l']] w fun e w' => e = .returned (.bool (!l)) ∧ Below w.heap.size w w' := by
  obtain ⟨x1, x2, x3⟩ := box2 w #[.int .i64 ai, .int .i64 c, .int .i64 sa, .int .i64 ah, .bool l] #[.int .i64 ti, .int .i64 c, .int .i64 ts, .int .i64 th, .bool l'] 29 29
  cases l <;> cases l' <;> first | exact absurd rfl hl | skip
  all_goals
    clear hl
    go_enter Try.func19, Try.ntmps19
    go_upto_region 1 with fail
    generalize (World.alloc _ _) = W at x1 x2 x3 ⊢
    have a1 := x1.cell 1
    have a4 := x1.cell 4
    have t1 := x2.cell 1
    have t4 := x2.cell 4
    have HX := Lib.hid x3
    clear x1 x2 x3
    go_wp2_with fail
    go_ret
    exact ⟨rfl, HX.out⟩
set_option maxHeartbeats 1000000 in
set_option maxRecDepth 100000 in
theorem before_clock (ai sa ah ti ts th c c' : Int) (l l' : Bool) (hc : c ≠ c') (w : World) : Calls Try.prog 19 #[.agg #[.int .i64 ai, .int .i64 c, .int .i64 sa, .int .i64 ah, .bool l], .agg #[.int .i64 ti, .int .i64 c', .int .i64 ts, .int .i64 th, .bool l']] w fun e w' => e = .returned (.bool (decide (c < c'))) ∧ Below w.heap.size w w' := by
  obtain ⟨x1, x2, x3⟩ := box2 w #[.int .i64 ai, .int .i64 c, .int .i64 sa, .int .i64 ah, .bool l] #[.int .i64 ti, .int .i64 c', .int .i64 ts, .int .i64 th, .bool l'] 29 29
  have d1 := bne_i hc
  have d2 : ¬ c = c' := hc
  clear hc
  go_enter Try.func19, Try.ntmps19
  go_upto_region 1 with fail
  generalize (World.alloc _ _) = W at x1 x2 x3 ⊢
  have a1 := x1.cell 1
  have t1 := x2.cell 1
  have HX := Lib.hid x3
  clear x1 x2 x3
  go_wp2_with fail
  go_ret
  exact ⟨rfl, HX.out⟩
theorem before_law (a t : Tm) (w : World) : Calls Try.prog 19 #[a.agg, t.agg] w fun e w' => e = .returned (.bool (bef a t)) ∧ Below w.heap.size w w' := by
  obtain ⟨ai, ac, sa, ah, al⟩ := a
  obtain ⟨ti, tc, ts, th, tl⟩ := t
  by_cases hc : ac = tc
  · subst hc
    by_cases hl : al = tl
    · subst hl
      rw [show bef ⟨ai, ac, sa, ah, al⟩ ⟨ti, ac, ts, th, al⟩ = decide (cl sa ≤ cl ts) by unfold bef; simp]
      exact before_same ai sa ah ti ts th ac al w
    · rw [show bef ⟨ai, ac, sa, ah, al⟩ ⟨ti, ac, ts, th, tl⟩ = !al by unfold bef; simp [hl]]
      exact before_side ai sa ah ti ts th ac al tl hl w
  · rw [show bef ⟨ai, ac, sa, ah, al⟩ ⟨ti, tc, ts, th, tl⟩ = decide (ac < tc) by unfold bef; simp [hc]]
    exact before_clock ai sa ah ti ts th ac tc al tl hc w
set_option maxHeartbeats 1000000 in
set_option maxRecDepth 100000 in
theorem due_walk (i s h : Int) (c : Nat) (l : Bool) (o : Nat → Int) (hc : c < 3) (w : World) : Calls Try.prog 10 #[.agg #[.int .i64 i, .int .i64 (c : Nat), .int .i64 s, .int .i64 h, .bool l], .agg (three o)] w fun e w' => e = .returned (.bool (decide (s < 4611686018427387903) && decide (cl s ≤ cl (o c)))) ∧ Below w.heap.size w w' := by
  obtain ⟨x1, x2, x3⟩ := box2 w #[.int .i64 i, .int .i64 (c : Nat), .int .i64 s, .int .i64 h, .bool l] (three o) 29 23
  have e9 := three_at o c hc
  have hc3 : ((c : Nat) : Int) < 3 := by omega
  have hc0 : (0 : Int) ≤ ((c : Nat) : Int) := by omega
  clear hc
  unfold three
  unfold three at x1 x2 x3
  by_cases hd : s < 4611686018427387903
  · have d := decide_eq_true hd
    rw [d]
    go_enter Try.func10, Try.ntmps10
    go_upto_region 1 with fail
    generalize (World.alloc _ _) = W at x1 x2 x3 ⊢
    have a1 := x1.cell 1
    have a2 := x1.cell 2
    have t1 := (x2.cell c).trans e9
    have HX := Lib.hid x3
    clear x1 x2 x3 e9
    go_quiet ((go_at_call 25; exact quiet_left (rclamp_any _ _)))
    go_wp2_with fail
    go_ret
    exact ⟨rfl, below_drewN HX.out _⟩
  · have d := decide_eq_false hd
    rw [d]
    clear hd
    go_enter Try.func10, Try.ntmps10
    go_upto_region 1 with fail
    generalize (World.alloc _ _) = W at x1 x2 x3 ⊢
    have a1 := x1.cell 1
    have a2 := x1.cell 2
    have HX := Lib.hid x3
    clear x1 x2 x3 e9
    go_quiet (fail)
    go_wp2_with fail
    go_ret
    exact ⟨rfl, below_drewN HX.out _⟩
theorem due_law (t : Tm) (o : Nat → Int) (hc : 0 ≤ t.clock ∧ t.clock < 3) (w : World) : Calls Try.prog 10 #[t.agg, .agg (three o)] w fun e w' => e = .returned (.bool (dq (o t.clock.toNat) t)) ∧ Below w.heap.size w w' := by
  obtain ⟨i, c, s, h, l⟩ := t
  obtain ⟨k, rfl⟩ : ∃ k : Nat, c = k := ⟨c.toNat, by have := hc.1; simp only at this; omega⟩
  have hk : k < 3 := by have := hc.2; simp only at this; omega
  have e : dq (o k) ⟨i, k, s, h, l⟩ = (decide (s < 4611686018427387903) && decide (cl s ≤ cl (o k))) := by
    unfold dq nev
    congr 1
    by_cases hs : s < 4611686018427387903
    · rw [decide_eq_true hs, decide_eq_false (by simp only; omega)]; rfl
    · rw [decide_eq_false hs, decide_eq_true (by simp only; omega)]; rfl
  rw [show ((⟨i, (k : Nat), s, h, l⟩ : Tm).clock).toNat = k from Int.toNat_natCast k, e]
  exact due_walk i s h k l o hk w
set_option maxHeartbeats 4000000 in
set_option maxRecDepth 100000 in
theorem putB_law (base : Nat) (v : Value) (l : List Tm) (a : Tm) (w : World) (hl : l.length ≤ 10000) (h : RSl w base v l) :
    Calls Try.prog 7 #[v, .agg #[.int .i64 a.id, .int .i64 a.clock, .int .i64 a.soft, .int .i64 a.hard, .bool a.lazy]] w fun e w' => ∃ v', e = .returned v' ∧ w'.ownsRow w.heap.size 29 5 v' (l.length + 1) (tmc (putB a l)) ∧ Below w.heap.size w w' := by
  have hx := Blk.new w 29 #[.int .i64 a.id, .int .i64 a.clock, .int .i64 a.soft, .int .i64 a.hard, .bool a.lazy]
  have hB : Below w.heap.size w (w.alloc (.cells #[.int .i64 a.id, .int .i64 a.clock, .int .i64 a.soft, .int .i64 a.hard, .bool a.lazy] 29)) := (Below.refl w.heap.size w).alloc (Nat.le_refl _) _
  have M := Lib.hid (show TMid w (w.alloc (.cells #[.int .i64 a.id, .int .i64 a.clock, .int .i64 a.soft, .int .i64 a.hard, .bool a.lazy] 29)) base v l w.heap.size a from ⟨hB, rsl_alloc h _, hx, fun q hq => (rsl_block h hq).2, Nat.le_refl _⟩)
  have HS := Lib.hid (show atB a l ≤ l.length from atB_le a l)
  clear hx hB
  obtain ⟨A, cap, rfl, hA⟩ := rsl_parts h
  have HA := Lib.hid hA
  have HIN := Lib.hid h
  clear hA h
  go_enter Try.func7, Try.ntmps7
  go_upto_region 1 with fail
  generalize w.alloc (.cells #[.int .i64 a.id, .int .i64 a.clock, .int .i64 a.soft, .int .i64 a.hard, .bool a.lazy] 29) = W at M ⊢
  obtain ⟨X, hX⟩ : ∃ X, w.heap.size = X := ⟨_, rfl⟩
  have HX := Lib.hid hX
  rw [hX] at M ⊢
  clear hX
  go_upto_block 0 with fail
  go_cut [5] (fun s5 wx => s5 = .int .i64 (atB a l : Nat) ∧ TMid w wx base (.slice A l.length cap) l X a)
  case first =>
    go_wp2_with fail
    go_loopg [5] l.length (fun m s5 wr => BTRel w base (.slice A l.length cap) l X a m s5 wr)
    case atStart => exact ⟨0, by omega, rfl, rfl, M.out⟩
    case round =>
      obtain ⟨k, hk, rfl, rfl, LM⟩ := hrel
      clear M
      have hkl := HS.out
      by_cases hlt : k < l.length
      · obtain ⟨b, hb⟩ : ∃ b, l[k]? = some b := ⟨l[k], List.getElem?_eq_getElem hlt⟩
        obtain ⟨q, o, rfl⟩ := HA.out k hlt
        have hiff := atB_step a l k b hk hb
        have PD := LM.drew
        obtain ⟨c0, c1, c2, c3, c4⟩ := rsl_tm PD.r hb
        have x0 : wr.drew.cell? ⟨X, 0, none⟩ = some (.int .i64 a.id) := PD.x.cell 0
        have x1 : wr.drew.cell? ⟨X, 1, none⟩ = some (.int .i64 a.clock) := PD.x.cell 1
        have x2 : wr.drew.cell? ⟨X, 2, none⟩ = some (.int .i64 a.soft) := PD.x.cell 2
        have x3 : wr.drew.cell? ⟨X, 3, none⟩ = some (.int .i64 a.hard) := PD.x.cell 3
        have x4 : wr.drew.cell? ⟨X, 4, none⟩ = some (.bool a.lazy) := PD.x.cell 4
        have C := fun (W : World) => before_law b a W
        obtain ⟨q1, hq1⟩ : ∃ q, bef b a = q := ⟨_, rfl⟩
        rw [hq1] at hiff
        simp only [hq1] at C
        unfold Tm.agg at C
        have HC := Lib.hid C
        have LM5 := Lib.hid PD
        have HI := Lib.hid hiff
        clear hiff hb PD LM C hq1
        go_upto_region 2 with fail
        first | (go_region_with (go_at_call 19; refine (HC.out _).mono ?_; rintro e W6 ⟨rfl, b6⟩)) | fail "no"
        all_goals
          have LM6 := Lib.hid (LM5.out.call b6)
          clear c0 c1 c2 c3 c4 x0 x1 x2 x3 x4 b6 LM5 HC
          cases q1 with
          | true =>
            have hlt2 := HI.out.1 rfl
            go_wp2_with fail
            go_roundg (l.length - (k + 1))
            case measure => omega
            case rel => exact ⟨k + 1, by omega, rfl, by go_num, LM6.out⟩
          | false =>
            have hke : k = atB a l := by
              rcases Nat.lt_or_ge k (atB a l) with e | e
              · have := HI.out.2 e; cases this
              · omega
            go_wp2_with fail
            go_meet
            exact ⟨by rw [hke], LM6.out⟩
      · have hke : k = atB a l := by omega
        have d : decide (((k : Nat) : Int) < ((l.length : Nat) : Int)) = false := decide_eq_false (by omega)
        have LH := Lib.hid LM
        clear LM
        have HKE := Lib.hid hke
        clear hke
        go_upto_region 2 with fail
        go_quiet (fail)
        go_wp2_with fail
        go_meet
        exact ⟨by rw [HKE.out], ⟨below_drewN LH.out.b _, rsl_drewN LH.out.r _, LH.out.x, LH.out.k, LH.out.hx⟩⟩
  case rest =>
    obtain ⟨rfl, LM⟩ := hcut
    obtain ⟨K, hK⟩ : ∃ K, atB a l = K := ⟨_, rfl⟩
    have hKl := HS.out
    rw [hK] at hKl
    have HK := Lib.hid hK
    rw [hK]
    clear hK
    have x0 : wc.cell? ⟨X, 0, none⟩ = some (.int .i64 a.id) := LM.x.cell 0
    have x1 : wc.cell? ⟨X, 1, none⟩ = some (.int .i64 a.clock) := LM.x.cell 1
    have x2 : wc.cell? ⟨X, 2, none⟩ = some (.int .i64 a.soft) := LM.x.cell 2
    have x3 : wc.cell? ⟨X, 3, none⟩ = some (.int .i64 a.hard) := LM.x.cell 3
    have x4 : wc.cell? ⟨X, 4, none⟩ = some (.bool a.lazy) := LM.x.cell 4
    have hcp := (rsl_cap LM.r).2
    have hKc : K ≤ cap := by omega
    have ST : Stands (fun W => TMid w W base (.slice A l.length cap) l X a) (X + 1) := HX.out ▸ TMid.stands w base (.slice A l.length cap) l a
    obtain ⟨i0, z0, hi0, hz0, hz1, hz2, hz3⟩ := infoTm'
    have F1 := S10.start (e := 29) ST LM
    have F2 := S11.start1 (e := 29) (xs := #[.int .i64 a.id, .int .i64 a.clock, .int .i64 a.soft, .int .i64 a.hard, .bool a.lazy]) ST LM
    have F3 := S11.start2 (e := 29) (xs := #[.int .i64 a.id, .int .i64 a.clock, .int .i64 a.soft, .int .i64 a.hard, .bool a.lazy]) ST LM
    have hXc : X < wc.heap.size := LM.x.lt
    go_upto_region 4 with fail
    go_region_law (first
      | (refine step_append_any _ (by rfl) _ _ _ (by rfl) (X + 1) 29 i0 z0 5 40 Try.underlying27 hi0 hz0 hz2 hz3 hz1 (by decide) (Value.slice (some ⟨wc.heap.size, 0, none⟩) 0 0) 0 [] (by rfl) (by with_reducible exact own_empty F1.z F1.l) (Value.slice A K cap) K ((tmc l).take (K * 5)) (by rfl) (by with_reducible exact rsl_to F1.r.r hKl) ((tmc_ones l).take _) (by unfold maxLen; omega) (by omega) (by have := F1.z.lt; have := F1.l; omega) ?_; intro v1 w1 ho1 hg1 hb1; have H20 := F1.next ST ho1 hg1; have y0 : w1.cell? ⟨X, 0, none⟩ = some (.int .i64 a.id) := H20.r.x.cell 0; have y1 : w1.cell? ⟨X, 1, none⟩ = some (.int .i64 a.clock) := H20.r.x.cell 1; have y2 : w1.cell? ⟨X, 2, none⟩ = some (.int .i64 a.soft) := H20.r.x.cell 2; have y3 : w1.cell? ⟨X, 3, none⟩ = some (.int .i64 a.hard) := H20.r.x.cell 3; have y4 : w1.cell? ⟨X, 4, none⟩ = some (.bool a.lazy) := H20.r.x.cell 4)
      | (refine step_append_any _ (by rfl) _ _ _ (by rfl) (X + 1) 29 i0 z0 5 40 Try.underlying27 hi0 hz0 hz2 hz3 hz1 (by decide) (Value.slice (some ⟨wc.heap.size, 0, none⟩) 0 0) 0 [] (by rfl) (by with_reducible exact own_empty F2.z F2.l) (Value.slice A K cap) K ((tmc l).take (K * 5)) (by rfl) (by with_reducible exact rsl_to F2.r.r hKl) ((tmc_ones l).take _) (by unfold maxLen; omega) (by omega) (by have := F2.z.lt; have := F2.l; omega) ?_; intro v1 w1 ho1 hg1 hb1; have H21 := F2.next ST ho1 hg1; have y0 : w1.cell? ⟨X, 0, none⟩ = some (.int .i64 a.id) := H21.r.x.cell 0; have y1 : w1.cell? ⟨X, 1, none⟩ = some (.int .i64 a.clock) := H21.r.x.cell 1; have y2 : w1.cell? ⟨X, 2, none⟩ = some (.int .i64 a.soft) := H21.r.x.cell 2; have y3 : w1.cell? ⟨X, 3, none⟩ = some (.int .i64 a.hard) := H21.r.x.cell 3; have y4 : w1.cell? ⟨X, 4, none⟩ = some (.bool a.lazy) := H21.r.x.cell 4)
      | (refine step_append_any _ (by rfl) _ _ _ (by rfl) (X + 1) 29 i0 z0 5 40 Try.underlying27 hi0 hz0 hz2 hz3 hz1 (by decide) (Value.slice (some ⟨wc.heap.size + 1, 0, none⟩) 0 0) 0 [] (by rfl) (by with_reducible exact own_empty F3.z F3.l) (Value.slice A K cap) K ((tmc l).take (K * 5)) (by rfl) (by with_reducible exact rsl_to F3.r.r hKl) ((tmc_ones l).take _) (by unfold maxLen; omega) (by omega) (by have := F3.z.lt; have := F3.l; omega) ?_; intro v1 w1 ho1 hg1 hb1; have H21 := F3.next ST ho1 hg1; have y0 : w1.cell? ⟨X, 0, none⟩ = some (.int .i64 a.id) := H21.r.x.cell 0; have y1 : w1.cell? ⟨X, 1, none⟩ = some (.int .i64 a.clock) := H21.r.x.cell 1; have y2 : w1.cell? ⟨X, 2, none⟩ = some (.int .i64 a.soft) := H21.r.x.cell 2; have y3 : w1.cell? ⟨X, 3, none⟩ = some (.int .i64 a.hard) := H21.r.x.cell 3; have y4 : w1.cell? ⟨X, 4, none⟩ = some (.bool a.lazy) := H21.r.x.cell 4)
      | (have H21x := H20.box (xs := #[.int .i64 a.id, .int .i64 a.clock, .int .i64 a.soft, .int .i64 a.hard, .bool a.lazy]) ST; refine step_append_any _ (by rfl) _ _ _ (by rfl) (X + 1) 29 i0 z0 5 40 Try.underlying27 hi0 hz0 hz2 hz3 hz1 (by decide) v1 (0 + K) ([] ++ (tmc l).take (K * 5)) (by rfl) (by with_reducible exact H21x.o) (Value.slice (some ⟨w1.heap.size, 0, none⟩) 1 1) 1 (Tm.list a) (by rfl) (by exact src_block H21x.x rfl 1) (tm_ones a) (by unfold maxLen; omega) (by omega) (by have := H21x.r.x.lt; have := H21x.x.lt; omega) ?_; intro v2 w2 ho2 hg2 hb2; have H30 := H21x.next ST ho2 hg2)
      | (refine step_append_any _ (by rfl) _ _ _ (by rfl) (X + 1) 29 i0 z0 5 40 Try.underlying27 hi0 hz0 hz2 hz3 hz1 (by decide) v1 (0 + K) ([] ++ (tmc l).take (K * 5)) (by rfl) (by with_reducible exact H21.o) (Value.slice (some ⟨wc.heap.size + 1, 0, none⟩) 1 1) 1 (Tm.list a) (by rfl) (by exact src_block H21.x rfl 1) (tm_ones a) (by unfold maxLen; omega) (by omega) (by have := H21.r.x.lt; have := H21.x.lt; omega) ?_; intro v2 w2 ho2 hg2 hb2; have H30 := H21.next ST ho2 hg2)
      | (refine step_append_any _ (by rfl) _ _ _ (by rfl) (X + 1) 29 i0 z0 5 40 Try.underlying27 hi0 hz0 hz2 hz3 hz1 (by decide) v1 (0 + K) ([] ++ (tmc l).take (K * 5)) (by rfl) (by with_reducible exact H21.o) (Value.slice (some ⟨wc.heap.size, 0, none⟩) 1 1) 1 (Tm.list a) (by rfl) (by exact src_block H21.x rfl 1) (tm_ones a) (by unfold maxLen; omega) (by omega) (by have := H21.r.x.lt; have := H21.x.lt; omega) ?_; intro v2 w2 ho2 hg2 hb2; have H30 := H21.next ST ho2 hg2)
      | (refine step_append_any _ (by rfl) _ _ _ (by rfl) (X + 1) 29 i0 z0 5 40 Try.underlying27 hi0 hz0 hz2 hz3 hz1 (by decide) v2 (0 + K + 1) ([] ++ (tmc l).take (K * 5) ++ Tm.list a) (by rfl) (by with_reducible exact H30.o) (Value.slice (if cap = K then A else Option.map (fun x => x.add (K * 5)) A) (l.length - K) (cap - K)) (l.length - K) ((tmc l).drop (K * 5)) (by rfl) (by with_reducible exact rsl_from H30.r.r hKl) ((tmc_ones l).drop _) (by unfold maxLen; omega) (by omega) (by have := H30.r.x.lt; omega) ?_; intro v3 w3 ho3 hg3 hb3; have H40 := H30.next ST ho3 hg3))
    all_goals
      have en : 0 + K + 1 + (l.length - K) = l.length + 1 := by omega
      have ey : [] ++ (tmc l).take (K * 5) ++ Tm.list a ++ (tmc l).drop (K * 5) = tmc (putB a l) := by
        rw [putB_at, HK.out, tmc_app, tmc_take, tmc_drop]
        simp [tmc]
      have ho := H40.o
      rw [en, ey] at ho
      have hor := Lib.hid (own_mono (base' := w.heap.size) ho (by rw [HX.out]; exact Nat.le_succ X))
      have hbr := Lib.hid H40.r.b
      clear F1 F2 F3 ST H40 H30 ho ho1 ho2 ho3 hg1 hg2 hg3 hb1 hb2 hb3 en ey
      go_wp2_with fail
      all_goals
        go_ret
        exact ⟨_, rfl, hor.out, hbr.out⟩
end Go.Proofs.Ytcoibhmgblicfaa.Ba
/- A slice literal of one timer, as one step of a list. No condition. -/
set_option linter.unusedVariables false
set_option linter.unusedSimpArgs false
namespace Go.Proofs.Ytcoibhmgblicfaa.Q
open Go.RowKit Go.Proofs.Ytcoibhmgblicfaa.Aid Go.Proofs.Ytcoibhmgblicfaa.Tr Go.Proofs.Ytcoibhmgblicfaa.Kt
theorem infoTz : (Try.prog.info? 29).map (fun i => (i.zero.map (·.cells), i.size)) = some (some #[.int .i64 0, .int .i64 0, .int .i64 0, .int .i64 0, .bool false], 5) := by kernel_rfl
theorem wpList_tm {ops : Array Oper} {rest : List Oper} {o : Oper} {a : Act} {w : World} {Q : Exit → Act → World → Prop} (hg : o.guard = none) (x : Operand) (ho : o.op = .buildSlice 27 1 #[(0, x)]) (c : Tm) (hx : a.eval x = c.agg)
    (h : wpList Try.prog ops Q rest (a.put o.dst (.slice (some ⟨w.heap.size, 0, none⟩) 1 1)) (w.alloc (.cells #[.int .i64 c.id, .int .i64 c.clock, .int .i64 c.soft, .int .i64 c.hard, .bool c.lazy] 29))) : wpList Try.prog ops Q (o :: rest) a w := by
  have hinf := infoTz
  cases hie : Try.prog.info? 29 with
  | none => rw [hie] at hinf; cases hinf
  | some ie =>
    rw [hie] at hinf
    simp only [Option.map_some, Option.some.injEq, Prod.mk.injEq, Option.map_eq_some_iff] at hinf
    obtain ⟨⟨z, hz, hzc⟩, hs⟩ := hinf
    refine wpList_buildSlice hg 27 29 1 #[(0, x)] ho _ ie z Try.underlying27 hie hz (by rw [hs]; decide) (by rw [hs]; decide) ?_ h
    rw [hs, hzc]
    rw [show (Array.map (fun x => match x with | (i, x) => (i, a.eval x)) (#[(0, x)] : Array (Nat × Operand))).toList = [(0, a.eval x)] by simp, hx]
    unfold Tm.agg
    first | kernel_rfl | simp [Instr.fill, go_sem] | (trace_state; simp [Instr.fill])
end Go.Proofs.Ytcoibhmgblicfaa.Q
