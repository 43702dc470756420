/- Lemmas and contracts for RowQueuePlays, merged by program out of Qq. No condition. -/
import Derived.Test.YtfoigflgglpobaaBQ11
import Derived.Deep.RegionLaw
import Derived.StillTailTactics
set_option linter.unusedVariables false
set_option linter.unusedSimpArgs false
/- The law's put: a timer behind all whose time isn't later; its walk. -/
set_option linter.unusedVariables false
set_option linter.unusedSimpArgs false
namespace Go.Proofs.Ytfoigflgglpobaa.Q
open Go.RowKit Go.Proofs.Ytfoigflgglpobaa.Aid Go.Proofs.Ytfoigflgglpobaa.Tr Go.Proofs.Ytfoigflgglpobaa.Kt
theorem infoTm' : ∃ i z, Try.prog.info? 65 = some i ∧ i.zero = some z ∧ z.cells.size = 5 ∧ i.size = 5 ∧ i.bytes = 40 := by
  have h := infoTm
  cases e : Try.prog.info? 65 with
  | none => rw [e] at h; cases h
  | some i =>
    rw [e] at h
    simp only [Option.map_some, Option.some.injEq, Prod.mk.injEq] at h
    obtain ⟨h1, h2, h3⟩ := h
    cases ez : i.zero with
    | none => rw [ez] at h1; simp at h1
    | some z =>
      rw [ez] at h1
      simp only [Option.map_some, Option.some.injEq] at h1
      exact ⟨i, z, rfl, ez, h1, h2, h3⟩
set_option maxHeartbeats 400000 in
set_option maxRecDepth 100000 in
theorem putT_law (base : Nat) (v : Value) (l : List Tm) (a : Tm) (w : World) (hl : l.length ≤ 10000) (h : RSl w base v l) :
    Calls Try.prog 29 #[v, .agg #[.int .i64 a.id, .int .i64 a.clock, .int .i64 a.soft, .int .i64 a.hard, .bool a.lazy]] w fun e w' => ∃ v', e = .returned v' ∧ w'.ownsRow w.heap.size 65 5 v' (l.length + 1) (tmc (insT a l)) ∧ Below w.heap.size w w' := by
  have hx := Blk.new w 65 #[.int .i64 a.id, .int .i64 a.clock, .int .i64 a.soft, .int .i64 a.hard, .bool a.lazy]
  have hB : Below w.heap.size w (w.alloc (.cells #[.int .i64 a.id, .int .i64 a.clock, .int .i64 a.soft, .int .i64 a.hard, .bool a.lazy] 65)) := (Below.refl w.heap.size w).alloc (Nat.le_refl _) _
  have M := Lib.hid (show TMid w (w.alloc (.cells #[.int .i64 a.id, .int .i64 a.clock, .int .i64 a.soft, .int .i64 a.hard, .bool a.lazy] 65)) base v l w.heap.size a from ⟨hB, rsl_alloc h _, hx, fun q hq => (rsl_block h hq).2, Nat.le_refl _⟩)
  have HS := Lib.hid (show atT a l ≤ l.length from atT_le a l)
  clear hx hB
  obtain ⟨A, cap, rfl, hA⟩ := rsl_parts h
  have HA := Lib.hid hA
  have HIN := Lib.hid h
  clear hA h
  go_enter Try.func29, Try.ntmps29
  go_upto_region 1 with fail
  generalize w.alloc (.cells #[.int .i64 a.id, .int .i64 a.clock, .int .i64 a.soft, .int .i64 a.hard, .bool a.lazy] 65) = W at M ⊢
  obtain ⟨X, hX⟩ : ∃ X, w.heap.size = X := ⟨_, rfl⟩
  have HX := Lib.hid hX
  rw [hX] at M ⊢
  clear hX
  go_upto_block 0 with fail
  go_cut [5] (fun s5 wx => s5 = .int .i64 (atT a l : Nat) ∧ TMid w wx base (.slice A l.length cap) l X a)
  case first =>
    go_wp2_with fail
    go_loopg [5] l.length (fun m s5 wr => TRel w base (.slice A l.length cap) l X a m s5 wr)
    case atStart => exact ⟨0, by omega, rfl, rfl, M.out⟩
    case round =>
      obtain ⟨k, hk, rfl, rfl, LM⟩ := hrel
      clear M
      have hkl := HS.out
      by_cases hlt : k < l.length
      · obtain ⟨b, hb⟩ : ∃ b, l[k]? = some b := ⟨l[k], List.getElem?_eq_getElem hlt⟩
        obtain ⟨q, o, rfl⟩ := HA.out k hlt
        have hiff := atT_lt hk hb
        have PD := LM.drew
        have PD := LM.drew
        have c2 : wr.drew.cell? ⟨q, o + k * 5 + 2, none⟩ = some (.int .i64 b.soft) := (rsl_tm LM.r hb).2.2.1
        have x2 : wr.drew.cell? ⟨X, 2, none⟩ = some (.int .i64 a.soft) := LM.x.cell 2
        have LM5 := Lib.hid PD
        have HI := Lib.hid hiff
        clear hiff hb PD LM
        by_cases hle : cl b.soft ≤ cl a.soft
        · have hne : k + 1 ≤ atT a l := by
            have h1 := HI.out
            have h2 : ¬ k = atT a l := fun e => by have := h1.2 e; omega
            omega
          have HNE := Lib.hid hne
          clear hne
          go_upto_region 2 with fail
          refine wp_region_still_tail 13 (by kernel_rfl) (by kernel_rfl) ?_
          change wpStill _ _ wr.drew (fun a' => wpList _ _ _ _ a' wr.drew) _ _
          generalize wr.drew = V at c2 x2 LM5 ⊢
          simp only [List.take_succ_cons, List.take_zero, List.drop_succ_cons, List.drop_zero]
          still_step
          still_step
          still_step
          still_step
          still_step
          still_step
          still_step
          still_step
          still_step
          still_step
          still_call ((rclamp_any _ _).mono fun e w' h => ⟨h.1, h.2.symm⟩)
          still_step
          still_step
          refine wpStill_nil ?_
          clear c2 x2
          go_wp2_with fail
          refine (rclamp_any _ _).mono ?_
          rintro e wz ⟨rfl, rfl⟩
          all_goals
            go_wp2_with fail
            go_roundg (l.length - (k + 1))
            case measure => omega
            case rel => exact ⟨k + 1, HNE.out, rfl, by go_num, LM5.out⟩
        · have hke : k = atT a l := HI.out.1 (by omega)
          have HKE := Lib.hid hke
          clear hke
          go_upto_region 2 with fail
          refine wp_region_still_tail 13 (by kernel_rfl) (by kernel_rfl) ?_
          change wpStill _ _ wr.drew (fun a' => wpList _ _ _ _ a' wr.drew) _ _
          generalize wr.drew = V at c2 x2 LM5 ⊢
          simp only [List.take_succ_cons, List.take_zero, List.drop_succ_cons, List.drop_zero]
          still_step
          still_step
          still_step
          still_step
          still_step
          still_step
          still_step
          still_step
          still_step
          still_step
          still_call ((rclamp_any _ _).mono fun e w' h => ⟨h.1, h.2.symm⟩)
          still_step
          still_step
          refine wpStill_nil ?_
          clear c2 x2
          go_wp2_with fail
          refine (rclamp_any _ _).mono ?_
          rintro e wz ⟨rfl, rfl⟩
          all_goals
            go_wp2_with fail
            go_meet
            exact ⟨by rw [HKE.out], LM5.out⟩
      · have hke : k = atT a l := by omega
        have d : decide (((k : Nat) : Int) < ((l.length : Nat) : Int)) = false := decide_eq_false (by omega)
        have LH := Lib.hid LM
        clear LM
        have HKE := Lib.hid hke
        clear hke
        go_upto_region 2 with fail
        go_quiet (fail)
        go_wp2_with fail
        go_meet
        exact ⟨by rw [HKE.out], ⟨below_drewN LH.out.b _, rsl_drewN LH.out.r _, LH.out.x, LH.out.k, LH.out.hx⟩⟩
  case rest =>
    obtain ⟨rfl, LM⟩ := hcut
    obtain ⟨K, hK⟩ : ∃ K, atT a l = K := ⟨_, rfl⟩
    have hKl := HS.out
    rw [hK] at hKl
    have HK := Lib.hid hK
    rw [hK]
    clear hK
    have x0 : wc.cell? ⟨X, 0, none⟩ = some (.int .i64 a.id) := LM.x.cell 0
    have x1 : wc.cell? ⟨X, 1, none⟩ = some (.int .i64 a.clock) := LM.x.cell 1
    have x2 : wc.cell? ⟨X, 2, none⟩ = some (.int .i64 a.soft) := LM.x.cell 2
    have x3 : wc.cell? ⟨X, 3, none⟩ = some (.int .i64 a.hard) := LM.x.cell 3
    have x4 : wc.cell? ⟨X, 4, none⟩ = some (.bool a.lazy) := LM.x.cell 4
    have hcp := (rsl_cap LM.r).2
    have hKc : K ≤ cap := by omega
    have ST : Stands (fun W => TMid w W base (.slice A l.length cap) l X a) (X + 1) := HX.out ▸ TMid.stands w base (.slice A l.length cap) l a
    obtain ⟨i0, z0, hi0, hz0, hz1, hz2, hz3⟩ := infoTm'
    have F1 := S10.start (e := 65) ST LM
    have F2 := S11.start1 (e := 65) (xs := #[.int .i64 a.id, .int .i64 a.clock, .int .i64 a.soft, .int .i64 a.hard, .bool a.lazy]) ST LM
    have F3 := S11.start2 (e := 65) (xs := #[.int .i64 a.id, .int .i64 a.clock, .int .i64 a.soft, .int .i64 a.hard, .bool a.lazy]) ST LM
    have hXc : X < wc.heap.size := LM.x.lt
    go_upto_region 4 with fail
    go_region_law (first
      | (refine step_append_any _ (by rfl) _ _ _ (by rfl) (X + 1) 65 i0 z0 5 40 Try.underlying63 hi0 hz0 hz2 hz3 hz1 (by decide) (Value.slice (some ⟨wc.heap.size, 0, none⟩) 0 0) 0 [] (by rfl) (by with_reducible exact own_empty F1.z F1.l) (Value.slice A K cap) K ((tmc l).take (K * 5)) (by rfl) (by with_reducible exact rsl_to F1.r.r hKl) ((tmc_ones l).take _) (by unfold maxLen; omega) (by omega) (by have := F1.z.lt; have := F1.l; omega) ?_; intro v1 w1 ho1 hg1 hb1; have H20 := F1.next ST ho1 hg1; have y0 : w1.cell? ⟨X, 0, none⟩ = some (.int .i64 a.id) := H20.r.x.cell 0; have y1 : w1.cell? ⟨X, 1, none⟩ = some (.int .i64 a.clock) := H20.r.x.cell 1; have y2 : w1.cell? ⟨X, 2, none⟩ = some (.int .i64 a.soft) := H20.r.x.cell 2; have y3 : w1.cell? ⟨X, 3, none⟩ = some (.int .i64 a.hard) := H20.r.x.cell 3; have y4 : w1.cell? ⟨X, 4, none⟩ = some (.bool a.lazy) := H20.r.x.cell 4)
      | (refine step_append_any _ (by rfl) _ _ _ (by rfl) (X + 1) 65 i0 z0 5 40 Try.underlying63 hi0 hz0 hz2 hz3 hz1 (by decide) (Value.slice (some ⟨wc.heap.size, 0, none⟩) 0 0) 0 [] (by rfl) (by with_reducible exact own_empty F2.z F2.l) (Value.slice A K cap) K ((tmc l).take (K * 5)) (by rfl) (by with_reducible exact rsl_to F2.r.r hKl) ((tmc_ones l).take _) (by unfold maxLen; omega) (by omega) (by have := F2.z.lt; have := F2.l; omega) ?_; intro v1 w1 ho1 hg1 hb1; have H21 := F2.next ST ho1 hg1; have y0 : w1.cell? ⟨X, 0, none⟩ = some (.int .i64 a.id) := H21.r.x.cell 0; have y1 : w1.cell? ⟨X, 1, none⟩ = some (.int .i64 a.clock) := H21.r.x.cell 1; have y2 : w1.cell? ⟨X, 2, none⟩ = some (.int .i64 a.soft) := H21.r.x.cell 2; have y3 : w1.cell? ⟨X, 3, none⟩ = some (.int .i64 a.hard) := H21.r.x.cell 3; have y4 : w1.cell? ⟨X, 4, none⟩ = some (.bool a.lazy) := H21.r.x.cell 4)
      | (refine step_append_any _ (by rfl) _ _ _ (by rfl) (X + 1) 65 i0 z0 5 40 Try.underlying63 hi0 hz0 hz2 hz3 hz1 (by decide) (Value.slice (some ⟨wc.heap.size + 1, 0, none⟩) 0 0) 0 [] (by rfl) (by with_reducible exact own_empty F3.z F3.l) (Value.slice A K cap) K ((tmc l).take (K * 5)) (by rfl) (by with_reducible exact rsl_to F3.r.r hKl) ((tmc_ones l).take _) (by unfold maxLen; omega) (by omega) (by have := F3.z.lt; have := F3.l; omega) ?_; intro v1 w1 ho1 hg1 hb1; have H21 := F3.next ST ho1 hg1; have y0 : w1.cell? ⟨X, 0, none⟩ = some (.int .i64 a.id) := H21.r.x.cell 0; have y1 : w1.cell? ⟨X, 1, none⟩ = some (.int .i64 a.clock) := H21.r.x.cell 1; have y2 : w1.cell? ⟨X, 2, none⟩ = some (.int .i64 a.soft) := H21.r.x.cell 2; have y3 : w1.cell? ⟨X, 3, none⟩ = some (.int .i64 a.hard) := H21.r.x.cell 3; have y4 : w1.cell? ⟨X, 4, none⟩ = some (.bool a.lazy) := H21.r.x.cell 4)
      | (have H21x := H20.box (xs := #[.int .i64 a.id, .int .i64 a.clock, .int .i64 a.soft, .int .i64 a.hard, .bool a.lazy]) ST; refine step_append_any _ (by rfl) _ _ _ (by rfl) (X + 1) 65 i0 z0 5 40 Try.underlying63 hi0 hz0 hz2 hz3 hz1 (by decide) v1 (0 + K) ([] ++ (tmc l).take (K * 5)) (by rfl) (by with_reducible exact H21x.o) (Value.slice (some ⟨w1.heap.size, 0, none⟩) 1 1) 1 (Tm.list a) (by rfl) (by exact src_block H21x.x rfl 1) (tm_ones a) (by unfold maxLen; omega) (by omega) (by have := H21x.r.x.lt; have := H21x.x.lt; omega) ?_; intro v2 w2 ho2 hg2 hb2; have H30 := H21x.next ST ho2 hg2)
      | (refine step_append_any _ (by rfl) _ _ _ (by rfl) (X + 1) 65 i0 z0 5 40 Try.underlying63 hi0 hz0 hz2 hz3 hz1 (by decide) v1 (0 + K) ([] ++ (tmc l).take (K * 5)) (by rfl) (by with_reducible exact H21.o) (Value.slice (some ⟨wc.heap.size + 1, 0, none⟩) 1 1) 1 (Tm.list a) (by rfl) (by exact src_block H21.x rfl 1) (tm_ones a) (by unfold maxLen; omega) (by omega) (by have := H21.r.x.lt; have := H21.x.lt; omega) ?_; intro v2 w2 ho2 hg2 hb2; have H30 := H21.next ST ho2 hg2)
      | (refine step_append_any _ (by rfl) _ _ _ (by rfl) (X + 1) 65 i0 z0 5 40 Try.underlying63 hi0 hz0 hz2 hz3 hz1 (by decide) v1 (0 + K) ([] ++ (tmc l).take (K * 5)) (by rfl) (by with_reducible exact H21.o) (Value.slice (some ⟨wc.heap.size, 0, none⟩) 1 1) 1 (Tm.list a) (by rfl) (by exact src_block H21.x rfl 1) (tm_ones a) (by unfold maxLen; omega) (by omega) (by have := H21.r.x.lt; have := H21.x.lt; omega) ?_; intro v2 w2 ho2 hg2 hb2; have H30 := H21.next ST ho2 hg2)
      | (refine step_append_any _ (by rfl) _ _ _ (by rfl) (X + 1) 65 i0 z0 5 40 Try.underlying63 hi0 hz0 hz2 hz3 hz1 (by decide) v2 (0 + K + 1) ([] ++ (tmc l).take (K * 5) ++ Tm.list a) (by rfl) (by with_reducible exact H30.o) (Value.slice (if cap = K then A else Option.map (fun x => x.add (K * 5)) A) (l.length - K) (cap - K)) (l.length - K) ((tmc l).drop (K * 5)) (by rfl) (by with_reducible exact rsl_from H30.r.r hKl) ((tmc_ones l).drop _) (by unfold maxLen; omega) (by omega) (by have := H30.r.x.lt; omega) ?_; intro v3 w3 ho3 hg3 hb3; have H40 := H30.next ST ho3 hg3))
    all_goals
      have en : 0 + K + 1 + (l.length - K) = l.length + 1 := by omega
      have ey : [] ++ (tmc l).take (K * 5) ++ Tm.list a ++ (tmc l).drop (K * 5) = tmc (insT a l) := by
        unfold insT
        rw [HK.out, tmc_app, tmc_take, tmc_drop]
        simp [tmc]
      have ho := H40.o
      rw [en, ey] at ho
      have hor := Lib.hid (own_mono (base' := w.heap.size) ho (by rw [HX.out]; exact Nat.le_succ X))
      have hbr := Lib.hid H40.r.b
      clear F1 F2 F3 ST H40 H30 ho ho1 ho2 ho3 hg1 hg2 hg3 hb1 hb2 hb3 en ey
      go_wp2_with fail
      all_goals
        go_ret
        exact ⟨_, rfl, hor.out, hbr.out⟩
end Go.Proofs.Ytfoigflgglpobaa.Q
