/- The walk of the statement ClockPlays: for any acts, any clock and time it returns true. No condition. -/
import Derived.Test.YtdplpehphjgffaaCkf
set_option linter.unusedVariables false
set_option linter.unusedSimpArgs false
namespace Go.Proofs.Ytdplpehphjgffaa.Ck
open Go.RowKit Go.Proofs.Ytdplpehphjgffaa.Aid Go.Proofs.Ytdplpehphjgffaa.Kt
def PRel (n G Gp : Nat) (w : World) (m : Nat) (i : Value) (wr : World) : Prop :=
  ∃ (k : Nat) (c : Ck), k ≤ n ∧ m = n - k ∧ i = .int .i64 k ∧ c.ok ∧ c.gen ≤ k ∧ IsCk wr G c ∧ IsPl wr Gp c ∧ Below w.heap.size w wr
def IRel (d : Ck) (G Gp S : Nat) (w : World) (m : Nat) (i : Value) (wr : World) : Prop :=
  ∃ j : Nat, j ≤ 3 ∧ m = 3 - j ∧ i = .int .i64 j ∧ IsCk wr G d ∧ IsPl wr Gp d ∧ Blk wr S 3 #[.int .i64 d.mono, .int .i64 (d.mono + d.o1), .int .i64 (d.mono + d.o2)] ∧ Below w.heap.size w wr
set_option maxHeartbeats 8000000 in
set_option maxRecDepth 100000 in
theorem cplays_some (A : Option Addr) (n cap : Nat) (which t : Int) (w : World) (hn : n ≤ 100) (hd : Deeds w A n) :
    Calls Try.prog 6 #[.slice A n cap, .int .i64 which, .int .i64 t] w fun e w' => e = .returned (.bool true) ∧ Below w.heap.size w w' := by
  have HD := Lib.hid hd
  clear hd
  go_enter Try.func6, Try.ntmps6
  go_wp2_with fail
  refine (fixed_any _).mono ?_
  rintro e w0 ⟨rfl, b0⟩
  go_wp2_with fail
  refine (new_any _).mono ?_
  rintro e w1 ⟨rfl, h1, b1, z1⟩
  have B1 : Below w.heap.size w w1 := b0.trans (b1.mono b0.size)
  have HZ : Hid (w.heap.size ≤ w0.heap.size ∧ w.heap.size ≤ w1.heap.size ∧ w0.heap.size ≠ w1.heap.size) := Lib.hid ⟨b0.size, Nat.le_trans b0.size b1.size, by omega⟩
  have hp0 := Blk.new w1 48 (Ck.plain ⟨0, 0, 0, 0, 0, false, 0, 0⟩)
  have hc0 := Blk.alloc h1 (.cells (Ck.plain ⟨0, 0, 0, 0, 0, false, 0, 0⟩) 48)
  have B2 := B1.alloc B1.size (.cells (Ck.plain ⟨0, 0, 0, 0, 0, false, 0, 0⟩) 48)
  generalize w0.heap.size = G at h1 hc0 HZ ⊢
  clear b0 b1 z1 B1 h1
  go_upto_region 7 with fail
  change Code.wp _ _ _ _ (w1.alloc (.cells (Ck.plain ⟨0, 0, 0, 0, 0, false, 0, 0⟩) 48))
  generalize w1.alloc (.cells (Ck.plain ⟨0, 0, 0, 0, 0, false, 0, 0⟩) 48) = w2 at hp0 hc0 B2 ⊢
  generalize w1.heap.size = Gp at hp0 HZ ⊢
  go_wp2_with fail
  go_loopg [31] n (fun m i wr => PRel n G Gp w m i wr)
  case atStart => exact ⟨0, ⟨0, 0, 0, 0, 0, false, 0, 0⟩, Nat.zero_le _, rfl, rfl, ok_new, by simp, hc0, hp0, B2⟩
  case round =>
    obtain ⟨k, c, hk, hm, rfl, ok, hg, hc, hpl, hb⟩ := hrel
    have HM := Lib.hid hm
    have HO := Lib.hid ok
    clear hm ok
    by_cases hlt : k < n
    · obtain ⟨x, rfl, a, hak, han, hat⟩ := HD.out k hlt
      obtain ⟨q0, q1⟩ := hat _ hb
      clear hat
      go_upto_region 10 with fail
      have hba := Blk.new wr 50 #[.int .u8 a.kind, .int .i64 a.n]
      have hda : IsCk (wr.alloc (.cells #[.int .u8 a.kind, .int .i64 a.n] 50)) G c := Blk.alloc hc _
      have hpa : IsPl (wr.alloc (.cells #[.int .u8 a.kind, .int .i64 a.n] 50)) Gp c := Blk.alloc hpl _
      have hbb : Below w.heap.size w (wr.alloc (.cells #[.int .u8 a.kind, .int .i64 a.n] 50)) := hb.alloc hb.size _
      have hGA : G ≠ wr.heap.size ∧ Gp ≠ wr.heap.size := by have := Blk.lt hc; have := Blk.lt hpl; omega
      clear q0 q1 hc hb hpl
      generalize wr.alloc (.cells #[.int .u8 a.kind, .int .i64 a.n] 50) = wa at hba hda hpa hbb ⊢
      generalize wr.heap.size = L at hba hGA ⊢
      have HGA := Lib.hid hGA
      clear hGA
      have q0 : wa.cell? ⟨L, 0, none⟩ = some (.int .u8 a.kind) := hba.cell 0
      have q1 : wa.cell? ⟨L, 1, none⟩ = some (.int .i64 a.n) := hba.cell 1
      go_upto_block 2 with fail
      have h5 : a.kind % 5 = 0 ∨ a.kind % 5 = 1 ∨ a.kind % 5 = 2 ∨ a.kind % 5 = 3 ∨ a.kind % 5 = 4 := by omega
      generalize hq : a.kind % 5 = q at h5 ⊢
      have HQ := Lib.hid hq
      have H5 := Lib.hid h5
      clear hq h5
      go_cut [11] (fun s11 wx => s11 = .int .i64 (c.err q a.n) ∧ IsCk wx G (c.act q a.n) ∧ IsPl wx Gp c ∧ Blk wx L 50 #[.int .u8 a.kind, .int .i64 a.n] ∧ Below w.heap.size w wx)
      case first =>
        have fin : ∀ w3 : World, wa.grownBy w3 (some G) → IsPl w3 Gp c ∧ Blk w3 L 50 #[.int .u8 a.kind, .int .i64 a.n] ∧ Below w.heap.size w w3 := fun w3 g3 => ⟨Blk.grown hpa g3 (by intro he; injection he with he; exact HZ.out.2.2 he.symm), hba.grown g3 (by intro he; injection he with he; exact HGA.out.1 he.symm), below_grown hbb g3 HZ.out.1⟩
        have FIN := Lib.hid fin
        clear fin
        rcases H5.out with rfl | rfl | rfl | rfl | rfl
        all_goals
          go_wp2_with (first
            | (go_at_call 27; refine (do_advance G c _ hda HO.out a.n).mono ?_; rintro e w3 ⟨rfl, h3, g3⟩)
            | (go_at_call 28; refine (do_set G c _ hda HO.out a.n).mono ?_; rintro e w3 ⟨rfl, h3, g3⟩)
            | (go_at_call 29; refine (do_adjust G c _ hda HO.out a.n).mono ?_; rintro e w3 ⟨rfl, h3, g3⟩)
            | (go_at_call 30; refine (do_suspend G c _ hda HO.out a.n).mono ?_; rintro e w3 ⟨rfl, h3, g3⟩)
            | (go_at_call 31; refine (do_resume G c _ hda HO.out a.n).mono ?_; rintro e w3 ⟨rfl, h3, g3⟩))
          go_meet
          exact ⟨rfl, h3, FIN.out _ g3⟩
      case rest =>
        obtain ⟨rfl, h3, hp3, hba3, b3⟩ := hcut
        clear hda hpa hbb hba q0 q1
        have q0 : wc.cell? ⟨L, 0, none⟩ = some (.int .u8 a.kind) := hba3.cell 0
        have q1 : wc.cell? ⟨L, 1, none⟩ = some (.int .i64 a.n) := hba3.cell 1
        go_wp2_with fail
        refine (plain_do Gp c _ hp3 HO.out a.kind a.n hak han q HQ.out).mono ?_
        rintro e w4 ⟨rfl, hp4, g4⟩
        have h4 := Blk.grown h3 g4 (by intro he; injection he with he; exact HZ.out.2.2 he)
        have b4 := below_grown b3 g4 HZ.out.2.1
        have hgo := (Ck.act_goes HO.out q a.n).1
        have hok := Ck.act_ok HO.out (by omega) q a.n
        clear h3 hp3 hba3 b3 q0 q1 g4
        generalize c.err q a.n = er
        generalize c.act q a.n = d at h4 hp4 hgo hok
        go_upto_region 24 with fail
        have HOD := Lib.hid hok
        have hr := hok.r
        have ds := hok.s
        have dm := hok.m
        have dn := hok.n
        have do1 : 0 ≤ d.mono + d.o1 ∧ d.mono + d.o1 ≤ 2305843009213693952 := by have h2 := hr.2; split at h2 <;> omega
        have do2 : 0 ≤ d.o2 ∧ d.mono + d.o2 ≤ 1152921504606846976 := by have := hok.b; have h2 := this.2; split at h2 <;> omega
        clear hok hr
        have q1 := p1 hp4
        have q2 := p2 hp4
        have q3 := p3 hp4
        go_cut [81, 82, 83] (fun s81 s82 s83 wx => ∃ S, s81 = .slice (some ⟨S, 0, none⟩) 3 3 ∧ s82 = .int .i64 3 ∧ s83 = .int .i64 0 ∧ IsCk wx G d ∧ IsPl wx Gp d ∧ Blk wx S 3 #[.int .i64 d.mono, .int .i64 (d.mono + d.o1), .int .i64 (d.mono + d.o2)] ∧ Below w.heap.size w wx)
        case first =>
          go_region
          all_goals
            go_wp2_with fail
            go_meet
            exact ⟨_, rfl, rfl, rfl, (Blk.alloc h4 _).drew, (Blk.alloc hp4 _).drew, (Blk.new _ _ _).drew, (b4.alloc b4.size _).drew⟩
        case rest =>
          obtain ⟨S, rfl, rfl, rfl, h5, hp5, hS5, b5⟩ := hcut
          clear h4 hp4 b4 q1 q2 q3
          obtain ⟨wo, hwo⟩ : ∃ wo : World, wo = wr := ⟨_, rfl⟩
          clear hwo
          go_wp2_with fail
          go_loopg [83] 3 (fun m i wr => IRel d G Gp S w m i wr)
          case atStart => exact ⟨0, by omega, rfl, rfl, h5, hp5, hS5, b5⟩
          case round =>
            obtain ⟨j, hj, hm2, rfl, h6, hp6, hS6, b6⟩ := hrel
            have HM2 := Lib.hid hm2
            clear hm2
            by_cases hj3 : j < 3
            · have hj012 : j = 0 ∨ j = 1 ∨ j = 2 := by omega
              have eo0 : d.off 0 = 0 := HOD.out.z
              have eo1 : d.off 1 = d.o1 := rfl
              have eo2 : d.off 2 = d.o2 := rfl
              have q1 := p1 hp6
              have r0 : wr.cell? ⟨S, 0, none⟩ = some (.int .i64 d.mono) := hS6.cell 0
              have r1 : wr.cell? ⟨S, 1, none⟩ = some (.int .i64 (d.mono + d.o1)) := hS6.cell 1
              have r2 : wr.cell? ⟨S, 2, none⟩ = some (.int .i64 (d.mono + d.o2)) := hS6.cell 2
              have k1 : (d.o1 != d.mono + d.o1 - d.mono) = false := by simp; omega
              have k2 : (d.o2 != d.mono + d.o2 - d.mono) = false := by simp; omega
              have hnext : ∀ m, IRel d G Gp S w (3 - j - 1) (.int .i64 (↑(j + 1) : Int)) (wr.drewN m) := fun m => ⟨j + 1, by omega, by omega, rfl, Blk.drewN h6 m, Blk.drewN hp6 m, hS6.drewN m, below_drewN b6 m⟩
              have HN := Lib.hid hnext
              clear hnext
              rcases hj012 with rfl | rfl | rfl
              · go_wp2_with fail
                refine (now_some G d 0 _ h6 HOD.out (by omega)).mono ?_
                rintro e w7 ⟨rfl, n7, rfl⟩
                go_wp2_with fail
                refine (offset_some G d _ (Blk.drewN h6 _) 0 (by omega)).mono ?_
                rintro e w8 ⟨rfl, n8, rfl⟩
                go_wp2_with fail
                go_roundg (3 - 0 - 1)
                case measure => have := HM2.out; omega
                case rel => exact HN.out _
              · go_wp2_with fail
                refine (now_some G d 1 _ h6 HOD.out (by omega)).mono ?_
                rintro e w7 ⟨rfl, n7, rfl⟩
                go_wp2_with fail
                refine (offset_some G d _ (Blk.drewN h6 _) 1 (by omega)).mono ?_
                rintro e w8 ⟨rfl, n8, rfl⟩
                go_wp2_with fail
                go_roundg (3 - 1 - 1)
                case measure => have := HM2.out; omega
                case rel => exact HN.out _
              · go_wp2_with fail
                refine (now_some G d 2 _ h6 HOD.out (by omega)).mono ?_
                rintro e w7 ⟨rfl, n7, rfl⟩
                go_wp2_with fail
                refine (offset_some G d _ (Blk.drewN h6 _) 2 (by omega)).mono ?_
                rintro e w8 ⟨rfl, n8, rfl⟩
                go_wp2_with fail
                go_roundg (3 - 2 - 1)
                case measure => have := HM2.out; omega
                case rel => exact HN.out _
            · have := HM2.out
              obtain rfl : j = 3 := by omega
              have q0 := p0 hp6
              have q5 := p5 hp6
              have q6 := p6 hp6
              have hend : ∀ m, PRel n G Gp w (n - k - 1) (.int .i64 (↑(k + 1) : Int)) (wr.drewN m) := fun m => ⟨k + 1, d, by omega, by omega, rfl, HOD.out, by omega, Blk.drewN h6 m, Blk.drewN hp6 m, below_drewN b6 m⟩
              have HE := Lib.hid hend
              clear hend
              have k1 : (d.counter != d.counter) = false := by simp
              have k2 : (d.asleep != d.asleep) = false := by simp
              have k3 : (d.gen != d.gen) = false := by simp
              go_wp2_with fail
              go_quiet ((first | (go_at_call 35; exact quiet_left (counter_some G d _ (Blk.drewN h6 _))) | (go_at_call 36; exact quiet_left (suspended_some G d _ (Blk.drewN h6 _))) | (go_at_call 37; exact quiet_left (generation_some G d _ (Blk.drewN h6 _)))))
              go_wp2_with fail
              go_roundg (n - k - 1)
              case measure =>
                have := HM.out
                omega
              case rel => exact HE.out _
    · have := HM.out
      obtain rfl : k = n := by omega
      have hr := HO.out.r
      have ds := HO.out.s
      have dm := HO.out.m
      have dn := HO.out.n
      have do1 : 0 ≤ c.mono + c.o1 ∧ c.mono + c.o1 ≤ 2305843009213693952 := by have h2 := hr.2; split at h2 <;> omega
      have do2 : 0 ≤ c.o2 ∧ c.mono + c.o2 ≤ 1152921504606846976 := by have := HO.out.b; have h2 := this.2; split at h2 <;> omega
      clear hr
      by_cases hw : which < 0 ∨ 2 < which
      · have d1 : (decide (which < 0) || decide (2 < which)) = true := by rcases hw with h | h <;> simp [h]
        have HW := Lib.hid hw
        by_cases hw0 : which < 0
        all_goals
          go_wp2_with (first
            | (go_at_call 33; refine (now_no G which _ HW.out).mono ?_; rintro e w3 ⟨rfl, rfl⟩)
            | (go_at_call 38; refine (tomono_no G which t _ HW.out).mono ?_; rintro e w4 ⟨rfl, rfl⟩))
          go_ret
          exact ⟨rfl, hb⟩
      · have q1 := p1 hpl
        have q2 := p2 hpl
        have q3 := p3 hpl
        have eo0 : c.off 0 = 0 := HO.out.z
        have eo1 : c.off 1 = c.o1 := rfl
        have eo2 : c.off 2 = c.o2 := rfl
        have e1 : c.mono + c.o1 - c.mono = c.o1 := by omega
        have e2 : c.mono + c.o2 - c.mono = c.o2 := by omega
        have hw3 : which = 0 ∨ which = 1 ∨ which = 2 := by omega
        have H3 := Lib.hid hw3
        clear hw hw3
        rcases H3.out with rfl | rfl | rfl
        · go_upto_region 38 with fail
          go_cut [20] (fun s20 wx => s20 = .int .i64 (c.off 0) ∧ IsCk wx G c ∧ Below w.heap.size w wx)
          case first =>
            go_region
            all_goals
              go_wp2_with fail
              go_meet
              exact ⟨by first | rfl | rw [eo0], (Blk.alloc hc _).drew, (hb.alloc hb.size _).drew⟩
          case rest =>
            obtain ⟨rfl, h5, b5⟩ := hcut
            go_wp2_with fail
            refine (tomono_some G c _ h5 0 t (by omega)).mono ?_
            rintro e w3 ⟨rfl, n3, rfl⟩
            go_wp2_with (go_at_call 39; refine (rsub_any _ _ _).mono ?_; rintro e w4 ⟨rfl, rfl⟩)
            go_ret
            exact ⟨rfl, below_drewN b5 _⟩
        · go_upto_region 38 with fail
          go_cut [20] (fun s20 wx => s20 = .int .i64 (c.off 1) ∧ IsCk wx G c ∧ Below w.heap.size w wx)
          case first =>
            go_region
            all_goals
              go_wp2_with fail
              go_meet
              exact ⟨by first | rfl | rw [eo1], (Blk.alloc hc _).drew, (hb.alloc hb.size _).drew⟩
          case rest =>
            obtain ⟨rfl, h5, b5⟩ := hcut
            go_wp2_with fail
            refine (tomono_some G c _ h5 1 t (by omega)).mono ?_
            rintro e w3 ⟨rfl, n3, rfl⟩
            go_wp2_with (go_at_call 39; refine (rsub_any _ _ _).mono ?_; rintro e w4 ⟨rfl, rfl⟩)
            go_ret
            exact ⟨rfl, below_drewN b5 _⟩
        · go_upto_region 38 with fail
          go_cut [20] (fun s20 wx => s20 = .int .i64 (c.off 2) ∧ IsCk wx G c ∧ Below w.heap.size w wx)
          case first =>
            go_region
            all_goals
              go_wp2_with fail
              go_meet
              exact ⟨by first | rfl | rw [eo2], (Blk.alloc hc _).drew, (hb.alloc hb.size _).drew⟩
          case rest =>
            obtain ⟨rfl, h5, b5⟩ := hcut
            go_wp2_with fail
            refine (tomono_some G c _ h5 2 t (by omega)).mono ?_
            rintro e w3 ⟨rfl, n3, rfl⟩
            go_wp2_with (go_at_call 39; refine (rsub_any _ _ _).mono ?_; rintro e w4 ⟨rfl, rfl⟩)
            go_ret
            exact ⟨rfl, below_drewN b5 _⟩
set_option maxHeartbeats 2000000 in
set_option maxRecDepth 100000 in
theorem cplays_big (A : Option Addr) (n cap : Nat) (which t : Int) (w : World) (hn : 100 < n) (hm : n ≤ maxLen) :
    Calls Try.prog 6 #[.slice A n cap, .int .i64 which, .int .i64 t] w fun e w' => e = .returned (.bool true) ∧ Below w.heap.size w w' := by
  unfold maxLen at hm
  go_enter Try.func6, Try.ntmps6
  go_wp2_with fail
  refine (fixed_any _).mono ?_
  rintro e w0 ⟨rfl, b0⟩
  go_wp2_with fail
  go_ret
  exact ⟨rfl, b0⟩
theorem cplays_any (A : Option Addr) (n cap : Nat) (w : World) (hr : Leaf.Row w [.int .u8, .int .i64] A n) (which : Int) (hw : -9223372036854775808 ≤ which ∧ which ≤ 9223372036854775807) (t : Int) (ht : -9223372036854775808 ≤ t ∧ t ≤ 9223372036854775807) :
    Calls Try.prog 6 #[.slice A n cap, .int .i64 which, .int .i64 t] w fun e w' => e = .returned (.bool true) ∧ Below w.heap.size w w' := by
  by_cases hn : 100 < n
  · exact cplays_big A n cap which t w hn (len_of hr)
  · exact cplays_some A n cap which t w (by omega) (deeds_of hr)
end Go.Proofs.Ytdplpehphjgffaa.Ck
