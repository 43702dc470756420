/- The walk of the statement DevicePlays: for any numbers and any acts it returns true. No condition. -/
import Derived.Test.YthginjllhlfadaaDevw
set_option linter.unusedVariables false
set_option linter.unusedSimpArgs false
namespace Go.Proofs.Ythginjllhlfadaa.Dv
open Go.RowKit Go.Proofs.Ythginjllhlfadaa.Aid Go.Proofs.Ythginjllhlfadaa.Kt
/-- an act: its kind, when, what for -/
structure Deed where
  kind : Int
  now : Int
  t : Int
def Deed.ok (a : Deed) : Prop := (0 ≤ a.kind ∧ a.kind ≤ 255) ∧ (-9223372036854775808 ≤ a.now ∧ a.now ≤ 9223372036854775807) ∧ (-9223372036854775808 ≤ a.t ∧ a.t ≤ 9223372036854775807)
def DeedAt (w : World) (x : Addr) (a : Deed) : Prop := w.cell? x = some (.int .u8 a.kind) ∧ w.cell? ⟨x.block, x.off + 1, none⟩ = some (.int .i64 a.now) ∧ w.cell? ⟨x.block, x.off + 2, none⟩ = some (.int .i64 a.t)
def PRel (L H : Int) (n G : Nat) (w : World) (m : Nat) (s10 s11 s12 s13 i : Value) (wr : World) : Prop :=
  ∃ (d : Dev) (k : Nat), k ≤ n ∧ m = n - k ∧ i = .int .i64 k ∧ s10 = .int .i64 d.at_ ∧ s11 = .bool d.armed ∧ s12 = .bool d.latched ∧ s13 = .bool d.off ∧ d.least = L ∧ d.greatest = H ∧ IsDev wr G d ∧ Below w.heap.size w wr
set_option maxHeartbeats 4000000 in
set_option maxRecDepth 100000 in
theorem plays_some (L H : Int) (hL : 0 ≤ L) (hLH : L ≤ H) (hH : 1 ≤ H) (hH2 : H ≤ 1099511627776) (x : Addr) (n cap : Nat) (acts : Nat → Deed) (w : World) (hn : n ≤ 100) (hx : x.block < w.heap.size)
    (hacts : ∀ k, k < n → (acts k).ok ∧ DeedAt w (x.add (k * 3)) (acts k)) :
    Calls Try.prog 11 #[.int .i64 L, .int .i64 H, .slice (some x) n cap] w fun e w' => e = .returned (.bool true) ∧ Below w.heap.size w w' := by
  have HA := Lib.hid hacts
  clear hacts
  go_enter Try.func11, Try.ntmps11
  go_wp2_with fail
  refine (fixed_any _).mono ?_
  rintro e w0 ⟨rfl, b0⟩
  go_wp2_with fail
  refine (new_ok L H _ hL hLH hH hH2).mono ?_
  rintro e w1 ⟨rfl, h1, b1, z1⟩
  have B1 : Below w.heap.size w w1 := b0.trans (b1.mono b0.size)
  have HZ := Lib.hid b0.size
  obtain ⟨G, hG⟩ : ∃ G, w0.heap.size = G := ⟨_, rfl⟩
  rw [hG] at h1 HZ ⊢
  clear b0 b1 z1 hG
  go_wp2_with fail
  go_loopg [10, 11, 12, 13, 73] n (fun m s10 s11 s12 s13 i wr => PRel L H n G w m s10 s11 s12 s13 i wr)
  case atStart => exact ⟨⟨L, H, 0, false, false, false⟩, 0, Nat.zero_le _, rfl, rfl, rfl, rfl, rfl, rfl, rfl, rfl, h1, B1⟩
  case round =>
    obtain ⟨d, k, hk, hm, rfl, rfl, rfl, rfl, rfl, hl, hg, hd, hb⟩ := hrel
    have HM := Lib.hid hm
    have HLG := Lib.hid (And.intro hl hg)
    clear hm hl hg
    by_cases hlt : k < n
    · obtain ⟨aok, aat⟩ := HA.out k hlt
      obtain ⟨a, ea⟩ : ∃ a, acts k = a := ⟨_, rfl⟩
      rw [ea] at aok aat
      clear ea
      have key : ∀ q : Addr, q.block = x.block → wr.cell? q = w.cell? q := fun q hq => hb.cell (by rw [hq]; exact hx)
      have c0 := (key (x.add (k * 3)) (add_block _ _)).trans aat.1
      have c1 := (key ⟨(x.add (k * 3)).block, (x.add (k * 3)).off + 1, none⟩ (add_block _ _)).trans aat.2.1
      have c2 := (key ⟨(x.add (k * 3)).block, (x.add (k * 3)).off + 2, none⟩ (add_block _ _)).trans aat.2.2
      clear key aat
      obtain ⟨⟨k0, k1⟩, ⟨n0, n1⟩, t0, t1⟩ := aok
      go_upto_region 14 with fail
      refine (rclamp_any _ _).mono ?_
      rintro e wz ⟨rfl, rfl⟩
      have hba := Blk.new wr 44 #[.int .u8 a.kind, .int .i64 a.now, .int .i64 a.t]
      have hda : IsDev (wr.alloc (.cells #[.int .u8 a.kind, .int .i64 a.now, .int .i64 a.t] 44)) G d := ⟨hd.blk.alloc _, hd.ok⟩
      have hbb : Below w.heap.size w (wr.alloc (.cells #[.int .u8 a.kind, .int .i64 a.now, .int .i64 a.t] 44)) := hb.alloc hb.size _
      clear c0 c1 c2 hd hb
      generalize wr.alloc (.cells #[.int .u8 a.kind, .int .i64 a.now, .int .i64 a.t] 44) = wa at hba hda hbb ⊢
      generalize wr.heap.size = A at hba ⊢
      have c0 : wa.cell? ⟨A, 0, none⟩ = some (.int .u8 a.kind) := hba.cell 0
      have c1 : wa.cell? ⟨A, 1, none⟩ = some (.int .i64 a.now) := hba.cell 1
      have c2 : wa.cell? ⟨A, 2, none⟩ = some (.int .i64 a.t) := hba.cell 2
      clear hba
      go_upto_if 86 with (go_at_call 32; refine (radd_any _ _ _).mono ?_; rintro e wz ⟨rfl, rfl⟩)
      go_cut [16] (fun s16 wx => s16 = .int .i64 (if cl a.t < ad a.now L then ad a.now L else cl a.t) ∧ wa = wx)
      case first =>
        by_cases h : cl a.t < ad a.now L
        all_goals
          go_wp2_with fail
          go_meet
          exact ⟨congrArg (Value.int .i64) (by omega), rfl⟩
      case rest =>
        obtain ⟨rfl, rfl⟩ := hcut
        have hw : Dev.when d a.now a.t = if (if cl a.t < ad a.now L then ad a.now L else cl a.t) > ad a.now H then ad a.now H else if cl a.t < ad a.now L then ad a.now L else cl a.t := by
          have b1 := ad_bd a.now L
          have b2 := ad_bd a.now H
          obtain ⟨e1, e2⟩ := HLG.out
          unfold Dev.when btw
          rw [e1, e2, cl_in b1.1 b1.2, cl_in b2.1 b2.2]
        have HW := Lib.hid hw
        clear hw
        obtain ⟨z, hz⟩ : ∃ z, (if cl a.t < ad a.now L then ad a.now L else cl a.t) = z := ⟨_, rfl⟩
        rw [hz] at HW ⊢
        clear hz
        go_upto_if 94 with (go_at_call 32; refine (radd_any _ _ _).mono ?_; rintro e wz ⟨rfl, rfl⟩)
        go_cut [16] (fun s16 wx => s16 = .int .i64 (d.when a.now a.t) ∧ wa = wx)
        case first =>
          by_cases h : z > ad a.now H
          all_goals
            go_wp2_with fail
            go_meet
            exact ⟨congrArg (Value.int .i64) (by rw [HW.out]; omega), rfl⟩
        case rest =>
          obtain ⟨rfl, rfl⟩ := hcut
          clear HW
          go_upto_block 2 with fail
          have hnv : nev a.t = decide (4611686018427387903 ≤ a.t) := rfl
          generalize decide (4611686018427387903 ≤ a.t) = nv at hnv ⊢
          have HNV := Lib.hid hnv
          clear hnv
          have h7 : a.kind % 7 = 0 ∨ a.kind % 7 = 1 ∨ a.kind % 7 = 2 ∨ a.kind % 7 = 3 ∨ a.kind % 7 = 4 ∨ a.kind % 7 = 5 ∨ a.kind % 7 = 6 := by omega
          generalize a.kind % 7 = kq at h7 ⊢
          have H7 := Lib.hid h7
          clear h7
          go_cut [10, 11, 12, 13, 20] (fun s10 s11 s12 s13 s20 wx => ∃ d' : Dev, s20 = .bool true ∧ s10 = .int .i64 d'.at_ ∧ s11 = .bool d'.armed ∧ s12 = .bool d'.latched ∧ s13 = .bool d'.off ∧ (d'.least = d.least ∧ d'.greatest = d.greatest) ∧ IsDev wx G d' ∧ Below w.heap.size w wx)
          case first =>
            rcases H7.out with rfl | rfl | rfl | rfl | rfl | rfl | rfl
            · as_aux_lemma =>
              cases hof : d.off
              · cases nv
                · have hn := HNV.out
                  go_wp2_with (first | (go_at_call 24; refine (program_set G d _ hda _ _ hof hn).mono ?_; rintro e w3 ⟨rfl, h3, g3⟩))
                  go_meet
                  exact ⟨{ d with at_ := d.when a.now a.t, armed := true }, rfl, rfl, by first | rfl | simp [*], by first | rfl | simp [*], by first | rfl | simp [*], ⟨rfl, rfl⟩, h3, hbb.grown g3 hbb.size (fun j hj => by injection hj; have := HZ.out; omega)⟩
                · have hn := HNV.out
                  go_wp2_with (first | (go_at_call 24; refine (program_never G d _ hda _ _ hof hn).mono ?_; rintro e w3 ⟨rfl, h3, g3⟩))
                  go_meet
                  exact ⟨{ d with armed := false }, rfl, rfl, by first | rfl | simp [*], by first | rfl | simp [*], by first | rfl | simp [*], ⟨rfl, rfl⟩, h3, hbb.grown g3 hbb.size (fun j hj => by injection hj; have := HZ.out; omega)⟩
              · go_wp2_with (first | (go_at_call 24; refine (program_off G d _ hda _ _ hof).mono ?_; rintro e w3 ⟨rfl, rfl⟩))
                go_meet
                exact ⟨d, by first | rfl | simp [*], rfl, by first | rfl | simp [*], by first | rfl | simp [*], by first | rfl | simp [*], ⟨rfl, rfl⟩, hda, hbb⟩
            · as_aux_lemma =>
              cases hof : d.off
              · cases nv
                · have hn := HNV.out
                  cases har : d.armed
                  · go_wp2_with (first | (go_at_call 41; refine (sooner_free G d _ hda _ _ hof hn har).mono ?_; rintro e w3 ⟨rfl, h3, g3⟩))
                    go_meet
                    exact ⟨{ d with at_ := d.when a.now a.t, armed := true }, rfl, rfl, by first | rfl | simp [*], by first | rfl | simp [*], by first | rfl | simp [*], ⟨rfl, rfl⟩, h3, hbb.grown g3 hbb.size (fun j hj => by injection hj; have := HZ.out; omega)⟩
                  · by_cases hwt : d.when a.now a.t < d.at_
                    · go_wp2_with (first | (go_at_call 41; refine (sooner_yes G d _ hda _ _ hof hn har hwt).mono ?_; rintro e w3 ⟨rfl, h3, g3⟩))
                      go_meet
                      exact ⟨{ d with at_ := d.when a.now a.t, armed := true }, rfl, rfl, by first | rfl | simp [*], by first | rfl | simp [*], by first | rfl | simp [*], ⟨rfl, rfl⟩, h3, hbb.grown g3 hbb.size (fun j hj => by injection hj; have := HZ.out; omega)⟩
                    · go_wp2_with (first | (go_at_call 41; refine (sooner_not G d _ hda _ _ hof hn har (by omega)).mono ?_; rintro e w3 ⟨rfl, n3, rfl⟩))
                      go_meet
                      exact ⟨d, by first | rfl | simp [*], rfl, by first | rfl | simp [*], by first | rfl | simp [*], by first | rfl | simp [*], ⟨rfl, rfl⟩, hda.drewN n3, below_drewN hbb n3⟩
                · have hn := HNV.out
                  go_wp2_with (first | (go_at_call 41; refine (sooner_never G d _ hda _ _ hof hn).mono ?_; rintro e w3 ⟨rfl, n3, rfl⟩))
                  go_meet
                  exact ⟨d, by first | rfl | simp [*], rfl, by first | rfl | simp [*], by first | rfl | simp [*], by first | rfl | simp [*], ⟨rfl, rfl⟩, hda.drewN n3, below_drewN hbb n3⟩
              · go_wp2_with (first | (go_at_call 41; refine (sooner_off G d _ hda _ _ hof).mono ?_; rintro e w3 ⟨rfl, n3, rfl⟩))
                go_meet
                exact ⟨d, by first | rfl | simp [*], rfl, by first | rfl | simp [*], by first | rfl | simp [*], by first | rfl | simp [*], ⟨rfl, rfl⟩, hda.drewN n3, below_drewN hbb n3⟩
            · as_aux_lemma =>
              cases har : d.armed
              · go_wp2_with (first | (go_at_call 25; refine (pass_not G d _ hda _ har).mono ?_; rintro e w3 ⟨rfl, n3, rfl⟩))
                go_meet
                exact ⟨d, by first | rfl | simp [*], rfl, by first | rfl | simp [*], by first | rfl | simp [*], by first | rfl | simp [*], ⟨rfl, rfl⟩, hda.drewN n3, below_drewN hbb n3⟩
              · by_cases hat : d.at_ ≤ cl a.now
                · go_wp2_with (first | (go_at_call 19; refine (rclamp_any _ _).mono ?_; rintro e wz ⟨rfl, rfl⟩) | (go_at_call 25; refine (pass_yes G d _ hda _ har hat).mono ?_; rintro e w3 ⟨rfl, h3, g3⟩))
                  go_meet
                  exact ⟨{ d with armed := false, latched := true }, rfl, rfl, by first | rfl | simp [*], by first | rfl | simp [*], by first | rfl | simp [*], ⟨rfl, rfl⟩, h3, hbb.grown g3 hbb.size (fun j hj => by injection hj; have := HZ.out; omega)⟩
                · go_wp2_with (first | (go_at_call 19; refine (rclamp_any _ _).mono ?_; rintro e wz ⟨rfl, rfl⟩) | (go_at_call 25; refine (pass_later G d _ hda _ har (by omega)).mono ?_; rintro e w3 ⟨rfl, n3, rfl⟩))
                  go_meet
                  exact ⟨d, by first | rfl | simp [*], rfl, by first | rfl | simp [*], by first | rfl | simp [*], by first | rfl | simp [*], ⟨rfl, rfl⟩, hda.drewN n3, below_drewN hbb n3⟩
            · as_aux_lemma =>
              cases hla : d.latched
              · go_wp2_with (first | (go_at_call 27; refine (take_no G d _ hda hla).mono ?_; rintro e w3 ⟨rfl, rfl⟩))
                go_meet
                exact ⟨d, by first | rfl | simp [*], rfl, by first | rfl | simp [*], by first | rfl | simp [*], by first | rfl | simp [*], ⟨rfl, rfl⟩, hda, hbb⟩
              · go_wp2_with (first | (go_at_call 27; refine (take_yes G d _ hda hla).mono ?_; rintro e w3 ⟨rfl, h3, g3⟩))
                go_meet
                exact ⟨{ d with latched := false }, rfl, rfl, by first | rfl | simp [*], by first | rfl | simp [*], by first | rfl | simp [*], ⟨rfl, rfl⟩, h3, hbb.grown g3 hbb.size (fun j hj => by injection hj; have := HZ.out; omega)⟩
            · as_aux_lemma =>
              go_wp2_with (first | (go_at_call 42; refine (stop_some G d _ hda).mono ?_; rintro e w3 ⟨rfl, h3, g3⟩))
              go_meet
              exact ⟨{ d with armed := false }, rfl, rfl, by first | rfl | simp [*], by first | rfl | simp [*], by first | rfl | simp [*], ⟨rfl, rfl⟩, h3, hbb.grown g3 hbb.size (fun j hj => by injection hj; have := HZ.out; omega)⟩
            · as_aux_lemma =>
              go_wp2_with (first | (go_at_call 43; refine (off_some G d _ hda).mono ?_; rintro e w3 ⟨rfl, h3, g3⟩))
              go_meet
              exact ⟨{ d with off := true, armed := false, latched := false }, rfl, rfl, by first | rfl | simp [*], by first | rfl | simp [*], by first | rfl | simp [*], ⟨rfl, rfl⟩, h3, hbb.grown g3 hbb.size (fun j hj => by injection hj; have := HZ.out; omega)⟩
            · as_aux_lemma =>
              go_wp2_with (first | (go_at_call 44; refine (on_some G d _ hda).mono ?_; rintro e w3 ⟨rfl, h3, g3⟩))
              go_meet
              exact ⟨{ d with off := false }, rfl, rfl, by first | rfl | simp [*], by first | rfl | simp [*], by first | rfl | simp [*], ⟨rfl, rfl⟩, h3, hbb.grown g3 hbb.size (fun j hj => by injection hj; have := HZ.out; omega)⟩
          case rest =>
            obtain ⟨d', rfl, rfl, rfl, rfl, rfl, hlg, hd', hb'⟩ := hcut
            have HL2 := Lib.hid hlg
            clear hlg
            have HR : Hid (PRel L H n G w (n - k - 1) (.int .i64 d'.at_) (.bool d'.armed) (.bool d'.latched) (.bool d'.off) (.int .i64 (↑(k + 1) : Int)) wc) := Lib.hid ⟨d', k + 1, by omega, by omega, rfl, rfl, rfl, rfl, rfl, HL2.out.1.trans HLG.out.1, HL2.out.2.trans HLG.out.2, hd', hb'⟩
            have hlive : ((!d'.off) == d'.off) = false := by cases d'.off <;> rfl
            have hlive2 : (!d'.off == d'.off) = false := by cases d'.off <;> rfl
            cases har : d'.armed
            · as_aux_lemma =>
              rw [har] at HR
              go_wp2_with fail
              refine (armed_no _ _ _ hd' har).mono ?_
              rintro e wz ⟨rfl, rfl⟩
              go_wp2_with fail
              refine (latched_some _ _ _ hd').mono ?_
              rintro e wz ⟨rfl, rfl⟩
              go_wp2_with fail
              refine (live_some _ _ _ hd').mono ?_
              rintro e wz ⟨rfl, rfl⟩
              go_wp2_with fail
              go_roundg (n - k - 1)
              case measure => have := HM.out; omega
              case rel => exact HR.out
            · as_aux_lemma =>
              rw [har] at HR
              go_wp2_with fail
              refine (armed_yes _ _ _ hd' har).mono ?_
              rintro e wz ⟨rfl, rfl⟩
              go_wp2_with fail
              refine (latched_some _ _ _ hd').mono ?_
              rintro e wz ⟨rfl, rfl⟩
              go_wp2_with fail
              refine (live_some _ _ _ hd').mono ?_
              rintro e wz ⟨rfl, rfl⟩
              go_wp2_with fail
              go_roundg (n - k - 1)
              case measure => have := HM.out; omega
              case rel => exact HR.out
    · have := HM.out
      have hkn : k = n := by omega
      subst hkn
      go_wp2_with fail
      go_ret
      exact ⟨rfl, hb⟩
end Go.Proofs.Ythginjllhlfadaa.Dv
