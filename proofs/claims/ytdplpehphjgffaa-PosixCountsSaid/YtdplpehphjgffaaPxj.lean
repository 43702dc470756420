/- The walk of the statement PosixCounts: it returns true. No condition. -/
import Derived.Test.YtdplpehphjgffaaPxh
set_option linter.unusedVariables false
set_option linter.unusedSimpArgs false
namespace Go.Proofs.Ytdplpehphjgffaa.Px
open Go.RowKit Go.Proofs.Ytdplpehphjgffaa.Aid Go.Proofs.Ytdplpehphjgffaa.Kt Go.Proofs.Ytdplpehphjgffaa.Sp Go.Proofs.Ytdplpehphjgffaa.Fw
/-- the steps that came in, as they read whenever nothing old has changed -/
def Steps (w : World) (A : Option Addr) (n : Nat) : Prop := ∀ k, k < n → ∃ x, A = some x ∧ ∃ s : Int, (0 ≤ s ∧ s ≤ 65535) ∧ ∀ w', Below w.heap.size w w' → w'.cell? (x.add k) = some (.int .u16 s)
theorem steps_of {w : World} {A : Option Addr} {len : Nat} (h : len = 0 ∨ ∃ x, ∃ zs : List Int, A = some x ∧ x.block < w.heap.size ∧ zs.length = len ∧ len ≤ maxLen ∧ (∀ k, k < len → w.cell? (x.add k) = some (.int .u16 (zs.getD k 0))) ∧ ∀ n ∈ zs, (Lit.int .u16 n).wf = true) : Steps w A len ∧ len ≤ maxLen := by
  rcases h with rfl | ⟨x, zs, rfl, hx, hl, hm, hc, hw⟩
  · exact ⟨fun k hk => by omega, Nat.zero_le _⟩
  · refine ⟨fun k hk => ⟨x, rfl, zs.getD k 0, ?_, fun w' hb => ?_⟩, hm⟩
    · have : zs.getD k 0 ∈ zs := by
        rw [List.getD_eq_getElem?_getD, List.getElem?_eq_getElem (by omega)]
        exact List.getElem_mem _
      exact bounds_u16 (hw _ this)
    · rw [← hc k hk]
      exact hb.cell (by rw [add_block]; exact hx)
/-- the events that come at once: none, or one -/
structure Evs (S1 sum : Int) (W : World) (va : Option Addr) (n vc : Nat) : Prop where
  hn : n ≤ 1
  hz : n = 0 → S1 = sum
  ho : n = 1 → ∃ gg ov, va = some ⟨gg, 0, none⟩ ∧ gg < W.heap.size ∧ W.cell? ⟨gg, 0, none⟩ = some (.int .i64 0) ∧ W.cell? ⟨gg, 1, none⟩ = some (.int .i64 9) ∧ W.cell? ⟨gg, 2, none⟩ = some (.int .i64 ov) ∧ sum + (1 + ov) = S1 ∧ (0 ≤ ov ∧ ov ≤ 10000000)
theorem Evs.same {S1 sum : Int} {W W' : World} {va : Option Addr} {n vc : Nat} (h : Evs S1 sum W va n vc) (b : Below W.heap.size W W') : Evs S1 sum W' va n vc :=
  ⟨h.hn, h.hz, fun e => by
    obtain ⟨gg, ov, h1, h2, h3, h4, h5, h6⟩ := h.ho e
    have hc : ∀ i, W'.cell? ⟨gg, i, none⟩ = W.cell? ⟨gg, i, none⟩ := fun i => b.cell (p := ⟨gg, i, none⟩) h2
    exact ⟨gg, ov, h1, Nat.lt_of_lt_of_le h2 b.size, (hc 0).trans h3, (hc 1).trans h4, (hc 2).trans h5, h6⟩⟩
def ARel (N g b : Nat) (v i : Int) (w : World) (m : Nat) (s12 s13 s48 : Value) (wr : World) : Prop :=
  ∃ (j : Nat) (now sum nx ov : Int), m = N - j ∧ j ≤ N ∧ s48 = .int .i64 j ∧ s12 = .int .i64 now ∧ s13 = .int .i64 sum ∧ QInv v i now sum nx ∧ now ≤ 65535 * j ∧ PSt g (ct b nx i ov) w wr
def BRel (n vc g : Nat) (va : Option Addr) (S1 sum : Int) (x : Tm) (w : World) (m : Nat) (s13 s61 : Value) (wr : World) : Prop :=
  ∃ q : Nat, m = n - q ∧ q ≤ n ∧ s61 = .int .i64 q ∧ s13 = .int .i64 (if q = 0 then sum else S1) ∧ PSt g x w wr ∧ Evs S1 sum wr va n vc
set_option maxHeartbeats 4000000 in
set_option maxRecDepth 100000 in
theorem counts_ok (V : Int) (hV : 0 ≤ V ∧ V ≤ 65535) (I : Int) (hI : 0 ≤ I ∧ I ≤ 65535) (A : Option Addr) (N cap : Nat) (hN : N ≤ 100) (w : World) (hst : Steps w A N) :
    Calls Try.prog 9 #[.int .u16 V, .int .u16 I, .slice A N cap] w fun e w' => e = .returned (.bool true) ∧ Below w.heap.size w w' := by
  have HST := Lib.hid hst
  clear hst
  go_enter Try.func9, Try.ntmps9
  go_wp2_with fail
  refine (fixed_any _).mono ?_
  rintro e w0 ⟨rfl, b0⟩
  go_wp2_with fail
  refine (new_any _).mono ?_
  rintro e w1 ⟨g, rfl, hg, h1, b1⟩
  go_wp2_with fail
  refine (create_ok g _ _ h1 2 (by omega) 9 (by omega) 0 (by omega) rfl (fun i hi => by omega)).mono ?_
  rintro e w2 ⟨b, rfl, hb, h2, o2⟩
  rw [none_upd] at h2
  have B1 := b0.trans (b1.mono b0.size)
  have hg1 : w.heap.size ≤ g := Nat.le_trans b0.size hg
  have S2 : PSt g (fresh b 2 9) w w2 := ⟨h2, Only.under B1 o2 (fun i hi => by
    rcases hi with rfl | ⟨i, x, hi, hx, _⟩
    · exact hg1
    · cases hx) B1.size, hg1, by have := B1.size; simp [fresh]; omega⟩
  clear h1 h2 o2 hb hg b1 b0 B1 hg1
  go_wp2_with fail
  obtain ⟨v, hv⟩ : ∃ v, 1 + V = v := ⟨_, rfl⟩
  obtain ⟨i, hi⟩ : ∃ i, 1 + I % 500 = i := ⟨_, rfl⟩
  have hvb : 1 ≤ v ∧ v ≤ 65536 := by omega
  have hib : 1 ≤ i ∧ i ≤ 500 := by omega
  rw [hv, hi]
  clear hv hi
  refine (set_ok g _ _ S2.t 0 (by omega) (fresh b 2 9) (one_at _) 0 v 0 i false 0 0 0 0 0 0 0 (Tells.off _ 0 0 0 rfl) (by omega) (by omega) ⟨by omega, by omega, by omega⟩ ⟨by omega, by omega, by omega⟩ v i (tm0 _ (by omega)) (tm0 _ (by omega)) (by omega) (by omega)).mono ?_
  rintro e w3 ⟨rfl, h3, o3⟩
  have e3 : (fresh b 2 9).set v i false 0 0 0 = ct b v i 0 := by
    have h1 : decide (0 < v) = true := by simp; omega
    have h2 : ad v 0 = v := by unfold ad cl; omega
    simp [fresh, Tm.set, ct, at3_same, h1, h2]
  rw [one_upd, e3] at h3
  have S3 := S2.goes h3 rfl o3
  clear S2 h3 o3 e3
  unfold set4
  go_wp2_with fail
  go_loopg [12, 13, 48] N (fun m s12 s13 s48 wr => ARel N g b v i w m s12 s13 s48 wr)
  case atStart => exact ⟨0, 0, 0, v, 0, by omega, by omega, rfl, rfl, rfl, ⟨hvb, hib, by omega, by omega, .inl ⟨rfl, rfl⟩, by omega, by omega⟩, by omega, S3⟩
  case round =>
    obtain ⟨j, now, sum, nx, ov, hm, hj, rfl, rfl, rfl, hq, hnb, S4⟩ := hrel
    have HM := Lib.hid hm
    clear hm S3
    have hnow := hq.hn
    by_cases hlt : j < N
    · obtain ⟨x, rfl, s, hs, hat⟩ := HST.out j hlt
      have q0 := hat _ S4.b
      clear hat
      have hq2 := hq.step s hs (by omega)
      have hk := qk_bd i (now + s) nx hq.nx.1 hib.1 (by omega)
      obtain ⟨ov2, haft, hev⟩ := ct_aft b nx i ov (now + s) hq.nx hib (by omega)
      have hsl := hq.sum_le
      have hsl0 := hq.hs
      go_wp2_with fail
      refine (Collect_any g _ _ S4.t 0 0 (now + s)).mono ?_
      rintro e w5 ⟨vs, rfl, hvs, h5, o5⟩
      rw [colT_one, haft] at h5
      have S5 := S4.goes h5 rfl o5
      obtain ⟨S1, hS1⟩ : ∃ S1, sum + qk i (now + s) nx = S1 := ⟨_, rfl⟩
      rw [hS1] at hq2
      have hE : ∃ va n vc, vs = .slice va n vc ∧ Evs S1 sum w5 va n vc := by
        rcases hev with ⟨h0, hc⟩ | ⟨h0, hc, ho⟩
        · rw [(col_one_no _ _ _ _ hc 63).1, (col_one_no _ _ _ _ hc 63).2] at hvs
          obtain ⟨va, vc, rfl⟩ := own_none hvs
          exact ⟨va, 0, vc, rfl, by omega, fun _ => by omega, fun h => by omega⟩
        · rw [(col_one_yes _ _ _ _ hc 63).1, (col_one_yes _ _ _ _ hc 63).2] at hvs
          obtain ⟨gg, vc, rfl, _, hgl, _, _⟩ := own_form hvs (by omega)
          have ho2 : ((ct b nx i ov).went (at3 0 0 (now + s) (ct b nx i ov).clock)).over = qk i (now + s) nx - 1 := ho
          rw [ho2] at hvs
          exact ⟨_, 1, vc, rfl, by omega, fun h => by omega, fun _ => ⟨gg, _, rfl, hgl, own_cell hvs rfl, own_cell hvs rfl, own_cell hvs rfl, by omega, by omega⟩⟩
      obtain ⟨va, n, vc, rfl, E5⟩ := hE
      have hn1 := E5.hn
      have HQ2 := Lib.hid hq2
      clear hev hvs S4 h5 o5 hS1 haft q0 hq2
      obtain ⟨wo, hwo⟩ : ∃ wo : World, wo = wr := ⟨_, rfl⟩
      clear hwo
      generalize nx + qk i (now + s) nx * i = nx2 at HQ2 S5
      go_wp2_with fail
      go_loopg [13, 61] n (fun m s13 s61 wr => BRel n vc g va S1 sum (ct b nx2 i ov2) w m s13 s61 wr)
      case atStart => exact ⟨0, by omega, by omega, rfl, rfl, S5, E5⟩
      case round =>
        obtain ⟨q, hm2, hqn, rfl, rfl, S6, E6⟩ := hrel
        have HM2 := Lib.hid hm2
        clear hm2 S5 E5
        by_cases hq1 : q < n
        · have hn11 : n = 1 := by omega
          have hq0 : q = 0 := by omega
          subst hn11 hq0
          obtain ⟨gg, ov3, rfl, hgl, l0, l1, l2, hsum, hovb⟩ := E6.ho rfl
          have HS := Lib.hid hsum
          clear hsum
          simp only [if_true]
          go_wp2_with fail
          go_roundg 0
          case measure => have := HM2.out; omega
          case rel => exact ⟨1, by omega, by omega, by go_num, by rw [if_neg (by omega), HS.out], S6.alloc _, E6.same ((Below.refl _ _).alloc (Nat.le_refl _) _)⟩
        · have hqe : q = n := by omega
          have hfin : (if q = 0 then sum else S1) = S1 := by
            split
            · exact (E6.hz (by omega)).symm
            · rfl
          rw [hfin]
          clear hfin
          have hw2 := HQ2.out.want
          have HW2 := Lib.hid hw2
          clear hw2
          have hend : ∀ W : World, PSt g (ct b nx2 i ov2) w W → ARel N g b v i w (N - (j + 1)) (.int .i64 (now + s)) (.int .i64 S1) (.int .i64 (↑(j + 1) : Int)) W := fun W h => ⟨j + 1, now + s, S1, nx2, ov2, rfl, by omega, rfl, rfl, rfl, HQ2.out, by omega, h⟩
          have HEnd := Lib.hid hend
          clear hend
          by_cases hc : v ≤ now + s
          · have hw3 : (S1 != (now + s - v) / i + 1) = false := by
              have := HW2.out; rw [if_pos hc] at this; rw [this]; simp
            have hd := ediv_bd (a := now + s - v) (b := i) (by omega) (by omega)
            go_wp2_with fail
            go_roundg (N - (j + 1))
            case measure => have := HM.out; omega
            case rel => exact HEnd.out _ S6
          · have hw3 : (S1 != 0) = false := by
              have := HW2.out; rw [if_neg hc] at this; rw [← this]; rfl
            go_wp2_with fail
            go_roundg (N - (j + 1))
            case measure => have := HM.out; omega
            case rel => exact HEnd.out _ S6
    · have hje : j = N := by omega
      go_wp2_with fail
      go_ret
      exact ⟨rfl, S4.b⟩
set_option maxHeartbeats 1000000 in
theorem counts_big (V I : Int) (A : Option Addr) (N cap : Nat) (hN : 100 < N) (hm : N ≤ maxLen) (w : World) :
    Calls Try.prog 9 #[.int .u16 V, .int .u16 I, .slice A N cap] w fun e w' => e = .returned (.bool true) ∧ Below w.heap.size w w' := by
  unfold maxLen at hm
  go_enter Try.func9, Try.ntmps9
  go_wp2_with fail
  refine (fixed_any _).mono ?_
  rintro e w0 ⟨rfl, b0⟩
  go_wp2_with fail
  go_ret
  exact ⟨rfl, b0⟩
theorem counts_any (V : Int) (hV : 0 ≤ V ∧ V ≤ 65535) (I : Int) (hI : 0 ≤ I ∧ I ≤ 65535) (A : Option Addr) (len cap : Nat) {w : World} (h : len = 0 ∨ ∃ x, ∃ zs : List Int, A = some x ∧ x.block < w.heap.size ∧ zs.length = len ∧ len ≤ maxLen ∧ (∀ k, k < len → w.cell? (x.add k) = some (.int .u16 (zs.getD k 0))) ∧ ∀ n ∈ zs, (Lit.int .u16 n).wf = true) :
    Calls Try.prog 9 #[.int .u16 V, .int .u16 I, .slice A len cap] w fun e w' => e = .returned (.bool true) ∧ Below w.heap.size w w' := by
  obtain ⟨h1, h2⟩ := steps_of h
  by_cases hb : 100 < len
  · exact counts_big V I A len cap hb h2 w
  · exact counts_ok V hV I hI A len cap (by omega) w h1
end Go.Proofs.Ytdplpehphjgffaa.Px
