/- The walk of the statement PosixLeft: it returns true. No condition. -/
import Derived.Test.YtdplpehphjgffaaPxg
set_option linter.unusedVariables false
set_option linter.unusedSimpArgs false
namespace Go.Proofs.Ytdplpehphjgffaa.Px
open Go.RowKit Go.Proofs.Ytdplpehphjgffaa.Aid Go.Proofs.Ytdplpehphjgffaa.Kt Go.Proofs.Ytdplpehphjgffaa.Sp Go.Proofs.Ytdplpehphjgffaa.Fw
theorem mul_zero (a : Int) : mul a 0 = 0 := by unfold mul cl; simp
theorem tm0 (x : Int) (h : 0 ≤ x ∧ x ≤ 999999999) : tm 0 x = x := by
  unfold tm; rw [mul_zero]; unfold ad cl; omega
theorem pl_ad (V N : Int) (hV : 0 ≤ V ∧ V ≤ 65535) (hN : 0 ≤ N ∧ N ≤ 65535) : ad (1 + V) N = 1 + V + N := by unfold ad cl; omega
theorem pl_unt (V N : Int) (hV : 0 ≤ V ∧ V ≤ 65535) (hN : 0 ≤ N ∧ N ≤ 65535) : mx1 (unt N (1 + V + N)) = 1 + V := by unfold mx1 unt sb cl; omega
theorem tf_in (x : Int) (h : 0 ≤ x ∧ x ≤ 4611686018427387903) : tf x = x := by unfold tf cl; omega
theorem at3_same (N : Int) (k : Nat) : at3 N N N k = N := by unfold at3; split; rfl; split <;> rfl
/-- the timer of PosixLeft, set -/
def lx (b k : Nat) (V I N : Int) : Tm := ⟨b, k, 9, true, 1 + V + N, I, 0⟩
def ly (b k : Nat) (N : Int) : Tm := ⟨b, k, 9, false, N, 0, 0⟩
theorem lx_set (b k : Nat) (V I N : Int) (hV : 0 ≤ V ∧ V ≤ 65535) (hN : 0 ≤ N ∧ N ≤ 65535) : (fresh b k 9).set (1 + V) I false N N N = lx b k V I N := by
  have h1 : decide (0 < 1 + V) = true := by simp; omega
  have h2 := pl_ad V N hV hN
  simp [fresh, Tm.set, lx, at3_same, h1, h2]
theorem ly_set (b k : Nat) (V I N : Int) (hN : 0 ≤ N ∧ N ≤ 65535) : (lx b k V I N).set 0 0 false N N N = ly b k N := by
  have h2 : ad 0 N = N := by unfold ad cl; omega
  simp [lx, Tm.set, ly, at3_same, h2]
theorem lx_tells (b k : Nat) (hk : k < 3) (V I N : Int) (hV : 0 ≤ V ∧ V ≤ 65535) (hI : 0 ≤ I ∧ I ≤ 65535) (hN : 0 ≤ N ∧ N ≤ 65535) : Tells (lx b k V I N) N N N 0 (1 + V) 0 I := by
  have h := Tells.on (lx b k V I N) N N N ⟨hk, by show -4611686018427387903 ≤ 1 + V + N ∧ 1 + V + N ≤ 4611686018427387903; omega, by show 0 ≤ I ∧ I ≤ 4611686018427387903; omega⟩ rfl (1 + V) I (by show mx1 (unt (at3 N N N k) (1 + V + N)) = 1 + V; rw [at3_same, pl_unt V N hV hN]) (by show tf I = I; exact tf_in I (by omega))
  have e1 : tf (1 + V) = 1 + V := tf_in _ (by omega)
  rw [e1, show (1 + V) / 1000000000 = 0 by omega, show (1 + V) % 1000000000 = 1 + V by omega, show I / 1000000000 = 0 by omega, show I % 1000000000 = I by omega] at h
  exact h
theorem lx_next (b k : Nat) (V I N : Int) (hV : 0 ≤ V ∧ V ≤ 65535) (hN : 0 ≤ N ∧ N ≤ 65535) : nextOf (one (lx b k V I N)) (k : Int) 64 = N + 1 + V := by
  rw [nextOf_one]
  show (if (true && (((k : Nat) : Int) == k)) = true then mnc 4611686018427387903 (1 + V + N) else 4611686018427387903) = N + 1 + V
  simp only [beq_self_eq_true, Bool.and_self, if_true]
  unfold mnc cl; omega
theorem ly_next (b k : Nat) (N : Int) : nextOf (one (ly b k N)) (k : Int) 64 = 4611686018427387903 := by
  rw [nextOf_one]
  show (if (false && (((k : Nat) : Int) == k)) = true then mnc 4611686018427387903 N else 4611686018427387903) = 4611686018427387903
  simp
theorem ly_comes (b k : Nat) (N now : Int) : (ly b k N).comes now = false := rfl
theorem ly_aft (b k : Nat) (N x0 x1 x2 : Int) : (ly b k N).aft x0 x1 x2 = ly b k N := by unfold Tm.aft; rw [ly_comes]; rfl
set_option maxHeartbeats 4000000 in
set_option maxRecDepth 100000 in
theorem left_any (V : Int) (hV : 0 ≤ V ∧ V ≤ 65535) (I : Int) (hI : 0 ≤ I ∧ I ≤ 65535) (N : Int) (hN : 0 ≤ N ∧ N ≤ 65535) (c : Int) (hc : 0 ≤ c ∧ c ≤ 255) (w : World) :
    Calls Try.prog 10 #[.int .u16 V, .int .u16 I, .int .u16 N, .int .u8 c] w fun e w' => e = .returned (.bool true) ∧ Below w.heap.size w w' := by
  go_enter Try.func10, Try.ntmps10
  go_wp2_with fail
  refine (fixed_any _).mono ?_
  rintro e w0 ⟨rfl, b0⟩
  go_wp2_with fail
  refine (new_any _).mono ?_
  rintro e w1 ⟨g, rfl, hg, h1, b1⟩
  go_wp2_with fail
  obtain ⟨k, hk⟩ : ∃ k : Nat, c % 3 = (k : Int) := ⟨(c % 3).toNat, by omega⟩
  have hk3 : k < 3 := by omega
  rw [hk]
  clear hk
  refine (create_ok g _ _ h1 k hk3 9 (by omega) 0 (by omega) rfl (fun i hi => by omega)).mono ?_
  rintro e w2 ⟨b, rfl, hb, h2, o2⟩
  rw [none_upd] at h2
  have B1 := b0.trans (b1.mono b0.size)
  have hg1 : w.heap.size ≤ g := Nat.le_trans b0.size hg
  have S2 : PSt g (fresh b k 9) w w2 := ⟨h2, Only.under B1 o2 (fun i hi => by
    rcases hi with rfl | ⟨i, x, hi, hx, _⟩
    · exact hg1
    · cases hx) B1.size, hg1, by have := B1.size; simp [fresh]; omega⟩
  clear h1 h2 o2 hb hg b1 b0 B1 hg1
  have S2a := S2.alloc (.cells #[.int .i64 N, .int .i64 N, .int .i64 N] 68)
  have hm2 := Blk.new w2 68 #[.int .i64 N, .int .i64 N, .int .i64 N]
  have HM : Hid (g ≠ w2.heap.size ∧ b ≠ w2.heap.size) := Lib.hid ⟨by have := S2.t.lt; omega, by have := (S2.t.tm 0 _ (by omega) (one_at _)).1.lt; simp [fresh] at this; omega⟩
  clear S2
  go_upto_region 7 with fail
  generalize w2.alloc (.cells #[.int .i64 N, .int .i64 N, .int .i64 N] 68) = W2 at S2a hm2 ⊢
  generalize w2.heap.size = M at hm2 HM ⊢
  have m0 : W2.cell? ⟨M, 0, none⟩ = some (.int .i64 N) := hm2.cell 0
  have m1 : W2.cell? ⟨M, 1, none⟩ = some (.int .i64 N) := hm2.cell 1
  have m2 : W2.cell? ⟨M, 2, none⟩ = some (.int .i64 N) := hm2.cell 2
  go_wp2_with fail
  refine (set_ok g _ _ S2a.t 0 (by omega) (fresh b k 9) (one_at _) 0 (1 + V) 0 I false N N N 0 0 0 0 (Tells.off _ N N N rfl) (by omega) (by omega) ⟨by omega, by omega, by omega⟩ ⟨by omega, by omega, by omega⟩ (1 + V) I (tm0 _ (by omega)) (tm0 _ (by omega)) (by omega) (by omega)).mono ?_
  rintro e w3 ⟨rfl, h3, o3⟩
  rw [one_upd, lx_set b k V I N hV hN] at h3
  have S3 := (S2a.goes h3 rfl o3).alloc (.cells (set4 0 0 0 0) 79)
  have hm3 := (one_keep o3 hm2 HM.out.1.symm HM.out.2.symm).alloc (.cells (set4 0 0 0 0) 79)
  clear S2a h3 o3 hm2 m0 m1 m2
  unfold set4 at S3 hm3 ⊢
  go_upto_region 8 with fail
  generalize w3.alloc (.cells #[.int .i64 0, .int .i64 0, .int .i64 0, .int .i64 0] 79) = W3 at S3 hm3 ⊢
  have m0 : W3.cell? ⟨M, 0, none⟩ = some (.int .i64 N) := hm3.cell 0
  have m1 : W3.cell? ⟨M, 1, none⟩ = some (.int .i64 N) := hm3.cell 1
  have m2 : W3.cell? ⟨M, 2, none⟩ = some (.int .i64 N) := hm3.cell 2
  go_wp2_with fail
  refine (get_ok g _ _ S3.t 0 (by omega) _ (one_at _) N N N 0 (1 + V) 0 I (lx_tells b k hk3 V I N hV hI hN)).mono ?_
  rintro e w4 ⟨rfl, b4⟩
  have S4 := (S3.call b4).alloc (.cells (set4 0 (1 + V) 0 I) 79)
  have hm4 := (hm3.below b4 hm3.lt).alloc (.cells (set4 0 (1 + V) 0 I) 79)
  have hs4 := Blk.new w4 79 (set4 0 (1 + V) 0 I)
  have HS : Hid (g ≠ w4.heap.size ∧ b ≠ w4.heap.size) := Lib.hid ⟨by have := (S3.call b4).t.lt; omega, by have := ((S3.call b4).t.tm 0 _ (by omega) (one_at _)).1.lt; simp [lx] at this; omega⟩
  clear S3 hm3 m0 m1 m2 b4
  unfold set4 at S4 hm4 hs4 ⊢
  go_upto_region 9 with fail
  generalize w4.alloc (.cells #[.int .i64 0, .int .i64 (1 + V), .int .i64 0, .int .i64 I] 79) = W4 at S4 hm4 hs4 ⊢
  generalize w4.heap.size = Y at hs4 HS ⊢
  have y0 : W4.cell? ⟨Y, 0, none⟩ = some (.int .i64 0) := hs4.cell 0
  have y1 : W4.cell? ⟨Y, 1, none⟩ = some (.int .i64 (1 + V)) := hs4.cell 1
  have y2 : W4.cell? ⟨Y, 2, none⟩ = some (.int .i64 0) := hs4.cell 2
  have y3 : W4.cell? ⟨Y, 3, none⟩ = some (.int .i64 I) := hs4.cell 3
  have k1 : (1 + V != 1 + V) = false := by simp
  have k2 : (I != I) = false := by simp
  go_wp2_with fail
  refine (next_any g _ _ S4.t (k : Int)).mono ?_
  rintro e w5 ⟨rfl, b5⟩
  rw [lx_next b k V I N hV hN]
  have S5 := S4.call b5
  have hm5 := hm4.below b5 hm4.lt
  have hs5 := hs4.below b5 hs4.lt
  clear S4 hm4 hs4 y0 y1 y2 y3 k1 k2 b5
  have k3 : (N + 1 + V != N + 1 + V) = false := by simp
  have m0 : w5.cell? ⟨M, 0, none⟩ = some (.int .i64 N) := hm5.cell 0
  have m1 : w5.cell? ⟨M, 1, none⟩ = some (.int .i64 N) := hm5.cell 1
  have m2 : w5.cell? ⟨M, 2, none⟩ = some (.int .i64 N) := hm5.cell 2
  go_wp2_with fail
  refine (set_ok g _ _ S5.t 0 (by omega) (lx b k V I N) (one_at _) 0 0 0 0 false N N N 0 (1 + V) 0 I (lx_tells b k hk3 V I N hV hI hN) (by omega) (by omega) ⟨by omega, by omega, by omega⟩ ⟨by omega, by omega, by omega⟩ 0 0 (tm0 0 (by omega)) (tm0 0 (by omega)) (by omega) (by omega)).mono ?_
  rintro e w6 ⟨rfl, h6, o6⟩
  rw [one_upd, ly_set b k V I N hN] at h6
  have S6 := (S5.goes h6 rfl o6).alloc (.cells (set4 0 (1 + V) 0 I) 79)
  have hs6 := (one_keep o6 hs5 HS.out.1.symm HS.out.2.symm).alloc (.cells (set4 0 (1 + V) 0 I) 79)
  have hz6 := Blk.new w6 79 (set4 0 (1 + V) 0 I)
  clear S5 h6 o6 hm5 hs5 m0 m1 m2 k3
  unfold set4 at S6 hs6 hz6 ⊢
  go_upto_region 12 with fail
  generalize w6.alloc (.cells #[.int .i64 0, .int .i64 (1 + V), .int .i64 0, .int .i64 I] 79) = W6 at S6 hs6 hz6 ⊢
  generalize w6.heap.size = Z at hz6 ⊢
  have S7 := S6.alloc (.cells #[.int .i64 1099511627776, .int .i64 1099511627776, .int .i64 1099511627776] 68)
  have hs7 := hs6.alloc (.cells #[.int .i64 1099511627776, .int .i64 1099511627776, .int .i64 1099511627776] 68)
  have hz7 := hz6.alloc (.cells #[.int .i64 1099511627776, .int .i64 1099511627776, .int .i64 1099511627776] 68)
  have hl7 := Blk.new W6 68 #[.int .i64 1099511627776, .int .i64 1099511627776, .int .i64 1099511627776]
  clear S6 hs6 hz6
  go_upto_region 13 with fail
  generalize W6.alloc (.cells #[.int .i64 1099511627776, .int .i64 1099511627776, .int .i64 1099511627776] 68) = W7 at S7 hs7 hz7 hl7 ⊢
  generalize W6.heap.size = Q at hl7 ⊢
  have y0 : W7.cell? ⟨Y, 0, none⟩ = some (.int .i64 0) := hs7.cell 0
  have y1 : W7.cell? ⟨Y, 1, none⟩ = some (.int .i64 (1 + V)) := hs7.cell 1
  have y2 : W7.cell? ⟨Y, 2, none⟩ = some (.int .i64 0) := hs7.cell 2
  have y3 : W7.cell? ⟨Y, 3, none⟩ = some (.int .i64 I) := hs7.cell 3
  have z0 : W7.cell? ⟨Z, 0, none⟩ = some (.int .i64 0) := hz7.cell 0
  have z1 : W7.cell? ⟨Z, 1, none⟩ = some (.int .i64 (1 + V)) := hz7.cell 1
  have z2 : W7.cell? ⟨Z, 2, none⟩ = some (.int .i64 0) := hz7.cell 2
  have z3 : W7.cell? ⟨Z, 3, none⟩ = some (.int .i64 I) := hz7.cell 3
  go_wp2_with fail
  refine (next_any g _ _ S7.t (k : Int)).mono ?_
  rintro e w8 ⟨rfl, b8⟩
  rw [ly_next b k N]
  have S8 := S7.call b8
  have hl8 := hl7.below b8 hl7.lt
  clear S7 hs7 hz7 hl7 y0 y1 y2 y3 z0 z1 z2 z3 b8
  have l0 : w8.cell? ⟨Q, 0, none⟩ = some (.int .i64 1099511627776) := hl8.cell 0
  have l1 : w8.cell? ⟨Q, 1, none⟩ = some (.int .i64 1099511627776) := hl8.cell 1
  have l2 : w8.cell? ⟨Q, 2, none⟩ = some (.int .i64 1099511627776) := hl8.cell 2
  go_wp2_with fail
  refine (Collect_any g _ _ S8.t 1099511627776 1099511627776 1099511627776).mono ?_
  rintro e w9 ⟨v, rfl, hv, h9, o9⟩
  rw [colT_one, ly_aft] at h9
  rw [(col_one_no _ _ _ _ (ly_comes b k N _) 63).1, (col_one_no _ _ _ _ (ly_comes b k N _) 63).2] at hv
  obtain ⟨va, vc, rfl⟩ := own_none hv
  have S9 := S8.goes h9 rfl o9
  clear S8 h9 o9 hv l0 l1 l2 hl8
  go_wp2_with fail
  refine (len_any g _ _ S9.t).mono ?_
  rintro e w10 ⟨rfl, rfl⟩
  rw [cntOf_one _ 63]
  go_wp2_with fail
  go_ret
  exact ⟨rfl, S9.b⟩
end Go.Proofs.Ytdplpehphjgffaa.Px
