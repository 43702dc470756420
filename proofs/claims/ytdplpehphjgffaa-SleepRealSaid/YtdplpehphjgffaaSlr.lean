/- The walk of the statement SleepReal: it returns true. No condition. -/
import Derived.Test.YtdplpehphjgffaaSlp
import Derived.Test.YtdplpehphjgffaaLeaf
set_option linter.unusedVariables false
set_option linter.unusedSimpArgs false
namespace Go.Proofs.Ytdplpehphjgffaa.Sl
open Go.RowKit Go.Proofs.Ytdplpehphjgffaa.Aid Go.Proofs.Ytdplpehphjgffaa.Kt Go.Proofs.Ytdplpehphjgffaa.Sp
attribute [local go_sem] max2_int min2_int max_two min_two
/-- the spec's block, and two that sleep -/
structure Two (P ga gb : Nat) (s n : Int) (w0 : World) (la lb : Nat → Slp) (aa ab : Nat → Bool) (W : World) : Prop where
  sp : Blk W P 60 #[.int .i64 s, .int .i64 n]
  a : IsSl W ga la aa
  b : IsSl W gb lb ab
  be : Below P w0 W
  pa : P < ga
  pb : P < gb
  ne : ga ≠ gb
theorem Two.call {P ga gb : Nat} {s n : Int} {w0 W W' : World} {la lb : Nat → Slp} {aa ab : Nat → Bool} (h : Two P ga gb s n w0 la lb aa ab W) (b : Below W.heap.size W W') : Two P ga gb s n w0 la lb aa ab W' :=
  ⟨h.sp.below b h.sp.lt, h.a.below b h.a.lt, h.b.below b h.b.lt, h.be.trans (b.mono (Nat.le_of_lt h.sp.lt)), h.pa, h.pb, h.ne⟩
theorem Two.alloc {P ga gb : Nat} {s n : Int} {w0 W : World} {la lb : Nat → Slp} {aa ab : Nat → Bool} (h : Two P ga gb s n w0 la lb aa ab W) (o : Obj) : Two P ga gb s n w0 la lb aa ab (W.alloc o) := h.call ((Below.refl _ _).alloc (Nat.le_refl _) o)
theorem Two.goA {P ga gb : Nat} {s n : Int} {w0 W W' : World} {la lb la' : Nat → Slp} {aa ab aa' : Nat → Bool} (h : Two P ga gb s n w0 la lb aa ab W) (k : IsSl W' ga la' aa') (g : W.grownBy W' (some ga)) : Two P ga gb s n w0 la' lb aa' ab W' :=
  ⟨h.sp.grown g (by intro he; injection he with he; have := h.pa; omega), k, h.b.grown g (by intro he; injection he with he; exact h.ne he.symm), h.be.grown g (Nat.le_of_lt h.sp.lt) (fun i hi => by injection hi with hi; have := h.pa; omega), h.pa, h.pb, h.ne⟩
theorem Two.goB {P ga gb : Nat} {s n : Int} {w0 W W' : World} {la lb lb' : Nat → Slp} {aa ab ab' : Nat → Bool} (h : Two P ga gb s n w0 la lb aa ab W) (k : IsSl W' gb lb' ab') (g : W.grownBy W' (some gb)) : Two P ga gb s n w0 la lb' aa ab' W' :=
  ⟨h.sp.grown g (by intro he; injection he with he; have := h.pb; omega), h.a.grown g (by intro he; injection he with he; exact h.ne he), k, h.be.grown g (Nat.le_of_lt h.sp.lt) (fun i hi => by injection hi with hi; have := h.pb; omega), h.pa, h.pb, h.ne⟩
def L0 (k T : Int) (i : Nat) : Slp := if i = 0 then ⟨0, k, T, true⟩ else ⟨0, 0, 0, false⟩
def A0 (i : Nat) : Bool := if i = 0 then true else false
theorem start_real (g : Nat) (k s n m x1 : Int) (hs : -9223372036854775808 ≤ s ∧ s ≤ 9223372036854775807) (rt : Rt s n) (hk : 0 ≤ k ∧ k ≤ 2) (w : World) (h : IsSl w g (fun _ => ⟨0, 0, 0, false⟩) (fun _ => false)) :
    Calls Try.prog 42 #[.pointer (some ⟨g, 0, none⟩), .int .i64 0, .int .i64 k, .agg #[.int .i64 s, .int .i64 n], .bool false, .agg #[.int .i64 m, .int .i64 x1, .int .i64 m]] w fun e w' => e = .returned (.tuple #[.agg #[.int .i64 0, .int .i64 (byC k false), .int .i64 (ad (tm s n) m), .bool true], .int .i64 0]) ∧ IsSl w' g (L0 (byC k false) (ad (tm s n) m)) A0 ∧ w.grownBy w' (some g) := by
  refine (start_ok g _ _ 0 (by omega) k s n m x1 m false hs rt hk _ h rfl).mono fun e w' ⟨he, h1, h2⟩ => ?_
  have e : newS ((0 : Nat) : Int) k s n m x1 m false = ⟨0, byC k false, ad (tm s n) m, true⟩ := by
    have hk3 : k = 0 ∨ k = 1 ∨ k = 2 := by omega
    rcases hk3 with rfl | rfl | rfl <;> simp [newS, byC, atC]
  rw [e] at he h1
  exact ⟨he, h1, h2⟩
theorem stop_real (g : Nat) (k T N x1 : Int) (hk : k = 0 ∨ k = 2) (w : World) (h : IsSl w g (L0 k T) A0) :
    Calls Try.prog 43 #[.pointer (some ⟨g, 0, none⟩), .int .i64 0, .agg #[.int .i64 N, .int .i64 x1, .int .i64 N]] w fun e w' => e = .returned (.tuple #[.agg #[.int .i64 (tf (unt N T) / 1000000000), .int .i64 (tf (unt N T) % 1000000000)], .int .i64 4]) ∧ IsSl w' g (L0 k T) (fun i => if i = 0 then false else A0 i) ∧ w.grownBy w' (some g) := by
  rcases hk with rfl | rfl
  · refine (stop_rel0 g _ _ 0 (by omega) N x1 N _ h rfl rfl rfl).mono fun e w' ⟨he, h1, h2⟩ => ⟨?_, h1, h2⟩
    rw [show (L0 0 T 0).till = T from rfl] at he
    exact he
  · refine (stop_rel2 g _ _ 0 (by omega) N x1 N _ h rfl rfl rfl).mono fun e w' ⟨he, h1, h2⟩ => ⟨?_, h1, h2⟩
    rw [show (L0 2 T 0).till = T from rfl] at he
    exact he
/-- a block with a sleep, and others -/
theorem byC_real {k : Int} (hk : 0 ≤ k ∧ k ≤ 2) : byC k false = 0 ∨ byC k false = 2 := by
  by_cases h : k = 1
  · simp [byC, h]
  · simp [byC, h]; omega
set_option maxHeartbeats 8000000 in
set_option maxRecDepth 100000 in
theorem sreal_no (c s n r1 r2 m l : Int) (hc : 0 ≤ c ∧ c ≤ 255) (hs : -9223372036854775808 ≤ s ∧ s ≤ 9223372036854775807) (no : ¬ Rt s n) (hm : 0 ≤ m ∧ m ≤ 4294967295) (hl : 0 ≤ l ∧ l ≤ 4294967295) (w : World) :
    Calls Try.prog 8 #[.int .u8 c, .agg #[.int .i64 s, .int .i64 n], .int .i64 r1, .int .i64 r2, .int .u32 m, .int .u32 l] w fun e w' => e = .returned (.bool true) ∧ Below w.heap.size w w' := by
  have HN := Lib.hid no
  clear no
  obtain ⟨P, hP⟩ : ∃ P, P = w.heap.size := ⟨_, rfl⟩
  have hsp := Blk.new w 60 #[.int .i64 s, .int .i64 n]
  have hbe : Below w.heap.size w (w.alloc (.cells #[.int .i64 s, .int .i64 n] 60)) := (Below.refl _ _).alloc (Nat.le_refl _) _
  rw [← hP] at hsp hbe
  have HP := Lib.hid hP
  go_enter Try.func8, Try.ntmps8
  go_wp2_with fail
  rw [← hP]
  clear hP
  refine (fixed_any _).mono ?_
  rintro e w1 ⟨rfl, b1⟩
  have hsp1 := hsp.below b1 hsp.lt
  have hbe1 := hbe.trans (b1.mono (Nat.le_of_lt hsp.lt))
  clear hsp hbe b1
  go_wp2_with fail
  refine (new_any _).mono ?_
  rintro e w2 ⟨ga, rfl, hga, ha, b2⟩
  go_wp2_with fail
  refine (new_any _).mono ?_
  rintro e w3 ⟨gb, rfl, hgb, hb, b3⟩
  have hlt := hsp1.lt
  have H3 : Two P ga gb s n w _ _ _ _ w3 := ⟨(hsp1.below b2 hlt).below b3 (hsp1.below b2 hlt).lt, ha.below b3 ha.lt, hb, (hbe1.trans (b2.mono (Nat.le_of_lt hlt))).trans (b3.mono (Nat.le_of_lt (hsp1.below b2 hlt).lt)), by omega, by have := (hsp1.below b2 hlt).lt; omega, by have := ha.lt; omega⟩
  clear hsp1 hbe1 ha hb b2 b3 hga hgb hlt
  obtain ⟨q0, q1⟩ := res2 H3.sp
  go_wp2_with fail
  have hk : 0 ≤ c % 3 ∧ c % 3 ≤ 2 := by omega
  generalize c % 3 = k at hk ⊢
  refine (start_bad ga 0 k s n m r1 m false hs (.inl HN.out) _).mono ?_
  rintro e w4 ⟨rfl, b4⟩
  have H4 := (H3.call b4).alloc (.cells #[.int .i64 0, .int .i64 0, .int .i64 0, .bool false] 65)
  have hx4 := Blk.new w4 65 #[.int .i64 0, .int .i64 0, .int .i64 0, .bool false]
  clear H3 b4 q0 q1
  go_upto_region 7 with fail
  generalize w4.alloc (.cells #[.int .i64 0, .int .i64 0, .int .i64 0, .bool false] 65) = W4 at H4 hx4 ⊢
  generalize w4.heap.size = X at hx4 ⊢
  obtain ⟨q0, q1⟩ := res2 H4.sp
  go_wp2_with fail
  refine (start_bad gb 0 k s n m r2 m false hs (.inl HN.out) _).mono ?_
  rintro e w5 ⟨rfl, b5⟩
  have H5 := (H4.call b5).alloc (.cells #[.int .i64 0, .int .i64 0, .int .i64 0, .bool false] 65)
  have hx5 := (hx4.below b5 hx4.lt).alloc (.cells #[.int .i64 0, .int .i64 0, .int .i64 0, .bool false] 65)
  have hy5 := Blk.new w5 65 #[.int .i64 0, .int .i64 0, .int .i64 0, .bool false]
  clear H4 hx4 b5 q0 q1
  go_upto_region 8 with fail
  generalize w5.alloc (.cells #[.int .i64 0, .int .i64 0, .int .i64 0, .bool false] 65) = W5 at H5 hx5 hy5 ⊢
  generalize w5.heap.size = Y at hy5 ⊢
  obtain ⟨q0, q1⟩ := res2 H5.sp
  obtain ⟨x0, x1, x2, x3⟩ := res4 hx5
  obtain ⟨y0, y1, y2, y3⟩ := res4 hy5
  go_wp2_with fail
  clear q0 q1 x0 x1 x2 x3 y0 y1 y2 y3
  refine (stop_none ga _ _ 0 (by omega) (m + l) r2 (m + l) _ H5.a rfl).mono ?_
  rintro e w6 ⟨rfl, b6⟩
  have H6 := (H5.call b6).alloc (.cells #[.int .i64 0, .int .i64 0] 60)
  clear H5 b6 hx5 hy5
  go_upto_region 11 with fail
  generalize w6.alloc (.cells #[.int .i64 0, .int .i64 0] 60) = W6 at H6 ⊢
  go_wp2_with fail
  refine (stop_none gb _ _ 0 (by omega) (m + l) r1 (m + l) _ H6.b rfl).mono ?_
  rintro e w7 ⟨rfl, b7⟩
  have H7 := (H6.call b7).alloc (.cells #[.int .i64 0, .int .i64 0] 60)
  clear H6 b7
  go_wp2_with fail
  go_ret
  have b := H7.be
  rw [HP.out] at b
  exact ⟨rfl, b⟩
set_option maxHeartbeats 8000000 in
set_option maxRecDepth 100000 in
theorem sreal_yes (c s n r1 r2 m l : Int) (hc : 0 ≤ c ∧ c ≤ 255) (hs : -9223372036854775808 ≤ s ∧ s ≤ 9223372036854775807) (rt : Rt s n) (hm : 0 ≤ m ∧ m ≤ 4294967295) (hl : 0 ≤ l ∧ l ≤ 4294967295) (w : World) :
    Calls Try.prog 8 #[.int .u8 c, .agg #[.int .i64 s, .int .i64 n], .int .i64 r1, .int .i64 r2, .int .u32 m, .int .u32 l] w fun e w' => e = .returned (.bool true) ∧ Below w.heap.size w w' := by
  have HN := Lib.hid rt
  have hT := tm_bd s n rt
  obtain ⟨T, hT0⟩ : ∃ T, tm s n = T := ⟨_, rfl⟩
  have HTM := Lib.hid hT0
  rw [hT0] at hT
  have hU := left_far T m l hT hm hl
  have hV := left_near T m l hT hm hl
  have hA := ad_bd T m
  obtain ⟨U, hU0⟩ : ∃ U, tf (unt (m + l) (ad T m)) = U := ⟨_, rfl⟩
  have hUb := tf_bd (unt (m + l) (ad T m))
  rw [hU0] at hU hV hUb
  have HU0 := Lib.hid hU0
  have HUf := Lib.hid hU
  have HUn := Lib.hid hV
  have HSpl := Lib.hid (tm_split U hUb.1 hUb.2)
  clear rt hT0 hU hV hU0
  obtain ⟨D, hD⟩ : ∃ D, ad T m = D := ⟨_, rfl⟩
  have HD := Lib.hid hD
  rw [hD] at hA
  clear hD
  obtain ⟨P, hP⟩ : ∃ P, P = w.heap.size := ⟨_, rfl⟩
  have hsp := Blk.new w 60 #[.int .i64 s, .int .i64 n]
  have hbe : Below w.heap.size w (w.alloc (.cells #[.int .i64 s, .int .i64 n] 60)) := (Below.refl _ _).alloc (Nat.le_refl _) _
  rw [← hP] at hsp hbe
  have HP := Lib.hid hP
  go_enter Try.func8, Try.ntmps8
  go_wp2_with fail
  rw [← hP]
  clear hP
  refine (fixed_any _).mono ?_
  rintro e w1 ⟨rfl, b1⟩
  have hsp1 := hsp.below b1 hsp.lt
  have hbe1 := hbe.trans (b1.mono (Nat.le_of_lt hsp.lt))
  clear hsp hbe b1
  go_wp2_with fail
  refine (new_any _).mono ?_
  rintro e w2 ⟨ga, rfl, hga, ha, b2⟩
  go_wp2_with fail
  refine (new_any _).mono ?_
  rintro e w3 ⟨gb, rfl, hgb, hb, b3⟩
  have hlt := hsp1.lt
  have H3 : Two P ga gb s n w _ _ _ _ w3 := ⟨(hsp1.below b2 hlt).below b3 (hsp1.below b2 hlt).lt, ha.below b3 ha.lt, hb, (hbe1.trans (b2.mono (Nat.le_of_lt hlt))).trans (b3.mono (Nat.le_of_lt (hsp1.below b2 hlt).lt)), by omega, by have := (hsp1.below b2 hlt).lt; omega, by have := ha.lt; omega⟩
  clear hsp1 hbe1 ha hb b2 b3 hga hgb hlt
  obtain ⟨q0, q1⟩ := res2 H3.sp
  go_wp2_with fail
  have hk : 0 ≤ c % 3 ∧ c % 3 ≤ 2 := by omega
  generalize c % 3 = k at hk ⊢
  have hb2 := byC_real hk
  refine (start_real ga k s n m r1 hs HN.out hk _ H3.a).mono ?_
  rintro e w4 ⟨rfl, h4, g4⟩
  rw [HTM.out, HD.out] at h4 ⊢
  obtain ⟨k2, hk2⟩ : ∃ k2, byC k false = k2 := ⟨_, rfl⟩
  rw [hk2] at h4 hb2 ⊢
  have HK2 := Lib.hid hk2
  clear hk2
  have H4 := (H3.goA h4 g4).alloc (.cells #[.int .i64 0, .int .i64 k2, .int .i64 D, .bool true] 65)
  have hx4 := Blk.new w4 65 #[.int .i64 0, .int .i64 k2, .int .i64 D, .bool true]
  have HX4 : Hid (gb < w4.heap.size) := Lib.hid (Nat.lt_of_lt_of_le H3.b.lt g4.size)
  clear H3 h4 g4 q0 q1
  go_upto_region 7 with fail
  generalize w4.alloc (.cells #[.int .i64 0, .int .i64 k2, .int .i64 D, .bool true] 65) = W4 at H4 hx4 ⊢
  generalize w4.heap.size = X at hx4 HX4 ⊢
  obtain ⟨q0, q1⟩ := res2 H4.sp
  go_wp2_with fail
  refine (start_real gb k s n m r2 hs HN.out hk _ H4.b).mono ?_
  rintro e w5 ⟨rfl, h5, g5⟩
  rw [HTM.out, HD.out, HK2.out] at h5 ⊢
  have H5 := (H4.goB h5 g5).alloc (.cells #[.int .i64 0, .int .i64 k2, .int .i64 D, .bool true] 65)
  have hx5 := (hx4.grown g5 (by intro he; injection he with he; have := HX4.out; omega)).alloc (.cells #[.int .i64 0, .int .i64 k2, .int .i64 D, .bool true] 65)
  have hy5 := Blk.new w5 65 #[.int .i64 0, .int .i64 k2, .int .i64 D, .bool true]
  clear H4 hx4 h5 g5 q0 q1
  go_upto_region 8 with fail
  generalize w5.alloc (.cells #[.int .i64 0, .int .i64 k2, .int .i64 D, .bool true] 65) = W5 at H5 hx5 hy5 ⊢
  generalize w5.heap.size = Y at hy5 ⊢
  obtain ⟨q0, q1⟩ := res2 H5.sp
  obtain ⟨x0, x1, x2, x3⟩ := res4 hx5
  obtain ⟨y0, y1, y2, y3⟩ := res4 hy5
  have k1 : (k2 == 1) = false := by rw [beq_eq_false_iff_ne]; omega
  go_wp2_with fail
  clear q0 q1 x0 x1 x2 x3 y0 y1 y2 y3 hx5 hy5
  have HUU : Hid (tf (unt (m + l) D) = U) := Lib.hid (by rw [← HD.out]; exact HU0.out)
  obtain ⟨v0, hv0⟩ : ∃ v0, U / 1000000000 = v0 := ⟨_, rfl⟩
  obtain ⟨v1, hv1⟩ : ∃ v1, U % 1000000000 = v1 := ⟨_, rfl⟩
  have HSp2 : Hid (tm v0 v1 = U) := Lib.hid (by rw [← hv0, ← hv1]; exact HSpl.out)
  have HV0 := Lib.hid hv0
  have HV1 := Lib.hid hv1
  have hvb : -9223372036854775808 ≤ v0 ∧ v0 ≤ 9223372036854775807 := by omega
  clear hv0 hv1
  refine (stop_real ga k2 D (m + l) r2 hb2 _ H5.a).mono ?_
  rintro e w6 ⟨rfl, h6, g6⟩
  rw [HUU.out, HV0.out, HV1.out]
  have H6 := (H5.goA h6 g6).alloc (.cells #[.int .i64 v0, .int .i64 v1] 60)
  have hp6 := Blk.new w6 60 #[.int .i64 v0, .int .i64 v1]
  have HX6 : Hid (gb < w6.heap.size) := Lib.hid (Nat.lt_of_lt_of_le H5.b.lt g6.size)
  clear H5 h6 g6
  go_upto_region 11 with fail
  generalize w6.alloc (.cells #[.int .i64 v0, .int .i64 v1] 60) = W6 at H6 hp6 ⊢
  generalize w6.heap.size = X6 at hp6 HX6 ⊢
  go_wp2_with fail
  refine (stop_real gb k2 D (m + l) r1 hb2 _ H6.b).mono ?_
  rintro e w7 ⟨rfl, h7, g7⟩
  rw [HUU.out, HV0.out, HV1.out]
  have H7 := (H6.goB h7 g7).alloc (.cells #[.int .i64 v0, .int .i64 v1] 60)
  have hp7 := (hp6.grown g7 (by intro he; injection he with he; have := HX6.out; omega)).alloc (.cells #[.int .i64 v0, .int .i64 v1] 60)
  have hq7 := Blk.new w7 60 #[.int .i64 v0, .int .i64 v1]
  clear H6 hp6 h7 g7
  go_upto_region 12 with fail
  generalize w7.alloc (.cells #[.int .i64 v0, .int .i64 v1] 60) = W7 at H7 hp7 hq7 ⊢
  generalize w7.heap.size = X7 at hq7 ⊢
  obtain ⟨q0, q1⟩ := res2 H7.sp
  go_upto_region 14 with fail
  obtain ⟨V, hV⟩ : ∃ V, (if T - l < 0 then 0 else T - l) = V := ⟨_, rfl⟩
  have HV := Lib.hid hV
  have hVb : 0 ≤ V ∧ V ≤ 4611686018427387903 := by rw [← hV]; split <;> omega
  clear hV
  go_cut [26] (fun s26 wx => s26 = .int .i64 V ∧ Two P ga gb s n w (L0 k2 D) (L0 k2 D) (fun i => if i = 0 then false else A0 i) (fun i => if i = 0 then false else A0 i) wx ∧ Blk wx X6 60 #[.int .i64 v0, .int .i64 v1] ∧ Blk wx X7 60 #[.int .i64 v0, .int .i64 v1])
  case first =>
    go_wp2_with fail
    refine (rtime_any s n hs _).mono ?_
    rintro e w8 ⟨rfl, b8⟩
    rw [HTM.out]
    go_wp2_with fail
    all_goals
      go_meet
      exact ⟨congrArg (Value.int .i64) (by rw [← HV.out]; split <;> omega), H7.call b8, hp7.below b8 hp7.lt, hq7.below b8 hq7.lt⟩
  case rest =>
    obtain ⟨rfl, H8, hp8, hq8⟩ := hcut
    clear H7 hp7 hq7 q0 q1
    obtain ⟨q0, q1⟩ := res2 H8.sp
    go_wp2_with fail
    refine (rtime_any s n hs _).mono ?_
    rintro e w9 ⟨rfl, b9⟩
    rw [HTM.out]
    have H9 := H8.call b9
    have hp9 := hp8.below b9 hp8.lt
    have hq9 := hq8.below b9 hq8.lt
    clear H8 hp8 hq8 b9 q0 q1
    obtain ⟨p0, p1⟩ := res2 hp9
    obtain ⟨p2, p3⟩ := res2 hq9
    go_wp2_with fail
    refine (radd_any _ _ _).mono ?_
    rintro e w10 ⟨rfl, rfl⟩
    rw [HD.out]
    by_cases hfar : 4611686018427387903 ≤ D
    · have hU : U = 4611686018427387903 := HUf.out (by rw [HD.out]; exact hfar)
      have HU1 := Lib.hid hU
      clear hU
      go_wp2_with fail
      refine (rtime_any v0 v1 hvb _).mono ?_
      rintro e w11 ⟨rfl, b11⟩
      rw [HSp2.out, HU1.out]
      have H11 := H9.call b11
      go_wp2_with fail
      go_ret
      have b := H11.be
      rw [HP.out] at b
      exact ⟨rfl, b⟩
    · have hU : U = V := by rw [← HV.out]; exact HUn.out (by rw [HD.out]; omega)
      have HU1 := Lib.hid hU
      clear hU
      go_wp2_with fail
      refine (rtime_any v0 v1 hvb _).mono ?_
      rintro e w11 ⟨rfl, b11⟩
      rw [HSp2.out, HU1.out]
      have H11 := H9.call b11
      go_wp2_with fail
      go_ret
      have b := H11.be
      rw [HP.out] at b
      exact ⟨ret_bool (by first | rfl | simp), b⟩
theorem sreal_any (c : Int) (hc : 0 ≤ c ∧ c ≤ 255) (cs : Array Value) (h : Leaf.Fits [.int .i64, .int .i64] cs.toList) (r1 : Int) (hr1 : -9223372036854775808 ≤ r1 ∧ r1 ≤ 9223372036854775807) (r2 : Int) (hr2 : -9223372036854775808 ≤ r2 ∧ r2 ≤ 9223372036854775807) (m : Int) (hm : 0 ≤ m ∧ m ≤ 4294967295) (l : Int) (hl : 0 ≤ l ∧ l ≤ 4294967295) (w : World) :
    Calls Try.prog 8 #[.int .u8 c, .agg cs, .int .i64 r1, .int .i64 r2, .int .u32 m, .int .u32 l] w fun e w' => e = .returned (.bool true) ∧ Below w.heap.size w w' := by
  obtain ⟨s, n, rfl, hs⟩ : ∃ s n, cs = #[.int .i64 s, .int .i64 n] ∧ -9223372036854775808 ≤ s ∧ s ≤ 9223372036854775807 := by
    obtain ⟨a, r, e1, w1, h1⟩ := Leaf.Fits.int h
    obtain ⟨b, r2, rfl, w2, h2⟩ := Leaf.Fits.int h1
    obtain rfl := Leaf.Fits.done h2
    refine ⟨a, b, ?_, bounds_i64 w1⟩
    cases cs; simp_all
  by_cases rt : Rt s n
  · exact sreal_yes c s n r1 r2 m l hc hs rt hm hl w
  · exact sreal_no c s n r1 r2 m l hc hs rt hm hl w
end Go.Proofs.Ytdplpehphjgffaa.Sl
