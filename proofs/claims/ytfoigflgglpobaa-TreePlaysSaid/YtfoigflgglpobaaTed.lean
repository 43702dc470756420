/- TreeSorts: whatever keys are put come out in order: the walk. No condition. -/
import Derived.Test.YtfoigflgglpobaaTeb
import Derived.Test.YtfoigflgglpobaaLeaf
set_option linter.unusedVariables false
set_option linter.unusedSimpArgs false
namespace Go.Proofs.Ytfoigflgglpobaa.Tr
open Go.RowKit Go.Proofs.Ytfoigflgglpobaa.Aid
/-- the keys that came in, as they read whenever nothing old has changed -/
def KeysIn (w : World) (B : Nat) (A : Option Addr) (n : Nat) : Prop := ∀ k, k < n → ∃ x, A = some x ∧ ∃ a b : Int, ∀ w', Below B w w' → w'.cell? (x.add (k * 2)) = some (.int .i64 a) ∧ w'.cell? ⟨(x.add (k * 2)).block, (x.add (k * 2)).off + 1, none⟩ = some (.int .i64 b)
theorem keys_of {w : World} {A : Option Addr} {n : Nat} (h : Leaf.Row w [.int .i64, .int .i64] A n) : KeysIn w w.heap.size A n := by
  intro k hk
  rcases h with rfl | ⟨x, E, rfl, hx, _, hE⟩
  · omega
  obtain ⟨hf, hc⟩ := hE k hk
  obtain ⟨k0, r0, e0, w0, f0⟩ := hf.int
  obtain ⟨k1, r1, rfl, w1, f1⟩ := f0.int
  obtain rfl := f1.done
  refine ⟨x, rfl, k0, k1, fun w' hb => ?_⟩
  have c := fun j hj v hv => Leaf.cell_of (c := 2) (j := j) (v := v) hc hj hv
  have key : ∀ q : Addr, q.block = x.block → w'.cell? q = w.cell? q := fun q hq => hb.cell (by rw [hq]; exact hx)
  exact ⟨(key _ (add_block _ _)).trans (c 0 (by decide) _ (by rw [e0]; rfl)), (key ⟨(x.add (k * 2)).block, (x.add (k * 2)).off + 1, none⟩ (add_block _ _)).trans (c 1 (by decide) _ (by rw [e0]; rfl))⟩
theorem len_in {w : World} {A : Option Addr} {n : Nat} {ls : List Leaf.Lf} (h : Leaf.Row w ls A n) : n ≤ maxLen := by
  rcases h with rfl | ⟨_, _, _, _, h, _⟩
  · exact Nat.zero_le _
  · exact h
/-- a key comes first -/
def klt (a b c d : Int) : Prop := a < c ∨ a = c ∧ b < d
instance (a b c d : Int) : Decidable (klt a b c d) := by unfold klt; exact inferInstance
set_option maxHeartbeats 1000000 in
set_option maxRecDepth 100000 in
theorem ahead_any (a b c d : Int) (w : World) : Calls Try.prog 16 #[.agg #[.int .i64 a, .int .i64 b], .agg #[.int .i64 c, .int .i64 d]] w fun e w' => e = .returned (.bool (decide (klt a b c d))) ∧ Below w.heap.size w w' := by
  have e1 : (w.alloc (.cells #[.int .i64 a, .int .i64 b] 27)).heap.size = w.heap.size + 1 := by simp
  have h1 := (Blk.new w 27 #[.int .i64 a, .int .i64 b]).alloc (.cells #[.int .i64 c, .int .i64 d] 27)
  have h2 := Blk.new (w.alloc (.cells #[.int .i64 a, .int .i64 b] 27)) 27 #[.int .i64 c, .int .i64 d]
  rw [e1] at h2
  have B := Lib.hid (show Below w.heap.size w ((w.alloc (.cells #[.int .i64 a, .int .i64 b] 27)).alloc (.cells #[.int .i64 c, .int .i64 d] 27)) from ((Below.refl w.heap.size w).alloc (Nat.le_refl _) _).alloc (by simp) _)
  clear e1
  obtain ⟨σ, hσ⟩ : ∃ σ, decide (klt a b c d) = σ := ⟨_, rfl⟩
  rw [hσ]
  have HS := Lib.hid hσ
  clear hσ
  go_enter Try.func16, Try.ntmps16
  go_upto_region 1 with fail
  generalize (w.alloc (.cells #[.int .i64 a, .int .i64 b] 27)).alloc (.cells #[.int .i64 c, .int .i64 d] 27) = W at h1 h2 B ⊢
  generalize w.heap.size + 1 = g2 at h2 ⊢
  obtain ⟨c0, c1⟩ := two_cells h1
  obtain ⟨c2, c3⟩ := two_cells h2
  clear h1 h2
  by_cases e : a < c
  · have e' : decide (a < c) = true := decide_eq_true e
    have e2 : σ = true := by rw [← HS.out]; exact decide_eq_true (.inl e)
    subst e2
    first
      | (go_wp2; go_ret; exact ⟨rfl, B.out⟩)
      | (go_quiet (fail); go_wp2; go_ret; exact ⟨rfl, below_drewN B.out _⟩)
  · have e' : decide (a < c) = false := decide_eq_false e
    by_cases e2 : a = c
    · by_cases e4 : b < d
      · have e3 : σ = true := by rw [← HS.out]; exact decide_eq_true (.inr ⟨e2, e4⟩)
        subst e3
        subst e2
        first
          | (go_wp2; go_ret; exact ⟨rfl, B.out⟩)
          | (go_quiet (fail); go_wp2; go_ret; exact ⟨rfl, below_drewN B.out _⟩)
      · have e3 : σ = false := by rw [← HS.out]; exact decide_eq_false (by rintro (h | h); exact e h; exact e4 h.2)
        subst e3
        subst e2
        first
          | (go_wp2; go_ret; exact ⟨rfl, B.out⟩)
          | (go_quiet (fail); go_wp2; go_ret; exact ⟨rfl, below_drewN B.out _⟩)
    · have e3 : σ = false := by rw [← HS.out]; exact decide_eq_false (by rintro (h | h); exact e h; exact e2 h.1)
      subst e3
      have e4 := beq_i e2
      first
        | (go_wp2; go_ret; exact ⟨rfl, B.out⟩)
        | (go_quiet (fail); go_wp2; go_ret; exact ⟨rfl, below_drewN B.out _⟩)
def S1Rel (w0 : World) (g gl N : Nat) (m : Nat) (s24 : Value) (wr : World) : Prop :=
  ∃ (k : Nat) (s : TS) (T : Sh) (fl : List Nat), k ≤ N ∧ m = N - k ∧ s24 = .int .i64 k ∧ TSt w0 wr g gl s T fl ∧ T.ino.length = k ∧ s.most = 300 ∧ TnB s k
def S2Rel (w0 : World) (g gl N LB : Nat) (m : Nat) (s40 : Value) (wr : World) : Prop :=
  ∃ (k : Nat) (s : TS) (T : Sh) (fl : List Nat) (lt ls : Int), k ≤ N ∧ m = N - k ∧ s40 = .int .i64 k ∧ TSt w0 wr g gl s T fl ∧ T.ino.length = N - k ∧ Blk wr LB 27 (two_ lt ls) ∧ (0 < k → ∀ z, z ∈ T.ino → ¬ klt (s.f z).t (s.f z).s lt ls)
theorem hnd0 (s : TS) : hnd s 0 = .agg #[.int .i64 0, .int .i64 0] := rfl
set_option maxHeartbeats 4000000 in
set_option maxRecDepth 100000 in
theorem treeSorts_big (A : Option Addr) (N cap : Nat) (hN : 300 < N) (hmx : N ≤ maxLen) (w : World) : Calls Try.prog 3 #[.slice A N cap] w fun e w' => e = .returned (.bool true) ∧ Below w.heap.size w w' := by
  have d : decide (((N : Nat) : Int) > 300) = true := decide_eq_true (by omega)
  go_enter Try.func3, Try.ntmps3
  go_wp2_with fail
  refine (fixed_any w).mono ?_
  rintro e w1 ⟨rfl, b1⟩
  have HB := Lib.hid b1
  clear b1
  go_wp2_with fail
  go_ret
  exact ⟨rfl, HB.out⟩
set_option maxHeartbeats 4000000 in
set_option maxRecDepth 100000 in
theorem treeSorts_any (A : Option Addr) (N cap : Nat) (hN : N ≤ 300) (w : World) (hin : KeysIn w w.heap.size A N) : Calls Try.prog 3 #[.slice A N cap] w fun e w' => e = .returned (.bool true) ∧ Below w.heap.size w w' := by
  have d : decide (((N : Nat) : Int) > 300) = false := decide_eq_false (by omega)
  have HK := Lib.hid hin
  clear hin
  go_enter Try.func3, Try.ntmps3
  go_wp2_with fail
  refine (fixed_any w).mono ?_
  rintro e V1 ⟨rfl, b1⟩
  go_wp2_with fail
  refine (New_some 300 V1 (by omega)).mono ?_
  rintro e W0 ⟨g, gl, rfl, T0, hg, hgl, b0⟩
  have s1 := b1.size
  have S := Lib.hid (show S1Rel w g gl N N (.int .i64 (0 : Nat)) W0 from ⟨0, newS 300, .nil, [], by omega, rfl, rfl, ⟨full_new (by omega) T0, b1.trans (b0.mono s1), by omega, by omega⟩, rfl, rfl, TnB.new 300⟩)
  clear T0 b0 b1 hg hgl s1 d
  go_wp2_with fail
  go_loopg [24] N (fun m s24 wr => S1Rel w g gl N m s24 wr)
  case atStart => exact S.out
  case round =>
    obtain ⟨k, s, T, fl, hk, rfl, rfl, HT, hlen, hmost, hTn⟩ := hrel
    clear S
    have HI := Lib.hid (And.intro hlen (And.intro hmost hTn))
    clear hlen hmost hTn
    by_cases hlt : k < N
    · obtain ⟨x, rfl, kt, ks, hat⟩ := HK.out k hlt
      obtain ⟨q0, q1⟩ := hat _ HT.b
      clear hat
      go_upto_region 9 with fail
      have hbx := Blk.new wr 27 #[.int .i64 kt, .int .i64 ks]
      have H2 := HT.alloc (.cells #[.int .i64 kt, .int .i64 ks] 27)
      clear HT q0 q1
      generalize wr.alloc (.cells #[.int .i64 kt, .int .i64 ks] 27) = W2 at hbx H2 ⊢
      generalize wr.heap.size = kb at hbx ⊢
      obtain ⟨x0, x1⟩ := two_cells hbx
      clear hbx
      go_wp2_with fail
      refine (Put_yes g gl s T fl W2 H2.t kt ks (by rw [HI.out.1, HI.out.2.1]; omega) (HI.out.2.2.bnd (by omega))).mono ?_
      rintro e W3 ⟨s1, T1, fl1, x', pre1, post1, rfl, F1, R1, O1⟩
      have hl1 : T1.ino.length = k + 1 := by
        have h1 := HI.out.1
        rw [R1.ino] at h1
        rw [R1.ino']
        simp only [List.length_append, List.length_cons] at h1 ⊢
        omega
      have hm1 := R1.most.trans HI.out.2.1
      have ht1 := HI.out.2.2.put R1 (by omega)
      rw [hnd_in F1 (by rw [R1.ino']; simp)]
      generalize (s1.f x').turn = tx
      have H3 := Lib.hid ((H2.goes F1 O1).alloc (.cells #[.int .i64 x', .int .i64 tx] 29))
      have HE := Lib.hid (And.intro hl1 (And.intro hm1 ht1))
      clear H2 F1 R1 O1 hl1 hm1 ht1 x0 x1
      go_wp2_with fail
      go_roundg (N - (k + 1))
      case measure => omega
      case rel => exact ⟨k + 1, s1, T1, _, by omega, rfl, by go_num, H3.out, HE.out.1, HE.out.2.1, by have := HE.out.2.2; exact this⟩
    · have hkN : k = N := by omega
      subst hkN
      have hLB := Blk.new wr 27 #[.int .i64 0, .int .i64 0]
      have H2 := HT.alloc (.cells #[.int .i64 0, .int .i64 0] 27)
      have hgg := HT.t.m.b.lt
      have hggl := HT.t.m.n.lt
      have hww := HT.b.size
      clear HT
      go_upto_region 14 with fail
      generalize wr.alloc (.cells #[.int .i64 0, .int .i64 0] 27) = W2 at hLB H2 ⊢
      generalize wr.heap.size = LB at hLB hgg hggl hww ⊢
      have S := Lib.hid (show S2Rel w g gl k LB k (.int .i64 (0 : Nat)) W2 from ⟨0, s, T, fl, 0, 0, by omega, rfl, rfl, H2, HI.out.1, hLB, fun h => by omega⟩)
      clear hLB H2 HI
      go_wp2_with fail
      go_loopg [40] k (fun m s40 wr => S2Rel w g gl k LB m s40 wr)
      case atStart => exact S.out
      case round =>
        obtain ⟨j, s, T, fl, lt, ls, hj, rfl, rfl, HT, hlen, hLB, hord⟩ := hrel
        clear S
        by_cases hjl : j < k
        · obtain ⟨x, rest, hT⟩ : ∃ x rest, T.ino = x :: rest := by
            cases hc : T.ino with
            | nil => rw [hc] at hlen; simp at hlen; omega
            | cons x rest => exact ⟨x, rest, rfl⟩
          have hx : x ∈ T.ino := by rw [hT]; simp
          have C1 := First_row wr HT.t
          rw [hT, show hd (x :: rest) = x from rfl, hnd_in HT.t hx, show decide (x :: rest ≠ []) = true from rfl] at C1
          obtain ⟨tx, htx⟩ : ∃ t, (s.f x).turn = t := ⟨_, rfl⟩
          obtain ⟨kt, hkt⟩ : ∃ t, (s.f x).t = t := ⟨_, rfl⟩
          obtain ⟨ks, hks⟩ : ∃ t, (s.f x).s = t := ⟨_, rfl⟩
          rw [htx] at C1
          have HC1 := Lib.hid C1
          have HKEY : Hid (∀ W, Full W g gl s T fl → Calls Try.prog 15 #[.pointer (some ⟨g, 0, none⟩), .agg #[.int .i64 x, .int .i64 tx]] W fun e w' => e = .returned (.tuple #[.agg #[.int .i64 kt, .int .i64 ks], .bool true]) ∧ Below W.heap.size W w') := Lib.hid fun W hW => by
            have := Key_row W hW hx
            rw [htx, hkt, hks] at this
            exact this
          have hix : isH s x tx = true := by have := isH_in HT.t hx; rw [htx] at this; exact this
          have hsrt := HT.t.srt
          have hnah : 0 < j → decide (klt kt ks lt ls) = false := fun h => decide_eq_false (by rw [← hkt, ← hks]; exact hord h x hx)
          have hnext : ∀ z, z ∈ rest → ¬ klt (s.f z).t (s.f z).s kt ks := fun z hz => by
            unfold Srt at hsrt
            rw [hT] at hsrt
            have h1 := (List.pairwise_cons.1 hsrt).1 z hz
            unfold kle at h1
            unfold klt
            omega
          have hnd := HT.t.rb.nd
          have H1 := Lib.hid HT
          have HL := Lib.hid hLB
          have HF := Lib.hid (And.intro hT (And.intro hlen (And.intro hix (And.intro hnext (And.intro hnah hnd)))))
          clear C1 htx hkt hks hix hsrt hnah hnext hnd hT hlen HT hLB hord hx
          go_wp2_with fail
          refine HC1.out.mono ?_
          rintro e W3 ⟨rfl, b3⟩
          have H3 := (H1.out.call b3).alloc (.cells #[.int .i64 x, .int .i64 tx] 29)
          have h3 := Blk.new W3 29 #[.int .i64 x, .int .i64 tx]
          have l3 := (HL.out.below b3 HL.out.lt).alloc (.cells #[.int .i64 x, .int .i64 tx] 29)
          have l3' := (HL.out.below b3 HL.out.lt).lt
          clear H1 HL HC1 b3
          go_upto_region 18 with fail
          generalize W3.alloc (.cells #[.int .i64 x, .int .i64 tx] 29) = W4 at H3 h3 l3 ⊢
          generalize W3.heap.size = hb at h3 l3' ⊢
          obtain ⟨x0, x1⟩ := two_cells h3
          have H4 := Lib.hid (And.intro H3 (And.intro h3 (And.intro l3 l3')))
          have HKY := Lib.hid (HKEY.out W4 H3.t)
          clear H3 h3 l3 l3' HKEY
          go_wp2_with fail
          refine HKY.out.mono ?_
          rintro e W5 ⟨rfl, b5⟩
          have H5 := (H4.out.1.call b5).alloc (.cells #[.int .i64 kt, .int .i64 ks] 27)
          have k5 := Blk.new W5 27 #[.int .i64 kt, .int .i64 ks]
          have h5 := (H4.out.2.1.below b5 H4.out.2.1.lt).alloc (.cells #[.int .i64 kt, .int .i64 ks] 27)
          have l5 := (H4.out.2.2.1.below b5 H4.out.2.2.1.lt).alloc (.cells #[.int .i64 kt, .int .i64 ks] 27)
          have l5' := (H4.out.2.2.1.below b5 H4.out.2.2.1.lt).lt
          clear H4 HKY b5 x0 x1
          go_upto_region 19 with fail
          generalize W5.alloc (.cells #[.int .i64 kt, .int .i64 ks] 27) = W6 at H5 k5 h5 l5 ⊢
          generalize W5.heap.size = kb at k5 l5' ⊢
          have H6 := Lib.hid (And.intro H5 (And.intro k5 (And.intro h5 (And.intro l5 l5'))))
          have hkg : kb ≠ g ∧ kb ≠ gl ∧ LB ≠ g ∧ LB ≠ gl ∧ LB ≠ kb := by omega
          clear H5 k5 h5 l5 l5'
          by_cases j0 : j = 0
          · subst j0
            obtain ⟨x0, x1⟩ := two_cells H6.out.2.2.1
            go_wp2_with fail
            clear x0 x1
            have HD := H6
            clear H6
            generalize W6 = WD at HD ⊢
            refine (Drop_yes g gl s T fl WD HD.out.1.t x tx HF.out.2.2.1).mono ?_
            rintro e W8 ⟨rfl, s2, T2, pre2, post2, F2, R2, O2⟩
            have e2 : ((x : Nat) : Int).toNat = x := by simp
            rw [e2] at R2 F2
            have hT2 : T2.ino = rest := by
              have h1 := R2.ino
              have h2 := R2.ino'
              rw [HF.out.1] at h1
              obtain ⟨rfl, rfl⟩ := split_eq (A := []) (B := rest) (show [] ++ x :: rest = pre2 ++ x :: post2 from h1) (by have := HF.out.2.2.2.2.2; rw [HF.out.1] at this; exact this)
              exact h2
            have H8 := HD.out.1.goes F2 O2
            have k8 := O2.blk HD.out.2.1 (by rintro (e | e); exact hkg.1 e; exact hkg.2.1 e)
            have l8 := O2.blk HD.out.2.2.2.1 (by rintro (e | e); exact hkg.2.2.1 e; exact hkg.2.2.2.1 e)
            have hnx : x ∉ rest := by have := HF.out.2.2.2.2.2; rw [HF.out.1] at this; exact (List.nodup_cons.1 this).1
            have hord2 : ∀ z, z ∈ T2.ino → ¬ klt (s2.f z).t (s2.f z).s kt ks := fun z hz => by
              rw [hT2] at hz
              have h1 := R2.old z (fun e => hnx (e ▸ hz))
              rw [h1.1, h1.2]
              exact HF.out.2.2.2.1 z hz
            have hlen2 : T2.ino.length = k - (0 + 1) := by
              have h1 := HF.out.2.1
              rw [HF.out.1] at h1
              rw [hT2]
              simp only [List.length_cons] at h1
              omega
            have H9 := Lib.hid (And.intro (H8.far (p := ⟨LB, 0, none⟩) hkg.2.2.1 hkg.2.2.2.1 hww (.int .i64 kt)) (two_set l8 kt ks))
            have H10 := Lib.hid ((H8.far (p := ⟨LB, 0, none⟩) hkg.2.2.1 hkg.2.2.2.1 hww (.int .i64 kt)).far (p := ⟨LB, 1, none⟩) hkg.2.2.1 hkg.2.2.2.1 hww (.int .i64 ks))
            have HE := Lib.hid (And.intro hlen2 hord2)
            obtain ⟨y0, y1⟩ := two_cells k8
            obtain ⟨z0, z1⟩ := two_cells l8
            have lf := l8.frozen
            have dLK := hkg.2.2.2.2
            have dKL : kb ≠ LB := fun e => dLK e.symm
            clear H8 k8 l8 F2 R2 O2 hT2 hnx hord2 hlen2 HD e2
            go_wp2_with fail
            go_roundg (k - (0 + 1))
            case measure => omega
            case rel => exact ⟨0 + 1, s2, T2, _, kt, ks, by omega, rfl, by go_num, H10.out, HE.out.1, H9.out.2, fun _ => HE.out.2⟩

          · have c1 : decide (0 < ((j : Nat) : Int)) = true := decide_eq_true (by omega)
            have hnah := HF.out.2.2.2.2.1 (by omega)
            obtain ⟨x0, x1⟩ := two_cells H6.out.2.2.1
            obtain ⟨y0, y1⟩ := two_cells H6.out.2.1
            obtain ⟨z0, z1⟩ := two_cells H6.out.2.2.2.1
            have HAH := Lib.hid (ahead_any kt ks lt ls W6)
            rw [hnah] at HAH
            go_wp2_with fail
            refine HAH.out.mono ?_
            rintro e W7 ⟨rfl, b7⟩
            have HD := Lib.hid (And.intro (H6.out.1.call b7) (And.intro (H6.out.2.1.below b7 H6.out.2.1.lt) (And.intro (H6.out.2.2.1.below b7 H6.out.2.2.1.lt) (And.intro (H6.out.2.2.2.1.below b7 H6.out.2.2.2.1.lt) trivial))))
            clear x0 x1 y0 y1 z0 z1 H6 HAH b7
            obtain ⟨x0, x1⟩ := two_cells HD.out.2.2.1
            generalize W7 = WD at HD x0 x1 ⊢
            go_wp2_with fail
            clear x0 x1
            refine (Drop_yes g gl s T fl WD HD.out.1.t x tx HF.out.2.2.1).mono ?_
            rintro e W8 ⟨rfl, s2, T2, pre2, post2, F2, R2, O2⟩
            have e2 : ((x : Nat) : Int).toNat = x := by simp
            rw [e2] at R2 F2
            have hT2 : T2.ino = rest := by
              have h1 := R2.ino
              have h2 := R2.ino'
              rw [HF.out.1] at h1
              obtain ⟨rfl, rfl⟩ := split_eq (A := []) (B := rest) (show [] ++ x :: rest = pre2 ++ x :: post2 from h1) (by have := HF.out.2.2.2.2.2; rw [HF.out.1] at this; exact this)
              exact h2
            have H8 := HD.out.1.goes F2 O2
            have k8 := O2.blk HD.out.2.1 (by rintro (e | e); exact hkg.1 e; exact hkg.2.1 e)
            have l8 := O2.blk HD.out.2.2.2.1 (by rintro (e | e); exact hkg.2.2.1 e; exact hkg.2.2.2.1 e)
            have hnx : x ∉ rest := by have := HF.out.2.2.2.2.2; rw [HF.out.1] at this; exact (List.nodup_cons.1 this).1
            have hord2 : ∀ z, z ∈ T2.ino → ¬ klt (s2.f z).t (s2.f z).s kt ks := fun z hz => by
              rw [hT2] at hz
              have h1 := R2.old z (fun e => hnx (e ▸ hz))
              rw [h1.1, h1.2]
              exact HF.out.2.2.2.1 z hz
            have hlen2 : T2.ino.length = k - (j + 1) := by
              have h1 := HF.out.2.1
              rw [HF.out.1] at h1
              rw [hT2]
              simp only [List.length_cons] at h1
              omega
            have H9 := Lib.hid (And.intro (H8.far (p := ⟨LB, 0, none⟩) hkg.2.2.1 hkg.2.2.2.1 hww (.int .i64 kt)) (two_set l8 kt ks))
            have H10 := Lib.hid ((H8.far (p := ⟨LB, 0, none⟩) hkg.2.2.1 hkg.2.2.2.1 hww (.int .i64 kt)).far (p := ⟨LB, 1, none⟩) hkg.2.2.1 hkg.2.2.2.1 hww (.int .i64 ks))
            have HE := Lib.hid (And.intro hlen2 hord2)
            obtain ⟨y0, y1⟩ := two_cells k8
            obtain ⟨z0, z1⟩ := two_cells l8
            have lf := l8.frozen
            have dLK := hkg.2.2.2.2
            have dKL : kb ≠ LB := fun e => dLK e.symm
            clear H8 k8 l8 F2 R2 O2 hT2 hnx hord2 hlen2 HD e2
            go_wp2_with fail
            go_roundg (k - (j + 1))
            case measure => omega
            case rel => exact ⟨j + 1, s2, T2, _, kt, ks, by omega, rfl, by go_num, H10.out, HE.out.1, H9.out.2, fun _ => HE.out.2⟩

        · have hje : j = k := by omega
          subst hje
          have hT : T.ino = [] := by
            cases hc : T.ino with
            | nil => rfl
            | cons a l => rw [hc] at hlen; simp at hlen
          have C1 := First_row wr HT.t
          rw [hT, show hd [] = 0 from rfl, hnd0, show decide (([] : List Nat) ≠ []) = false from rfl] at C1
          have HC1 := Lib.hid C1
          have hn0 : s.n = 0 := by rw [HT.t.n, hT]; rfl
          have H1 := Lib.hid HT
          clear C1 hT hlen hLB hord HT
          go_wp2_with fail
          refine HC1.out.mono ?_
          rintro e W3 ⟨rfl, b3⟩
          have H3 := Lib.hid ((H1.out.call b3).alloc (.cells #[.int .i64 0, .int .i64 0] 29))
          clear H1 HC1 b3
          go_upto_region 24 with fail
          generalize W3.alloc (.cells #[.int .i64 0, .int .i64 0] 29) = W4 at H3 ⊢
          have HL := Lib.hid (Len_any g gl s W4 H3.out.t.m)
          rw [hn0] at HL
          clear hn0
          go_wp2_with fail
          refine HL.out.mono ?_
          rintro e W5 ⟨rfl, rfl⟩
          go_wp2_with fail
          go_ret
          exact ⟨rfl, H3.out.b⟩
theorem treeSorts_walk (A : Option Addr) (N cap : Nat) (w : World) (hr : Leaf.Row w [.int .i64, .int .i64] A N) : Calls Try.prog 3 #[.slice A N cap] w fun e w' => e = .returned (.bool true) ∧ Below w.heap.size w w' := by
  by_cases h : 300 < N
  · exact treeSorts_big A N cap h (len_in hr) w
  · exact treeSorts_any A N cap (by omega) w (keys_of hr)
end Go.Proofs.Ytfoigflgglpobaa.Tr
