/- TreePlays: whatever is put, and goes, all is what a plain row tells: the walk. No condition. -/
import Derived.Test.YtfoigflgglpobaaTeh
import Derived.Test.YtfoigflgglpobaaTde
set_option linter.unusedVariables false
set_option linter.unusedSimpArgs false
namespace Go.Proofs.Ytfoigflgglpobaa.Tr
open Go.RowKit Go.Proofs.Ytfoigflgglpobaa.Aid
def PRl (w0 : World) (g gl base N P : Nat) (m : Nat) (s12 s13 s73 : Value) (wr : World) : Prop :=
  ∃ (k : Nat) (s : TS) (T : Sh) (fl : List Nat) (gone : List (Nat × Int)), k ≤ N ∧ m = N - k ∧ s73 = .int .i64 k ∧ PSt w0 wr g gl s T fl base s12 s13 gone ∧ s.most = P ∧ TnB s k ∧ gone.length ≤ k
def PCut (w0 : World) (g gl base P k : Nat) (s12 s13 : Value) (wx : World) : Prop :=
  ∃ (s : TS) (T : Sh) (fl : List Nat) (gone : List (Nat × Int)), PSt w0 wx g gl s T fl base s12 s13 gone ∧ s.most = P ∧ TnB s (k + 1 : Nat) ∧ gone.length ≤ k + 1
def PIn (w0 : World) (g gl : Nat) (s : TS) (T : Sh) (fl : List Nat) (base : Nat) (v u : Value) (l : List It) (gone : List (Nat × Int)) (X : Nat) (a : TA) (hb x : Nat) (tx : Int) (m : Nat) (s105 : Value) (wr : World) : Prop :=
  ∃ j : Nat, j ≤ gone.length ∧ m = gone.length - j ∧ s105 = .int .i64 j ∧ PMd w0 wr g gl s T fl base v u l gone ∧ Blk wr X 52 a.cells ∧ Blk wr hb 29 (two_ x tx)
def P3 (w0 : World) (g gl : Nat) (s : TS) (T : Sh) (fl : List Nat) (base : Nat) (v u : Value) (gone : List (Nat × Int)) (c HB : Nat) (p0 p1 : Int) (m : Nat) (s185 : Value) (wr : World) : Prop :=
  ∃ j : Nat, j ≤ c ∧ m = T.ino.length - j ∧ s185 = .int .i64 j ∧ PSt w0 wr g gl s T fl base v u gone ∧ Blk wr HB 29 (two_ p0 p1)
theorem PMd.same {w0 W : World} {g gl base : Nat} {s : TS} {T : Sh} {fl : List Nat} {v u : Value} {gone : List (Nat × Int)} {l : List It} (h : PMd w0 W g gl s T fl base v u l gone) (e : l = rowOf s T.ino) : PSt w0 W g gl s T fl base v u gone :=
  ⟨h.t, by have := h.r; rw [e, rowOf_len] at this; exact this, h.a, h.d, h.gn, h.dis⟩
theorem uidx (i : Int) (n : Nat) (hn : 0 < n ∧ n ≤ 10000) : ∃ K : Nat, wrap64 ((IntKind.u64.wrap i).tmod n) = K ∧ K < n := by
  have h0 : 0 ≤ IntKind.u64.wrap i := by rw [IntKind.wrap_u64]; omega
  have h1 : (IntKind.u64.wrap i).tmod n = IntKind.u64.wrap i % n := Int.tmod_eq_emod_of_nonneg h0
  have h2 := Int.emod_nonneg (IntKind.u64.wrap i) (show ((n : Nat) : Int) ≠ 0 by omega)
  have h3 := Int.emod_lt_of_pos (IntKind.u64.wrap i) (show 0 < ((n : Nat) : Int) by omega)
  refine ⟨(IntKind.u64.wrap i % n).toNat, ?_, by omega⟩
  rw [h1]
  have h4 : wrap64 (IntKind.u64.wrap i % n) = IntKind.u64.wrap i % n := by unfold wrap64; omega
  rw [h4]; omega
theorem TnB.mono {s : TS} {M M' : Int} (h : TnB s M) (hM : M ≤ M') : TnB s M' := fun z hz => by have := h z hz; omega
set_option maxHeartbeats 400000 in
set_option maxRecDepth 100000 in
theorem treePlays_big (p : Int) (A : Option Addr) (N cap : Nat) (hN : 150 < N) (hmx : N ≤ maxLen) (τ : Int) (w : World) : Calls Try.prog 6 #[.int .i64 p, .slice A N cap, .int .i64 τ] w fun e w' => e = .returned (.bool true) ∧ Below w.heap.size w w' := by
  have d : decide (((N : Nat) : Int) > 150) = true := decide_eq_true (by omega)
  go_enter Try.func6, Try.ntmps6
  go_wp2_with fail
  refine (fixed_any w).mono ?_
  rintro e w1 ⟨rfl, b1⟩
  have HB := Lib.hid b1
  clear b1
  go_wp2_with fail
  go_ret
  exact ⟨rfl, HB.out⟩
set_option maxHeartbeats 400000 in
set_option maxRecDepth 100000 in
theorem treePlays_nil (p : Int) (hp : p < 1 ∨ 4096 < p) (A : Option Addr) (N cap : Nat) (hN : N ≤ 150) (τ : Int) (w : World) : Calls Try.prog 6 #[.int .i64 p, .slice A N cap, .int .i64 τ] w fun e w' => e = .returned (.bool true) ∧ Below w.heap.size w w' := by
  have d : decide (((N : Nat) : Int) > 150) = false := decide_eq_false (by omega)
  have HNw := Lib.hid (fun W => New_none p W hp)
  go_enter Try.func6, Try.ntmps6
  go_wp2_with fail
  refine (fixed_any w).mono ?_
  rintro e w1 ⟨rfl, b1⟩
  have HB := Lib.hid b1
  clear b1
  go_wp2_with fail
  refine (HNw.out _).mono ?_
  rintro e w2 ⟨rfl, rfl⟩
  rcases hp with hp | hp
  all_goals
    go_wp2_with fail
    refine (First_nil _).mono ?_
    rintro e w3 ⟨rfl, b3⟩
    have B3 := (HB.out.trans (b3.mono HB.out.size)).alloc (Nat.le_trans HB.out.size b3.size) (.cells #[.int .i64 0, .int .i64 0] 29)
    clear b3
    go_upto_region 8 with fail
    generalize w3.alloc (.cells #[.int .i64 0, .int .i64 0] 29) = W3 at B3 ⊢
    go_wp2_with fail
    refine (At_nil _ _).mono ?_
    rintro e w4 ⟨rfl, b4⟩
    have B4 := (B3.trans (b4.mono B3.size)).alloc (Nat.le_trans B3.size b4.size) (.cells #[.int .i64 0, .int .i64 0] 29)
    clear b4 B3
    go_upto_region 9 with fail
    generalize w4.alloc (.cells #[.int .i64 0, .int .i64 0] 29) = W4 at B4 ⊢
    have HB4 := Lib.hid B4
    clear B4
    go_wp2_with fail
    refine (Drop_nil _ _ _).mono ?_
    rintro e w5 ⟨rfl, b5⟩
    have HB5 := Lib.hid (HB4.out.trans (b5.mono HB4.out.size))
    clear b5
    go_wp2_with fail
    refine (Keys_nil _).mono ?_
    rintro e w6 ⟨rfl, b6⟩
    have HB6 := Lib.hid (HB5.out.trans (b6.mono HB5.out.size))
    clear b6
    go_wp2_with fail
    go_ret
    exact ⟨rfl, HB6.out⟩
set_option maxHeartbeats 1000000 in
set_option maxRecDepth 100000 in
theorem treePlays_any (P : Nat) (hP : 1 ≤ P ∧ P ≤ 4096) (A : Option Addr) (N cap : Nat) (hN : N ≤ 150) (τ : Int) (w : World) (hin : ActsIn w w.heap.size A N) : Calls Try.prog 6 #[.int .i64 P, .slice A N cap, .int .i64 τ] w fun e w' => e = .returned (.bool true) ∧ Below w.heap.size w w' := by
  have d : decide (((N : Nat) : Int) > 150) = false := decide_eq_false (by omega)
  have HK := Lib.hid hin
  clear hin
  go_enter Try.func6, Try.ntmps6
  go_wp2_with fail
  refine (fixed_any w).mono ?_
  rintro e V1 ⟨rfl, b1⟩
  go_wp2_with fail
  refine (New_some P V1 (by omega)).mono ?_
  rintro e W0 ⟨g, gl, rfl, T0, hg, hgl, b0⟩
  have s1 := b1.size
  have s0 := b0.size
  have l1 := T0.b.lt
  have l2 := T0.n.lt
  have em : (newS (P : Int)).most = P := by show ((P : Nat) : Int).toNat = P; simp
  have S0 : PSt w W0 g gl (newS P) .nil [] W0.heap.size (.slice none 0 0) (.slice none 0 0) [] :=
    ⟨⟨full_new (by omega) T0, b1.trans (b0.mono s1), by omega, by omega⟩, World.ownsRow_nil _ _ _ _, World.ownsRow_nil _ _ _ _, by omega, fun e he => (by cases he), fun b hb => (by cases hb)⟩
  have S := Lib.hid (show PRl w g gl W0.heap.size N P N (.slice none 0 0) (.slice none 0 0) (.int .i64 (0 : Nat)) W0 from ⟨0, newS P, .nil, [], [], by omega, rfl, rfl, S0, em, TnB.new P, Nat.le_refl _⟩)
  clear T0 b0 b1 hg hgl s1 s0 l1 l2 em S0 d
  generalize W0.heap.size = base at S
  go_wp2_with fail
  go_loopg [12, 13, 73] N (fun m s12 s13 s73 wr => PRl w g gl base N P m s12 s13 s73 wr)
  case atStart => exact S.out
  case round =>
    obtain ⟨k, s, T, fl, gone, hk, rfl, rfl, HS, hmost, hTn, hgl'⟩ := hrel
    clear S
    have HI := Lib.hid (And.intro hmost hTn)
    clear hmost hTn
    by_cases hlt : k < N
    · obtain ⟨x, rfl, a, hak, hai, hat⟩ := HK.out k hlt
      obtain ⟨q0, q1, q2, q3, q4, q5⟩ := hat _ HS.t.b
      clear hat
      have hTl : T.ino.length ≤ 4096 := by have h1 := HS.t.t.cnt; have h2 := HS.t.t.m.sz; have h3 := HS.t.t.cap; omega
      go_upto_region 15 with fail
      have hba := Blk.new wr 52 a.cells
      have H2 := HS.alloc (.cells a.cells 52)
      have hba' := hba.lt
      have hrb : ∀ b, u13.ownBlock = some b → b < wr.heap.size := fun b hb => (own_block HS.a hb).2
      have hX2 : base ≤ wr.heap.size := HS.d.2.2.2
      clear q0 q1 q2 q3 q4 q5 HS
      unfold TA.cells at hba H2 hba'
      generalize wr.alloc (.cells #[.int .u8 a.kind, .int .i64 a.t, .int .i64 a.s, .int .i64 a.i, .int .i64 a.p, .int .i64 a.n] 52) = W2 at hba H2 hba' ⊢
      generalize wr.heap.size = X at hba hba' hrb hX2 ⊢
      have a0 : W2.cell? ⟨X, 0, none⟩ = some (.int .u8 a.kind) := hba.cell 0
      have a1 : W2.cell? ⟨X, 1, none⟩ = some (.int .i64 a.t) := hba.cell 1
      have a2 : W2.cell? ⟨X, 2, none⟩ = some (.int .i64 a.s) := hba.cell 2
      have a3 : W2.cell? ⟨X, 3, none⟩ = some (.int .i64 a.i) := hba.cell 3
      have a4 : W2.cell? ⟨X, 4, none⟩ = some (.int .i64 a.p) := hba.cell 4
      have a5 : W2.cell? ⟨X, 5, none⟩ = some (.int .i64 a.n) := hba.cell 5
      go_upto_block 2 with fail
      have h3 : a.kind % 3 = 0 ∨ a.kind % 3 = 1 ∨ a.kind % 3 = 2 := by omega
      generalize hq : a.kind % 3 = q at h3 ⊢
      clear hq
      go_cut [12, 13] (fun s12 s13 wx => PCut w g gl base P k s12 s13 wx)
      case first =>
        rcases h3 with rfl | rfl | rfl
        · -- a key is put
          obtain ⟨RA, rc, rfl, hRA⟩ := own_parts H2.r
          have hXg : ¬ TF g gl X := by have := H2.d; rintro (e | e) <;> omega
          have HH2 := Lib.hid (And.intro H2 hba)
          have HI2 := Lib.hid (And.intro hRA hrb)
          clear hRA hrb a0 a3 a4 a5
          by_cases hfull : T.ino.length = P
          · have c1 : (((T.ino.length : Nat) : Int) == ((P : Nat) : Int)) = true := by rw [hfull]; simp
            have c2 : ((T.ino.length : Nat) : Int) = ((P : Nat) : Int) := by omega
            have HPN := Lib.hid (Put_no g gl s T fl W2 H2.t.t a.t a.s (by rw [hfull, HI.out.1]))
            clear H2 hba
            go_wp2_with fail
            refine HPN.out.mono ?_
            rintro e W3 ⟨rfl, F3, O3⟩
            have H3 := Lib.hid ((HH2.out.1.goes F3 O3 HH2.out.1.gn).alloc (.cells #[.int .i64 0, .int .i64 0] 29))
            clear HPN F3 O3 a1 a2
            go_upto_region 18 with fail
            generalize W3.alloc (.cells #[.int .i64 0, .int .i64 0] 29) = W4 at H3 ⊢
            go_wp2_with fail
            go_meet
            exact ⟨s, T, fl, gone, by have := H3.out.same rfl; rw [hfull] at this; exact this, HI.out.1, HI.out.2.mono (by omega), by omega⟩
          · have c1 : (((T.ino.length : Nat) : Int) == ((P : Nat) : Int)) = false := dec_ne hfull
            have c2 : ¬ ((T.ino.length : Nat) : Int) = ((P : Nat) : Int) := by omega
            have hlt2 : T.ino.length < s.most := by have h1 := H2.t.t.cnt; have h2 := H2.t.t.m.sz; have h3 := H2.t.t.cap; have h4 := HI.out.1; omega
            have HPY := Lib.hid (Put_yes g gl s T fl W2 H2.t.t a.t a.s hlt2 (HI.out.2.bnd (by omega)))
            have hTz := H2.t.t.lt
            have HTZ := Lib.hid hTz
            clear H2 hba hTz
            go_wp2_with fail
            refine HPY.out.mono ?_
            rintro e W3 ⟨s1, T1, fl1, x', pre1, post1, rfl, F1, R1, O1⟩
            have m1 : x' ∈ T1.ino := by rw [R1.ino']; simp
            have G1 : ∀ e, e ∈ gone → Gone s1 e ∧ (e.1 = x' → e.2 < (s1.f x').turn) := fun e he => (HH2.out.1.gn e he).put R1
            have hrow := row_put R1 HTZ.out F1.rb.nd
            have tn1 := HI.out.2.put R1 (by omega)
            have most1 : s1.most = P := R1.most.trans HI.out.1
            have hnx : ∀ b, b ∈ rowOf s T.ino → ¬ HasH b x' (s1.f x').turn := fun b hb h => by
              obtain ⟨z, hz, rfl⟩ := List.mem_map.1 hb
              have hzx : z = x' := by have := h.1; unfold itOf at this; dsimp only at this; omega
              have hnd := F1.rb.nd
              rw [R1.ino'] at hnd
              rw [R1.ino] at hz
              exact (sub_nodup hnd).2 (hzx ▸ hz)
            have hlen1 : T1.ino.length = (rowOf s T.ino).length + 1 := by rw [rowOf_len, R1.ino, R1.ino']; simp; omega
            have H3 := HH2.out.1.goes F1 O1 (fun e he => (G1 e he).1)
            have hX3 := O1.blk HH2.out.2 hXg
            rw [hnd_in F1 m1]
            obtain ⟨tx, htx⟩ : ∃ t, (s1.f x').turn = t := ⟨_, rfl⟩
            rw [htx] at G1 hrow hnx ⊢
            have H4 := H3.alloc (.cells #[.int .i64 x', .int .i64 tx] 29)
            have hX4 := hX3.alloc (.cells #[.int .i64 x', .int .i64 tx] 29)
            have hh4 := Blk.new W3 29 #[.int .i64 x', .int .i64 tx]
            have HR := Lib.hid (And.intro G1 (And.intro hrow (And.intro tn1 (And.intro most1 (And.intro hnx hlen1)))))
            clear HPY G1 hrow tn1 most1 hnx hlen1 H3 hX3 F1 R1 O1 m1 htx a1 a2 HTZ
            go_upto_region 18 with fail
            generalize W3.alloc (.cells #[.int .i64 x', .int .i64 tx] 29) = W4 at H4 hX4 hh4 ⊢
            generalize W3.heap.size = hb at hh4 ⊢
            obtain ⟨y0, y1⟩ := two_cells hh4
            have HFI := Lib.hid (find_law base (.slice RA T.ino.length rc) (rowOf s T.ino) x' tx W4 (by rw [rowOf_len]; omega) H4.r)
            have HH4 := Lib.hid (And.intro H4 (And.intro hX4 hh4))
            clear H4 hX4 hh4
            go_wp2_with fail
            refine HFI.out.mono ?_
            rintro e W5 ⟨r, rfl, hr1, hr2, hr3, b5⟩
            have hneg : r < 0 := hr3.2 HR.out.2.2.2.2.1
            have hneg2 : ¬ 0 ≤ r := by omega
            have H5 := HH4.out.1.call b5
            have hX5 := HH4.out.2.1.below b5 HH4.out.2.1.lt
            have hh5 := HH4.out.2.2.below b5 HH4.out.2.2.lt
            obtain ⟨GA, gc, rfl, hGA⟩ := own_parts H5.a
            have HGA := Lib.hid hGA
            clear hr3 b5 HFI HH4 y0 y1 hGA
            have S2 := Lib.hid (show PIn w g gl s1 T1 fl1 base (.slice RA T.ino.length rc) (.slice GA gone.length gc) (rowOf s T.ino) gone X a hb x' tx gone.length (.int .i64 (0 : Nat)) W5 from ⟨0, by omega, rfl, rfl, H5, hX5, hh5⟩)
            clear H5 hX5 hh5
            go_wp2_with fail
            go_loopg [105] gone.length (fun m s105 wr => PIn w g gl s1 T1 fl1 base (.slice RA T.ino.length rc) (.slice GA gone.length gc) (rowOf s T.ino) gone X a hb x' tx m s105 wr)
            case atStart => exact S2.out
            case round =>
              obtain ⟨j, hj, rfl, rfl, HJ, hXj, hhj⟩ := hrel
              clear S2
              by_cases hjl : j < gone.length
              · obtain ⟨e, he⟩ : ∃ e, gone[j]? = some e := ⟨gone[j], List.getElem?_eq_getElem hjl⟩
                have hem : e ∈ gone := List.mem_of_getElem? he
                obtain ⟨q, rfl⟩ := HGA.out j hjl
                obtain ⟨f0, f1⟩ := flat_at gone j e he
                have d0 := own_cell HJ.a f0
                have d1 := own_cell HJ.a f1
                obtain ⟨ep, et⟩ := e
                dsimp only at d0 d1
                have hG := HR.out.1 (ep, et) hem
                dsimp only at hG
                have hboth : ¬ (ep = x' ∧ et = tx) := fun h => by have := hG.2 h.1; omega
                have H6 := HJ.alloc (.cells #[.int .i64 ep, .int .i64 et] 29)
                have hX6 := hXj.alloc (.cells #[.int .i64 ep, .int .i64 et] 29)
                have hh6 := hhj.alloc (.cells #[.int .i64 ep, .int .i64 et] 29)
                have he6 := Blk.new wr 29 #[.int .i64 ep, .int .i64 et]
                clear he hem f0 f1 hG HJ hXj hhj
                go_upto_region 26 with fail
                clear d0 d1
                generalize wr.alloc (.cells #[.int .i64 ep, .int .i64 et] 29) = W6 at H6 hX6 hh6 he6 ⊢
                generalize wr.heap.size = eb at he6 ⊢
                obtain ⟨y0, y1⟩ := two_cells hh6
                obtain ⟨z0, z1⟩ := two_cells he6
                have H7 := Lib.hid (And.intro H6 (And.intro hX6 hh6))
                clear H6 hX6 hh6 he6
                by_cases ex : ep = x'
                · have et' : ¬ et = tx := fun h => hboth ⟨ex, h⟩
                  have et'' := beq_i et'
                  subst ex
                  clear hboth
                  go_wp2_with fail
                  go_roundg (gone.length - (j + 1))
                  case measure => omega
                  case rel => exact ⟨j + 1, by omega, rfl, by go_num, H7.out.1, H7.out.2.1, H7.out.2.2⟩
                · have ex' : ¬ ((ep : Nat) : Int) = ((x' : Nat) : Int) := by omega
                  have ex'' := beq_i ex'
                  clear ex hboth
                  go_wp2_with fail
                  go_roundg (gone.length - (j + 1))
                  case measure => omega
                  case rel => exact ⟨j + 1, by omega, rfl, by go_num, H7.out.1, H7.out.2.1, H7.out.2.2⟩
              · have hje : j = gone.length := by omega
                subst hje
                obtain ⟨y0, y1⟩ := two_cells hhj
                have z1 : wr.cell? ⟨X, 1, none⟩ = some (.int .i64 a.t) := hXj.cell 1
                have z2 : wr.cell? ⟨X, 2, none⟩ = some (.int .i64 a.s) := hXj.cell 2
                have HPL := Lib.hid (put_law base (.slice RA T.ino.length rc) (rowOf s T.ino) ⟨a.t, a.s, x', tx⟩ wr (by rw [rowOf_len]; omega) HJ.r)
                have HJJ := Lib.hid HJ
                clear HJ hXj hhj
                go_wp2_with fail
                refine HPL.out.mono ?_
                rintro e W7 ⟨v', rfl, ho, b7⟩
                have H8 := HJJ.out.call b7
                have ho' : W7.ownsRow wr.heap.size 56 4 v' T1.ino.length (itc (rowOf s1 T1.ino)) := by rw [HR.out.2.1, HR.out.2.2.2.2.2]; exact ho
                have H9 := Lib.hid (H8.done ho' (by have := HJJ.out.d; omega) (fun b hb => (own_block HJJ.out.a hb).2))
                clear ho ho' H8 b7 HPL HJJ y0 y1 z1 z2
                go_wp2_with fail
                go_meet
                exact ⟨s1, T1, fl1, gone, H9.out, HR.out.2.2.2.1, by have := HR.out.2.2.1; exact this, by omega⟩
        · -- one of those that there are goes
          obtain ⟨RA, rc, rfl, hRA⟩ := own_parts H2.r
          obtain ⟨GA, gc, rfl, hGA⟩ := own_parts H2.a
          have hXg : ¬ TF g gl X := by have := H2.d; rintro (e | e) <;> omega
          have HH2 := Lib.hid H2
          have HI2 := Lib.hid (And.intro hRA hGA)
          clear hRA hGA hrb a0 a1 a2 a4 a5 H2 hba
          by_cases h0 : T.ino.length = 0
          · have c1 : (((T.ino.length : Nat) : Int) == 0) = true := by rw [h0]; rfl
            have c2 : ((T.ino.length : Nat) : Int) = 0 := by omega
            go_wp2_with fail
            go_meet
            exact ⟨s, T, fl, gone, HH2.out, HI.out.1, HI.out.2.mono (by omega), by omega⟩
          · have c1 := beq_i (show ¬ ((T.ino.length : Nat) : Int) = 0 by omega)
            have c2 : ¬ ((T.ino.length : Nat) : Int) = 0 := by omega
            go_upto_region 33 with fail
            obtain ⟨K, hK, hKl⟩ := uidx a.i T.ino.length (by omega)
            rw [hK]
            obtain ⟨x', hx'⟩ : ∃ x', T.ino[K]? = some x' := ⟨T.ino[K], List.getElem?_eq_getElem hKl⟩
            have hrow : (rowOf s T.ino)[K]? = some (itOf s x') := by unfold rowOf; rw [List.getElem?_map, hx']; rfl
            obtain ⟨f0, f1, f2, f3⟩ := itc_at _ _ _ hrow
            have f2' : (itc (rowOf s T.ino))[K * 4 + 2]? = some (.int .i64 x') := f2
            have f3' : (itc (rowOf s T.ino))[K * 4 + 3]? = some (.int .i64 (s.f x').turn) := f3
            obtain ⟨tx, htx⟩ : ∃ t, (s.f x').turn = t := ⟨_, rfl⟩
            rw [htx] at f3'
            have hxT : x' ∈ T.ino := List.mem_of_getElem? hx'
            have hix : isH s x' tx = true := by have := isH_in HH2.out.t.t hxT; rw [htx] at this; exact this
            have hTs : T.ino = T.ino.take K ++ x' :: T.ino.drop (K + 1) := by
              have h1 := (List.take_append_drop K T.ino).symm
              rw [List.drop_eq_getElem_cons hKl] at h1
              have h2 : T.ino[K] = x' := by rw [List.getElem?_eq_getElem hKl] at hx'; injection hx'
              rw [h2] at h1
              exact h1
            obtain ⟨q, rfl⟩ := HI2.out.1 K hKl
            have d2 := own_cell HH2.out.r f2'
            have d3 := own_cell HH2.out.r f3'
            have HX := Lib.hid (And.intro hx' (And.intro hTs (And.intro f2' (And.intro f3' htx))))
            have hK10 : K ≤ 10000 := by omega
            have HDR := Lib.hid (Drop_yes g gl s T fl W2 HH2.out.t.t x' tx hix)
            clear hx' hTs hrow f0 f1 f2 f3 f2' f3' htx hxT hix a3 hK
            go_wp2_with fail
            refine HDR.out.mono ?_
            rintro e W3 ⟨rfl, s1, T1, pre1, post1, F1, R1, O1⟩
            have e2 : ((x' : Nat) : Int).toNat = x' := by simp
            rw [e2] at R1 F1
            have hpp : pre1 = T.ino.take K ∧ post1 = T.ino.drop (K + 1) := by
              have h1 := R1.ino.symm.trans HX.out.2.1
              exact split_eq h1 (by rw [← R1.ino]; exact HH2.out.t.t.rb.nd)
            have hpl : pre1.length = K := by rw [hpp.1, List.length_take]; omega
            have hrow := row_drop R1 HH2.out.t.t.rb.nd
            rw [hpl] at hrow
            have H3 := HH2.out.goes F1 O1 (fun e he => (HH2.out.gn e he).drop R1)
            have hg1 : Gone s1 (x', tx) := by
              refine ⟨HH2.out.t.t.rd.ne0 (by rw [HX.out.2.1]; simp), by rw [R1.sz]; exact HH2.out.t.t.lt x' (by rw [HX.out.2.1]; simp), ?_⟩
              rw [R1.turn, HX.out.2.2.2.2]; exact Int.le_refl _
            have tn1 := HI.out.2.drop R1
            have most1 : s1.most = P := R1.most.trans HI.out.1
            have hl1 : T1.ino.length + 1 = T.ino.length := by rw [R1.ino, R1.ino']; simp; omega
            have hr3 := H3.r
            rw [rowOf_len] at hr3
            have d2 := own_cell hr3 HX.out.2.2.1
            have d3 := own_cell hr3 HX.out.2.2.2.1
            have H4 := H3.alloc (.cells #[.int .i64 x', .int .i64 tx] 29)
            have hs3 := H3.d
            have HR := Lib.hid (And.intro hrow (And.intro hg1 (And.intro tn1 (And.intro most1 hl1))))
            have HH3 := Lib.hid H3
            obtain ⟨i0, z0, hi0, hz0, hz1, hz2, hz3⟩ := infoHan'
            clear HDR hpp hpl hrow hg1 tn1 most1 R1 F1 O1 e2 H4 H3
            go_wp2_with (at_builtin; refine wpList_append_any _ rfl _ _ 41 rfl base 29 i0 z0 2 16 Try.underlying41 hi0 hz0 hz2 hz3 hz1 (by decide) _ _ _ rfl (own_alloc HH3.out.a _) _ 1 [.int .i64 x', .int .i64 tx] rfl (src_block (heap_alloc_new W3 (.cells #[.int .i64 x', .int .i64 tx] 29)) rfl 1) (by intro u hu; simp only [List.mem_cons, List.not_mem_nil, or_false] at hu; rcases hu with rfl | rfl <;> rfl) (by unfold maxLen; omega) (by omega) (by simp; omega) ?_)
            intro v4 W4 ho4 hg4 hb4
            have H5 := HH3.out.append hg4 ho4 (by simpa using hb4) HR.out.2.1
            have hcp := (own_cap hr3).2.1
            have ST := H5.stands
            obtain ⟨j0, y0, hj0, hy0, hy1, hy2, hy3⟩ := infoIt'
            have hd5 := H5.d
            clear ho4 hg4 hb4 d2 d3 hr3 hi0 hz0 hz1 hz2 hz3 HH3
            generalize hA' : (some (⟨q, 0, none⟩ : Addr)) = A' at H5 ST ⊢
            have F1 := S10.start (e := 56) ST (W := W4) ⟨H5, by omega⟩
            have hKc : K ≤ rc := by omega
            have hKc1 : K + 1 ≤ rc := by omega
            have hw : IntKind.i64.wrap ((K : Int) + 1) = ((K + 1 : Nat) : Int) := by rw [IntKind.wrap_i64]; omega
            have hw2 : (K : Int) + 1 ≤ ((T.ino.length : Nat) : Int) := by omega
            have hw3 : 0 ≤ (K : Int) + 1 := by omega
            go_upto_region 36 with fail
            go_region_law (first
              | (refine step_append_any _ (by rfl) _ _ _ (by rfl) W4.heap.size 56 j0 y0 4 32 Try.underlying50 hj0 hy0 hy2 hy3 hy1 (by decide) (Value.slice (some ⟨W4.heap.size, 0, none⟩) 0 0) 0 [] (by rfl) (by with_reducible exact own_empty F1.z F1.l) (Value.slice A' K rc) K ((itc (rowOf s T.ino)).take (K * 4)) (by rfl) (by with_reducible exact src_to (by have := F1.r.1.r; rw [rowOf_len] at this; exact this) (Nat.le_of_lt hKl)) ((itc_ones _).take _) (by unfold maxLen; omega) (by omega) (by have := F1.r.2; omega) ?_; intro v5 w5 ho5 hg5 hb5; have H20 := F1.next ST ho5 hg5)
              | (refine step_append_any _ (by rfl) _ _ _ (by rfl) W4.heap.size 56 j0 y0 4 32 Try.underlying50 hj0 hy0 hy2 hy3 hy1 (by decide) v5 (0 + K) ([] ++ (itc (rowOf s T.ino)).take (K * 4)) (by rfl) (by with_reducible exact H20.o) (Value.slice (if rc = K + 1 then A' else Option.map (fun x => x.add ((K + 1) * 4)) A') (T.ino.length - (K + 1)) (rc - (K + 1))) (T.ino.length - (K + 1)) ((itc (rowOf s T.ino)).drop ((K + 1) * 4)) (by rfl) (by with_reducible exact src_from (by have := H20.r.1.r; rw [rowOf_len] at this; exact this) (Nat.succ_le_of_lt hKl)) ((itc_ones _).drop _) (by unfold maxLen; omega) (by omega) (by have := H20.r.2; omega) ?_; intro v6 w6 ho6 hg6 hb6; have H30 := H20.next ST ho6 hg6))
            all_goals
              have en : 0 + K + (T.ino.length - (K + 1)) = T1.ino.length := by have := HR.out.2.2.2.2; omega
              have ey : [] ++ (itc (rowOf s T.ino)).take (K * 4) ++ (itc (rowOf s T.ino)).drop ((K + 1) * 4) = itc (rowOf s1 T1.ino) := by
                rw [HR.out.1, itc_app, itc_take, itc_drop]; rfl
              have ho := H30.o
              rw [en, ey] at ho
              have hub := fun (b : Nat) (hb : v4.ownBlock = some b) => own_block H5.a hb
              have H9 := Lib.hid (H30.r.1.done ho (by have := H5.d; omega) (fun b hb => (hub b hb).2))
              clear F1 ST H30 ho ho5 ho6 hg5 hg6 hb5 hb6 en ey hub H20 H5
              go_wp2_with fail
              all_goals
                go_meet
                exact ⟨s1, T1, _, _, H9.out, HR.out.2.2.2.1, HR.out.2.2.1.mono (by omega), by simp; omega⟩
        · -- whatever handle
          obtain ⟨RA, rc, rfl, hRA⟩ := own_parts H2.r
          have hr : W2.ownsRow base 56 4 (.slice RA T.ino.length rc) (rowOf s T.ino).length (itc (rowOf s T.ino)) := by rw [rowOf_len]; exact H2.r
          have HFI := Lib.hid (find_law base (.slice RA T.ino.length rc) (rowOf s T.ino) a.p a.n W2 (by rw [rowOf_len]; omega) hr)
          have hXg : ¬ TF g gl X := by have := H2.d; rintro (e | e) <;> omega
          have HH2 := Lib.hid (And.intro H2 hba)
          clear hRA hrb a0 a1 a2 a3 H2 hba hr
          go_wp2_with fail
          refine HFI.out.mono ?_
          rintro e W3 ⟨r, rfl, hr1, hr2, hr3, b3⟩
          have H3 := HH2.out.1.call b3
          have hX3 := HH2.out.2.below b3 HH2.out.2.lt
          by_cases hneg : r < 0
          · have hno : isH s a.p a.n = false := by
              cases hi : isH s a.p a.n with
              | false => rfl
              | true =>
                obtain ⟨y, h1, h2, h3⟩ := isH_is H3.t.t hi
                exact absurd ⟨h1.symm, h3⟩ (hr3.1 hneg (itOf s y) (List.mem_map.2 ⟨y, h2, rfl⟩))
            have HDN := Lib.hid (Drop_no g gl s W3 H3.t.t.m a.p a.n hno)
            have z4 : W3.cell? ⟨X, 4, none⟩ = some (.int .i64 a.p) := hX3.cell 4
            have z5 : W3.cell? ⟨X, 5, none⟩ = some (.int .i64 a.n) := hX3.cell 5
            have HH3 := Lib.hid H3
            clear hno HFI a4 a5 H3 hX3 HH2 hr3 b3
            go_wp2_with fail
            refine HDN.out.mono ?_
            rintro e W4 ⟨rfl, b4⟩
            have H4 := Lib.hid (HH3.out.call b4)
            clear HH3 HDN b4 z4 z5
            go_wp2_with fail
            go_meet
            exact ⟨s, T, fl, gone, H4.out, HI.out.1, HI.out.2.mono (by omega), by omega⟩
          · have hneg2 : decide (r < 0) = false := decide_eq_false hneg
            have HH3 := Lib.hid H3
            clear HFI a4 a5 H3 hX3 HH2 hr3 b3
            go_wp2_with fail
            go_meet
            exact ⟨s, T, fl, gone, HH3.out, HI.out.1, HI.out.2.mono (by omega), by omega⟩
      case rest =>
        obtain ⟨s2, T2, fl2, gone2, HS2, hm2, hT2, hg2⟩ := hcut
        clear H2 hba hba' a0 a1 a2 a3 a4 a5
        have hTl2 : T2.ino.length ≤ 4096 := by have h1 := HS2.t.t.cnt; have h2 := HS2.t.t.m.sz; have h3 := HS2.t.t.cap; omega
        have HSM := Lib.hid (same_law g gl s2 T2 fl2 base u12 wc (by omega) HS2.t.t HS2.r)
        have H3 := Lib.hid HS2
        have HE := Lib.hid (And.intro hm2 hT2)
        clear HS2 hm2 hT2
        go_wp2_with fail
        refine HSM.out.mono ?_
        rintro e W5 ⟨rfl, b5⟩
        have H5 := Lib.hid (H3.out.call b5)
        clear H3 HSM b5
        go_wp2_with fail
        go_roundg (N - (k + 1))
        case measure => omega
        case rel => exact ⟨k + 1, s2, T2, fl2, gone2, by omega, rfl, by go_num, H5.out, HE.out.1, HE.out.2, hg2⟩
    · have hkN : k = N := by omega
      subst hkN
      obtain ⟨pre, post, hT, hp1, hp2, hat⟩ := at_split (f := s.f) (τ := τ) T 0 HS.t.t.srt
      have hat' : atF s.f τ T 0 = hd post := hat
      have CA := At_any g gl s T wr HS.t.t.rd τ
      rw [hat', hd_ne HS.t.t (l := post) (fun z hz => by rw [hT]; simp [hz])] at CA
      have hnd0 : hnd s (hd post) = .agg (two_ (hd post : Nat) (hturn s (hd post))) := rfl
      rw [hnd0] at CA
      have hTl : T.ino.length ≤ 4096 := by have h1 := HS.t.t.cnt; have h2 := HS.t.t.m.sz; have h3 := HS.t.t.cap; omega
      obtain ⟨RA, rc, rfl, hRA⟩ := own_parts HS.r
      have HHS := Lib.hid (And.intro HS hRA)
      have hgb := HS.d
      obtain ⟨p0, hp0⟩ : ∃ p, ((hd post : Nat) : Int) = p := ⟨_, rfl⟩
      obtain ⟨p1, hp1'⟩ : ∃ p, hturn s (hd post) = p := ⟨_, rfl⟩
      rw [hp0, hp1'] at CA
      have HPP := Lib.hid (And.intro hp0 (And.intro hp1' (And.intro hT (And.intro hp1 hp2))))
      have hpl : pre.length + post.length = T.ino.length := by rw [hT, List.length_append]
      have hcase : (∃ y l, post = y :: l ∧ decide (post ≠ []) = true) ∨ (post = [] ∧ decide (post ≠ []) = false) := by
        cases post with
        | nil => exact .inr ⟨rfl, rfl⟩
        | cons y l => exact .inl ⟨y, l, rfl, rfl⟩
      obtain ⟨ok, hok⟩ : ∃ q, decide (post ≠ []) = q := ⟨_, rfl⟩
      rw [hok] at CA hcase
      have HCA := Lib.hid CA
      have HCS := Lib.hid hcase
      clear CA hat hat' hnd0 HS hRA hp0 hp1' hT hp1 hp2 hok hcase
      go_wp2_with fail
      refine HCA.out.mono ?_
      rintro e W3 ⟨rfl, b3⟩
      have H3 := (HHS.out.1.call b3).alloc (.cells #[.int .i64 p0, .int .i64 p1] 29)
      have h3 := Blk.new W3 29 (two_ p0 p1)
      unfold two_ at h3
      have HRA := Lib.hid HHS.out.2
      clear HCA b3 HHS
      unfold two_
      go_upto_region 44 with fail
      generalize W3.alloc (.cells #[.int .i64 p0, .int .i64 p1] 29) = W4 at H3 h3 ⊢
      generalize W3.heap.size = HB at h3 ⊢
      have S := Lib.hid (show P3 w g gl s T fl base (.slice RA T.ino.length rc) u13 gone pre.length HB p0 p1 T.ino.length (.int .i64 (0 : Nat)) W4 from ⟨0, Nat.zero_le _, rfl, rfl, H3, h3⟩)
      clear H3 h3
      go_wp2_with fail
      go_loopg [185] T.ino.length (fun m s185 wr => P3 w g gl s T fl base (.slice RA T.ino.length rc) u13 gone pre.length HB p0 p1 m s185 wr)
      case atStart => exact S.out
      case round =>
        obtain ⟨j, hj, rfl, rfl, HJ, hbx⟩ := hrel
        clear S
        by_cases hjl : j < T.ino.length
        · obtain ⟨x', hx'⟩ : ∃ x', T.ino[j]? = some x' := ⟨T.ino[j], List.getElem?_eq_getElem hjl⟩
          have hrow : (rowOf s T.ino)[j]? = some (itOf s x') := by unfold rowOf; rw [List.getElem?_map, hx']; rfl
          obtain ⟨f0, f1, f2, f3⟩ := itc_at _ _ _ hrow
          have f0' : (itc (rowOf s T.ino))[j * 4]? = some (.int .i64 (s.f x').t) := f0
          have f1' : (itc (rowOf s T.ino))[j * 4 + 1]? = some (.int .i64 (s.f x').s) := f1
          have f2' : (itc (rowOf s T.ino))[j * 4 + 2]? = some (.int .i64 x') := f2
          have f3' : (itc (rowOf s T.ino))[j * 4 + 3]? = some (.int .i64 (s.f x').turn) := f3
          obtain ⟨kt, hkt⟩ : ∃ t, (s.f x').t = t := ⟨_, rfl⟩
          obtain ⟨ks, hks⟩ : ∃ t, (s.f x').s = t := ⟨_, rfl⟩
          obtain ⟨tx, htx⟩ : ∃ t, (s.f x').turn = t := ⟨_, rfl⟩
          rw [hkt] at f0'
          rw [hks] at f1'
          rw [htx] at f3'
          obtain ⟨q, rfl⟩ := HRA.out j hjl
          have c0 := own_cell HJ.r f0'
          have c1 := own_cell HJ.r f1'
          have c2 := own_cell HJ.r f2'
          have c3 := own_cell HJ.r f3'
          have H5 := HJ.alloc (.cells #[.int .i64 kt, .int .i64 ks, .int .i64 x', .int .i64 tx] 56)
          have hb5 := hbx.alloc (.cells #[.int .i64 kt, .int .i64 ks, .int .i64 x', .int .i64 tx] 56)
          have hi5 := Blk.new wr 56 #[.int .i64 kt, .int .i64 ks, .int .i64 x', .int .i64 tx]
          have hx0 : x' ≠ 0 := HJ.t.t.rd.ne0 (List.mem_of_getElem? hx')
          have hsplit : (j < pre.length ∧ kt < τ) ∨ (j = pre.length ∧ τ ≤ kt ∧ p0 = x' ∧ p1 = tx) := by
            have hTT := HPP.out.2.2.1
            by_cases hjp : j < pre.length
            · left
              refine ⟨hjp, ?_⟩
              rw [← hkt]
              refine HPP.out.2.2.2.1 x' ?_
              rw [hTT, List.getElem?_append_left hjp] at hx'
              exact List.mem_of_getElem? hx'
            · right
              have hje : j = pre.length := by omega
              rw [hTT, hje, List.getElem?_append_right (Nat.le_refl _), Nat.sub_self] at hx'
              have hm := List.mem_of_getElem? hx'
              have hhd : hd post = x' := by
                cases post with
                | nil => cases hx'
                | cons y l => simp only [List.getElem?_cons_zero, Option.some.injEq] at hx'; exact hx'
              refine ⟨hje, by rw [← hkt]; exact HPP.out.2.2.2.2 x' hm, by rw [← HPP.out.1, hhd], ?_⟩
              rw [← HPP.out.2.1, hhd, ← htx]
              unfold hturn; rw [if_neg hx0]
          have hokx : j = pre.length → ok = true := fun e => by
            rcases HCS.out with ⟨y, l, _, h⟩ | ⟨h, _⟩
            · exact h
            · rw [h] at hpl; simp at hpl; omega
          have HW := Lib.hid (And.intro H5 hb5)
          clear HJ hbx f0 f1 f2 f3 f0' f1' f2' f3' hrow hx' hkt hks htx H5 hx0
          go_upto_region 47 with fail
          clear c0 c1 c2 c3
          generalize wr.alloc (.cells #[.int .i64 kt, .int .i64 ks, .int .i64 x', .int .i64 tx] 56) = W5 at HW hb5 hi5 ⊢
          generalize wr.heap.size = ib at hi5 ⊢
          have i0 : W5.cell? ⟨ib, 0, none⟩ = some (.int .i64 kt) := hi5.cell 0
          have i2 : W5.cell? ⟨ib, 2, none⟩ = some (.int .i64 x') := hi5.cell 2
          have i3 : W5.cell? ⟨ib, 3, none⟩ = some (.int .i64 tx) := hi5.cell 3
          obtain ⟨z0, z1⟩ := two_cells hb5
          clear hb5 hi5
          rcases hsplit with ⟨hjp, hlt2⟩ | ⟨hjp, hge, rfl, rfl⟩
          · have d1 : decide (kt ≥ τ) = false := decide_eq_false (by omega)
            have d2 : ¬ τ ≤ kt := by omega
            go_wp2_with fail
            go_roundg (T.ino.length - (j + 1))
            case measure => omega
            case rel => exact ⟨j + 1, by omega, rfl, by go_num, HW.out.1, HW.out.2⟩
          · have hokt := hokx hjp
            subst hokt
            go_wp2_with fail
            go_ret
            exact ⟨rfl, HW.out.1.t.b⟩
        · have hok0 : ok = false := by
            rcases HCS.out with ⟨y, l, h, _⟩ | ⟨_, h⟩
            · rw [h] at hpl; simp at hpl; omega
            · exact h
          subst hok0
          have hje : j = T.ino.length := by omega
          subst hje
          have HBJ := Lib.hid HJ.t.b
          clear HJ hbx
          go_wp2_with fail
          go_ret
          exact ⟨rfl, HBJ.out⟩
theorem treePlays_walk (p : Int) (hp : -9223372036854775808 ≤ p ∧ p ≤ 9223372036854775807) (A : Option Addr) (N cap : Nat) (w : World) (hr : Leaf.Row w [.int .u8, .int .i64, .int .i64, .int .i64, .int .i64, .int .i64] A N) (τ : Int) (hτ : -9223372036854775808 ≤ τ ∧ τ ≤ 9223372036854775807) :
    Calls Try.prog 6 #[.int .i64 p, .slice A N cap, .int .i64 τ] w fun e w' => e = .returned (.bool true) ∧ Below w.heap.size w w' := by
  by_cases h : 150 < N
  · exact treePlays_big p A N cap h (len_in hr) τ w
  · by_cases h1 : 1 ≤ p ∧ p ≤ 4096
    · obtain ⟨P, rfl⟩ : ∃ P : Nat, p = P := ⟨p.toNat, by omega⟩
      exact treePlays_any P (by omega) A N cap (by omega) τ w (acts_of hr)
    · exact treePlays_nil p (by omega) A N cap (by omega) τ w
end Go.Proofs.Ytfoigflgglpobaa.Tr
