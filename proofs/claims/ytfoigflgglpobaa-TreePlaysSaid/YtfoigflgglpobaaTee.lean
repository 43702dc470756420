/- TreeAt: from the first node whose time isn't below one all that follow aren't: the walk. No condition. -/
import Derived.Test.YtfoigflgglpobaaTed
set_option linter.unusedVariables false
set_option linter.unusedSimpArgs false
namespace Go.Proofs.Ytfoigflgglpobaa.Tr
open Go.RowKit Go.Proofs.Ytfoigflgglpobaa.Aid
/-- where a search for a time ends, by the row of places -/
theorem at_split {f : Nat → Nd} {τ : Int} (t : Sh) : ∀ b, Srt f t.ino → ∃ pre post, t.ino = pre ++ post ∧ (∀ z, z ∈ pre → (f z).t < τ) ∧ (∀ z, z ∈ post → τ ≤ (f z).t) ∧ atF f τ t b = post.head?.getD b := by
  induction t with
  | nil => intro b _; exact ⟨[], [], rfl, fun z hz => (by cases hz), fun z hz => (by cases hz), rfl⟩
  | node c x k ih =>
    intro b hs
    have hs' : Srt f ((k false).ino ++ x :: (k true).ino) := hs
    obtain ⟨a1, a2, a3⟩ := List.pairwise_append.1 hs'
    obtain ⟨a4, a5⟩ := List.pairwise_cons.1 a2
    by_cases h : τ ≤ (f x).t
    · obtain ⟨pre, post, e1, e2, e3, e4⟩ := ih false x a1
      refine ⟨pre, post ++ x :: (k true).ino, by show (k false).ino ++ _ = _; rw [e1, List.append_assoc], e2, fun z hz => ?_, ?_⟩
      · rcases List.mem_append.1 hz with hz | hz
        · exact e3 z hz
        · rcases List.mem_cons.1 hz with rfl | hz
          · exact h
          · have := a4 z hz; unfold kle at this; omega
      · unfold atF
        rw [if_pos h, e4]
        cases post <;> rfl
    · obtain ⟨pre, post, e1, e2, e3, e4⟩ := ih true b a5
      refine ⟨(k false).ino ++ x :: pre, post, by show (k false).ino ++ x :: (k true).ino = _; rw [e1, List.append_assoc]; rfl, fun z hz => ?_, e3, ?_⟩
      · rcases List.mem_append.1 hz with hz | hz
        · have := a3 z hz x (by simp); unfold kle at this; omega
        · rcases List.mem_cons.1 hz with rfl | hz
          · omega
          · exact e2 z hz
      · unfold atF
        rw [if_neg h, e4]
/-- how many keys are below a time -/
def cntB (f : Nat → Nd) (τ : Int) (l : List Nat) : Nat := l.countP fun z => decide ((f z).t < τ)
theorem cntB_put {s s' : TS} {T T' : Sh} {kt ks : Int} {x : Nat} {pre post : List Nat} {τ : Int} (r : PutRes s T kt ks s' T' x pre post) (lt : ∀ z, z ∈ T.ino → z < s.sz) (nd : T'.ino.Nodup) :
    cntB s'.f τ T'.ino = cntB s.f τ T.ino + (if kt < τ then 1 else 0) := by
  unfold cntB
  rw [r.ino', r.ino, List.countP_append, List.countP_cons, List.countP_append]
  have hne : ∀ z, z ∈ pre ++ post → z ≠ x := fun z hz e => by
    rw [r.ino'] at nd
    exact (sub_nodup nd).2 (e ▸ hz)
  have h : ∀ l : List Nat, (∀ z, z ∈ l → z ∈ pre ++ post) → l.countP (fun z => decide ((s'.f z).t < τ)) = l.countP (fun z => decide ((s.f z).t < τ)) := fun l hl =>
    List.countP_congr fun z hz => by rw [(r.old z (lt z (by rw [r.ino]; exact hl z hz)) (hne z (hl z hz))).1]
  rw [h pre (fun z hz => by simp [hz]), h post (fun z hz => by simp [hz]), r.key.1]
  by_cases e : kt < τ <;> simp [e] <;> omega
theorem cntB_split {f : Nat → Nd} {τ : Int} {pre post : List Nat} (h1 : ∀ z, z ∈ pre → (f z).t < τ) (h2 : ∀ z, z ∈ post → τ ≤ (f z).t) : cntB f τ (pre ++ post) = pre.length := by
  unfold cntB
  rw [List.countP_append, List.countP_eq_length.2 (fun z hz => by simpa using h1 z hz), List.countP_eq_zero.2 (fun z hz => by have := h2 z hz; simp; omega)]
  rfl
def A1Rel (w0 : World) (g gl N : Nat) (τ : Int) (m : Nat) (s6 s24 : Value) (wr : World) : Prop :=
  ∃ (k : Nat) (s : TS) (T : Sh) (fl : List Nat), k ≤ N ∧ m = N - k ∧ s24 = .int .i64 k ∧ s6 = .int .i64 (cntB s.f τ T.ino : Nat) ∧ TSt w0 wr g gl s T fl ∧ T.ino.length = k ∧ s.most = 200 ∧ TnB s k
def A2Rel (w0 : World) (g gl : Nat) (s : TS) (T : Sh) (fl : List Nat) (post : List Nat) (HB : Nat) (m : Nat) (s10 s11 : Value) (wr : World) : Prop :=
  ∃ done rest, post = done ++ rest ∧ m = rest.length ∧ s10 = .bool (decide (rest ≠ [])) ∧ s11 = .int .i64 (done.length : Nat) ∧ TSt w0 wr g gl s T fl ∧ Blk wr HB 29 (two_ (hd rest : Nat) (hturn s (hd rest)))
set_option maxHeartbeats 4000000 in
set_option maxRecDepth 100000 in
theorem treeAt_big (A : Option Addr) (N cap : Nat) (hN : 200 < N) (hmx : N ≤ maxLen) (τ : Int) (w : World) : Calls Try.prog 5 #[.slice A N cap, .int .i64 τ] w fun e w' => e = .returned (.bool true) ∧ Below w.heap.size w w' := by
  have d : decide (((N : Nat) : Int) > 200) = true := decide_eq_true (by omega)
  go_enter Try.func5, Try.ntmps5
  go_wp2_with fail
  refine (fixed_any w).mono ?_
  rintro e w1 ⟨rfl, b1⟩
  have HB := Lib.hid b1
  clear b1
  go_wp2_with fail
  go_ret
  exact ⟨rfl, HB.out⟩
set_option maxHeartbeats 4000000 in
set_option maxRecDepth 100000 in
theorem treeAt_any (A : Option Addr) (N cap : Nat) (hN : N ≤ 200) (τ : Int) (w : World) (hin : KeysIn w w.heap.size A N) : Calls Try.prog 5 #[.slice A N cap, .int .i64 τ] w fun e w' => e = .returned (.bool true) ∧ Below w.heap.size w w' := by
  have d : decide (((N : Nat) : Int) > 200) = false := decide_eq_false (by omega)
  have HK := Lib.hid hin
  clear hin
  go_enter Try.func5, Try.ntmps5
  go_wp2_with fail
  refine (fixed_any w).mono ?_
  rintro e V1 ⟨rfl, b1⟩
  go_wp2_with fail
  refine (New_some 200 V1 (by omega)).mono ?_
  rintro e W0 ⟨g, gl, rfl, T0, hg, hgl, b0⟩
  have s1 := b1.size
  have S := Lib.hid (show A1Rel w g gl N τ N (.int .i64 (0 : Nat)) (.int .i64 (0 : Nat)) W0 from ⟨0, newS 200, .nil, [], by omega, rfl, rfl, rfl, ⟨full_new (by omega) T0, b1.trans (b0.mono s1), by omega, by omega⟩, rfl, rfl, TnB.new 200⟩)
  clear T0 b0 b1 hg hgl s1 d
  go_wp2_with fail
  go_loopg [6, 24] N (fun m s6 s24 wr => A1Rel w g gl N τ m s6 s24 wr)
  case atStart => exact S.out
  case round =>
    obtain ⟨k, s, T, fl, hk, rfl, rfl, rfl, HT, hlen, hmost, hTn⟩ := hrel
    clear S
    have HI := Lib.hid (And.intro hlen (And.intro hmost hTn))
    clear hlen hmost hTn
    have hcb : cntB s.f τ T.ino ≤ k := by rw [← HI.out.1]; exact List.countP_le_length
    by_cases hlt : k < N
    · obtain ⟨x, rfl, kt, ks, hat⟩ := HK.out k hlt
      obtain ⟨q0, q1⟩ := hat _ HT.b
      clear hat
      go_upto_region 10 with fail
      have hbx := Blk.new wr 27 #[.int .i64 kt, .int .i64 ks]
      have H2 := HT.alloc (.cells #[.int .i64 kt, .int .i64 ks] 27)
      have hgg := HT.t.m.b.lt
      have hggl := HT.t.m.n.lt
      clear HT q0 q1
      generalize wr.alloc (.cells #[.int .i64 kt, .int .i64 ks] 27) = W2 at hbx H2 ⊢
      generalize wr.heap.size = kb at hbx hgg hggl ⊢
      obtain ⟨x0, x1⟩ := two_cells hbx
      go_wp2_with fail
      refine (Put_yes g gl s T fl W2 H2.t kt ks (by rw [HI.out.1, HI.out.2.1]; omega) (HI.out.2.2.bnd (by omega))).mono ?_
      rintro e W3 ⟨s1, T1, fl1, x', pre1, post1, rfl, F1, R1, O1⟩
      have hl1 : T1.ino.length = k + 1 := by
        have h1 := HI.out.1
        rw [R1.ino] at h1
        rw [R1.ino']
        simp only [List.length_append, List.length_cons] at h1 ⊢
        omega
      have hm1 := R1.most.trans HI.out.2.1
      have ht1 := HI.out.2.2.put R1 (by omega)
      have hcnt := cntB_put (τ := τ) R1 H2.t.lt F1.rb.nd
      have hb3 := O1.blk hbx (by rintro (e | e) <;> omega)
      have H3 := Lib.hid (H2.goes F1 O1)
      have HE := Lib.hid (And.intro hl1 (And.intro hm1 ht1))
      clear H2 F1 R1 O1 hl1 hm1 ht1 x0 x1 hbx
      generalize hnd s1 x' = hv
      generalize cntB s.f τ T.ino = cb at hcnt hcb ⊢
      obtain ⟨x0, x1⟩ := two_cells hb3
      by_cases hkt : kt < τ
      · rw [if_pos hkt] at hcnt
        have HC := Lib.hid hcnt
        clear hcnt
        go_wp2_with fail
        go_roundg (N - (k + 1))
        case measure => omega
        case rel => exact ⟨k + 1, s1, T1, _, by omega, rfl, by go_num, by rw [HC.out]; go_num, H3.out, HE.out.1, HE.out.2.1, by have := HE.out.2.2; exact this⟩
      · rw [if_neg hkt] at hcnt
        have HC := Lib.hid hcnt
        clear hcnt
        go_wp2_with fail
        go_roundg (N - (k + 1))
        case measure => omega
        case rel => exact ⟨k + 1, s1, T1, _, by omega, rfl, by go_num, by rw [HC.out]; rfl, H3.out, HE.out.1, HE.out.2.1, by have := HE.out.2.2; exact this⟩
    · have hkN : k = N := by omega
      subst hkN
      obtain ⟨pre, post, hT, hp1, hp2, hat⟩ := at_split (f := s.f) (τ := τ) T 0 HT.t.srt
      have hat' : atF s.f τ T 0 = hd post := hat
      have hcs : cntB s.f τ T.ino = pre.length := by rw [hT]; exact cntB_split hp1 hp2
      have hll : pre.length + post.length = k := by rw [← HI.out.1, hT, List.length_append]
      have CA := At_any g gl s T wr HT.t.rd τ
      rw [hat', hd_ne HT.t (l := post) (fun z hz => by rw [hT]; simp [hz])] at CA
      have hok : decide (((pre.length : Nat) : Int) < ((k : Nat) : Int)) = decide (post ≠ []) := by
        cases post with
        | nil =>
          simp only [List.length_nil] at hll
          rw [decide_eq_false (by omega)]; rfl
        | cons a l =>
          simp only [List.length_cons] at hll
          rw [decide_eq_true (by omega)]; rfl
      rw [hcs]
      have hnd0 : hnd s (hd post) = .agg (two_ (hd post : Nat) (hturn s (hd post))) := rfl
      have HCA := Lib.hid CA
      have HF := Lib.hid (And.intro hT (And.intro hp2 (And.intro hll hok)))
      have HTT := Lib.hid HT
      obtain ⟨ok, hokk⟩ : ∃ ok, decide (post ≠ []) = ok := ⟨_, rfl⟩
      have hok2 : decide (((pre.length : Nat) : Int) < ((k : Nat) : Int)) = ok := by rw [hok, hokk]
      have HOK := Lib.hid hokk
      have hpk : pre.length ≤ k := by omega
      rw [hokk, hnd0] at HCA
      clear CA hat hat' hcs hp1 hp2 hT hok hnd0 HT hokk hcb
      have hgg := HTT.out.t.m.b.lt
      have hggl := HTT.out.t.m.n.lt
      obtain ⟨p0, hp0⟩ : ∃ p, ((hd post : Nat) : Int) = p := ⟨_, rfl⟩
      obtain ⟨p1, hp1⟩ : ∃ p, hturn s (hd post) = p := ⟨_, rfl⟩
      rw [hp0, hp1] at HCA
      have HPP := Lib.hid (And.intro hp0 hp1)
      clear hp0 hp1
      go_wp2_with fail
      refine HCA.out.mono ?_
      rintro e W3 ⟨rfl, b3⟩
      have H3 := (HTT.out.call b3).alloc (.cells #[.int .i64 p0, .int .i64 p1] 29)
      have h3 := Blk.new W3 29 (two_ p0 p1)
      have s3 := b3.size
      have hw3 := HTT.out.b.size
      unfold two_ at h3
      clear HTT HCA b3
      unfold two_
      go_upto_region 15 with fail
      generalize W3.alloc (.cells #[.int .i64 p0, .int .i64 p1] 29) = W4 at H3 h3 ⊢
      have hHB : W3.heap.size ≠ g ∧ W3.heap.size ≠ gl ∧ w.heap.size ≤ W3.heap.size := by omega
      generalize W3.heap.size = HB at h3 hHB ⊢
      clear hgg hggl s3 hw3
      have h3' : Blk W4 HB 29 (two_ (hd post : Nat) (hturn s (hd post))) := by rw [HPP.out.1, HPP.out.2]; exact h3
      have S := Lib.hid (show A2Rel w g gl s T fl post HB post.length (.bool ok) (.int .i64 (0 : Nat)) W4 from ⟨[], post, rfl, rfl, by rw [HOK.out], rfl, H3, h3'⟩)
      have H3' := H3
      clear h3 h3' H3
      have hcase : (ok = true ∧ pre.length < k) ∨ (ok = false ∧ ¬ pre.length < k) := by
        by_cases e : pre.length < k
        · exact .inl ⟨by rw [← hok2]; exact decide_eq_true (by omega), e⟩
        · exact .inr ⟨by rw [← hok2]; exact decide_eq_false (by omega), e⟩
      rcases hcase with ⟨rfl, hlk⟩ | ⟨rfl, hlk⟩
      all_goals
        have HWAY := Lib.hid (Heights_any g gl s T)
        have hways : T.most ≤ 2 * T.least + 1 := by obtain ⟨b, hb⟩ := H3'.t.rb.bal; exact ways hb H3'.t.rb.nrr H3'.t.rb.red
        have hml := most_len T
        have HW := Lib.hid hways
        clear hways H3'
        go_wp2_with fail
        go_loopg [10, 11] post.length (fun m s10 s11 wr => A2Rel w g gl s T fl post HB m s10 s11 wr)
        case atStart => exact S.out
        case round =>
          obtain ⟨done, rest, hpo, rfl, rfl, rfl, HT, hbx⟩ := hrel
          clear S
          have hlp : done.length + rest.length = post.length := by rw [hpo, List.length_append]
          cases rest with
          | nil =>
            have HT2 := Lib.hid HT
            have hdl : done.length = post.length := by simpa using hlp
            have hsum : ((done.length : Nat) : Int) + ((pre.length : Nat) : Int) = ((k : Nat) : Int) := by omega
            rw [show decide (([] : List Nat) ≠ []) = false from rfl]
            have HH := Lib.hid (HWAY.out wr HT.t.rd (by have := HF.out.2.2.1; have h1 := HI.out.1; omega))
            have hk2 : k ≤ 200 := hN
            have hm2 : T.most ≤ 200 := by have := HI.out.1; omega
            have hl2 : T.least ≤ 200 := by have := HI.out.1; omega
            generalize T.most = mo at HH HW hm2
            generalize T.least = le at HH HW hl2
            have hmo : decide (((mo : Nat) : Int) ≤ 2 * ((le : Nat) : Int) + 1) = true := decide_eq_true (by have := HW.out; omega)
            have hmo2 : ((mo : Nat) : Int) ≤ 2 * ((le : Nat) : Int) + 1 := by have := HW.out; omega
            generalize done.length = n at *
            generalize pre.length = c at *
            clear HT hbx hpo hlp hml
            go_wp2_with fail
            refine HH.out.mono ?_
            rintro e W5 ⟨rfl, rfl⟩
            go_wp2_with fail
            go_ret
            exact ⟨rfl, HT2.out.b⟩
          | cons x rest =>
            have hxT : x ∈ T.ino := by rw [HF.out.1, hpo]; simp
            have hsp : T.ino = (pre ++ done) ++ x :: rest := by rw [HF.out.1, hpo, List.append_assoc]
            rw [show decide (x :: rest ≠ []) = true from rfl]
            have hx0 := HT.t.rd.ne0 hxT
            have e1 : hd (x :: rest) = x := rfl
            have e2 : hturn s x = (s.f x).turn := by unfold hturn; rw [if_neg hx0]
            rw [e1, e2] at hbx
            have C1 := fun W hW => Key_row (w := W) (g := g) (gl := gl) (s := s) (T := T) (fl := fl) hW hxT
            have C2 := fun W hW => Next_row (w := W) (g := g) (gl := gl) (s := s) (T := T) (fl := fl) hW hsp
            have hτ := HF.out.2.1 x (by rw [hpo]; simp)
            have hn0 : hnd s (hd rest) = .agg #[.int .i64 (hd rest : Nat), .int .i64 (hturn s (hd rest))] := rfl
            simp only [hn0] at C2
            obtain ⟨tx, htx⟩ : ∃ t, (s.f x).turn = t := ⟨_, rfl⟩
            obtain ⟨kt, hkt⟩ : ∃ t, (s.f x).t = t := ⟨_, rfl⟩
            obtain ⟨ks, hks⟩ : ∃ t, (s.f x).s = t := ⟨_, rfl⟩
            rw [htx] at hbx
            rw [hkt] at hτ
            simp only [htx, hkt, hks] at C1 C2
            have HC1 := Lib.hid C1
            have HC2 := Lib.hid C2
            have HT2 := Lib.hid HT
            have HBX := Lib.hid hbx
            have HPO := Lib.hid hpo
            obtain ⟨x0, x1⟩ := two_cells hbx
            have hdn : done.length ≤ 10000 := by have := HI.out.1; omega
            clear C1 C2 hn0 htx hkt hks hsp HT hbx hpo e1 e2 hxT hx0
            obtain ⟨q0, hq0⟩ : ∃ q, ((hd rest : Nat) : Int) = q := ⟨_, rfl⟩
            obtain ⟨q1, hq1⟩ : ∃ q, hturn s (hd rest) = q := ⟨_, rfl⟩
            obtain ⟨ok, hok⟩ : ∃ q, decide (rest ≠ []) = q := ⟨_, rfl⟩
            simp only [hq0, hq1, hok] at HC2
            have HQ := Lib.hid (And.intro hq0 (And.intro hq1 hok))
            clear hq0 hq1 hok
            go_wp2_with fail
            refine (HC1.out wr HT2.out.t).mono ?_
            rintro e W3 ⟨rfl, b3⟩
            have H3 := (HT2.out.call b3).alloc (.cells #[.int .i64 kt, .int .i64 ks] 27)
            have h3 := (HBX.out.below b3 HBX.out.lt).alloc (.cells #[.int .i64 kt, .int .i64 ks] 27)
            have k3 := Blk.new W3 27 #[.int .i64 kt, .int .i64 ks]
            clear HT2 HBX b3 x0 x1 HC1
            go_upto_region 21 with fail
            generalize W3.alloc (.cells #[.int .i64 kt, .int .i64 ks] 27) = W4 at H3 h3 k3 ⊢
            generalize W3.heap.size = kb at k3 ⊢
            obtain ⟨y0, y1⟩ := two_cells k3
            have hτ' : decide (kt < τ) = false := decide_eq_false (by omega)
            have hτ2 : ¬ kt < τ := by omega
            obtain ⟨x0, x1⟩ := two_cells h3
            have H4 := Lib.hid H3
            have HBX := Lib.hid h3
            clear H3 h3 k3 hτ
            obtain ⟨n, hnn⟩ : ∃ n, done.length = n := ⟨_, rfl⟩
            have HND := Lib.hid hnn
            rw [hnn] at hdn hlp ⊢
            clear hnn
            go_wp2_with fail
            refine (HC2.out W4 H4.out.t).mono ?_
            rintro e W5 ⟨rfl, b5⟩
            have H5 := H4.out.call b5
            have h5 := HBX.out.below b5 HBX.out.lt
            have H6 := Lib.hid ((H5.far (p := ⟨HB, 0, none⟩) hHB.1 hHB.2.1 hHB.2.2 (.int .i64 q0)).far (p := ⟨HB, 1, none⟩) hHB.1 hHB.2.1 hHB.2.2 (.int .i64 q1))
            have h6 := Lib.hid (two_set h5 q0 q1)
            have f5 := h5.frozen
            clear x0 x1 y0 y1
            obtain ⟨x0, x1⟩ := two_cells h5
            clear H5 h5 H4 HBX b5 HC2
            go_wp2_with fail
            go_roundg rest.length
            case measure => simp
            case rel => exact ⟨done ++ [x], rest, by rw [HPO.out]; simp, rfl, by rw [HQ.out.2.2], by rw [List.length_append, HND.out]; go_num, H6.out, by rw [HQ.out.1, HQ.out.2.1]; exact h6.out⟩
theorem treeAt_walk (A : Option Addr) (N cap : Nat) (w : World) (hr : Leaf.Row w [.int .i64, .int .i64] A N) (τ : Int) (hτ : -9223372036854775808 ≤ τ ∧ τ ≤ 9223372036854775807) : Calls Try.prog 5 #[.slice A N cap, .int .i64 τ] w fun e w' => e = .returned (.bool true) ∧ Below w.heap.size w w' := by
  by_cases h : 200 < N
  · exact treeAt_big A N cap h (len_in hr) τ w
  · exact treeAt_any A N cap (by omega) τ w (keys_of hr)
end Go.Proofs.Ytfoigflgglpobaa.Tr
