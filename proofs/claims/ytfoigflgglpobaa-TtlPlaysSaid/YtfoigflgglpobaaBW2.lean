/- Lemmas and contracts for RowTtlPlays, merged by program out of Tdq, Tda, Tdb. No condition. -/
import Derived.Test.YtfoigflgglpobaaBW1
import Derived.Test.YtfoigflgglpobaaBW0
set_option linter.unusedVariables false
set_option linter.unusedSimpArgs false
/- The contract of tree's Put where there is room. No condition but that memory holds a tree. -/
set_option linter.unusedVariables false
set_option linter.unusedSimpArgs false
namespace Go.Proofs.Ytfoigflgglpobaa.Tr
open Go.RowKit Go.Proofs.Ytfoigflgglpobaa.Aid
def PutPost (g gl : Nat) (s : TS) (T : Sh) (kt ks : Int) (w : World) (e : Ending) (w' : World) : Prop :=
  ∃ s' T' fl' x pre post, e = .returned (.tuple #[hnd s' x, .int .i64 0]) ∧ Full w' g gl s' T' fl' ∧ PutRes s T kt ks s' T' x pre post ∧ Only (TF g gl) w w'
/-- what stands while Put goes down -/
structure PMid (g gl : Nat) (s2 : TS) (kt ks : Int) (K H : Nat) (w W : World) : Prop where
  m : IsT W g gl s2
  o : Only (TF g gl) w W
  k : Blk W K 27 #[.int .i64 kt, .int .i64 ks]
  h : Blk W H 29 (two_ 0 0)
theorem PMid.call {g gl : Nat} {s2 : TS} {kt ks : Int} {K H : Nat} {w W W' : World} (h : PMid g gl s2 kt ks K H w W) (b : Below W.heap.size W W') : PMid g gl s2 kt ks K H w W' := ⟨h.m.below b, h.o.below b, h.k.below b h.k.lt, h.h.below b h.h.lt⟩
theorem PMid.drew {g gl : Nat} {s2 : TS} {kt ks : Int} {K H : Nat} {w W : World} (h : PMid g gl s2 kt ks K H w W) : PMid g gl s2 kt ks K H w W.drew := ⟨h.m.drew, h.o.drew, h.k.drew, h.h.drew⟩
theorem PMid.cells {g gl : Nat} {s2 : TS} {kt ks : Int} {K H : Nat} {w W : World} (h : PMid g gl s2 kt ks K H w W) {y : Nat} (hy : y < s2.sz) {ty sy : Int} (e : (s2.f y).t = ty ∧ (s2.f y).s = sy) :
    W.cell? ⟨g, 0, none⟩ = some (.slice (some ⟨gl, 0, none⟩) s2.sz s2.cap) ∧ W.cell? ⟨K, 0, none⟩ = some (.int .i64 kt) ∧ W.cell? ⟨K, 1, none⟩ = some (.int .i64 ks) ∧ W.cell? ⟨gl, y * 8, none⟩ = some (.int .i64 ty) ∧ W.cell? ⟨gl, y * 8 + 1, none⟩ = some (.int .i64 sy) := by
  refine ⟨h.m.hc.1, h.k.cell 0, h.k.cell 1, ?_, ?_⟩
  · rw [← e.1]; exact h.m.n.cell y hy 0 (by omega)
  · rw [← e.2]; exact h.m.n.cell y hy 1 (by omega)
def Cx.sd : Cx → Bool
  | .top => false
  | .fr _ _ s _ _ => s
def PRel (g gl : Nat) (s2 : TS) (T : Sh) (kt ks : Int) (b : Nat) (K H : Nat) (w : World) (m : Nat) (s7 s8 s9 : Value) (wr : World) : Prop :=
  ∃ k t, Desc s2.f s2.root T kt ks b k t ∧ t.ino.length ≤ m ∧ s7 = .int .i64 (k.up : Nat) ∧ s8 = .bool k.sd ∧ s9 = .int .i64 (t.root : Nat) ∧ PMid g gl s2 kt ks K H w wr
theorem ord_kle {f : Nat → Nd} {y : Nat} {kt ks : Int} : decide (0 ≤ ordK kt ks (f y).t (f y).s) = true ↔ kle f y kt ks := by
  rw [decide_eq_true_iff, ordK_ge]; unfold kle; omega
set_option maxHeartbeats 2000000 in
set_option maxRecDepth 100000 in
theorem Put_yes (g gl : Nat) (s : TS) (T : Sh) (fl : List Nat) (w : World) (h : Full w g gl s T fl) (kt ks : Int) (hn : T.ino.length < s.most) (htn : ∀ z, z < s.sz → -4611686018427387904 ≤ (s.f z).turn ∧ (s.f z).turn ≤ 4611686018427387904) :
    Calls Try.prog 13 #[.pointer (some ⟨g, 0, none⟩), .agg #[.int .i64 kt, .int .i64 ks]] w (PutPost g gl s T kt ks w) := by
  have e1 : (w.alloc (.cells #[.int .i64 kt, .int .i64 ks] 27)).heap.size = w.heap.size + 1 := by simp
  have hgl := h.m.n.lt
  have hg := h.m.b.lt
  have hkk := (Blk.new w 27 #[.int .i64 kt, .int .i64 ks]).alloc (.cells (two_ 0 0) 29)
  have h2 := Blk.new (w.alloc (.cells #[.int .i64 kt, .int .i64 ks] 27)) 29 (two_ 0 0)
  rw [e1] at h2
  have B : Below w.heap.size w ((w.alloc (.cells #[.int .i64 kt, .int .i64 ks] 27)).alloc (.cells (two_ 0 0) 29)) := ((Below.refl w.heap.size w).alloc (Nat.le_refl _) _).alloc (by rw [e1]; omega) _
  have HA := Lib.hid (h.below B)
  have HO := Lib.hid ((Only.refl (TF g gl) w).below B)
  have hb : ¬ TF g gl (w.heap.size + 1) := by rintro (e | e) <;> omega
  have hkb : ¬ TF g gl w.heap.size := by rintro (e | e) <;> omega
  have HF := Lib.hid h
  have hnn : s.n ≤ 10000 := by have := h.n; have := h.cap; omega
  have HTN := Lib.hid htn
  clear h B e1 htn
  go_enter Try.func13, Try.ntmps13
  go_upto_region 1 with fail
  change Blk ((w.alloc (.cells #[.int .i64 kt, .int .i64 ks] 27)).alloc (.cells #[.int .i64 0, .int .i64 0] 29)) _ _ _ at h2 hkk
  change Hid (Full ((w.alloc (.cells #[.int .i64 kt, .int .i64 ks] 27)).alloc (.cells #[.int .i64 0, .int .i64 0] 29)) _ _ _ _ _) at HA
  change Hid (Only _ w ((w.alloc (.cells #[.int .i64 kt, .int .i64 ks] 27)).alloc (.cells #[.int .i64 0, .int .i64 0] 29))) at HO
  generalize (w.alloc (.cells #[.int .i64 kt, .int .i64 ks] 27)).alloc (.cells #[.int .i64 0, .int .i64 0] 29) = W at h2 hkk HA HO ⊢
  have HBS := Lib.hid (show w.heap.size ≤ w.heap.size + 1 by omega)
  generalize w.heap.size + 1 = b at h2 hb HBS ⊢
  generalize hKK : w.heap.size = K at hkk hkb ⊢
  clear hKK
  go_wp2_with fail
  refine (place_yes g gl s T fl W HA.out hn).mono ?_
  rintro e W1 ⟨x, s1, fl1, rfl, T1, O1, P⟩
  have h3 := O1.blk h2 hb
  have hk3 := O1.blk hkk hkb
  have HO1 := Lib.hid (HO.out.then O1)
  have HP := Lib.hid P
  have hx := P.lt
  have c0 : ¬ ((x : Nat) : Int) = 0 := by have := P.x0; omega
  have c0b := beq_i c0
  have hs1 := T1.sz
  have q0 := T1.hc.1
  obtain ⟨tn, htn⟩ : ∃ t, (s1.f x).turn = t := ⟨_, rfl⟩
  have btn : -4611686018427387904 ≤ tn ∧ tn ≤ 4611686018427387904 := by
    rw [← htn, P.fx]
    split
    · rename_i e; exact HTN.out x e
    · omega
  have bt1 := btn.1
  have bt2 := btn.2
  have x0 : W1.cell? ⟨gl, x * 8, none⟩ = _ := T1.n.cell x hx 0 (by omega)
  have x1 := T1.n.cell x hx 1 (by omega)
  have x2 := T1.n.cell x hx 2 (by omega)
  have x3 := T1.n.cell x hx 3 (by omega)
  have x4 := T1.n.cell x hx 4 (by omega)
  have x5 := T1.n.cell x hx 5 (by omega)
  have x6 := T1.n.cell x hx 6 (by omega)
  have x7 : W1.cell? ⟨gl, x * 8 + 7, none⟩ = some (.int .i64 tn) := by rw [← htn]; exact T1.t hx
  simp only [Nd.cells] at x0 x1 x2 x3 x4 x5 x6
  have k0 : W1.cell? ⟨K, 0, none⟩ = some (.int .i64 kt) := hk3.cell 0
  have k1 : W1.cell? ⟨K, 1, none⟩ = some (.int .i64 ks) := hk3.cell 1
  have fz := T1.n.frozen
  have HTT := Lib.hid htn
  have H1 := Lib.hid T1
  have hKgl : K ≠ gl := fun e => hkb (.inr e)
  have hbgl : b ≠ gl := fun e => hb (.inr e)
  have hKg : K ≠ g := fun e => hkb (.inl e)
  have hbg : b ≠ g := fun e => hb (.inl e)
  clear P O1 T1 htn h2 hkk HA HO btn
  go_upto_region 6 with fail
  go_region
  all_goals
    have eN : ((((((((W1.setCell ⟨gl, x * 8, none⟩ (.int .i64 kt)).setCell ⟨gl, x * 8 + 1, none⟩ (.int .i64 ks)).setCell ⟨gl, x * 8 + 2, none⟩ (.int .i64 0)).setCell ⟨gl, x * 8 + 3, none⟩ (.int .i64 0)).setCell ⟨gl, x * 8 + 4, none⟩ (.int .i64 0)).setCell ⟨gl, x * 8 + 5, none⟩ (.bool true)).setCell ⟨gl, x * 8 + 6, none⟩ (.bool true)).setCell ⟨gl, x * 8 + 7, none⟩ (.int .i64 (tn + 1))) = node8 W1 gl x (newNd kt ks (tn + 1)) := rfl
    rw [eN]
    clear eN
    have T2 := (H1.out.node hx (newNd kt ks (tn + 1))).drew
    have O2 := (node8_only (n := x) (a := newNd kt ks (tn + 1)) HO1.out (gl := gl) (.inr rfl)).drew
    have hk4' : Blk (node8 W1 gl x (newNd kt ks (tn + 1))) K 27 #[.int .i64 kt, .int .i64 ks] := by unfold Blk; rw [node8_far hKgl]; exact hk3
    have h4' : Blk (node8 W1 gl x (newNd kt ks (tn + 1))) b 29 (two_ 0 0) := by unfold Blk; rw [node8_far hbgl]; exact h3
    have hk4 := hk4'.drew
    have h4 := h4'.drew
    clear hk4' h4' H1 HO1 hk3 h3 x0 x1 x2 x3 x4 x5 x6 x7 k0 k1 fz q0
    generalize (node8 W1 gl x (newNd kt ks (tn + 1))).drew = W2 at T2 O2 hk4 h4 ⊢
    have q2 := T2.hc.2.2.1
    have fg := T2.b.frozen
    simp only at q2
    have hn1 : s1.n ≤ 10000 := by have := HP.out.same.2.1; omega
    have T3 := T2.setN (s1.n + 1)
    have O3 := O2.setCell (p := ⟨g, 2, none⟩) (.inl (.inl rfl)) (.int .i64 (s1.n + 1 : Nat))
    have hk5 := hk4.far (p := ⟨g, 2, none⟩) hKg (.int .i64 (s1.n + 1 : Nat))
    have h5 := h4.far (p := ⟨g, 2, none⟩) hbg (.int .i64 (s1.n + 1 : Nat))
    have en : ((s1.n + 1 : Nat) : Int) = (s1.n : Int) + 1 := by omega
    rw [en] at T3 O3 hk5 h5
    clear T2 O2 hk4 h4 en
    go_upto_region 8 with fail
    clear q2 fg
    generalize W2.setCell ⟨g, 2, none⟩ (.int .i64 ((s1.n : Int) + 1)) = W3 at T3 O3 hk5 h5 ⊢
    have T3' : IsT W3 g gl (s1.filled x kt ks) := by
      unfold TS.filled; rw [HTT.out]; exact T3
    clear T3
    have hrb := put_rb (kt := kt) (ks := ks) HF.out HP.out
    obtain ⟨bb, D0⟩ := Desc.start (kt := kt) (ks := ks) hrb
    have HSRT := Lib.hid (put_srt (kt := kt) (ks := ks) HF.out HP.out)
    have q1 : W3.cell? ⟨g, 1, none⟩ = some (.int .i64 (T.root : Nat)) := by rw [← hrb.root]; exact T3'.hc.2.1
    have HLT : Hid (∀ z, z ∈ T.ino → z < (s1.filled x kt ks).sz) := Lib.hid fun z hz => Nat.lt_of_lt_of_le (HF.out.lt z hz) HP.out.sz
    have HXL : Hid (x < (s1.filled x kt ks).sz) := Lib.hid hx
    have hfresh : ∀ z, z = 0 ∨ z ∈ T.ino → z < (s1.filled x kt ks).sz := fun z hz => by
      rcases hz with rfl | hz
      · exact hz_pos hx
      · exact HLT.out z hz
    have PUT := Lib.hid (fun (k : Cx) (d : Desc (s1.filled x kt ks).f (s1.filled x kt ks).root T kt ks bb k .nil) => put_mdst HF.out HP.out d)
    have FIN := Lib.hid (fun (W : World) (q : (Nat → Nd) × Nat) (k : Cx) (d : Desc (s1.filled x kt ks).f (s1.filled x kt ks).root T kt ks bb k .nil) hm e => put_full (W := W) (q := q) HF.out HP.out d hm e)
    clear hrb
    generalize s1.filled x kt ks = s2 at T3' D0 HSRT HLT HXL PUT FIN hfresh
    have S := Lib.hid (show PRel g gl s2 T kt ks bb K b w T.ino.length (.int .i64 0) (.bool false) (.int .i64 (T.root : Nat)) W3 from ⟨.top, T, D0, Nat.le_refl _, rfl, rfl, rfl, T3', O3, hk5, h5⟩)
    clear D0 T3' O3 hk5 h5
    go_wp2_with fail
    go_loopg [7, 8, 9] T.ino.length (fun m s7 s8 s9 wr => PRel g gl s2 T kt ks bb K b w m s7 s8 s9 wr)
    case atStart => exact S.out
    case round =>
      obtain ⟨k, t, D, hm, rfl, rfl, rfl, PM⟩ := hrel
      have HMM := Lib.hid hm
      have HD := Lib.hid D
      have HPM := Lib.hid PM
      clear hm q1 S
      cases t with
      | nil =>
        have hroot : (Sh.nil).root = 0 := rfl
        rw [hroot]
        obtain ⟨MD, hI⟩ := PUT.out k D
        have HMD := Lib.hid MD
        have hup := hfresh k.up (by
          by_cases e : k.up = 0
          · exact .inl e
          · exact .inr (up_mem D e))
        have hx2 := HXL.out
        have q0 := PM.m.hc.1
        have cu := PM.m.u hx2
        have fz := PM.m.n.frozen
        have hs2 := PM.m.sz
        have T4 : IsT (wr.setCell ⟨gl, x * 8 + 4, none⟩ (.int .i64 (k.up : Nat))) g gl { s2 with f := setU s2.f x k.up } := PM.m.setU hx2 k.up
        have O4 := PM.o.setCell (p := ⟨gl, x * 8 + 4, none⟩) (.inl (.inr rfl)) (.int .i64 (k.up : Nat))
        have h6 := PM.h.far (p := ⟨gl, x * 8 + 4, none⟩) hbgl (.int .i64 (k.up : Nat))
        clear MD PM HPM hroot
        go_upto_region 14 with fail
        clear q0 cu fz
        generalize wr.setCell ⟨gl, x * 8 + 4, none⟩ (.int .i64 (k.up : Nat)) = W4 at T4 O4 h6 ⊢
        cases k with
        | top =>
          have hup0 : (Cx.top).up = 0 := rfl
          rw [hup0] at T4 ⊢
          have q1 := T4.hc.2.1
          have fg := T4.b.frozen
          simp only at q1
          have T5 : IsT (W4.setCell ⟨g, 1, none⟩ (.int .i64 x)) g gl (s2.with (putF s2.f s2.root .top x)) := T4.setRoot x
          have O5 := O4.setCell (p := ⟨g, 1, none⟩) (.inl (.inl rfl)) (.int .i64 x)
          have h6' := h6.far (p := ⟨g, 1, none⟩) hbg (.int .i64 x)
          clear D hup T4 O4 h6 hI hup0
          have HMEND := Lib.hid (mend_any g gl (s2.with (putF s2.f s2.root .top x)) _ T5 _ .top x _ HMD.out)
          clear T5
          go_wp2_with fail
          refine HMEND.out.mono ?_
          rintro e W6 ⟨rfl, q, T6, E6, O6⟩
          have h7 := O6.blk h6' hb
          have HO7 := Lib.hid (O5.then O6)
          obtain ⟨T', FU, PR⟩ := FIN.out W6 q .top HD.out T6 E6
          have HPR := Lib.hid PR
          obtain ⟨s4, hs4⟩ : ∃ s4, (s2.with (putF s2.f s2.root .top x)).with q = s4 := ⟨_, rfl⟩
          rw [hs4] at T6 FU HPR
          have hx4 : x < s4.sz := HPR.out.lt
          have hh := handle_some g gl s4 W6 T6 x hx4 HPR.out.x0
          obtain ⟨tt, htt⟩ : ∃ tt, (s4.f x).turn = tt := ⟨_, rfl⟩
          have hhnd : hnd s4 x = .agg #[.int .i64 x, .int .i64 tt] := by unfold hnd hturn; rw [if_neg HPR.out.x0, htt]
          rw [hhnd] at hh
          have HHH := Lib.hid hh
          have HHN := Lib.hid hhnd
          have HFU := Lib.hid FU
          have H7 := Lib.hid h7
          clear PR E6 O5 O6 hs4 hh htt hhnd h6' T6 FU HMEND h7
          go_wp2_with fail
          refine HHH.out.mono ?_
          rintro e W7 ⟨rfl, b7⟩
          have F7 := HFU.out.below b7
          have O7 := HO7.out.below b7
          have h8 := H7.out.below b7 H7.out.lt
          have hA := F7.below ((Below.refl W7.heap.size W7).alloc (Nat.le_refl _) (.cells (two_ x tt) 29))
          have oA := O7.alloc (.cells (two_ x tt) 29)
          have hN := Blk.new W7 29 (two_ x tt)
          have hB8 := h8.alloc (.cells (two_ x tt) 29)
          have hbN : b ≠ W7.heap.size := by have := h8.lt; omega
          clear F7 O7 h8 b7 HFU HO7 H7
          go_upto_region 19 with fail
          change Blk (W7.alloc (.cells #[.int .i64 x, .int .i64 tt] 29)) _ _ _ at hN
          change Blk (W7.alloc (.cells #[.int .i64 x, .int .i64 tt] 29)) _ _ _ at hB8
          change Full (W7.alloc (.cells #[.int .i64 x, .int .i64 tt] 29)) _ _ _ _ _ at hA
          change Only _ _ (W7.alloc (.cells #[.int .i64 x, .int .i64 tt] 29)) at oA
          generalize W7.alloc (.cells #[.int .i64 x, .int .i64 tt] 29) = W8 at hN hB8 hA oA ⊢
          generalize W7.heap.size = NB at hN hbN ⊢
          obtain ⟨n0, n1⟩ := two_cells hN
          obtain ⟨r0, r1⟩ := two_cells hB8
          have fN := hB8.frozen
          have HFA := Lib.hid hA
          have HOA := Lib.hid oA
          clear hA oA
          go_wp2_with fail
          clear r0 r1
          obtain ⟨r0, r1⟩ := two_cells (two_set hB8 x tt)
          have hF : Full ((W8.setCell ⟨b, 0, none⟩ (.int .i64 x)).setCell ⟨b, 1, none⟩ (.int .i64 tt)) g gl s4 T' _ := HFA.out.same fun i hi => (Below.heap_setCell _ ⟨b, 1, none⟩ _ i (fun e => hb (by rw [← show i = b from e]; exact hi))).trans (Below.heap_setCell _ ⟨b, 0, none⟩ _ i (fun e => hb (by rw [← show i = b from e]; exact hi)))
          have oF : Only (TF g gl) w ((W8.setCell ⟨b, 0, none⟩ (.int .i64 x)).setCell ⟨b, 1, none⟩ (.int .i64 tt)) := (HOA.out.setCell (p := ⟨b, 0, none⟩) (.inr (Nat.le_trans HBS.out (Nat.le_refl _))) _).setCell (p := ⟨b, 1, none⟩) (.inr (Nat.le_trans HBS.out (Nat.le_refl _))) _
          refine bodyPost_ret (v := .tuple #[.agg #[.int .i64 x, .int .i64 tt], .int .i64 0]) (by simp [results, Try.results13, go_sem, r0, r1]) rfl ⟨s4, T', _, x, _, _, ?_, hF, HPR.out, oF⟩
          rw [HHN.out]

        | fr c y sd sib kk =>
          have hup0 : (Cx.fr c y sd sib kk).up = y := rfl
          have hsd0 : (Cx.fr c y sd sib kk).sd = sd := rfl
          have hy0 : y ≠ 0 := D.rc.1
          rw [hup0] at T4 hup ⊢
          rw [hsd0]
          have d1 : ¬ ((y : Nat) : Int) = 0 := by omega
          have cy : W4.cell? ⟨gl, y * 8 + off sd, none⟩ = _ := T4.sd hup sd
          have fz := T4.n.frozen
          have T5 : IsT (W4.setCell ⟨gl, y * 8 + off sd, none⟩ (.int .i64 x)) g gl (s2.with (putF s2.f s2.root (.fr c y sd sib kk) x)) := T4.setS hup sd x
          have O5 := O4.setCell (p := ⟨gl, y * 8 + off sd, none⟩) (.inl (.inr rfl)) (.int .i64 x)
          have h6' := h6.far (p := ⟨gl, y * 8 + off sd, none⟩) hbgl (.int .i64 x)
          clear D O4 h6 hI hup0 hsd0
          go_wp2_with fail
          refine (child_any g gl _ W4 T4 y hup sd).mono ?_
          rintro e W5 ⟨rfl, rfl⟩
          clear T4
          have HMEND := Lib.hid (mend_any g gl (s2.with (putF s2.f s2.root (.fr c y sd sib kk) x)) _ T5 _ (.fr c y sd sib kk) x _ HMD.out)
          clear T5
          go_wp2_with fail
          refine HMEND.out.mono ?_
          rintro e W6 ⟨rfl, q, T6, E6, O6⟩
          have h7 := O6.blk h6' hb
          have HO7 := Lib.hid (O5.then O6)
          obtain ⟨T', FU, PR⟩ := FIN.out W6 q (.fr c y sd sib kk) HD.out T6 E6
          have HPR := Lib.hid PR
          obtain ⟨s4, hs4⟩ : ∃ s4, (s2.with (putF s2.f s2.root (.fr c y sd sib kk) x)).with q = s4 := ⟨_, rfl⟩
          rw [hs4] at T6 FU HPR
          have hx4 : x < s4.sz := HPR.out.lt
          have hh := handle_some g gl s4 W6 T6 x hx4 HPR.out.x0
          obtain ⟨tt, htt⟩ : ∃ tt, (s4.f x).turn = tt := ⟨_, rfl⟩
          have hhnd : hnd s4 x = .agg #[.int .i64 x, .int .i64 tt] := by unfold hnd hturn; rw [if_neg HPR.out.x0, htt]
          rw [hhnd] at hh
          have HHH := Lib.hid hh
          have HHN := Lib.hid hhnd
          have HFU := Lib.hid FU
          have H7 := Lib.hid h7
          clear PR E6 O5 O6 hs4 hh htt hhnd h6' T6 FU HMEND h7
          go_wp2_with fail
          refine HHH.out.mono ?_
          rintro e W7 ⟨rfl, b7⟩
          have F7 := HFU.out.below b7
          have O7 := HO7.out.below b7
          have h8 := H7.out.below b7 H7.out.lt
          have hA := F7.below ((Below.refl W7.heap.size W7).alloc (Nat.le_refl _) (.cells (two_ x tt) 29))
          have oA := O7.alloc (.cells (two_ x tt) 29)
          have hN := Blk.new W7 29 (two_ x tt)
          have hB8 := h8.alloc (.cells (two_ x tt) 29)
          have hbN : b ≠ W7.heap.size := by have := h8.lt; omega
          clear F7 O7 h8 b7 HFU HO7 H7
          go_upto_region 19 with fail
          change Blk (W7.alloc (.cells #[.int .i64 x, .int .i64 tt] 29)) _ _ _ at hN
          change Blk (W7.alloc (.cells #[.int .i64 x, .int .i64 tt] 29)) _ _ _ at hB8
          change Full (W7.alloc (.cells #[.int .i64 x, .int .i64 tt] 29)) _ _ _ _ _ at hA
          change Only _ _ (W7.alloc (.cells #[.int .i64 x, .int .i64 tt] 29)) at oA
          generalize W7.alloc (.cells #[.int .i64 x, .int .i64 tt] 29) = W8 at hN hB8 hA oA ⊢
          generalize W7.heap.size = NB at hN hbN ⊢
          obtain ⟨n0, n1⟩ := two_cells hN
          obtain ⟨r0, r1⟩ := two_cells hB8
          have fN := hB8.frozen
          have HFA := Lib.hid hA
          have HOA := Lib.hid oA
          clear hA oA
          go_wp2_with fail
          clear r0 r1
          obtain ⟨r0, r1⟩ := two_cells (two_set hB8 x tt)
          have hF : Full ((W8.setCell ⟨b, 0, none⟩ (.int .i64 x)).setCell ⟨b, 1, none⟩ (.int .i64 tt)) g gl s4 T' _ := HFA.out.same fun i hi => (Below.heap_setCell _ ⟨b, 1, none⟩ _ i (fun e => hb (by rw [← show i = b from e]; exact hi))).trans (Below.heap_setCell _ ⟨b, 0, none⟩ _ i (fun e => hb (by rw [← show i = b from e]; exact hi)))
          have oF : Only (TF g gl) w ((W8.setCell ⟨b, 0, none⟩ (.int .i64 x)).setCell ⟨b, 1, none⟩ (.int .i64 tt)) := (HOA.out.setCell (p := ⟨b, 0, none⟩) (.inr (Nat.le_trans HBS.out (Nat.le_refl _))) _).setCell (p := ⟨b, 1, none⟩) (.inr (Nat.le_trans HBS.out (Nat.le_refl _))) _
          refine bodyPost_ret (v := .tuple #[.agg #[.int .i64 x, .int .i64 tt], .int .i64 0]) (by simp [results, Try.results13, go_sem, r0, r1]) rfl ⟨s4, T', _, x, _, _, ?_, hF, HPR.out, oF⟩
          rw [HHN.out]
      | node c y ky =>
        have hyT : y ∈ T.ino := by rw [← D.pl, (plug_perm k _).mem_iff]; exact List.mem_append_left _ ((mem_node false).2 (.inl rfl))
        have hy := HLT.out y hyT
        have c1 : ¬ ((y : Nat) : Int) = 0 := by have := D.rep.1; omega
        have c2 := bne_i c1
        have hs2 := PM.m.sz
        obtain ⟨ty, hty⟩ : ∃ t, (s2.f y).t = t := ⟨_, rfl⟩
        obtain ⟨sy, hsy⟩ : ∃ t, (s2.f y).s = t := ⟨_, rfl⟩
        have HE := Lib.hid (And.intro hty hsy)
        obtain ⟨q0, p0, p1, y0, y1⟩ := PM.cells hy (And.intro hty hsy)
        obtain ⟨σ, hσ⟩ : ∃ σ, decide (0 ≤ ordK kt ks ty sy) = σ := ⟨_, rfl⟩
        have D2 := D.step HSRT.out σ (by rw [← hσ, ← hty, ← hsy]; exact ord_kle)
        have hbd := ordK_bd kt ks ty sy
        obtain ⟨o, ho⟩ : ∃ o, ordK kt ks ty sy = o := ⟨_, rfl⟩
        have HORD := Lib.hid (fun W => order_any kt ks ty sy W)
        rw [ho] at hσ hbd HORD
        have HD2 := Lib.hid D2
        have HS := Lib.hid hσ
        have eroot : (Sh.node c y ky).root = y := rfl
        rw [eroot]
        have hlen : (ky σ).ino.length + 1 ≤ (Sh.node c y ky).ino.length := by cases σ <;> (simp [Sh.ino]; try omega)
        have HLEN := Lib.hid hlen
        clear D D2 hσ hty hsy ho HD hyT hlen eroot
        go_upto_region 12 with fail
        have PMd := PM.drew
        go_region_with (first | (go_at_call 53; refine (HORD.out _).mono ?_; rintro e W5 ⟨rfl, b5⟩; have E1 := PMid.call (by assumption) b5; obtain ⟨q0, p0, p1, y0, y1⟩ := E1.cells hy HE.out))
        all_goals
          have PM2 := E1
          clear PM PMd q0 p0 p1 y0 y1 HPM E1 b5
          have cy := PM2.m.sd hy σ
          have e2 : ch s2.f y σ = (ky σ).root := HD2.out.rc.2.2.2.1
          rw [e2] at cy
          try rw [show decide (o ≥ 0) = σ from HS.out]
          go_wp2_with fail
          try rw [show decide (0 ≤ o) = σ from HS.out]
          refine (child_any g gl s2 W5 PM2.m y hy σ).mono ?_
          rintro e W6 ⟨rfl, rfl⟩
          go_wp2_with fail
          go_roundg (ky σ).ino.length
          case measure => have := HMM.out; have := HLEN.out; omega
          case rel => exact ⟨_, ky σ, HD2.out, Nat.le_refl _, rfl, rfl, rfl, PM2⟩
end Go.Proofs.Ytfoigflgglpobaa.Tr
/- Ways down put together, and a place that takes another one's, in plain Lean. No program in sight; no condition. -/
set_option linter.unusedVariables false
namespace Go.Proofs.Ytfoigflgglpobaa.Tr
open Go.RowKit Go.Proofs.Ytfoigflgglpobaa.Aid
/-- one way down behind another one: the first is the lower -/
def Cx.app : Cx → Cx → Cx
  | .top, k => k
  | .fr c x s sib d, k => .fr c x s sib (d.app k)
theorem app_plug (d : Cx) : ∀ (k : Cx) (t : Sh), (d.app k).plug t = k.plug (d.plug t) := by
  induction d with
  | top => intro k t; rfl
  | fr c x s sib d ih => intro k t; exact ih k _
theorem app_up (d k : Cx) : (d.app k).up = (match d with | .top => k.up | .fr _ x _ _ _ => x) := by
  cases d with
  | top => rfl
  | fr c x s sib d => rfl
/-- down to the end of a way: what hangs there -/
theorem unplug {f : Nat → Nd} {root : Nat} {k : Cx} (d : Cx) : ∀ {t : Sh}, Rep f (d.plug t) k.up → RepC f root k (d.plug t).root → Rep f t (d.app k).up ∧ RepC f root (d.app k) t.root := by
  induction d with
  | top => intro t h hc; exact ⟨h, hc⟩
  | fr c x s sib d ih =>
    intro t h hc
    obtain ⟨h1, h2⟩ := ih (t := .node c x (two s t sib)) h hc
    obtain ⟨h3, h4⟩ := RepC.over s h1 h2
    rw [two_same] at h3 h4
    rw [two_other] at h4
    exact ⟨h3, h4⟩
theorem replug {f : Nat → Nd} {root : Nat} {k : Cx} (d : Cx) : ∀ {t : Sh}, Rep f t (d.app k).up → RepC f root (d.app k) t.root → Rep f (d.plug t) k.up ∧ RepC f root k (d.plug t).root := by
  induction d with
  | top => intro t h hc; exact ⟨h, hc⟩
  | fr c x s sib d ih =>
    intro t h hc
    obtain ⟨h1, h2⟩ := RepC.down h hc
    exact ih h1 h2
/-- what a way down in a tree is, read off the tree -/
theorem bal_split (d : Cx) : ∀ {t : Sh} {m : Nat}, Bal (d.plug t) m → ∃ n, Bal t n ∧ CBal d n m := by
  induction d with
  | top => intro t m h; exact ⟨m, h, rfl⟩
  | fr c x s sib d ih =>
    intro t m h
    obtain ⟨n, h1, h2⟩ := ih (t := .node c x (two s t sib)) h
    cases c with
    | true =>
      have a := h1 s
      have b := h1 (!s)
      rw [two_same] at a
      rw [two_other] at b
      exact ⟨n, a, b, h2⟩
    | false =>
      obtain ⟨n', rfl, h1⟩ := h1
      have a := h1 s
      have b := h1 (!s)
      rw [two_same] at a
      rw [two_other] at b
      exact ⟨n', a, b, h2⟩
theorem nrr_split (d : Cx) : ∀ {t : Sh}, Nrr (d.plug t) → Nrr t ∧ (d.red = true → t.red = false) := by
  induction d with
  | top => intro t h; exact ⟨h, fun e => by cases e⟩
  | fr c x s sib d ih =>
    intro t h
    obtain ⟨⟨h1, h2⟩, h4⟩ := ih (t := .node c x (two s t sib)) h
    have a := h2 s
    rw [two_same] at a
    refine ⟨a, fun e => ?_⟩
    have := h1 e s; rwa [two_same] at this
theorem cnrr_of (d : Cx) : ∀ {t : Sh}, Nrr (d.plug t) → (d.plug t).red = false → CNrr d := by
  induction d with
  | top => intro t _ _; trivial
  | fr c x s sib d ih =>
    intro t h hr
    have h0 : Nrr (d.plug (.node c x (two s t sib))) := h
    have h3 := ih h0 hr
    obtain ⟨⟨h1, h2⟩, h4⟩ := nrr_split d h0
    have b := h2 (!s)
    rw [two_other] at b
    refine ⟨fun e => ?_, b, h3, ?_⟩
    · have := h1 e (!s); rwa [two_other] at this
    · cases d with
      | top => exact hr
      | fr c' x' s' sib' d' =>
        intro e
        show c' = false
        cases hc : c' with
        | false => rfl
        | true =>
          have h5 : c = false := h4 hc
          rw [h5] at e; cases e
/-- a frame's place has no say in colours -/
theorem cnrr_name (d : Cx) {c : Bool} {z y : Nat} {s : Bool} {sib : Sh} {k : Cx} : CNrr (d.app (.fr c z s sib k)) → CNrr (d.app (.fr c y s sib k)) := by
  induction d with
  | top => exact fun h => h
  | fr c' x' s' sib' d ih =>
    intro h
    obtain ⟨h1, h2, h3, h4⟩ := h
    refine ⟨h1, h2, ih h3, ?_⟩
    cases d with
    | top => exact h4
    | fr c2 x2 s2 sib2 d2 => exact h4
theorem cbal_name (d : Cx) {c : Bool} {z y : Nat} {s : Bool} {sib : Sh} {k : Cx} : ∀ {n b : Nat}, CBal (d.app (.fr c z s sib k)) n b → CBal (d.app (.fr c y s sib k)) n b := by
  induction d with
  | top => exact fun h => h
  | fr c' x' s' sib' d ih => exact fun h => ⟨h.1, ih h.2⟩
/-- a place takes another one's: its node, what hangs on it, and where it hangs -/
def takeF (f : Nat → Nd) (root z y : Nat) : (Nat → Nd) × Nat :=
  let h := hangF f root z y
  let f2 := repN h.1 y { h.1 y with l := (h.1 z).l, r := (h.1 z).r, red := (h.1 z).red }
  let f3 := if (h.1 z).l = 0 then f2 else setU f2 (h.1 z).l y
  (if (h.1 z).r = 0 then f3 else setU f3 (h.1 z).r y, h.2)
theorem keep_take (f : Nat → Nd) (root z y : Nat) : Keep f (takeF f root z y).1 := by
  have h1 := keep_hang f root z y
  have h2 : Keep (hangF f root z y).1 (repN (hangF f root z y).1 y { (hangF f root z y).1 y with l := ((hangF f root z y).1 z).l, r := ((hangF f root z y).1 z).r, red := ((hangF f root z y).1 z).red }) := fun w => by
    by_cases e : w = y
    · subst e; rw [repN, if_pos rfl]; exact ⟨rfl, rfl, rfl, rfl⟩
    · rw [repN, if_neg e]; exact ⟨rfl, rfl, rfl, rfl⟩
  have h3 := h1.trans h2
  unfold takeF
  dsimp only
  split
  · split
    · exact h3
    · exact h3.trans (keep_u _ _ _)
  · split
    · exact h3.trans (keep_u _ _ _)
    · exact (h3.trans (keep_u _ _ _)).trans (keep_u _ _ _)
theorem take_rep {f : Nat → Nd} {root z y : Nat} {C : Cx} {c : Bool} {kk : Bool → Sh} (hR : Rep f (.node c z kk) C.up) (hC : RepC f root C z) (hnd : (C.plug (.node c z kk)).ino.Nodup) (hy : y ∉ (C.plug (.node c z kk)).ino) (y0 : y ≠ 0) (z0 : 0 ∉ (C.plug (.node c z kk)).ino) :
    Rep (takeF f root z y).1 (.node c y kk) C.up ∧ RepC (takeF f root z y).1 (takeF f root z y).2 C y ∧ ∀ w, w ∉ (C.plug (.node c z kk)).ino → w ≠ y → (takeF f root z y).1 w = f w := by
  have hp := plug_perm C (.node c z kk)
  obtain ⟨n1, n2, n3⟩ := List.nodup_append.1 (hp.nodup_iff.1 hnd)
  have hmem : ∀ w, w ∈ (C.plug (.node c z kk)).ino ↔ w ∈ (Sh.node c z kk).ino ∨ w ∈ C.all := fun w => by rw [hp.mem_iff, List.mem_append]
  have hyn : y ∉ (Sh.node c z kk).ino := fun e => hy ((hmem y).2 (.inl e))
  have hyc : y ∉ C.all := fun e => hy ((hmem y).2 (.inr e))
  have mz : z ∈ (Sh.node c z kk).ino := (mem_node false).2 (.inl rfl)
  obtain ⟨r0, r1, r2, r3, r4⟩ := hR
  obtain ⟨a1, a2, a3, a4, a5⟩ := hang_rep n2 hC r2 r0 (fun e => n3 z mz z e rfl) hyc
  have hin : ∀ w, w ∈ (Sh.node c z kk).ino → (hangF f root z y).1 w = f w := fun w hw => a2 w (fun e => hyn (e ▸ hw)) (by
    by_cases e : C.up = 0
    · exact .inl e
    · exact .inr fun e2 => n3 w hw w (e2 ▸ RepC.up_mem hC e) rfl)
  have hz := hin z mz
  have el : ((hangF f root z y).1 z).l = (kk false).root := by rw [hz]; exact r3 false
  have er : ((hangF f root z y).1 z).r = (kk true).root := by rw [hz]; exact r3 true
  have ec : ((hangF f root z y).1 z).red = c := by rw [hz]; exact r1
  have ml : (kk false).root ≠ 0 → (kk false).root ∈ (Sh.node c z kk).ino := fun e => mem_ino_side false (root_mem e)
  have mr : (kk true).root ≠ 0 → (kk true).root ∈ (Sh.node c z kk).ino := fun e => mem_ino_side true (root_mem e)
  have nlr : (kk false).root ≠ 0 → (kk false).root ≠ (kk true).root := fun e e2 => by
    have h1 := (nodup_node n1 false).2.2 _ (root_mem e)
    exact h1 (by rw [e2]; exact root_mem (e2 ▸ e))
  have nyl : y ≠ (kk false).root := by
    by_cases e : (kk false).root = 0
    · rw [e]; exact y0
    · exact fun e2 => hyn (e2 ▸ ml e)
  have nyr : y ≠ (kk true).root := by
    by_cases e : (kk true).root = 0
    · rw [e]; exact y0
    · exact fun e2 => hyn (e2 ▸ mr e)
  obtain ⟨F, hF⟩ : ∃ F, takeF f root z y = F := ⟨_, rfl⟩
  have F2 : F.2 = (hangF f root z y).2 := by rw [← hF]; rfl
  have Fo : ∀ w, w ≠ y → ((kk false).root = 0 ∨ w ≠ (kk false).root) → ((kk true).root = 0 ∨ w ≠ (kk true).root) → F.1 w = (hangF f root z y).1 w := fun w h1 h2 h3 => by
    rw [← hF]; unfold takeF; dsimp only; rw [el, er]
    have e1 : repN (hangF f root z y).1 y { (hangF f root z y).1 y with l := (kk false).root, r := (kk true).root, red := ((hangF f root z y).1 z).red } w = (hangF f root z y).1 w := by rw [repN, if_neg h1]
    by_cases b1 : (kk false).root = 0
    · rw [if_pos b1]
      by_cases b2 : (kk true).root = 0
      · rw [if_pos b2, e1]
      · rw [if_neg b2, setU_ne (h3.resolve_left b2), e1]
    · rw [if_neg b1]
      by_cases b2 : (kk true).root = 0
      · rw [if_pos b2, setU_ne (h2.resolve_left b1), e1]
      · rw [if_neg b2, setU_ne (h3.resolve_left b2), setU_ne (h2.resolve_left b1), e1]
  have Fy : F.1 y = { (hangF f root z y).1 y with l := (kk false).root, r := (kk true).root, red := c } := by
    rw [← hF]; unfold takeF; dsimp only; rw [el, er, ec]
    have e1 : repN (hangF f root z y).1 y { (hangF f root z y).1 y with l := (kk false).root, r := (kk true).root, red := c } y = { (hangF f root z y).1 y with l := (kk false).root, r := (kk true).root, red := c } := by rw [repN, if_pos rfl]
    split
    · split
      · exact e1
      · rw [setU_ne nyl]; exact e1
    · split
      · rw [setU_ne nyr]; exact e1
      · rw [setU_ne nyr, setU_ne nyl]; exact e1
  have Fl : (kk false).root ≠ 0 → F.1 (kk false).root = { f (kk false).root with u := y } := fun e => by
    rw [← hF]; unfold takeF; dsimp only; rw [el, er, ec, if_neg e]
    have e1 : repN (hangF f root z y).1 y { (hangF f root z y).1 y with l := (kk false).root, r := (kk true).root, red := c } (kk false).root = f (kk false).root := by rw [repN, if_neg nyl.symm, hin _ (ml e)]
    have e2 : setU (repN (hangF f root z y).1 y { (hangF f root z y).1 y with l := (kk false).root, r := (kk true).root, red := c }) (kk false).root y (kk false).root = { f (kk false).root with u := y } := by rw [setU, if_pos rfl, e1]
    split
    · exact e2
    · rw [setU_ne (nlr e)]; exact e2
  have Fr : (kk true).root ≠ 0 → F.1 (kk true).root = { f (kk true).root with u := y } := fun e => by
    rw [← hF]; unfold takeF; dsimp only; rw [el, er, ec, if_neg e]
    have e1 : repN (hangF f root z y).1 y { (hangF f root z y).1 y with l := (kk false).root, r := (kk true).root, red := c } (kk true).root = f (kk true).root := by rw [repN, if_neg nyr.symm, hin _ (mr e)]
    rw [setU, if_pos rfl]
    split
    · rw [e1]
    · rename_i h5
      rw [setU_ne (fun e2 => nlr h5 e2.symm), e1]
  rw [hF]
  refine ⟨⟨y0, by rw [Fy], by rw [Fy]; exact a4, fun s => ?_, fun s => ?_⟩, ?_, fun w h1 h2 => ?_⟩
  · unfold ch; rw [Fy]
    cases s <;> rfl
  · have hdis := nodup_node n1 s
    refine Rep.rebase hdis.2.1 (r4 s) (fun w hw hwr => same_eq ?_) (fun e => ?_)
    · have hwn := mem_ino_side (c := c) (x := z) (k := kk) s hw
      rw [Fo w (fun e => hyn (e ▸ hwn)) ?_ ?_, hin w hwn]
      · by_cases b : (kk false).root = 0
        · exact .inl b
        · refine .inr fun e => ?_
          cases s with
          | false => exact hwr e
          | true => exact hdis.2.2 w hw (by show w ∈ (kk false).ino; rw [e]; exact root_mem b)
      · by_cases b : (kk true).root = 0
        · exact .inl b
        · refine .inr fun e => ?_
          cases s with
          | true => exact hwr e
          | false => exact hdis.2.2 w hw (by show w ∈ (kk true).ino; rw [e]; exact root_mem b)
    · cases s with
      | false => rw [Fl e]; exact ⟨rfl, rfl, rfl, rfl⟩
      | true => rw [Fr e]; exact ⟨rfl, rfl, rfl, rfl⟩
  · rw [F2]
    refine a1.frame _ fun w hw => same_eq (Fo w (fun e => hyc (e ▸ hw)) ?_ ?_)
    · by_cases b : (kk false).root = 0
      · exact .inl b
      · exact .inr fun e => n3 w (e ▸ ml b) w hw rfl
    · by_cases b : (kk true).root = 0
      · exact .inl b
      · exact .inr fun e => n3 w (e ▸ mr b) w hw rfl
  · have h3 : w ∉ (Sh.node c z kk).ino := fun e => h1 ((hmem w).2 (.inl e))
    have h4 : w ∉ C.all := fun e => h1 ((hmem w).2 (.inr e))
    rw [Fo w h2 ?_ ?_, a2 w h2 ?_]
    · by_cases e : C.up = 0
      · exact .inl e
      · exact .inr fun e2 => h4 (e2 ▸ RepC.up_mem hC e)
    · by_cases b : (kk false).root = 0
      · exact .inl b
      · exact .inr fun e => h3 (e ▸ ml b)
    · by_cases b : (kk true).root = 0
      · exact .inl b
      · exact .inr fun e => h3 (e ▸ mr b)
end Go.Proofs.Ytfoigflgglpobaa.Tr
/- What filling stands on and does, step by step, in plain Lean. No program in sight; no condition. -/
set_option linter.unusedVariables false
namespace Go.Proofs.Ytfoigflgglpobaa.Tr
open Go.RowKit Go.Proofs.Ytfoigflgglpobaa.Aid
def NrrK : Sh → Prop
  | .nil => True
  | .node _ _ k => ∀ s, Nrr (k s)
theorem nrrK_of {t : Sh} (h : Nrr t) : NrrK t := by
  cases t with
  | nil => trivial
  | node c x k => exact h.2
theorem nrr_of {t : Sh} (h : NrrK t) (hr : t.red = false) : Nrr t := by
  cases t with
  | nil => trivial
  | node c x k =>
    have hc : c = false := hr
    subst hc
    exact ⟨fun e => (by cases e), h⟩
/-- filling's state: ways through what hangs at the end of a way down lack one black place -/
structure FSt (s0 : TS) (I : List Nat) (p : (Nat → Nd) × Nat) (E : Cx) (t : Sh) : Prop where
  st : Stay s0 I p
  red0 : (s0.f 0).red = false
  rt : Rep p.1 t E.up
  rc : RepC p.1 p.2 E t.root
  up : (p.1 t.root).u = E.up
  ino : (E.plug t).ino = I
  nd : I.Nodup
  bal : ∃ n b, Bal t n ∧ CBal E (n + 1) b
  nrr : NrrK t
  cn : CNrr E
def fm : Cx → Sh → Nat
  | .top, _ => 0
  | .fr c _ _ _ k, t => if t.red then 0 else if c then 1 else 2 * k.len + 2
theorem fm_le (k : Cx) (t : Sh) : fm k t ≤ 2 * k.len := by
  cases k with
  | top => exact Nat.zero_le _
  | fr c x s sib k =>
    simp only [fm, Cx.len]
    split
    · omega
    · split <;> omega
section
variable {s0 : TS} {I : List Nat} {p : (Nat → Nd) × Nat}
theorem FSt.c0 {E : Cx} {t : Sh} (h : FSt s0 I p E t) : (p.1 0).red = false := by rw [h.st.away 0 h.st.z0]; exact h.red0
theorem FSt.mem {E : Cx} {t : Sh} (h : FSt s0 I p E t) (z : Nat) : z ∈ I ↔ z ∈ t.ino ∨ z ∈ E.all := by rw [← h.ino, (plug_perm E t).mem_iff, List.mem_append]
theorem FSt.rt0 {E : Cx} {t : Sh} (h : FSt s0 I p E t) (hr : t.root ≠ 0) : t.root ∈ I := (h.mem _).2 (.inl (root_mem hr))
/-- black, whatever it was -/
def Sh.black : Sh → Sh
  | .nil => .nil
  | .node _ x k => .node false x k
theorem black_ino (t : Sh) : t.black.ino = t.ino := by cases t <;> rfl
theorem black_root (t : Sh) : t.black.root = t.root := by cases t <;> rfl
theorem black_red (t : Sh) : t.black.red = false := by cases t <;> rfl
theorem setC_id {f : Nat → Nd} {z : Nat} {c : Bool} (h : (f z).red = c) : setC f z c = f := by
  funext y
  unfold setC
  split
  · rename_i e; subst e; rw [← h]
  · rfl
theorem FSt.stop {E : Cx} {t : Sh} (h : FSt s0 I p E t) (he : E = .top ∨ t.red = true) : MdEnd s0 I (setC p.1 t.root false, p.2) := by
  have nd := h.nd
  rw [← h.ino] at nd
  obtain ⟨n1, n2, n3⟩ := List.nodup_append.1 ((plug_perm E t).nodup_iff.1 nd)
  obtain ⟨n, b, hb, hc⟩ := h.bal
  have hst : Stay s0 I (setC p.1 t.root false, p.2) := by
    by_cases e : t.root = 0
    · rw [e, setC_id h.c0]; exact h.st
    · exact h.st.col (h.rt0 e) false
  have h1 : Rep (setC p.1 t.root false) t.black E.up := by
    cases t with
    | nil => trivial
    | node c x k => exact h.rt.recol n1
  have h2 : RepC (setC p.1 t.root false) p.2 E t.root := by
    by_cases e : t.root = 0
    · have e2 : setC p.1 t.root false = p.1 := by rw [e, setC_id h.c0]
      rw [e2]; exact h.rc
    · exact h.rc.away (fun e2 => n3 _ (root_mem e) _ e2 rfl)
  have hnr : Nrr t.black := by
    cases t with
    | nil => trivial
    | node c x k => exact ⟨fun e => (by cases e), h.nrr⟩
  have h2' : RepC (setC p.1 t.root false) p.2 E t.black.root := by rw [black_root]; exact h2
  obtain ⟨r1, r2⟩ := plug_rep E h1 h2'
  have hi : (E.plug t.black).ino = I := by rw [plug_ino, black_ino, ← plug_ino]; exact h.ino
  refine ⟨hst, E.plug t.black, ⟨r1, r2, plug_nrr E hnr h.cn (fun _ => black_red t), plug_red E h.cn (fun _ => black_red t), ?_, by rw [hi]; exact h.nd⟩, hi⟩
  rcases he with rfl | he
  · cases t with
    | nil => exact ⟨0, rfl⟩
    | node c x k =>
      cases c with
      | true => exact ⟨n + 1, n, rfl, hb⟩
      | false => exact ⟨n, hb⟩
  · cases t with
    | nil => cases he
    | node c x k =>
      have hc1 : c = true := he
      subst hc1
      exact ⟨b, plug_bal E (t := .node false x k) ⟨n, rfl, hb⟩ hc⟩
variable {c s : Bool} {q w : Nat} {cw : Bool} {kw : Bool → Sh} {k : Cx} {t : Sh}
/-- the place above, with both that hang on it -/
theorem FSt.big {sib : Sh} (h : FSt s0 I p (.fr c q s sib k) t) : Rep p.1 (.node c q (two s t sib)) k.up ∧ RepC p.1 p.2 k q ∧ (k.plug (.node c q (two s t sib))).ino = I ∧ (k.plug (.node c q (two s t sib))).ino.Nodup := by
  obtain ⟨h1, h2⟩ := RepC.down h.rt h.rc
  exact ⟨h1, h2, h.ino, by rw [show (k.plug (.node c q (two s t sib))).ino = I from h.ino]; exact h.nd⟩
theorem unbig {f : Nat → Nd} {root : Nat} {sib : Sh} (h1 : Rep f (.node c q (two s t sib)) k.up) (h2 : RepC f root k q) : Rep f t q ∧ RepC f root (.fr c q s sib k) t.root := by
  obtain ⟨a, b⟩ := RepC.over s h1 h2
  rw [two_same] at a b
  rw [two_other] at b
  exact ⟨a, b⟩
theorem two_root {s s' : Bool} {t u u' : Sh} (h : u.root = u'.root) : (two s t u s').root = (two s t u' s').root := by unfold two; split; rfl; exact h
/-- the other child has another colour -/
theorem recolS {f : Nat → Nd} {up : Nat} {c' : Bool} (h : Rep f (.node c q (two s t (.node cw w kw))) up) (hn : (Sh.node c q (two s t (.node cw w kw))).ino.Nodup) : Rep (setC f w c') (.node c q (two s t (.node c' w kw))) up := by
  obtain ⟨r0, r1, r2, r3, r4⟩ := h
  obtain ⟨g1, g2, g3⟩ := nodup_node hn s
  obtain ⟨v1, v2, v3⟩ := nodup_node hn (!s)
  rw [Bool.not_not] at v3
  rw [two_same] at g1 g2 g3 v3
  rw [two_other] at g3 v1 v2 v3
  have hw : w ∈ (Sh.node cw w kw).ino := (mem_node s).2 (.inl rfl)
  have hqw : q ≠ w := fun e => v1 (e ▸ hw)
  refine ⟨r0, by rw [setC_ne hqw]; exact r1, by rw [setC_u]; exact r2, fun s' => ?_, fun s' => ?_⟩
  · rw [setC_ch, r3 s']; exact two_root rfl
  · by_cases e : s' = s
    · subst e
      have := r4 s'
      rw [two_same] at this ⊢
      exact this.away (v3 w hw)
    · have e' := side_ne e; subst e'
      have := r4 (!s)
      rw [two_other] at this ⊢
      exact this.recol v2
theorem mem_big {sib : Sh} {z : Nat} (hz : z ∈ sib.ino ∨ z = q ∨ z ∈ t.ino) : z ∈ (Sh.node c q (two s t sib)).ino := by
  refine (mem_node s).2 ?_
  rw [two_same, two_other]
  rcases hz with h | h | h
  · exact .inr (.inr h)
  · exact .inl h
  · exact .inr (.inl h)
theorem ino_recol {sib sib' : Sh} {c c' : Bool} (h : sib.ino = sib'.ino) : (Sh.node c q (two s t sib)).ino = (Sh.node c' q (two s t sib')).ino := by
  cases s <;> simp [Sh.ino, two, h]
theorem root_ne_mem {f : Nat → Nd} {z : Nat} (h : FSt s0 I p k t) (hz : z ∈ I) : z ≠ 0 := fun e => h.st.z0 (e ▸ hz)
theorem away0 {f f' : Nat → Nd} {U : Nat} (t : Sh) (h1 : t.root ≠ 0 → Rep f' t U) (h2 : t.root = 0 → (f' 0).u = U) : (f' t.root).u = U := by
  cases t with
  | nil => exact h2 rfl
  | node c x k =>
    by_cases e : x = 0
    · subst e; exact h2 rfl
    · exact (h1 e).2.2.1
/-- a red place on the other side: it comes up -/
theorem FSt.redw (h : FSt s0 I p (.fr c q s (.node true w kw) k) t) : c = false ∧ FSt s0 I (turnF (setC (setC p.1 w false) q true) p.2 q s) (.fr true q s (kw s) (.fr false w s (kw (!s)) k)) t := by
  obtain ⟨b1, b2, b3, b4⟩ := h.big
  obtain ⟨c1, c2, c3, c4⟩ := h.cn
  have hc : c = false := by
    cases c with
    | false => rfl
    | true => cases c1 rfl
  subst hc
  refine ⟨rfl, ?_⟩
  obtain ⟨n1, n2, n3⟩ := List.nodup_append.1 ((plug_perm k _).nodup_iff.1 b4)
  have hw : w ∈ (Sh.node true w kw).ino := (mem_node s).2 (.inl rfl)
  have mw : w ∈ (Sh.node false q (two s t (.node true w kw))).ino := mem_big (.inl hw)
  have mq : q ∈ (Sh.node false q (two s t (.node true w kw))).ino := mem_big (.inr (.inl rfl))
  have r1 := recolS (c' := false) b1 n1
  have e1 : (Sh.node false q (two s t (.node false w kw))).ino = (Sh.node false q (two s t (.node true w kw))).ino := ino_recol rfl
  have r2 : Rep (setC (setC p.1 w false) q true) (.node true q (two s t (.node false w kw))) k.up := r1.recol (by rw [e1]; exact n1)
  have d2 : RepC (setC (setC p.1 w false) q true) p.2 k q := (b2.away (fun e => n3 _ mw _ e rfl)).away (fun e => n3 _ mq _ e rfl)
  have e2 : (Sh.node true q (two s t (.node false w kw))).ino = (Sh.node false q (two s t (.node true w kw))).ino := ino_recol rfl
  have e3 : (k.plug (.node true q (two s t (.node false w kw)))).ino = I := by rw [plug_ino, e2, ← plug_ino]; exact b3
  obtain ⟨t1, t2, t3⟩ := turn_rep s (two_other _ _ _) r2 d2 (by rw [e3]; exact h.nd)
  have et : turned s true q (two s t (.node false w kw)) false w kw = .node false w (two s (.node true q (two s t (kw s))) (kw (!s))) := by unfold turned; rw [two_same]
  have ei := turned_ino s true q (two s t (.node false w kw)) false w kw (two_other _ _ _)
  rw [et] at t1 ei
  obtain ⟨u1, u2⟩ := unbig t1 t2
  obtain ⟨v1, v2⟩ := unbig u1 u2
  obtain ⟨n, b, hb, hcb1, hcb2⟩ := h.bal
  have mI : ∀ z, z ∈ (Sh.node false q (two s t (.node true w kw))).ino → z ∈ I := fun z hz => by rw [← b3, (plug_perm k _).mem_iff]; exact List.mem_append_left _ hz
  have S2 := (h.st.col (mI w mw) false).col (mI q mq) true
  refine ⟨S2.turn (p := (setC (setC p.1 w false) q true, p.2)) (h.st.lt q (mI q mq)) s (fun z hz => t3 z (by rw [e3]; exact hz)), h.red0, v1, v2, ?_, ?_, h.nd, ⟨n, b, hb, hcb1 s, hcb1 (!s), hcb2⟩, h.nrr, ⟨fun _ => c2.1 rfl s, c2.2 s, ⟨fun e => (by cases e), c2.2 (!s), c3, ?_⟩, fun _ => rfl⟩⟩
  · show ((turnF (setC (setC p.1 w false) q true) p.2 q s).1 t.root).u = q
    refine away0 (f := p.1) t (fun _ => v1) (fun e => ?_)
    rw [t3 0 (by rw [e3]; exact h.st.z0), setC_u, setC_u]
    have := h.up
    rw [e] at this; exact this
  · show (k.plug (.node false w (two s (.node true q (two s t (kw s))) (kw (!s))))).ino = I
    rw [plug_ino, ei, ← plug_ino]; exact e3
  · cases k with
    | top => rfl
    | fr c' x' s' sib' k' => intro e; cases e
/-- both that hang on the other side are black: it turns red, and the lack goes up -/
theorem FSt.blacks (h : FSt s0 I p (.fr c q s (.node false w kw) k) t) (ht : t.red = false) (hk : ∀ s', (kw s').red = false) : FSt s0 I (setC p.1 w true, p.2) k (.node c q (two s t (.node true w kw))) := by
  obtain ⟨b1, b2, b3, b4⟩ := h.big
  obtain ⟨c1, c2, c3, c4⟩ := h.cn
  obtain ⟨n1, n2, n3⟩ := List.nodup_append.1 ((plug_perm k _).nodup_iff.1 b4)
  have hw : w ∈ (Sh.node false w kw).ino := (mem_node s).2 (.inl rfl)
  have mw : w ∈ (Sh.node c q (two s t (.node false w kw))).ino := mem_big (.inl hw)
  have r1 := recolS (c' := true) b1 n1
  have e1 : (Sh.node c q (two s t (.node true w kw))).ino = (Sh.node c q (two s t (.node false w kw))).ino := ino_recol rfl
  have mI : w ∈ I := by rw [← b3, (plug_perm k _).mem_iff]; exact List.mem_append_left _ mw
  obtain ⟨n, b, hb, hcb1, hcb2⟩ := h.bal
  obtain ⟨m, hm, hm2⟩ := hcb1
  obtain rfl : m = n := by omega
  have hbw : Bal (.node true w kw) m := hm2
  refine ⟨h.st.col mI true, h.red0, r1, b2.away (fun e => n3 _ mw _ e rfl), r1.2.2.1, by rw [plug_ino, e1, ← plug_ino]; exact b3, h.nd, ?_, fun s' => nrr_two (nrr_of h.nrr ht) (show Nrr (.node true w kw) from ⟨fun _ s'' => hk s'', c2.2⟩) s', c3⟩
  cases c with
  | true => exact ⟨m, b, bal_two hb hbw, hcb2⟩
  | false => exact ⟨m + 1, b, ⟨m, rfl, bal_two hb hbw⟩, hcb2⟩
/-- the near one is red alone: it comes up on the other side -/
theorem FSt.inner {v : Nat} {kv : Bool → Sh} (h : FSt s0 I p (.fr c q s (.node false w kw) k) t) (hv : kw s = .node true v kv) (hf : (kw (!s)).red = false) :
    FSt s0 I (turnF (setC (setC p.1 v false) w true) p.2 w (!s)) (.fr c q s (.node false v (two s (kv s) (.node true w (two s (kv (!s)) (kw (!s)))))) k) t := by
  obtain ⟨b1, b2, b3, b4⟩ := h.big
  obtain ⟨c1, c2, c3, c4⟩ := h.cn
  obtain ⟨n1, n2, n3⟩ := List.nodup_append.1 ((plug_perm k _).nodup_iff.1 b4)
  have hkw : kw = two (!s) (kw (!s)) (.node true v kv) := by rw [← hv]; have := two_eta kw (!s); rw [Bool.not_not] at this; exact this.symm
  have hw : w ∈ (Sh.node false w kw).ino := (mem_node s).2 (.inl rfl)
  have mw : w ∈ (Sh.node c q (two s t (.node false w kw))).ino := mem_big (.inl hw)
  have hvv : v ∈ (Sh.node true v kv).ino := (mem_node s).2 (.inl rfl)
  have hvw : v ∈ (Sh.node false w kw).ino := mem_ino_side s (by rw [hv]; exact hvv)
  have mv : v ∈ (Sh.node c q (two s t (.node false w kw))).ino := mem_big (.inl hvw)
  have mq : q ∈ (Sh.node c q (two s t (.node false w kw))).ino := mem_big (.inr (.inl rfl))
  obtain ⟨g1, g2, g3⟩ := nodup_node n1 s
  obtain ⟨v1, v2, v3⟩ := nodup_node n1 (!s)
  rw [Bool.not_not] at v3
  rw [two_same] at g1 g2 g3 v3
  rw [two_other] at g3 v1 v2 v3
  -- the other side alone, on a way of one frame more
  obtain ⟨o1, o2⟩ := RepC.over (!s) b1 b2
  rw [two_other] at o1 o2
  rw [Bool.not_not, two_same] at o2
  have hqw : q ≠ w := fun e => v1 (e ▸ hw)
  have hqv : q ≠ v := fun e => v1 (e ▸ hvw)
  have away2 : ∀ z, z ∈ (Sh.node false w kw).ino → z ∉ (Cx.fr c q (!s) t k).all := fun z hz => by
    simp only [Cx.all, List.mem_cons, List.mem_append, not_or]
    exact ⟨fun e => v1 (e ▸ hz), v3 z hz, fun e => n3 _ (mem_big (.inl hz)) _ e rfl⟩
  have o3 : RepC (setC (setC p.1 v false) w true) p.2 (.fr c q (!s) t k) w := (o2.away (away2 v hvw)).away (away2 w hw)
  have p0 : Rep p.1 (.node false w (two (!s) (kw (!s)) (.node true v kv))) q := by rw [← hkw]; exact o1
  have v2' : (Sh.node false w (two (!s) (kw (!s)) (.node true v kv))).ino.Nodup := by rw [← hkw]; exact v2
  have p1 := recolS (c' := false) p0 v2'
  have e1 : (Sh.node false w (two (!s) (kw (!s)) (.node false v kv))).ino = (Sh.node false w (two (!s) (kw (!s)) (.node true v kv))).ino := ino_recol rfl
  have p2 : Rep (setC (setC p.1 v false) w true) (.node true w (two (!s) (kw (!s)) (.node false v kv))) q := p1.recol (by rw [e1]; exact v2')
  have e2 : (Sh.node true w (two (!s) (kw (!s)) (.node false v kv))).ino = (Sh.node false w kw).ino := by
    have e3 : (Sh.node true w (two (!s) (kw (!s)) (.node false v kv))).ino = (Sh.node false w (two (!s) (kw (!s)) (.node true v kv))).ino := ino_recol rfl
    rw [e3, ← hkw]
  have ei0 : (Cx.fr c q (!s) t k).plug (.node false w kw) = k.plug (.node c q (two s t (.node false w kw))) := by
    show k.plug _ = k.plug _
    congr 2
    funext s'
    cases s <;> cases s' <;> rfl
  have e4 : ((Cx.fr c q (!s) t k).plug (.node true w (two (!s) (kw (!s)) (.node false v kv)))).ino = I := by
    rw [plug_ino, e2, ← plug_ino, ei0]; exact b3
  obtain ⟨t1, t2, t3⟩ := turn_rep (k := .fr c q (!s) t k) (!s) (two_other _ _ _) p2 o3 (by rw [e4]; exact h.nd)
  have et : turned (!s) true w (two (!s) (kw (!s)) (.node false v kv)) false v kv = .node false v (two s (kv s) (.node true w (two s (kv (!s)) (kw (!s))))) := by
    unfold turned
    rw [two_same, Bool.not_not]
    congr 1
    funext s'
    cases s <;> cases s' <;> simp [two] <;> (funext s''; cases s'' <;> rfl)
  have ei := turned_ino (!s) true w (two (!s) (kw (!s)) (.node false v kv)) false v kv (two_other _ _ _)
  rw [et] at t1 ei
  obtain ⟨d1, d2⟩ := RepC.down t1 t2
  have d1' : Rep (turnF (setC (setC p.1 v false) w true) p.2 w (!s)).1 (.node c q (two s t (.node false v (two s (kv s) (.node true w (two s (kv (!s)) (kw (!s)))))))) k.up := by
    have e5 : two (!s) (Sh.node false v (two s (kv s) (.node true w (two s (kv (!s)) (kw (!s)))))) t = two s t (.node false v (two s (kv s) (.node true w (two s (kv (!s)) (kw (!s)))))) := by
      funext s'; cases s <;> cases s' <;> rfl
    rw [← e5]; exact d1
  obtain ⟨u1, u2⟩ := unbig d1' d2
  have mI : ∀ z, z ∈ (Sh.node c q (two s t (.node false w kw))).ino → z ∈ I := fun z hz => by rw [← b3, (plug_perm k _).mem_iff]; exact List.mem_append_left _ hz
  have S2 := (h.st.col (mI v mv) false).col (mI w mw) true
  obtain ⟨n, b, hb, hcb1, hcb2⟩ := h.bal
  obtain ⟨m, hm, hm2⟩ := hcb1
  obtain rfl : m = n := by omega
  have bv : ∀ s', Bal (kv s') m := by have := hm2 s; rw [hv] at this; exact this
  have nv := c2.2 s
  rw [hv] at nv
  refine ⟨S2.turn (p := (setC (setC p.1 v false) w true, p.2)) (h.st.lt w (mI w mw)) (!s) (fun z hz => t3 z (by rw [e4]; exact hz)), h.red0, u1, u2, ?_, ?_, h.nd, ⟨m, b, hb, ⟨m, rfl, bal_two (bv s) (show Bal (.node true w _) m from bal_two (bv (!s)) (hm2 (!s)))⟩, hcb2⟩, h.nrr, ⟨fun _ => rfl, ⟨fun e => (by cases e), nrr_two (nv.2 s) ⟨fun _ s' => ?_, nrr_two (nv.2 (!s)) (c2.2 (!s))⟩⟩, c3, c4⟩⟩
  · show ((turnF (setC (setC p.1 v false) w true) p.2 w (!s)).1 t.root).u = q
    refine away0 (f := p.1) t (fun _ => u1) (fun e => ?_)
    rw [t3 0 (by rw [e4]; exact h.st.z0), setC_u, setC_u]
    have := h.up
    rw [e] at this; exact this
  · show (k.plug (.node c q (two s t (.node false v (two s (kv s) (.node true w (two s (kv (!s)) (kw (!s))))))))).ino = I
    have e6 : (Sh.node c q (two s t (.node false v (two s (kv s) (.node true w (two s (kv (!s)) (kw (!s)))))))).ino = (Sh.node c q (two s t (.node false w kw))).ino := ino_recol (ei.trans e2)
    rw [plug_ino, e6, ← plug_ino]; exact b3
  · unfold two; split
    · exact nv.1 rfl (!s)
    · exact hf
/-- the far one is red: the other side comes up, and nothing lacks -/
theorem FSt.outer {v : Nat} {kv : Bool → Sh} (h : FSt s0 I p (.fr c q s (.node false w kw) k) t) (ht : t.red = false) (hv : kw (!s) = .node true v kv) :
    FSt s0 I (turnF (setC (setC (setC p.1 w c) q false) v false) p.2 q s) .top (k.plug (.node c w (two s (.node false q (two s t (kw s))) (.node false v kv)))) := by
  obtain ⟨b1, b2, b3, b4⟩ := h.big
  obtain ⟨c1, c2, c3, c4⟩ := h.cn
  obtain ⟨n1, n2, n3⟩ := List.nodup_append.1 ((plug_perm k _).nodup_iff.1 b4)
  have hkw : kw = two s (kw s) (.node true v kv) := by rw [← hv]; exact (two_eta kw s).symm
  have hw : w ∈ (Sh.node false w kw).ino := (mem_node s).2 (.inl rfl)
  have hvv : v ∈ (Sh.node true v kv).ino := (mem_node s).2 (.inl rfl)
  have hvw : v ∈ (Sh.node false w kw).ino := mem_ino_side (!s) (by rw [hv]; exact hvv)
  have mw : w ∈ (Sh.node c q (two s t (.node false w kw))).ino := mem_big (.inl hw)
  have mv : v ∈ (Sh.node c q (two s t (.node false w kw))).ino := mem_big (.inl hvw)
  have mq : q ∈ (Sh.node c q (two s t (.node false w kw))).ino := mem_big (.inr (.inl rfl))
  have r1 := recolS (c' := c) b1 n1
  have e1 : (Sh.node c q (two s t (.node c w kw))).ino = (Sh.node c q (two s t (.node false w kw))).ino := ino_recol rfl
  have r2 : Rep (setC (setC p.1 w c) q false) (.node false q (two s t (.node c w kw))) k.up := r1.recol (by rw [e1]; exact n1)
  have e2 : (Sh.node false q (two s t (.node c w kw))).ino = (Sh.node c q (two s t (.node false w kw))).ino := ino_recol rfl
  obtain ⟨g1, g2, g3⟩ := nodup_node (c := false) (x := q) (k := two s t (.node c w kw)) (by rw [e2]; exact n1) s
  obtain ⟨x1, x2, x3⟩ := nodup_node (c := false) (x := q) (k := two s t (.node c w kw)) (by rw [e2]; exact n1) (!s)
  rw [Bool.not_not] at x3
  rw [two_same] at g1 g2 g3 x3
  rw [two_other] at g3 x1 x2 x3
  -- the far one turns black, deep down
  have hvc : v ∈ (Sh.node c w kw).ino := hvw
  have r3 : Rep (setC (setC (setC p.1 w c) q false) v false) (.node false q (two s t (.node c w (two s (kw s) (.node false v kv))))) k.up := by
    obtain ⟨a0, a1, a2, a3, a4⟩ := r2
    have hqv : q ≠ v := fun e => x1 (e ▸ hvc)
    refine ⟨a0, by rw [setC_ne hqv]; exact a1, by rw [setC_u]; exact a2, fun s' => ?_, fun s' => ?_⟩
    · rw [setC_ch, a3 s']; exact two_root rfl
    · by_cases e : s' = s
      · subst e
        have := a4 s'
        rw [two_same] at this ⊢
        exact this.away (x3 v hvc)
      · have e' := side_ne e; subst e'
        have := a4 (!s)
        rw [two_other] at this ⊢
        rw [hkw] at this
        have hx2 : (Sh.node c w (two s (kw s) (.node true v kv))).ino.Nodup := by rw [← hkw]; exact x2
        exact recolS this hx2
  have d3 : RepC (setC (setC (setC p.1 w c) q false) v false) p.2 k q := ((b2.away (fun e => n3 _ mw _ e rfl)).away (fun e => n3 _ mq _ e rfl)).away (fun e => n3 _ mv _ e rfl)
  have e3 : (Sh.node c w (two s (kw s) (.node false v kv))).ino = (Sh.node false w kw).ino := by
    have a : (Sh.node c w (two s (kw s) (.node false v kv))).ino = (Sh.node c w (two s (kw s) (.node true v kv))).ino := ino_recol rfl
    rw [a, ← hkw]; rfl
  have e4 : (Sh.node false q (two s t (.node c w (two s (kw s) (.node false v kv))))).ino = (Sh.node c q (two s t (.node false w kw))).ino := ino_recol e3
  have e5 : (k.plug (.node false q (two s t (.node c w (two s (kw s) (.node false v kv)))))).ino = I := by rw [plug_ino, e4, ← plug_ino]; exact b3
  obtain ⟨t1, t2, t3⟩ := turn_rep s (two_other _ _ _) r3 d3 (by rw [e5]; exact h.nd)
  have et : turned s false q (two s t (.node c w (two s (kw s) (.node false v kv)))) c w (two s (kw s) (.node false v kv)) = .node c w (two s (.node false q (two s t (kw s))) (.node false v kv)) := by
    unfold turned; rw [two_same, two_same, two_other]
  have ei := turned_ino s false q (two s t (.node c w (two s (kw s) (.node false v kv)))) c w (two s (kw s) (.node false v kv)) (two_other _ _ _)
  rw [et] at t1 ei
  have t2' : RepC (turnF (setC (setC (setC p.1 w c) q false) v false) p.2 q s).1 (turnF (setC (setC (setC p.1 w c) q false) v false) p.2 q s).2 k (Sh.node c w (two s (.node false q (two s t (kw s))) (.node false v kv))).root := t2
  obtain ⟨z1, z2⟩ := plug_rep k t1 t2'
  have mI : ∀ z, z ∈ (Sh.node c q (two s t (.node false w kw))).ino → z ∈ I := fun z hz => by rw [← b3, (plug_perm k _).mem_iff]; exact List.mem_append_left _ hz
  have S2 := ((h.st.col (mI w mw) c).col (mI q mq) false).col (mI v mv) false
  obtain ⟨n, b, hb, hcb1, hcb2⟩ := h.bal
  obtain ⟨m, hm, hm2⟩ := hcb1
  obtain rfl : m = n := by omega
  have bv : ∀ s', Bal (kv s') m := by have := hm2 (!s); rw [hv] at this; exact this
  have nv := c2.2 (!s)
  rw [hv] at nv
  have ht2 : Nrr t := nrr_of h.nrr ht
  have hB : Bal (.node c w (two s (.node false q (two s t (kw s))) (.node false v kv))) (if c then m + 1 else m + 1 + 1) := by
    have ba : ∀ s', Bal (two s (.node false q (two s t (kw s))) (.node false v kv) s') (m + 1) := bal_two ⟨m, rfl, bal_two hb (hm2 s)⟩ ⟨m, rfl, bv⟩
    cases c with
    | true => exact ba
    | false => exact ⟨m + 1, rfl, ba⟩
  have hN : Nrr (.node c w (two s (.node false q (two s t (kw s))) (.node false v kv))) := by
    refine ⟨fun _ s' => ?_, nrr_two ⟨fun e => (by cases e), nrr_two ht2 (c2.2 s)⟩ ⟨fun e => (by cases e), nv.2⟩⟩
    unfold two; split <;> rfl
  have hlink : k.red = true → c = false := fun e => by
    cases k with
    | top => cases e
    | fr c' x' s' sib' k' =>
      cases hc : c with
      | false => rfl
      | true => have h5 : c' = false := c4 hc; have h6 : c' = true := e; rw [h5] at h6; cases h6
  have hb2 := plug_bal k hB hcb2
  have hi : (k.plug (.node c w (two s (.node false q (two s t (kw s))) (.node false v kv)))).ino = I := by rw [plug_ino, ei, ← plug_ino]; exact e5
  generalize hT : k.plug (.node c w (two s (.node false q (two s t (kw s))) (.node false v kv))) = T at z1 z2 hb2 hi
  have hT0 : T.root ≠ 0 := by
    cases T with
    | nil => have := mI w mw; rw [← hi] at this; cases this
    | node c' x' k' => exact z1.1
  refine ⟨S2.turn (p := (setC (setC (setC p.1 w c) q false) v false, p.2)) (h.st.lt q (mI q mq)) s (fun z hz => t3 z (by rw [e5]; exact hz)), h.red0, z1, z2, away0 (f := p.1) T (fun _ => z1) (fun e => absurd e hT0), hi, h.nd, ?_, ?_, trivial⟩
  · refine ⟨b, b + 1, hb2, rfl⟩
  · rw [← hT]; exact nrrK_of (plug_nrr k hN c3 hlink)
end
end Go.Proofs.Ytfoigflgglpobaa.Tr
