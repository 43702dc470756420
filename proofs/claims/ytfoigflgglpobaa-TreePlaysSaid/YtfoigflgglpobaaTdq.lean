/- The contract of tree's Put where there is room. No condition but that memory holds a tree. -/
import Derived.Test.YtfoigflgglpobaaTdp
set_option linter.unusedVariables false
set_option linter.unusedSimpArgs false
namespace Go.Proofs.Ytfoigflgglpobaa.Tr
open Go.RowKit Go.Proofs.Ytfoigflgglpobaa.Aid
def PutPost (g gl : Nat) (s : TS) (T : Sh) (kt ks : Int) (w : World) (e : Ending) (w' : World) : Prop :=
  ∃ s' T' fl' x pre post, e = .returned (.tuple #[hnd s' x, .int .i64 0]) ∧ Full w' g gl s' T' fl' ∧ PutRes s T kt ks s' T' x pre post ∧ Only (TF g gl) w w'
/-- what stands while Put goes down -/
structure PMid (g gl : Nat) (s2 : TS) (kt ks : Int) (K H : Nat) (w W : World) : Prop where
  m : IsT W g gl s2
  o : Only (TF g gl) w W
  k : Blk W K 27 #[.int .i64 kt, .int .i64 ks]
  h : Blk W H 29 (two_ 0 0)
theorem PMid.call {g gl : Nat} {s2 : TS} {kt ks : Int} {K H : Nat} {w W W' : World} (h : PMid g gl s2 kt ks K H w W) (b : Below W.heap.size W W') : PMid g gl s2 kt ks K H w W' := ⟨h.m.below b, h.o.below b, h.k.below b h.k.lt, h.h.below b h.h.lt⟩
theorem PMid.drew {g gl : Nat} {s2 : TS} {kt ks : Int} {K H : Nat} {w W : World} (h : PMid g gl s2 kt ks K H w W) : PMid g gl s2 kt ks K H w W.drew := ⟨h.m.drew, h.o.drew, h.k.drew, h.h.drew⟩
theorem PMid.cells {g gl : Nat} {s2 : TS} {kt ks : Int} {K H : Nat} {w W : World} (h : PMid g gl s2 kt ks K H w W) {y : Nat} (hy : y < s2.sz) {ty sy : Int} (e : (s2.f y).t = ty ∧ (s2.f y).s = sy) :
    W.cell? ⟨g, 0, none⟩ = some (.slice (some ⟨gl, 0, none⟩) s2.sz s2.cap) ∧ W.cell? ⟨K, 0, none⟩ = some (.int .i64 kt) ∧ W.cell? ⟨K, 1, none⟩ = some (.int .i64 ks) ∧ W.cell? ⟨gl, y * 8, none⟩ = some (.int .i64 ty) ∧ W.cell? ⟨gl, y * 8 + 1, none⟩ = some (.int .i64 sy) := by
  refine ⟨h.m.hc.1, h.k.cell 0, h.k.cell 1, ?_, ?_⟩
  · rw [← e.1]; exact h.m.n.cell y hy 0 (by omega)
  · rw [← e.2]; exact h.m.n.cell y hy 1 (by omega)
def Cx.sd : Cx → Bool
  | .top => false
  | .fr _ _ s _ _ => s
def PRel (g gl : Nat) (s2 : TS) (T : Sh) (kt ks : Int) (b : Nat) (K H : Nat) (w : World) (m : Nat) (s7 s8 s9 : Value) (wr : World) : Prop :=
  ∃ k t, Desc s2.f s2.root T kt ks b k t ∧ t.ino.length ≤ m ∧ s7 = .int .i64 (k.up : Nat) ∧ s8 = .bool k.sd ∧ s9 = .int .i64 (t.root : Nat) ∧ PMid g gl s2 kt ks K H w wr
theorem ord_kle {f : Nat → Nd} {y : Nat} {kt ks : Int} : decide (0 ≤ ordK kt ks (f y).t (f y).s) = true ↔ kle f y kt ks := by
  rw [decide_eq_true_iff, ordK_ge]; unfold kle; omega
set_option maxHeartbeats 2000000 in
set_option maxRecDepth 100000 in
theorem Put_yes (g gl : Nat) (s : TS) (T : Sh) (fl : List Nat) (w : World) (h : Full w g gl s T fl) (kt ks : Int) (hn : T.ino.length < s.most) (htn : ∀ z, z < s.sz → -4611686018427387904 ≤ (s.f z).turn ∧ (s.f z).turn ≤ 4611686018427387904) :
    Calls Try.prog 13 #[.pointer (some ⟨g, 0, none⟩), .agg #[.int .i64 kt, .int .i64 ks]] w (PutPost g gl s T kt ks w) := by
  have e1 : (w.alloc (.cells #[.int .i64 kt, .int .i64 ks] 27)).heap.size = w.heap.size + 1 := by simp
  have hgl := h.m.n.lt
  have hg := h.m.b.lt
  have hkk := (Blk.new w 27 #[.int .i64 kt, .int .i64 ks]).alloc (.cells (two_ 0 0) 29)
  have h2 := Blk.new (w.alloc (.cells #[.int .i64 kt, .int .i64 ks] 27)) 29 (two_ 0 0)
  rw [e1] at h2
  have B : Below w.heap.size w ((w.alloc (.cells #[.int .i64 kt, .int .i64 ks] 27)).alloc (.cells (two_ 0 0) 29)) := ((Below.refl w.heap.size w).alloc (Nat.le_refl _) _).alloc (by rw [e1]; omega) _
  have HA := Lib.hid (h.below B)
  have HO := Lib.hid ((Only.refl (TF g gl) w).below B)
  have hb : ¬ TF g gl (w.heap.size + 1) := by rintro (e | e) <;> omega
  have hkb : ¬ TF g gl w.heap.size := by rintro (e | e) <;> omega
  have HF := Lib.hid h
  have hnn : s.n ≤ 10000 := by have := h.n; have := h.cap; omega
  have HTN := Lib.hid htn
  clear h B e1 htn
  go_enter Try.func13, Try.ntmps13
  go_upto_region 1 with fail
  change Blk ((w.alloc (.cells #[.int .i64 kt, .int .i64 ks] 27)).alloc (.cells #[.int .i64 0, .int .i64 0] 29)) _ _ _ at h2 hkk
  change Hid (Full ((w.alloc (.cells #[.int .i64 kt, .int .i64 ks] 27)).alloc (.cells #[.int .i64 0, .int .i64 0] 29)) _ _ _ _ _) at HA
  change Hid (Only _ w ((w.alloc (.cells #[.int .i64 kt, .int .i64 ks] 27)).alloc (.cells #[.int .i64 0, .int .i64 0] 29))) at HO
  generalize (w.alloc (.cells #[.int .i64 kt, .int .i64 ks] 27)).alloc (.cells #[.int .i64 0, .int .i64 0] 29) = W at h2 hkk HA HO ⊢
  have HBS := Lib.hid (show w.heap.size ≤ w.heap.size + 1 by omega)
  generalize w.heap.size + 1 = b at h2 hb HBS ⊢
  generalize hKK : w.heap.size = K at hkk hkb ⊢
  clear hKK
  go_wp2_with fail
  refine (place_yes g gl s T fl W HA.out hn).mono ?_
  rintro e W1 ⟨x, s1, fl1, rfl, T1, O1, P⟩
  have h3 := O1.blk h2 hb
  have hk3 := O1.blk hkk hkb
  have HO1 := Lib.hid (HO.out.then O1)
  have HP := Lib.hid P
  have hx := P.lt
  have c0 : ¬ ((x : Nat) : Int) = 0 := by have := P.x0; omega
  have c0b := beq_i c0
  have hs1 := T1.sz
  have q0 := T1.hc.1
  obtain ⟨tn, htn⟩ : ∃ t, (s1.f x).turn = t := ⟨_, rfl⟩
  have btn : -4611686018427387904 ≤ tn ∧ tn ≤ 4611686018427387904 := by
    rw [← htn, P.fx]
    split
    · rename_i e; exact HTN.out x e
    · omega
  have bt1 := btn.1
  have bt2 := btn.2
  have x0 : W1.cell? ⟨gl, x * 8, none⟩ = _ := T1.n.cell x hx 0 (by omega)
  have x1 := T1.n.cell x hx 1 (by omega)
  have x2 := T1.n.cell x hx 2 (by omega)
  have x3 := T1.n.cell x hx 3 (by omega)
  have x4 := T1.n.cell x hx 4 (by omega)
  have x5 := T1.n.cell x hx 5 (by omega)
  have x6 := T1.n.cell x hx 6 (by omega)
  have x7 : W1.cell? ⟨gl, x * 8 + 7, none⟩ = some (.int .i64 tn) := by rw [← htn]; exact T1.t hx
  simp only [Nd.cells] at x0 x1 x2 x3 x4 x5 x6
  have k0 : W1.cell? ⟨K, 0, none⟩ = some (.int .i64 kt) := hk3.cell 0
  have k1 : W1.cell? ⟨K, 1, none⟩ = some (.int .i64 ks) := hk3.cell 1
  have fz := T1.n.frozen
  have HTT := Lib.hid htn
  have H1 := Lib.hid T1
  have hKgl : K ≠ gl := fun e => hkb (.inr e)
  have hbgl : b ≠ gl := fun e => hb (.inr e)
  have hKg : K ≠ g := fun e => hkb (.inl e)
  have hbg : b ≠ g := fun e => hb (.inl e)
  clear P O1 T1 htn h2 hkk HA HO btn
  go_upto_region 6 with fail
  go_region
  all_goals
    have eN : ((((((((W1.setCell ⟨gl, x * 8, none⟩ (.int .i64 kt)).setCell ⟨gl, x * 8 + 1, none⟩ (.int .i64 ks)).setCell ⟨gl, x * 8 + 2, none⟩ (.int .i64 0)).setCell ⟨gl, x * 8 + 3, none⟩ (.int .i64 0)).setCell ⟨gl, x * 8 + 4, none⟩ (.int .i64 0)).setCell ⟨gl, x * 8 + 5, none⟩ (.bool true)).setCell ⟨gl, x * 8 + 6, none⟩ (.bool true)).setCell ⟨gl, x * 8 + 7, none⟩ (.int .i64 (tn + 1))) = node8 W1 gl x (newNd kt ks (tn + 1)) := rfl
    rw [eN]
    clear eN
    have T2 := (H1.out.node hx (newNd kt ks (tn + 1))).drew
    have O2 := (node8_only (n := x) (a := newNd kt ks (tn + 1)) HO1.out (gl := gl) (.inr rfl)).drew
    have hk4' : Blk (node8 W1 gl x (newNd kt ks (tn + 1))) K 27 #[.int .i64 kt, .int .i64 ks] := by unfold Blk; rw [node8_far hKgl]; exact hk3
    have h4' : Blk (node8 W1 gl x (newNd kt ks (tn + 1))) b 29 (two_ 0 0) := by unfold Blk; rw [node8_far hbgl]; exact h3
    have hk4 := hk4'.drew
    have h4 := h4'.drew
    clear hk4' h4' H1 HO1 hk3 h3 x0 x1 x2 x3 x4 x5 x6 x7 k0 k1 fz q0
    generalize (node8 W1 gl x (newNd kt ks (tn + 1))).drew = W2 at T2 O2 hk4 h4 ⊢
    have q2 := T2.hc.2.2.1
    have fg := T2.b.frozen
    simp only at q2
    have hn1 : s1.n ≤ 10000 := by have := HP.out.same.2.1; omega
    have T3 := T2.setN (s1.n + 1)
    have O3 := O2.setCell (p := ⟨g, 2, none⟩) (.inl (.inl rfl)) (.int .i64 (s1.n + 1 : Nat))
    have hk5 := hk4.far (p := ⟨g, 2, none⟩) hKg (.int .i64 (s1.n + 1 : Nat))
    have h5 := h4.far (p := ⟨g, 2, none⟩) hbg (.int .i64 (s1.n + 1 : Nat))
    have en : ((s1.n + 1 : Nat) : Int) = (s1.n : Int) + 1 := by omega
    rw [en] at T3 O3 hk5 h5
    clear T2 O2 hk4 h4 en
    go_upto_region 8 with fail
    clear q2 fg
    generalize W2.setCell ⟨g, 2, none⟩ (.int .i64 ((s1.n : Int) + 1)) = W3 at T3 O3 hk5 h5 ⊢
    have T3' : IsT W3 g gl (s1.filled x kt ks) := by
      unfold TS.filled; rw [HTT.out]; exact T3
    clear T3
    have hrb := put_rb (kt := kt) (ks := ks) HF.out HP.out
    obtain ⟨bb, D0⟩ := Desc.start (kt := kt) (ks := ks) hrb
    have HSRT := Lib.hid (put_srt (kt := kt) (ks := ks) HF.out HP.out)
    have q1 : W3.cell? ⟨g, 1, none⟩ = some (.int .i64 (T.root : Nat)) := by rw [← hrb.root]; exact T3'.hc.2.1
    have HLT : Hid (∀ z, z ∈ T.ino → z < (s1.filled x kt ks).sz) := Lib.hid fun z hz => Nat.lt_of_lt_of_le (HF.out.lt z hz) HP.out.sz
    have HXL : Hid (x < (s1.filled x kt ks).sz) := Lib.hid hx
    have hfresh : ∀ z, z = 0 ∨ z ∈ T.ino → z < (s1.filled x kt ks).sz := fun z hz => by
      rcases hz with rfl | hz
      · exact hz_pos hx
      · exact HLT.out z hz
    have PUT := Lib.hid (fun (k : Cx) (d : Desc (s1.filled x kt ks).f (s1.filled x kt ks).root T kt ks bb k .nil) => put_mdst HF.out HP.out d)
    have FIN := Lib.hid (fun (W : World) (q : (Nat → Nd) × Nat) (k : Cx) (d : Desc (s1.filled x kt ks).f (s1.filled x kt ks).root T kt ks bb k .nil) hm e => put_full (W := W) (q := q) HF.out HP.out d hm e)
    clear hrb
    generalize s1.filled x kt ks = s2 at T3' D0 HSRT HLT HXL PUT FIN hfresh
    have S := Lib.hid (show PRel g gl s2 T kt ks bb K b w T.ino.length (.int .i64 0) (.bool false) (.int .i64 (T.root : Nat)) W3 from ⟨.top, T, D0, Nat.le_refl _, rfl, rfl, rfl, T3', O3, hk5, h5⟩)
    clear D0 T3' O3 hk5 h5
    go_wp2_with fail
    go_loopg [7, 8, 9] T.ino.length (fun m s7 s8 s9 wr => PRel g gl s2 T kt ks bb K b w m s7 s8 s9 wr)
    case atStart => exact S.out
    case round =>
      obtain ⟨k, t, D, hm, rfl, rfl, rfl, PM⟩ := hrel
      have HMM := Lib.hid hm
      have HD := Lib.hid D
      have HPM := Lib.hid PM
      clear hm q1 S
      cases t with
      | nil =>
        have hroot : (Sh.nil).root = 0 := rfl
        rw [hroot]
        obtain ⟨MD, hI⟩ := PUT.out k D
        have HMD := Lib.hid MD
        have hup := hfresh k.up (by
          by_cases e : k.up = 0
          · exact .inl e
          · exact .inr (up_mem D e))
        have hx2 := HXL.out
        have q0 := PM.m.hc.1
        have cu := PM.m.u hx2
        have fz := PM.m.n.frozen
        have hs2 := PM.m.sz
        have T4 : IsT (wr.setCell ⟨gl, x * 8 + 4, none⟩ (.int .i64 (k.up : Nat))) g gl { s2 with f := setU s2.f x k.up } := PM.m.setU hx2 k.up
        have O4 := PM.o.setCell (p := ⟨gl, x * 8 + 4, none⟩) (.inl (.inr rfl)) (.int .i64 (k.up : Nat))
        have h6 := PM.h.far (p := ⟨gl, x * 8 + 4, none⟩) hbgl (.int .i64 (k.up : Nat))
        clear MD PM HPM hroot
        go_upto_region 14 with fail
        clear q0 cu fz
        generalize wr.setCell ⟨gl, x * 8 + 4, none⟩ (.int .i64 (k.up : Nat)) = W4 at T4 O4 h6 ⊢
        cases k with
        | top =>
          have hup0 : (Cx.top).up = 0 := rfl
          rw [hup0] at T4 ⊢
          have q1 := T4.hc.2.1
          have fg := T4.b.frozen
          simp only at q1
          have T5 : IsT (W4.setCell ⟨g, 1, none⟩ (.int .i64 x)) g gl (s2.with (putF s2.f s2.root .top x)) := T4.setRoot x
          have O5 := O4.setCell (p := ⟨g, 1, none⟩) (.inl (.inl rfl)) (.int .i64 x)
          have h6' := h6.far (p := ⟨g, 1, none⟩) hbg (.int .i64 x)
          clear D hup T4 O4 h6 hI hup0
          have HMEND := Lib.hid (mend_any g gl (s2.with (putF s2.f s2.root .top x)) _ T5 _ .top x _ HMD.out)
          clear T5
          go_wp2_with fail
          refine HMEND.out.mono ?_
          rintro e W6 ⟨rfl, q, T6, E6, O6⟩
          have h7 := O6.blk h6' hb
          have HO7 := Lib.hid (O5.then O6)
          obtain ⟨T', FU, PR⟩ := FIN.out W6 q .top HD.out T6 E6
          have HPR := Lib.hid PR
          obtain ⟨s4, hs4⟩ : ∃ s4, (s2.with (putF s2.f s2.root .top x)).with q = s4 := ⟨_, rfl⟩
          rw [hs4] at T6 FU HPR
          have hx4 : x < s4.sz := HPR.out.lt
          have hh := handle_some g gl s4 W6 T6 x hx4 HPR.out.x0
          obtain ⟨tt, htt⟩ : ∃ tt, (s4.f x).turn = tt := ⟨_, rfl⟩
          have hhnd : hnd s4 x = .agg #[.int .i64 x, .int .i64 tt] := by unfold hnd hturn; rw [if_neg HPR.out.x0, htt]
          rw [hhnd] at hh
          have HHH := Lib.hid hh
          have HHN := Lib.hid hhnd
          have HFU := Lib.hid FU
          have H7 := Lib.hid h7
          clear PR E6 O5 O6 hs4 hh htt hhnd h6' T6 FU HMEND h7
          go_wp2_with fail
          refine HHH.out.mono ?_
          rintro e W7 ⟨rfl, b7⟩
          have F7 := HFU.out.below b7
          have O7 := HO7.out.below b7
          have h8 := H7.out.below b7 H7.out.lt
          have hA := F7.below ((Below.refl W7.heap.size W7).alloc (Nat.le_refl _) (.cells (two_ x tt) 29))
          have oA := O7.alloc (.cells (two_ x tt) 29)
          have hN := Blk.new W7 29 (two_ x tt)
          have hB8 := h8.alloc (.cells (two_ x tt) 29)
          have hbN : b ≠ W7.heap.size := by have := h8.lt; omega
          clear F7 O7 h8 b7 HFU HO7 H7
          go_upto_region 19 with fail
          change Blk (W7.alloc (.cells #[.int .i64 x, .int .i64 tt] 29)) _ _ _ at hN
          change Blk (W7.alloc (.cells #[.int .i64 x, .int .i64 tt] 29)) _ _ _ at hB8
          change Full (W7.alloc (.cells #[.int .i64 x, .int .i64 tt] 29)) _ _ _ _ _ at hA
          change Only _ _ (W7.alloc (.cells #[.int .i64 x, .int .i64 tt] 29)) at oA
          generalize W7.alloc (.cells #[.int .i64 x, .int .i64 tt] 29) = W8 at hN hB8 hA oA ⊢
          generalize W7.heap.size = NB at hN hbN ⊢
          obtain ⟨n0, n1⟩ := two_cells hN
          obtain ⟨r0, r1⟩ := two_cells hB8
          have fN := hB8.frozen
          have HFA := Lib.hid hA
          have HOA := Lib.hid oA
          clear hA oA
          go_wp2_with fail
          clear r0 r1
          obtain ⟨r0, r1⟩ := two_cells (two_set hB8 x tt)
          have hF : Full ((W8.setCell ⟨b, 0, none⟩ (.int .i64 x)).setCell ⟨b, 1, none⟩ (.int .i64 tt)) g gl s4 T' _ := HFA.out.same fun i hi => (Below.heap_setCell _ ⟨b, 1, none⟩ _ i (fun e => hb (by rw [← show i = b from e]; exact hi))).trans (Below.heap_setCell _ ⟨b, 0, none⟩ _ i (fun e => hb (by rw [← show i = b from e]; exact hi)))
          have oF : Only (TF g gl) w ((W8.setCell ⟨b, 0, none⟩ (.int .i64 x)).setCell ⟨b, 1, none⟩ (.int .i64 tt)) := (HOA.out.setCell (p := ⟨b, 0, none⟩) (.inr (Nat.le_trans HBS.out (Nat.le_refl _))) _).setCell (p := ⟨b, 1, none⟩) (.inr (Nat.le_trans HBS.out (Nat.le_refl _))) _
          refine bodyPost_ret (v := .tuple #[.agg #[.int .i64 x, .int .i64 tt], .int .i64 0]) (by simp [results, Try.results13, go_sem, r0, r1]) rfl ⟨s4, T', _, x, _, _, ?_, hF, HPR.out, oF⟩
          rw [HHN.out]

        | fr c y sd sib kk =>
          have hup0 : (Cx.fr c y sd sib kk).up = y := rfl
          have hsd0 : (Cx.fr c y sd sib kk).sd = sd := rfl
          have hy0 : y ≠ 0 := D.rc.1
          rw [hup0] at T4 hup ⊢
          rw [hsd0]
          have d1 : ¬ ((y : Nat) : Int) = 0 := by omega
          have cy : W4.cell? ⟨gl, y * 8 + off sd, none⟩ = _ := T4.sd hup sd
          have fz := T4.n.frozen
          have T5 : IsT (W4.setCell ⟨gl, y * 8 + off sd, none⟩ (.int .i64 x)) g gl (s2.with (putF s2.f s2.root (.fr c y sd sib kk) x)) := T4.setS hup sd x
          have O5 := O4.setCell (p := ⟨gl, y * 8 + off sd, none⟩) (.inl (.inr rfl)) (.int .i64 x)
          have h6' := h6.far (p := ⟨gl, y * 8 + off sd, none⟩) hbgl (.int .i64 x)
          clear D O4 h6 hI hup0 hsd0
          go_wp2_with fail
          refine (child_any g gl _ W4 T4 y hup sd).mono ?_
          rintro e W5 ⟨rfl, rfl⟩
          clear T4
          have HMEND := Lib.hid (mend_any g gl (s2.with (putF s2.f s2.root (.fr c y sd sib kk) x)) _ T5 _ (.fr c y sd sib kk) x _ HMD.out)
          clear T5
          go_wp2_with fail
          refine HMEND.out.mono ?_
          rintro e W6 ⟨rfl, q, T6, E6, O6⟩
          have h7 := O6.blk h6' hb
          have HO7 := Lib.hid (O5.then O6)
          obtain ⟨T', FU, PR⟩ := FIN.out W6 q (.fr c y sd sib kk) HD.out T6 E6
          have HPR := Lib.hid PR
          obtain ⟨s4, hs4⟩ : ∃ s4, (s2.with (putF s2.f s2.root (.fr c y sd sib kk) x)).with q = s4 := ⟨_, rfl⟩
          rw [hs4] at T6 FU HPR
          have hx4 : x < s4.sz := HPR.out.lt
          have hh := handle_some g gl s4 W6 T6 x hx4 HPR.out.x0
          obtain ⟨tt, htt⟩ : ∃ tt, (s4.f x).turn = tt := ⟨_, rfl⟩
          have hhnd : hnd s4 x = .agg #[.int .i64 x, .int .i64 tt] := by unfold hnd hturn; rw [if_neg HPR.out.x0, htt]
          rw [hhnd] at hh
          have HHH := Lib.hid hh
          have HHN := Lib.hid hhnd
          have HFU := Lib.hid FU
          have H7 := Lib.hid h7
          clear PR E6 O5 O6 hs4 hh htt hhnd h6' T6 FU HMEND h7
          go_wp2_with fail
          refine HHH.out.mono ?_
          rintro e W7 ⟨rfl, b7⟩
          have F7 := HFU.out.below b7
          have O7 := HO7.out.below b7
          have h8 := H7.out.below b7 H7.out.lt
          have hA := F7.below ((Below.refl W7.heap.size W7).alloc (Nat.le_refl _) (.cells (two_ x tt) 29))
          have oA := O7.alloc (.cells (two_ x tt) 29)
          have hN := Blk.new W7 29 (two_ x tt)
          have hB8 := h8.alloc (.cells (two_ x tt) 29)
          have hbN : b ≠ W7.heap.size := by have := h8.lt; omega
          clear F7 O7 h8 b7 HFU HO7 H7
          go_upto_region 19 with fail
          change Blk (W7.alloc (.cells #[.int .i64 x, .int .i64 tt] 29)) _ _ _ at hN
          change Blk (W7.alloc (.cells #[.int .i64 x, .int .i64 tt] 29)) _ _ _ at hB8
          change Full (W7.alloc (.cells #[.int .i64 x, .int .i64 tt] 29)) _ _ _ _ _ at hA
          change Only _ _ (W7.alloc (.cells #[.int .i64 x, .int .i64 tt] 29)) at oA
          generalize W7.alloc (.cells #[.int .i64 x, .int .i64 tt] 29) = W8 at hN hB8 hA oA ⊢
          generalize W7.heap.size = NB at hN hbN ⊢
          obtain ⟨n0, n1⟩ := two_cells hN
          obtain ⟨r0, r1⟩ := two_cells hB8
          have fN := hB8.frozen
          have HFA := Lib.hid hA
          have HOA := Lib.hid oA
          clear hA oA
          go_wp2_with fail
          clear r0 r1
          obtain ⟨r0, r1⟩ := two_cells (two_set hB8 x tt)
          have hF : Full ((W8.setCell ⟨b, 0, none⟩ (.int .i64 x)).setCell ⟨b, 1, none⟩ (.int .i64 tt)) g gl s4 T' _ := HFA.out.same fun i hi => (Below.heap_setCell _ ⟨b, 1, none⟩ _ i (fun e => hb (by rw [← show i = b from e]; exact hi))).trans (Below.heap_setCell _ ⟨b, 0, none⟩ _ i (fun e => hb (by rw [← show i = b from e]; exact hi)))
          have oF : Only (TF g gl) w ((W8.setCell ⟨b, 0, none⟩ (.int .i64 x)).setCell ⟨b, 1, none⟩ (.int .i64 tt)) := (HOA.out.setCell (p := ⟨b, 0, none⟩) (.inr (Nat.le_trans HBS.out (Nat.le_refl _))) _).setCell (p := ⟨b, 1, none⟩) (.inr (Nat.le_trans HBS.out (Nat.le_refl _))) _
          refine bodyPost_ret (v := .tuple #[.agg #[.int .i64 x, .int .i64 tt], .int .i64 0]) (by simp [results, Try.results13, go_sem, r0, r1]) rfl ⟨s4, T', _, x, _, _, ?_, hF, HPR.out, oF⟩
          rw [HHN.out]
      | node c y ky =>
        have hyT : y ∈ T.ino := by rw [← D.pl, (plug_perm k _).mem_iff]; exact List.mem_append_left _ ((mem_node false).2 (.inl rfl))
        have hy := HLT.out y hyT
        have c1 : ¬ ((y : Nat) : Int) = 0 := by have := D.rep.1; omega
        have c2 := bne_i c1
        have hs2 := PM.m.sz
        obtain ⟨ty, hty⟩ : ∃ t, (s2.f y).t = t := ⟨_, rfl⟩
        obtain ⟨sy, hsy⟩ : ∃ t, (s2.f y).s = t := ⟨_, rfl⟩
        have HE := Lib.hid (And.intro hty hsy)
        obtain ⟨q0, p0, p1, y0, y1⟩ := PM.cells hy (And.intro hty hsy)
        obtain ⟨σ, hσ⟩ : ∃ σ, decide (0 ≤ ordK kt ks ty sy) = σ := ⟨_, rfl⟩
        have D2 := D.step HSRT.out σ (by rw [← hσ, ← hty, ← hsy]; exact ord_kle)
        have hbd := ordK_bd kt ks ty sy
        obtain ⟨o, ho⟩ : ∃ o, ordK kt ks ty sy = o := ⟨_, rfl⟩
        have HORD := Lib.hid (fun W => order_any kt ks ty sy W)
        rw [ho] at hσ hbd HORD
        have HD2 := Lib.hid D2
        have HS := Lib.hid hσ
        have eroot : (Sh.node c y ky).root = y := rfl
        rw [eroot]
        have hlen : (ky σ).ino.length + 1 ≤ (Sh.node c y ky).ino.length := by cases σ <;> (simp [Sh.ino]; try omega)
        have HLEN := Lib.hid hlen
        clear D D2 hσ hty hsy ho HD hyT hlen eroot
        go_upto_region 12 with fail
        have PMd := PM.drew
        go_region_with (first | (go_at_call 53; refine (HORD.out _).mono ?_; rintro e W5 ⟨rfl, b5⟩; have E1 := PMid.call (by assumption) b5; obtain ⟨q0, p0, p1, y0, y1⟩ := E1.cells hy HE.out))
        all_goals
          have PM2 := E1
          clear PM PMd q0 p0 p1 y0 y1 HPM E1 b5
          have cy := PM2.m.sd hy σ
          have e2 : ch s2.f y σ = (ky σ).root := HD2.out.rc.2.2.2.1
          rw [e2] at cy
          try rw [show decide (o ≥ 0) = σ from HS.out]
          go_wp2_with fail
          try rw [show decide (0 ≤ o) = σ from HS.out]
          refine (child_any g gl s2 W5 PM2.m y hy σ).mono ?_
          rintro e W6 ⟨rfl, rfl⟩
          go_wp2_with fail
          go_roundg (ky σ).ino.length
          case measure => have := HMM.out; have := HLEN.out; omega
          case rel => exact ⟨_, ky σ, HD2.out, Nat.le_refl _, rfl, rfl, rfl, PM2⟩
end Go.Proofs.Ytfoigflgglpobaa.Tr
