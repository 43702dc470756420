/- Lemmas and contracts for RowTtlPlays, merged by program out of Tdf, Tdg, Tdh, Trm, Tro. No condition. -/
import Derived.Test.YtfoigflgglpobaaBW3
import Derived.Test.YtfoigflgglpobaaBW4
set_option linter.unusedVariables false
set_option linter.unusedSimpArgs false
/- The contract of tree's swapping. No condition but that places are some. -/
set_option linter.unusedVariables false
set_option linter.unusedSimpArgs false
namespace Go.Proofs.Ytfoigflgglpobaa.Tr
open Go.RowKit Go.Proofs.Ytfoigflgglpobaa.Aid
def mid0 (h : (Nat → Nd) × Nat) (z y : Nat) : Nat → Nd := repN h.1 y { h.1 y with l := (h.1 z).l, r := (h.1 z).r, red := (h.1 z).red }
def mid1 (h : (Nat → Nd) × Nat) (z y : Nat) : Nat → Nd := if (h.1 z).l = 0 then mid0 h z y else setU (mid0 h z y) (h.1 z).l y
def mid2 (h : (Nat → Nd) × Nat) (z y : Nat) : Nat → Nd := if (h.1 z).r = 0 then mid1 h z y else setU (mid1 h z y) (h.1 z).r y
theorem takeF_mid (f : Nat → Nd) (root z y : Nat) : takeF f root z y = (mid2 (hangF f root z y) z y, (hangF f root z y).2) := rfl
def midk (h : (Nat → Nd) × Nat) (z y : Nat) : Nat → Nat → Nd
  | 0 => mid0 h z y
  | 1 => mid1 h z y
  | _ => mid2 h z y
theorem mid0_eq (h : (Nat → Nd) × Nat) (z y : Nat) : mid0 h z y = setC (setCh (setCh h.1 y false (h.1 z).l) y true (h.1 z).r) y (h.1 z).red := by
  funext w
  unfold mid0 repN setC setCh
  by_cases e : w = y
  · subst e; simp
  · simp [e]
def SwRel (g gl : Nat) (s : TS) (h : (Nat → Nd) × Nat) (z y B : Nat) (w : World) (m : Nat) (s9 s52 : Value) (wr : World) : Prop :=
  ∃ k : Nat, k ≤ 2 ∧ m = 2 - k ∧ s52 = .int .i64 k ∧ IsT wr g gl (s.with (midk h z y k, h.2)) ∧ Only (TF g gl) w wr ∧ Blk wr B 3 #[.int .i64 ((h.1 z).l : Nat), .int .i64 ((h.1 z).r : Nat)] ∧ w.heap.size ≤ B
set_option maxHeartbeats 2000000 in
set_option maxRecDepth 100000 in
theorem swap_any (g gl : Nat) (s : TS) (w : World) (h : IsT w g gl s) (hk : Lk s.f s.sz) (hr : s.root < s.sz) (z y : Nat) (hz : z < s.sz) (hy : y < s.sz) (hzy : y ≠ z) :
    Calls Try.prog 74 #[.pointer (some ⟨g, 0, none⟩), .int .i64 z, .int .i64 y] w fun e w' => e = .returned (.tuple #[]) ∧ IsT w' g gl (s.with (takeF s.f s.root z y)) ∧ Only (TF g gl) w w' := by
  rw [takeF_mid]
  have HL := Lib.hid (hk.hang hr hz hy)
  have HA := Lib.hid (hang_any g gl s w h z y hz hy (hk z hz).2.2)
  have OO := Lib.hid (Only.refl (TF g gl) w)
  have hsz := h.sz
  have hne := h.ne
  have hgl := h.n.lt
  have hg := h.b.lt
  clear h hk hr
  generalize hangF s.f s.root z y = H at HL HA ⊢
  go_enter Try.func74, Try.ntmps74
  go_wp2_with fail
  refine HA.out.mono ?_
  rintro e W ⟨rfl, h1, O1⟩
  clear HA
  have HO1 := Lib.hid (OO.out.then O1)
  clear OO O1
  have gl2 := h1.n.lt
  have q0 := h1.hc.1
  simp only [TS.with] at q0
  obtain ⟨N, hN⟩ : ∃ N, H.1 z = N := ⟨_, rfl⟩
  have c0 : W.cell? ⟨gl, z * 8, none⟩ = some (.int .i64 N.t) := by rw [← hN]; exact h1.n.cell z hz 0 (by omega)
  have c1 : W.cell? ⟨gl, z * 8 + 1, none⟩ = some (.int .i64 N.s) := by rw [← hN]; exact h1.n.cell z hz 1 (by omega)
  have c2 : W.cell? ⟨gl, z * 8 + 2, none⟩ = some (.int .i64 N.l) := by rw [← hN]; exact h1.l hz
  have c3 : W.cell? ⟨gl, z * 8 + 3, none⟩ = some (.int .i64 N.r) := by rw [← hN]; exact h1.r hz
  have c4 : W.cell? ⟨gl, z * 8 + 4, none⟩ = some (.int .i64 N.u) := by rw [← hN]; exact h1.u hz
  have c5 : W.cell? ⟨gl, z * 8 + 5, none⟩ = some (.bool N.red) := by rw [← hN]; exact h1.c hz
  have c6 : W.cell? ⟨gl, z * 8 + 6, none⟩ = some (.bool N.tak) := by rw [← hN]; exact h1.k hz
  have c7 : W.cell? ⟨gl, z * 8 + 7, none⟩ = some (.int .i64 N.turn) := by rw [← hN]; exact h1.t hz
  have hLz := (HL.out.1 z hz)
  rw [hN] at hLz
  have HN := Lib.hid hN
  have H1 := Lib.hid h1
  clear hN h1
  go_upto_region 3 with fail
  have hA := H1.out.alloc (.cells #[.int .i64 N.t, .int .i64 N.s, .int .i64 N.l, .int .i64 N.r, .int .i64 N.u, .bool N.red, .bool N.tak, .int .i64 N.turn] 104)
  have hB := Blk.new W 104 #[.int .i64 N.t, .int .i64 N.s, .int .i64 N.l, .int .i64 N.r, .int .i64 N.u, .bool N.red, .bool N.tak, .int .i64 N.turn]
  have hO := HO1.out.alloc (.cells #[.int .i64 N.t, .int .i64 N.s, .int .i64 N.l, .int .i64 N.r, .int .i64 N.u, .bool N.red, .bool N.tak, .int .i64 N.turn] 104)
  have hbg : W.heap.size ≠ gl := by omega
  generalize W.alloc (.cells #[.int .i64 N.t, .int .i64 N.s, .int .i64 N.l, .int .i64 N.r, .int .i64 N.u, .bool N.red, .bool N.tak, .int .i64 N.turn] 104) = W2 at hA hB hO ⊢
  generalize W.heap.size = b at hB hbg ⊢
  have b2 : W2.cell? ⟨b, 2, none⟩ = some (.int .i64 N.l) := hB.cell 2
  have b3 : W2.cell? ⟨b, 3, none⟩ = some (.int .i64 N.r) := hB.cell 3
  have b5 : W2.cell? ⟨b, 5, none⟩ = some (.bool N.red) := hB.cell 5
  have y2 := hA.l hy
  have y3 := hA.r hy
  have y5 := hA.c hy
  have fz := hA.n.frozen
  simp only [TS.with] at y2 y3 y5
  have hbg2 : gl ≠ b := fun e => hbg e.symm
  have TA : IsT (W2.setCell ⟨gl, y * 8 + 2, none⟩ (.int .i64 N.l)) g gl (s.with (setCh H.1 y false N.l, H.2)) := hA.setS hy false N.l
  have TB : IsT ((W2.setCell ⟨gl, y * 8 + 2, none⟩ (.int .i64 N.l)).setCell ⟨gl, y * 8 + 3, none⟩ (.int .i64 N.r)) g gl (s.with (setCh (setCh H.1 y false N.l) y true N.r, H.2)) := TA.setS hy true N.r
  have TD : IsT (((W2.setCell ⟨gl, y * 8 + 2, none⟩ (.int .i64 N.l)).setCell ⟨gl, y * 8 + 3, none⟩ (.int .i64 N.r)).setCell ⟨gl, y * 8 + 5, none⟩ (.bool N.red)) g gl (s.with (setC (setCh (setCh H.1 y false N.l) y true N.r) y N.red, H.2)) := TB.setC hy N.red
  have OD := Lib.hid (((hO.setCell (p := ⟨gl, y * 8 + 2, none⟩) (.inl (.inr rfl)) (.int .i64 N.l)).setCell (p := ⟨gl, y * 8 + 3, none⟩) (.inl (.inr rfl)) (.int .i64 N.r)).setCell (p := ⟨gl, y * 8 + 5, none⟩) (.inl (.inr rfl)) (.bool N.red))
  have em := mid0_eq H z y
  rw [HN.out] at em
  rw [← em] at TD
  have HTD := Lib.hid TD
  clear c0 c1 c2 c3 c4 c5 c6 c7 q0 H1 HO1 hA hB hO TA TB TD em
  go_region
  all_goals
    have T3 := HTD.out.drew
    have O3 := OD.out.drew
    generalize (((W2.setCell ⟨gl, y * 8 + 2, none⟩ (.int .i64 N.l)).setCell ⟨gl, y * 8 + 3, none⟩ (.int .i64 N.r)).setCell ⟨gl, y * 8 + 5, none⟩ (.bool N.red)).drew = W3 at T3 O3 ⊢
    have HT3 := Lib.hid T3
    have HO3 := Lib.hid O3
    have e2 : (mid0 H z y y).l = N.l := by unfold mid0; rw [repN_same, HN.out]
    have e3 : (mid0 H z y y).r = N.r := by unfold mid0; rw [repN_same, HN.out]
    have y2 : W3.cell? ⟨gl, y * 8 + 2, none⟩ = some (.int .i64 N.l) := by rw [← e2]; exact T3.l hy
    have y3 : W3.cell? ⟨gl, y * 8 + 3, none⟩ = some (.int .i64 N.r) := by rw [← e3]; exact T3.r hy
    clear T3 O3 e2 e3 fz b2 b3 b5 hbg hbg2 HTD OD
    go_upto_region 4 with fail
    go_region
    all_goals
      have hbl := Blk.new W3 3 #[.int .i64 N.l, .int .i64 N.r]
      have hTl := HT3.out.alloc (.cells #[.int .i64 N.l, .int .i64 N.r] 3)
      have hOl := HO3.out.alloc (.cells #[.int .i64 N.l, .int .i64 N.r] 3)
      have hsz3 := HO3.out.size
      have hBl := hbl.drew
      have hT4 := hTl.drew
      have hO4 := hOl.drew
      generalize (W3.alloc (.cells #[.int .i64 N.l, .int .i64 N.r] 3)).drew = W4 at hBl hT4 hO4 ⊢
      clear hbl hTl hOl
      generalize W3.heap.size = B at hBl hsz3 ⊢
      have S := Lib.hid (show SwRel g gl s H z y B w 2 undef (.int .i64 0) W4 from ⟨0, by omega, rfl, rfl, hT4, hO4, by rw [HN.out]; exact hBl, hsz3⟩)
      clear hT4 hO4 hBl
      go_wp2_with fail
      go_loopg [9, 52] 2 (fun m s9 s52 wr => SwRel g gl s H z y B w m s9 s52 wr)
      case atStart => exact S.out
      case round =>
        obtain ⟨k, hk2, rfl, rfl, hT, hO, hBk, hBw⟩ := hrel
        have HTk := Lib.hid hT
        have HOk := Lib.hid hO
        have HBk := Lib.hid hBk
        have HBw := Lib.hid hBw
        have b0 : wr.cell? ⟨B, 0, none⟩ = some (.int .i64 N.l) := by rw [← HN.out]; exact hBk.cell 0
        have b1 : wr.cell? ⟨B, 1, none⟩ = some (.int .i64 N.r) := by rw [← HN.out]; exact hBk.cell 1
        have q0 := hT.hc.1
        have fz := hT.n.frozen
        simp only [TS.with] at q0
        have hBgl : B ≠ gl := by omega
        clear hT hO hBk hBw y2 y3 S
        have k3 : k = 0 ∨ k = 1 ∨ k = 2 := by omega
        rcases k3 with rfl | rfl | rfl
        · by_cases e : N.l = 0
          · have em : midk H z y 1 = midk H z y 0 := by show mid1 H z y = mid0 H z y; unfold mid1; rw [HN.out, if_pos e]
            have HE := Lib.hid em
            have e' : ((N.l : Nat) : Int) = 0 := by omega
            clear em e
            go_wp2_with fail
            go_roundg 1
            case measure => omega
            case rel => exact ⟨1, by omega, rfl, rfl, by rw [HE.out]; exact HTk.out, HOk.out, HBk.out, HBw.out⟩
          · have cu := HTk.out.u hLz.1
            have F := Lib.hid (show IsT (wr.setCell ⟨gl, N.l * 8 + 4, none⟩ (.int .i64 y)) g gl (s.with (midk H z y 1, H.2)) from by
              have := HTk.out.setU hLz.1 y
              have em : midk H z y 1 = setU (midk H z y 0) N.l y := by show mid1 H z y = setU (mid0 H z y) N.l y; unfold mid1; rw [HN.out, if_neg e]
              rw [em]; exact this)
            have O := Lib.hid (HOk.out.setCell (p := ⟨gl, N.l * 8 + 4, none⟩) (.inl (.inr rfl)) (.int .i64 y))
            have BB := Lib.hid (HBk.out.far (p := ⟨gl, N.l * 8 + 4, none⟩) hBgl (.int .i64 y))
            have e' : ¬ ((N.l : Nat) : Int) = 0 := by omega
            clear e
            go_wp2_with fail
            go_roundg 1
            case measure => omega
            case rel => exact ⟨1, by omega, rfl, rfl, F.out, O.out, BB.out, HBw.out⟩
        · by_cases e : N.r = 0
          · have em : midk H z y 2 = midk H z y 1 := by show mid2 H z y = mid1 H z y; unfold mid2; rw [HN.out, if_pos e]
            have HE := Lib.hid em
            have e' : ((N.r : Nat) : Int) = 0 := by omega
            clear em e
            go_wp2_with fail
            go_roundg 0
            case measure => omega
            case rel => exact ⟨2, by omega, rfl, rfl, by rw [HE.out]; exact HTk.out, HOk.out, HBk.out, HBw.out⟩
          · have cu := HTk.out.u hLz.2.1
            have F := Lib.hid (show IsT (wr.setCell ⟨gl, N.r * 8 + 4, none⟩ (.int .i64 y)) g gl (s.with (midk H z y 2, H.2)) from by
              have := HTk.out.setU hLz.2.1 y
              have em : midk H z y 2 = setU (midk H z y 1) N.r y := by show mid2 H z y = setU (mid1 H z y) N.r y; unfold mid2; rw [HN.out, if_neg e]
              rw [em]; exact this)
            have O := Lib.hid (HOk.out.setCell (p := ⟨gl, N.r * 8 + 4, none⟩) (.inl (.inr rfl)) (.int .i64 y))
            have BB := Lib.hid (HBk.out.far (p := ⟨gl, N.r * 8 + 4, none⟩) hBgl (.int .i64 y))
            have e' : ¬ ((N.r : Nat) : Int) = 0 := by omega
            clear e
            go_wp2_with fail
            go_roundg 0
            case measure => omega
            case rel => exact ⟨2, by omega, rfl, rfl, F.out, O.out, BB.out, HBw.out⟩
        · go_wp2_with fail
          go_end0
          exact ⟨rfl, HTk.out, HOk.out⟩
end Go.Proofs.Ytfoigflgglpobaa.Tr
/- The contract of tree's cutting. No condition but that memory holds a tree. -/
set_option linter.unusedVariables false
set_option linter.unusedSimpArgs false
namespace Go.Proofs.Ytfoigflgglpobaa.Tr
open Go.RowKit Go.Proofs.Ytfoigflgglpobaa.Aid
def CutPost (g gl : Nat) (s : TS) (T : Sh) (pre post : List Nat) (w : World) (e : Ending) (w' : World) : Prop :=
  e = .returned (.tuple #[]) ∧ ∃ p, IsT w' g gl (s.with p) ∧ CutMid s T p ∧ (∃ T', RB p.1 p.2 T' ∧ T'.ino = pre ++ post) ∧ Only (TF g gl) w w'
theorem cut_in {T : Sh} {pre post : List Nat} {z : Nat} (hT : T.ino = pre ++ z :: post) : ∀ v, v ∈ pre ++ post → v ∈ T.ino := fun v hv => by rw [hT]; simp only [List.mem_append, List.mem_cons] at hv ⊢; exact hv.elim .inl fun e => .inr (.inr e)
set_option maxHeartbeats 2000000 in
set_option maxRecDepth 100000 in
/-- the place itself goes: at most one hangs on it -/
theorem cut_one (g gl : Nat) (s : TS) (T : Sh) (fl : List Nat) (w : World) (h : Full w g gl s T fl) (pre post : List Nat) (z : Nat) (hT : T.ino = pre ++ z :: post) (C : Cx) (c : Bool) (kz : Bool → Sh)
    (hR : Rep s.f (.node c z kz) C.up) (hC : RepC s.f s.root C z) (hpl : C.plug (.node c z kz) = T) (h1 : (kz false).root = 0 ∨ (kz true).root = 0) :
    Calls Try.prog 58 #[.pointer (some ⟨g, 0, none⟩), .int .i64 z] w (CutPost g gl s T pre post w) := by
  have hz : z < s.sz := h.lt z (by rw [hT]; simp)
  have q0 := h.m.hc.1
  have hs := h.m.sz
  have HIN := Lib.hid (cut_in hT)
  have cl : w.cell? ⟨gl, z * 8 + 2, none⟩ = some (.int .i64 (kz false).root) := by rw [← hR.2.2.2.1 false]; exact h.m.l hz
  have cr : w.cell? ⟨gl, z * 8 + 3, none⟩ = some (.int .i64 (kz true).root) := by rw [← hR.2.2.2.1 true]; exact h.m.r hz
  have lx : ∀ r, (kz r).root < s.sz := fun r => by rw [← hR.2.2.2.1 r]; exact h.lk.ch hz r
  have hredz := hR.2.1
  have Hu := (h.lk z hz).2.2
  have HM := Lib.hid h.m
  by_cases e0 : (kz false).root = 0
  · obtain ⟨M, F, D⟩ := cutA h hT hR hC hpl true (rep_root (hR.2.2.2.2 false) e0)
    have hx := lx true
    rw [e0] at cl
    obtain ⟨P, hP⟩ : ∃ P, hangF s.f s.root z (kz true).root = P := ⟨_, rfl⟩
    have HH := Lib.hid (hang_any g gl s w h.m z (kz true).root hz hx Hu)
    have hcr : (P.1 z).red = c := by rw [← hP, hang_red]; exact hredz
    rw [hP] at M F D HH
    have HMM := Lib.hid M
    have HF := Lib.hid F
    have HD := Lib.hid D
    clear M F D hP hR hC hpl h1 h e0 lx
    have HT2 := Lib.hid (show (kz true).root = (kz true).root from rfl)
    generalize kz true = t at cr hx HH HF HT2
    have HF' : Hid (c = false → FSt (s.with P) (pre ++ post) P C t) := HF
    obtain ⟨R, hRR⟩ : ∃ R, t.root = R := ⟨_, rfl⟩
    rw [hRR] at cr hx HH
    have HRR := Lib.hid hRR
    clear hRR HF HT2
    go_enter Try.func58, Try.ntmps58
    go_wp2_with fail
    refine HH.out.mono ?_
    rintro e W ⟨rfl, T1, O1⟩
    have q0 := T1.hc.1
    simp only [TS.with] at q0
    have cz : W.cell? ⟨gl, z * 8 + 5, none⟩ = some (.bool c) := by rw [← hcr]; exact T1.c hz
    have cx := T1.u hx
    have HT1 := Lib.hid T1
    have HO1 := Lib.hid O1
    clear T1 O1 cl cr
    cases c with
    | true =>
      go_wp2_with fail
      go_end0
      have E := HMM.out.end HIN.out (HD.out (by trivial))
      exact ⟨rfl, P, HT1.out, E.1, E.2, HO1.out⟩
    | false =>
      have HFF := Lib.hid (fill_any g gl (s.with P) W HT1.out (pre ++ post) C t (HF'.out rfl))
      rw [HRR.out] at HFF
      go_wp2_with fail
      refine HFF.out.mono ?_
      rintro e W2 ⟨rfl, q, Tq, Eq, Oq⟩
      go_wp2_with fail
      go_end0
      have E := HMM.out.end HIN.out Eq
      exact ⟨rfl, q, Tq, E.1, E.2, HO1.out.then Oq⟩
  · have e1 : (kz true).root = 0 := h1.resolve_left e0
    obtain ⟨M, F, D⟩ := cutA h hT hR hC hpl false (rep_root (hR.2.2.2.2 true) e1)
    have hx := lx false
    rw [e1] at cr
    obtain ⟨P, hP⟩ : ∃ P, hangF s.f s.root z (kz false).root = P := ⟨_, rfl⟩
    have HH := Lib.hid (hang_any g gl s w h.m z (kz false).root hz hx Hu)
    have hcr : (P.1 z).red = c := by rw [← hP, hang_red]; exact hredz
    rw [hP] at M F D HH
    have HMM := Lib.hid M
    have HF := Lib.hid F
    have HD := Lib.hid D
    clear M F D hP hR hC hpl h1 h lx
    have HT2 := Lib.hid (show (kz false).root = (kz false).root from rfl)
    generalize kz false = t at cl hx HH HF HT2 e0
    have HF' : Hid (c = false → FSt (s.with P) (pre ++ post) P C t) := HF
    obtain ⟨R, hRR⟩ : ∃ R, t.root = R := ⟨_, rfl⟩
    rw [hRR] at cl hx HH e0
    have HRR := Lib.hid hRR
    have d0 := bne_i (show ¬ ((R : Nat) : Int) = 0 by omega)
    have d1 : ¬ ((R : Nat) : Int) = 0 := by omega
    clear hRR HF HT2 e0
    go_enter Try.func58, Try.ntmps58
    go_wp2_with fail
    refine HH.out.mono ?_
    rintro e W ⟨rfl, T1, O1⟩
    have q0 := T1.hc.1
    simp only [TS.with] at q0
    have cz : W.cell? ⟨gl, z * 8 + 5, none⟩ = some (.bool c) := by rw [← hcr]; exact T1.c hz
    have cx := T1.u hx
    have HT1 := Lib.hid T1
    have HO1 := Lib.hid O1
    clear T1 O1 cl cr
    cases c with
    | true =>
      go_wp2_with fail
      go_end0
      have E := HMM.out.end HIN.out (HD.out (by trivial))
      exact ⟨rfl, P, HT1.out, E.1, E.2, HO1.out⟩
    | false =>
      have HFF := Lib.hid (fill_any g gl (s.with P) W HT1.out (pre ++ post) C t (HF'.out rfl))
      rw [HRR.out] at HFF
      go_wp2_with fail
      refine HFF.out.mono ?_
      rintro e W2 ⟨rfl, q, Tq, Eq, Oq⟩
      go_wp2_with fail
      go_end0
      have E := HMM.out.end HIN.out Eq
      exact ⟨rfl, q, Tq, E.1, E.2, HO1.out.then Oq⟩
set_option maxHeartbeats 2000000 in
set_option maxRecDepth 100000 in
/-- two hang on the place: another one comes in its place -/
theorem cut_two (g gl : Nat) (s : TS) (T : Sh) (fl : List Nat) (w : World) (h : Full w g gl s T fl) (pre post : List Nat) (z : Nat) (hT : T.ino = pre ++ z :: post) (C : Cx) (c : Bool) (kz : Bool → Sh)
    (hR : Rep s.f (.node c z kz) C.up) (hC : RepC s.f s.root C z) (hpl : C.plug (.node c z kz) = T) (h0 : (kz false).root ≠ 0) (h1 : (kz true).root ≠ 0) :
    Calls Try.prog 58 #[.pointer (some ⟨g, 0, none⟩), .int .i64 z] w (CutPost g gl s T pre post w) := by
  have hz : z < s.sz := h.lt z (by rw [hT]; simp)
  have q0 := h.m.hc.1
  have hs := h.m.sz
  have HIN := Lib.hid (cut_in hT)
  have cl : w.cell? ⟨gl, z * 8 + 2, none⟩ = some (.int .i64 (kz false).root) := by rw [← hR.2.2.2.1 false]; exact h.m.l hz
  have cr : w.cell? ⟨gl, z * 8 + 3, none⟩ = some (.int .i64 (kz true).root) := by rw [← hR.2.2.2.1 true]; exact h.m.r hz
  have HS := Lib.hid h.m
  obtain ⟨D, cy, y, ky, hD, hk, hfst, hpre⟩ := fst_way (kz true) (hR.2.2.2.2 true) h1
  obtain ⟨M, yc, yl, yr, yz, yT, zT, F, DD⟩ := cutB h hT hpl hD hk hpre
  have hy := h.lt y yT
  have hx : (ky true).root < s.sz := by rw [← yr]; exact (h.lk y hy).2.1
  have ins : ∀ v, v ∈ (kz true).ino → v < s.sz := fun v hv => h.lt v (by rw [← hpl, (plug_perm C _).mem_iff]; exact List.mem_append_left _ (mem_ino_side true hv))
  have HMo := Lib.hid (most_any g gl s w h.m (kz true) z (hR.2.2.2.2 true) ins)
  rw [hfst] at HMo
  have HH := Lib.hid (hang_any g gl s w h.m y (ky true).root hy hx (h.lk y hy).2.2)
  have hlk := h.lk.hang h.rootlt hy hx
  obtain ⟨P1, hP1⟩ : ∃ P, hangF s.f s.root y (ky true).root = P := ⟨_, rfl⟩
  have hcy : (P1.1 y).red = cy := by rw [← hP1, hang_red]; exact yc
  have yl' : w.cell? ⟨gl, y * 8 + 2, none⟩ = some (.int .i64 0) := by rw [show (0 : Int) = ((0 : Nat) : Int) from rfl, ← yl]; exact h.m.l hy
  have yr' : w.cell? ⟨gl, y * 8 + 3, none⟩ = some (.int .i64 (ky true).root) := by rw [← yr]; exact h.m.r hy
  obtain ⟨U, hU⟩ : ∃ U, (P1.1 (ky true).root).u = U := ⟨_, rfl⟩
  have hUl : U < s.sz := by rw [← hU, ← hP1]; exact (hlk.1 _ hx).2.2
  have hcut : cutF s.f s.root z y (ky true).root = (setU (takeF P1.1 P1.2 z y).1 (ky true).root (if U = z then y else U), (takeF P1.1 P1.2 z y).2) := by
    unfold cutF; dsimp only; rw [hP1, hU]
  rw [hP1] at HH hlk
  rw [hcut] at M F DD
  have HMM := Lib.hid M
  have HF := Lib.hid F
  have HDD := Lib.hid DD
  have HLK := Lib.hid hlk
  have HUU := Lib.hid hU
  clear M F DD hcut hlk hU hR hC hpl h yc yl yr hD hk hpre hP1 yT zT ins hfst
  generalize D.app (Cx.fr c y true (kz false) C) = E at HF
  generalize ky true = t at HH HF HMM HDD HUU hx yr'
  obtain ⟨X, hX⟩ : ∃ R, t.root = R := ⟨_, rfl⟩
  rw [hX] at HH HF HMM HDD HUU hx yr'
  have HX := Lib.hid hX
  clear hX
  generalize (kz false).root = L at cl h0
  generalize (kz true).root = R at cr h1 HMo
  have d0 := bne_i (show ¬ ((L : Nat) : Int) = 0 by omega)
  have d1 : ¬ ((L : Nat) : Int) = 0 := by omega
  have d2 := bne_i (show ¬ ((R : Nat) : Int) = 0 by omega)
  have d3 : ¬ ((R : Nat) : Int) = 0 := by omega
  have d4 := bne_i (show ¬ ((y : Nat) : Int) = ((z : Nat) : Int) by omega)
  have d5 : ¬ ((y : Nat) : Int) = ((z : Nat) : Int) := by omega
  clear h0 h1
  have AT : Hid (∀ at_ : Nat, (if U = z then y else U) = at_ → at_ < s.sz) := Lib.hid fun a ha => by rw [← ha]; split; exact hy; exact hUl
  by_cases hUz : U = z
  · subst hUz
    rw [if_pos rfl] at HMM HF HDD
    go_enter Try.func58, Try.ntmps58
    go_wp2_with fail
    refine HMo.out.mono ?_
    rintro e W0 ⟨rfl, rfl⟩
    go_wp2_with fail
    refine HH.out.mono ?_
    rintro e W ⟨rfl, T1, O1⟩
    have q0 := T1.hc.1
    simp only [TS.with] at q0
    have cy5 : W.cell? ⟨gl, y * 8 + 5, none⟩ = some (.bool cy) := by rw [← hcy]; exact T1.c hy
    have cx : W.cell? ⟨gl, X * 8 + 4, none⟩ = some (.int .i64 U) := by rw [← HUU.out]; exact T1.u hx
    have HT1 := Lib.hid T1
    have HO1 := Lib.hid O1
    clear T1 O1 cl cr yl' yr'
    go_wp2_with fail
    refine (swap_any g gl (s.with P1) W HT1.out HLK.out.1 HLK.out.2 U y hz hy yz).mono ?_
    rintro e W2 ⟨rfl, T2, O2⟩
    have HO2 := HO1.out.then O2
    have T2' : IsT W2 g gl (s.with (takeF P1.1 P1.2 U y)) := T2
    clear T2 O2
    generalize takeF P1.1 P1.2 U y = P2 at T2' HMM HF HDD
    have q0 := T2'.hc.1
    simp only [TS.with] at q0
    have cx := T2'.u hx
    have fz := T2'.n.frozen
    have T3 := Lib.hid (show IsT (W2.setCell ⟨gl, X * 8 + 4, none⟩ (.int .i64 y)) g gl (s.with (setU P2.1 X y, P2.2)) from T2'.setU hx y)
    have O3 := Lib.hid (HO2.setCell (p := ⟨gl, X * 8 + 4, none⟩) (.inl (.inr rfl)) (.int .i64 y))
    clear T2' HO2
    cases cy with
    | true =>
      go_wp2_with fail
      go_end0
      have E := HMM.out.end HIN.out (HDD.out (by trivial))
      exact ⟨rfl, _, T3.out, E.1, E.2, O3.out⟩
    | false =>
      have HFF := Lib.hid (fill_any g gl (s.with (setU P2.1 X y, P2.2)) _ T3.out (pre ++ post) E t (HF.out rfl))
      rw [HX.out] at HFF
      go_wp2_with fail
      refine HFF.out.mono ?_
      rintro e W4 ⟨rfl, q, Tq, Eq, Oq⟩
      go_wp2_with fail
      go_end0
      have E := HMM.out.end HIN.out Eq
      exact ⟨rfl, q, Tq, E.1, E.2, O3.out.then Oq⟩
  · rw [if_neg hUz] at HMM HF HDD
    have d6 : ¬ ((U : Nat) : Int) = ((z : Nat) : Int) := by omega
    clear hUz
    go_enter Try.func58, Try.ntmps58
    go_wp2_with fail
    refine HMo.out.mono ?_
    rintro e W0 ⟨rfl, rfl⟩
    go_wp2_with fail
    refine HH.out.mono ?_
    rintro e W ⟨rfl, T1, O1⟩
    have q0 := T1.hc.1
    simp only [TS.with] at q0
    have cy5 : W.cell? ⟨gl, y * 8 + 5, none⟩ = some (.bool cy) := by rw [← hcy]; exact T1.c hy
    have cx : W.cell? ⟨gl, X * 8 + 4, none⟩ = some (.int .i64 U) := by rw [← HUU.out]; exact T1.u hx
    have HT1 := Lib.hid T1
    have HO1 := Lib.hid O1
    clear T1 O1 cl cr yl' yr'
    go_wp2_with fail
    refine (swap_any g gl (s.with P1) W HT1.out HLK.out.1 HLK.out.2 z y hz hy yz).mono ?_
    rintro e W2 ⟨rfl, T2, O2⟩
    have HO2 := HO1.out.then O2
    have T2' : IsT W2 g gl (s.with (takeF P1.1 P1.2 z y)) := T2
    clear T2 O2
    generalize takeF P1.1 P1.2 z y = P2 at T2' HMM HF HDD
    have q0 := T2'.hc.1
    simp only [TS.with] at q0
    have cx := T2'.u hx
    have fz := T2'.n.frozen
    have T3 := Lib.hid (show IsT (W2.setCell ⟨gl, X * 8 + 4, none⟩ (.int .i64 U)) g gl (s.with (setU P2.1 X U, P2.2)) from T2'.setU hx U)
    have O3 := Lib.hid (HO2.setCell (p := ⟨gl, X * 8 + 4, none⟩) (.inl (.inr rfl)) (.int .i64 U))
    clear T2' HO2
    cases cy with
    | true =>
      go_wp2_with fail
      go_end0
      have E := HMM.out.end HIN.out (HDD.out (by trivial))
      exact ⟨rfl, _, T3.out, E.1, E.2, O3.out⟩
    | false =>
      have HFF := Lib.hid (fill_any g gl (s.with (setU P2.1 X U, P2.2)) _ T3.out (pre ++ post) E t (HF.out rfl))
      rw [HX.out] at HFF
      go_wp2_with fail
      refine HFF.out.mono ?_
      rintro e W4 ⟨rfl, q, Tq, Eq, Oq⟩
      go_wp2_with fail
      go_end0
      have E := HMM.out.end HIN.out Eq
      exact ⟨rfl, q, Tq, E.1, E.2, O3.out.then Oq⟩
theorem cut_any (g gl : Nat) (s : TS) (T : Sh) (fl : List Nat) (w : World) (h : Full w g gl s T fl) (pre post : List Nat) (z : Nat) (hT : T.ino = pre ++ z :: post) :
    Calls Try.prog 58 #[.pointer (some ⟨g, 0, none⟩), .int .i64 z] w (CutPost g gl s T pre post w) := by
  obtain ⟨C, c, kz, hR, hC, hpl, _⟩ := way_split h.rd hT
  by_cases h0 : (kz false).root = 0
  · exact cut_one g gl s T fl w h pre post z hT C c kz hR hC hpl (.inl h0)
  · by_cases h1 : (kz true).root = 0
    · exact cut_one g gl s T fl w h pre post z hT C c kz hR hC hpl (.inr h1)
    · exact cut_two g gl s T fl w h pre post z hT C c kz hR hC hpl h0 h1
end Go.Proofs.Ytfoigflgglpobaa.Tr
/- The contract of tree's Drop. No condition but that memory holds a tree. -/
set_option linter.unusedVariables false
set_option linter.unusedSimpArgs false
namespace Go.Proofs.Ytfoigflgglpobaa.Tr
open Go.RowKit Go.Proofs.Ytfoigflgglpobaa.Aid
def DropPost (g gl : Nat) (s : TS) (T : Sh) (fl : List Nat) (z : Nat) (w : World) (e : Ending) (w' : World) : Prop :=
  e = .returned (.int .i64 0) ∧ ∃ s' T' pre post, Full w' g gl s' T' (z :: fl) ∧ DropRes s T z s' T' pre post ∧ Only (TF g gl) w w'
set_option maxHeartbeats 2000000 in
set_option maxRecDepth 100000 in
theorem Drop_at (g gl : Nat) (s : TS) (T : Sh) (fl : List Nat) (w : World) (h : Full w g gl s T fl) (z : Nat) (t : Int) (hi : isH s z t = true) (hzT : z ∈ T.ino) (ht : (s.f z).turn = t) :
    Calls Try.prog 17 #[.pointer (some ⟨g, 0, none⟩), .agg #[.int .i64 z, .int .i64 t]] w (DropPost g gl s T fl z w) := by
  have hz : z < s.sz := h.lt z hzT
  obtain ⟨pre, post, hT⟩ := List.append_of_mem hzT
  have hn1 : 1 ≤ s.n := by rw [h.n, hT]; simp only [List.length_append, List.length_cons]; omega
  have hs := h.m.sz
  have hgl := h.m.n.lt
  have hg := h.m.b.lt
  have HF := Lib.hid h
  have HAl := Lib.hid (h.below (((Below.refl w.heap.size w).alloc (Nat.le_refl _) (.cells #[.int .i64 z, .int .i64 t] 29))))
  have HO := Lib.hid ((Only.refl (TF g gl) w).alloc (.cells #[.int .i64 z, .int .i64 t] 29))
  have h2 := Blk.new w 29 #[.int .i64 z, .int .i64 t]
  have hb : ¬ TF g gl w.heap.size := by rintro (e | e) <;> omega
  have hbg : w.heap.size ≠ gl := by omega
  have hbg2 : w.heap.size ≠ g := by omega
  have hn2 : s.n ≤ 10000 := by have h1 := h.cnt; have h2 := h.n; have h3 := h.m.sz; omega
  have hneg := h.m.ne
  have hts := Lib.hid ht
  clear h ht hzT
  go_enter Try.func17, Try.ntmps17
  go_upto_region 1 with fail
  generalize w.alloc (.cells #[.int .i64 z, .int .i64 t] 29) = W at HAl HO h2 ⊢
  generalize w.heap.size = b at h2 hb hbg hbg2 ⊢
  obtain ⟨r0, r1⟩ := two_cells h2
  have HI := Lib.hid (is_any g gl s W HAl.out.m z t)
  rw [hi] at HI
  clear hi
  go_wp2_with fail
  refine HI.out.mono ?_
  rintro e W2 ⟨rfl, bl⟩
  have HF2 := Lib.hid (HAl.out.below bl)
  have HO2 := Lib.hid (HO.out.below bl)
  have h3 := h2.below bl h2.lt
  obtain ⟨r0, r1⟩ := two_cells h3
  clear HAl HO bl h2 HI
  go_wp2_with fail
  refine (cut_any g gl s T fl W2 HF2.out pre post z hT).mono ?_
  rintro e W3 ⟨rfl, q, T3, M, ⟨T', rb, hT'⟩, O3⟩
  have HM := Lib.hid M
  have HRB := Lib.hid (And.intro rb hT')
  have h4 := O3.blk h3 hb
  obtain ⟨r0, r1⟩ := two_cells h4
  have HO3 := Lib.hid (HO2.out.then O3)
  have q0 := T3.hc.1
  have q3 := T3.hc.2.2.2.1
  simp only [TS.with] at q0 q3
  have c0 := T3.n.cell z hz 0 (by omega)
  have c1 := T3.n.cell z hz 1 (by omega)
  have c2 := T3.l hz
  have c3 := T3.r hz
  have c4 := T3.u hz
  have c5 := T3.c hz
  have c6 := T3.k hz
  have c7 := T3.t hz
  have c0' : W3.cell? ⟨gl, z * 8, none⟩ = some (.int .i64 (q.1 z).t) := c0
  have c1' : W3.cell? ⟨gl, z * 8 + 1, none⟩ = some (.int .i64 (q.1 z).s) := c1
  simp only [TS.with] at c2 c3 c4 c5 c6 c7
  have fz := T3.n.frozen
  have H3 := Lib.hid T3
  clear c0 c1 M rb hT' O3 h3 HF2 HO2 T3
  go_upto_region 6 with fail
  go_region
  all_goals
    have eN : ((((((((W3.setCell ⟨gl, z * 8, none⟩ (.int .i64 0)).setCell ⟨gl, z * 8 + 1, none⟩ (.int .i64 0)).setCell ⟨gl, z * 8 + 2, none⟩ (.int .i64 s.free)).setCell ⟨gl, z * 8 + 3, none⟩ (.int .i64 0)).setCell ⟨gl, z * 8 + 4, none⟩ (.int .i64 0)).setCell ⟨gl, z * 8 + 5, none⟩ (.bool false)).setCell ⟨gl, z * 8 + 6, none⟩ (.bool false)).setCell ⟨gl, z * 8 + 7, none⟩ (.int .i64 t)) = node8 W3 gl z (freeNd s.free t) := rfl
    rw [eN]
    clear eN
    have T4 := (H3.out.node hz (freeNd s.free t)).drew
    have O4 := (node8_only (n := z) (a := freeNd s.free t) HO3.out (.inr rfl)).drew
    have h5' : Blk (node8 W3 gl z (freeNd s.free t)) b 29 #[.int .i64 z, .int .i64 t] := by unfold Blk; rw [node8_far hbg]; exact h4
    have h5 := h5'.drew
    clear h5'
    generalize (node8 W3 gl z (freeNd s.free t)).drew = W4 at T4 O4 h5 ⊢
    clear c0' c1' c2 c3 c4 c5 c6 c7 q0 q3 fz
    obtain ⟨r0, r1⟩ := two_cells h5
    have q3 := T4.hc.2.2.2.1
    have fg := T4.b.frozen
    have T5 := T4.setFree z
    have O5 := O4.setCell (p := ⟨g, 3, none⟩) (.inl (.inl rfl)) (.int .i64 z)
    simp only [TS.with] at q3 T5
    go_upto_region 8 with fail
    generalize W4.setCell ⟨g, 3, none⟩ (.int .i64 z) = W5 at T5 O5 ⊢
    clear T4 O4 h5 r0 r1 q3 fg
    have q0 := T5.hc.1
    have c0 : W5.cell? ⟨gl, 0, none⟩ = _ := T5.n.cell 0 (by show 0 < s.sz; omega) 0 (by omega)
    have c1 : W5.cell? ⟨gl, 1, none⟩ = _ := T5.n.cell 0 (by show 0 < s.sz; omega) 1 (by omega)
    have c2 : W5.cell? ⟨gl, 2, none⟩ = _ := T5.n.cell 0 (by show 0 < s.sz; omega) 2 (by omega)
    have c3 : W5.cell? ⟨gl, 3, none⟩ = _ := T5.n.cell 0 (by show 0 < s.sz; omega) 3 (by omega)
    have c4 : W5.cell? ⟨gl, 4, none⟩ = _ := T5.n.cell 0 (by show 0 < s.sz; omega) 4 (by omega)
    have c5 : W5.cell? ⟨gl, 5, none⟩ = _ := T5.n.cell 0 (by show 0 < s.sz; omega) 5 (by omega)
    have c6 : W5.cell? ⟨gl, 6, none⟩ = _ := T5.n.cell 0 (by show 0 < s.sz; omega) 6 (by omega)
    have c7 : W5.cell? ⟨gl, 7, none⟩ = _ := T5.n.cell 0 (by show 0 < s.sz; omega) 7 (by omega)
    have fz := T5.n.frozen
    simp only [Nd.cells] at c0 c1 c2 c3 c4 c5 c6 c7
    have H5 := Lib.hid T5
    clear T5
    go_upto_region 9 with fail
    have eN : ((((((((W5.setCell ⟨gl, 0, none⟩ (.int .i64 0)).setCell ⟨gl, 1, none⟩ (.int .i64 0)).setCell ⟨gl, 2, none⟩ (.int .i64 0)).setCell ⟨gl, 3, none⟩ (.int .i64 0)).setCell ⟨gl, 4, none⟩ (.int .i64 0)).setCell ⟨gl, 5, none⟩ (.bool false)).setCell ⟨gl, 6, none⟩ (.bool false)).setCell ⟨gl, 7, none⟩ (.int .i64 0)) = node8 W5 gl 0 zeroN := rfl
    rw [eN]
    clear eN c0 c1 c2 c3 c4 c5 c6 c7 fz q0
    have T6 := H5.out.node (x := 0) (by show 0 < s.sz; omega) zeroN
    have O6 := node8_only (n := 0) (a := zeroN) O5 (gl := gl) (.inr rfl)
    clear H5 O5
    generalize node8 W5 gl 0 zeroN = W6 at T6 O6 ⊢
    have q2 := T6.hc.2.2.1
    have fg := T6.b.frozen
    simp only at q2
    have T7 := Lib.hid (T6.setN (s.n - 1))
    have O7 := Lib.hid (O6.setCell (p := ⟨g, 2, none⟩) (.inl (.inl rfl)) (.int .i64 (s.n - 1 : Nat)))
    have en : ((s.n - 1 : Nat) : Int) = (s.n : Int) - 1 := by omega
    rw [en] at T7 O7
    clear T6 O6 en
    go_wp2_with fail
    go_ret
    have hm : IsT (W6.setCell ⟨g, 2, none⟩ (.int .i64 ((s.n : Int) - 1))) g gl (s.dropped q z) := by
      have := T7.out
      unfold TS.dropped
      rw [hts.out]
      exact this
    obtain ⟨F, R⟩ := drop_full HF.out hT HM.out HRB.out.1 HRB.out.2 hm
    exact ⟨rfl, _, _, pre, post, F, R, O7.out⟩
theorem Drop_yes (g gl : Nat) (s : TS) (T : Sh) (fl : List Nat) (w : World) (h : Full w g gl s T fl) (p t : Int) (hi : isH s p t = true) :
    Calls Try.prog 17 #[.pointer (some ⟨g, 0, none⟩), .agg #[.int .i64 p, .int .i64 t]] w (DropPost g gl s T fl p.toNat w) := by
  obtain ⟨h1, h2, h3, h4⟩ := isH_at hi
  obtain ⟨z, rfl⟩ : ∃ z : Nat, p = z := ⟨p.toNat, by omega⟩
  have e : ((z : Nat) : Int).toNat = z := by simp
  rw [e] at h3 h4 ⊢
  exact Drop_at g gl s T fl w h z t hi ((h.tak z (by omega)).1 h3) h4
end Go.Proofs.Ytfoigflgglpobaa.Tr
/- The contracts of tree's functions at no tree. No condition. -/
set_option linter.unusedVariables false
set_option linter.unusedSimpArgs false
namespace Go.Proofs.Ytfoigflgglpobaa.Tr
open Go.RowKit Go.Proofs.Ytfoigflgglpobaa.Aid
set_option maxHeartbeats 1000000 in
set_option maxRecDepth 100000 in
theorem First_nil (w : World) :
    Calls Try.prog 14 #[.pointer none] w fun e w' => e = .returned (.tuple #[.agg #[.int .i64 0, .int .i64 0], .bool false]) ∧ Below w.heap.size w w' := by
  have h2 := Blk.new w 29 (two_ 0 0)
  have B : Below w.heap.size w (w.alloc (.cells (two_ 0 0) 29)) := (Below.refl w.heap.size w).alloc (Nat.le_refl _) _
  have HR : Hid (w.heap.size ≤ w.heap.size) := Lib.hid (Nat.le_refl _)
  go_enter Try.func14, Try.ntmps14
  go_upto_region 1 with fail
  change Blk (w.alloc (.cells #[.int .i64 0, .int .i64 0] 29)) _ _ _ at h2
  change Below _ _ (w.alloc (.cells #[.int .i64 0, .int .i64 0] 29)) at B
  generalize w.alloc (.cells #[.int .i64 0, .int .i64 0] 29) = W at h2 B ⊢
  obtain ⟨r0, r1⟩ := two_cells h2
  have f0 := h2.frozen
  go_wp2_with fail
  clear r0 r1
  obtain ⟨r0, r1⟩ := two_cells (two_set h2 0 0)
  exact bodyPost_ret (v := .tuple #[.agg #[.int .i64 0, .int .i64 0], .bool false]) (by simp [results, Try.results14, go_sem, r0, r1]) rfl ⟨rfl, two_below B HR.out _ _⟩
set_option maxHeartbeats 1000000 in
set_option maxRecDepth 100000 in
theorem At_nil (τ : Int) (w : World) :
    Calls Try.prog 19 #[.pointer none, .int .i64 τ] w fun e w' => e = .returned (.tuple #[.agg #[.int .i64 0, .int .i64 0], .bool false]) ∧ Below w.heap.size w w' := by
  have h2 := Blk.new w 29 (two_ 0 0)
  have B : Below w.heap.size w (w.alloc (.cells (two_ 0 0) 29)) := (Below.refl w.heap.size w).alloc (Nat.le_refl _) _
  have HR : Hid (w.heap.size ≤ w.heap.size) := Lib.hid (Nat.le_refl _)
  go_enter Try.func19, Try.ntmps19
  go_upto_region 1 with fail
  change Blk (w.alloc (.cells #[.int .i64 0, .int .i64 0] 29)) _ _ _ at h2
  change Below _ _ (w.alloc (.cells #[.int .i64 0, .int .i64 0] 29)) at B
  generalize w.alloc (.cells #[.int .i64 0, .int .i64 0] 29) = W at h2 B ⊢
  obtain ⟨r0, r1⟩ := two_cells h2
  have f0 := h2.frozen
  go_wp2_with fail
  clear r0 r1
  obtain ⟨r0, r1⟩ := two_cells (two_set h2 0 0)
  exact bodyPost_ret (v := .tuple #[.agg #[.int .i64 0, .int .i64 0], .bool false]) (by simp [results, Try.results19, go_sem, r0, r1]) rfl ⟨rfl, two_below B HR.out _ _⟩
set_option maxHeartbeats 1000000 in
theorem Keys_nil (w : World) :
    Calls Try.prog 22 #[.pointer none] w fun e w' => e = .returned (.slice none 0 0) ∧ Below w.heap.size w w' := by
  go_enter Try.func22, Try.ntmps22
  go_wp2
  go_ret
  exact ⟨rfl, Below.refl _ _⟩
set_option maxHeartbeats 1000000 in
theorem Drop_nil (p t : Int) (w : World) :
    Calls Try.prog 17 #[.pointer none, .agg #[.int .i64 p, .int .i64 t]] w fun e w' => e = .returned (.int .i64 1) ∧ Below w.heap.size w w' := by
  have B : Below w.heap.size w (w.alloc (.cells #[.int .i64 p, .int .i64 t] 29)) := (Below.refl w.heap.size w).alloc (Nat.le_refl _) _
  go_enter Try.func17, Try.ntmps17
  go_upto_region 1 with fail
  generalize w.alloc (.cells #[.int .i64 p, .int .i64 t] 29) = W at B ⊢
  have HB := Lib.hid B
  clear B
  go_wp2_with fail
  go_ret
  exact ⟨rfl, HB.out⟩
set_option maxHeartbeats 1000000 in
theorem Drop_no (g gl : Nat) (s : TS) (w : World) (h : IsT w g gl s) (p t : Int) (hi : isH s p t = false) :
    Calls Try.prog 17 #[.pointer (some ⟨g, 0, none⟩), .agg #[.int .i64 p, .int .i64 t]] w fun e w' => e = .returned (.int .i64 7) ∧ Below w.heap.size w w' := by
  have B : Below w.heap.size w (w.alloc (.cells #[.int .i64 p, .int .i64 t] 29)) := (Below.refl w.heap.size w).alloc (Nat.le_refl _) _
  have h2 := Blk.new w 29 #[.int .i64 p, .int .i64 t]
  have HA := Lib.hid (h.alloc (.cells #[.int .i64 p, .int .i64 t] 29))
  have HI := Lib.hid (fun (W : World) (hW : IsT W g gl s) => is_any g gl s W hW p t)
  rw [hi] at HI
  clear h hi
  go_enter Try.func17, Try.ntmps17
  go_upto_region 1 with fail
  generalize w.alloc (.cells #[.int .i64 p, .int .i64 t] 29) = W at B h2 HA ⊢
  have HB := Lib.hid B
  obtain ⟨c0, c1⟩ := two_cells h2
  clear B h2
  go_wp2_with fail
  refine (HI.out W HA.out).mono ?_
  rintro e W1 ⟨rfl, b1⟩
  have HB1 := Lib.hid (HB.out.trans (b1.mono HB.out.size))
  go_wp2_with fail
  go_ret
  exact ⟨rfl, HB1.out⟩
set_option maxHeartbeats 1000000 in
set_option maxRecDepth 100000 in
theorem Put_nil (p t : Int) (w : World) :
    Calls Try.prog 13 #[.pointer none, .agg #[.int .i64 p, .int .i64 t]] w fun e w' => e = .returned (.tuple #[.agg #[.int .i64 0, .int .i64 0], .int .i64 1]) ∧ Below w.heap.size w w' := by
  have e1 : (w.alloc (.cells #[.int .i64 p, .int .i64 t] 27)).heap.size = w.heap.size + 1 := by simp
  have h2 := Blk.new (w.alloc (.cells #[.int .i64 p, .int .i64 t] 27)) 29 (two_ 0 0)
  rw [e1] at h2
  have B : Below w.heap.size w ((w.alloc (.cells #[.int .i64 p, .int .i64 t] 27)).alloc (.cells (two_ 0 0) 29)) := ((Below.refl w.heap.size w).alloc (Nat.le_refl _) _).alloc (by rw [e1]; omega) _
  have HR : Hid (w.heap.size ≤ w.heap.size + 1) := Lib.hid (by omega)
  clear e1
  go_enter Try.func13, Try.ntmps13
  go_upto_region 1 with fail
  change Blk ((w.alloc (.cells #[.int .i64 p, .int .i64 t] 27)).alloc (.cells #[.int .i64 0, .int .i64 0] 29)) _ _ _ at h2
  change Below _ _ ((w.alloc (.cells #[.int .i64 p, .int .i64 t] 27)).alloc (.cells #[.int .i64 0, .int .i64 0] 29)) at B
  generalize (w.alloc (.cells #[.int .i64 p, .int .i64 t] 27)).alloc (.cells #[.int .i64 0, .int .i64 0] 29) = W at h2 B ⊢
  obtain ⟨r0, r1⟩ := two_cells h2
  have f0 := h2.frozen
  go_wp2_with fail
  clear r0 r1
  obtain ⟨r0, r1⟩ := two_cells (two_set h2 0 0)
  exact bodyPost_ret (v := .tuple #[.agg #[.int .i64 0, .int .i64 0], .int .i64 1]) (by simp [results, Try.results13, go_sem, r0, r1]) rfl ⟨rfl, two_below B HR.out _ _⟩
end Go.Proofs.Ytfoigflgglpobaa.Tr
/- The contract of tree's Keys. No condition but that memory holds a tree. -/
set_option linter.unusedVariables false
set_option linter.unusedSimpArgs false
namespace Go.Proofs.Ytfoigflgglpobaa.Tr
open Go.RowKit Go.Proofs.Ytfoigflgglpobaa.Aid
theorem infoKey : (Try.prog.info? 27).map (fun i => (i.zero.map (·.cells.size), i.size, i.bytes)) = some (some 2, 2, 16) := by kernel_rfl
theorem infoKey' : ∃ i z, Try.prog.info? 27 = some i ∧ i.zero = some z ∧ z.cells.size = 2 ∧ i.size = 2 ∧ i.bytes = 16 := by
  have h := infoKey
  cases e : Try.prog.info? 27 with
  | none => rw [e] at h; cases h
  | some i =>
    rw [e] at h
    simp only [Option.map_some, Option.some.injEq, Prod.mk.injEq] at h
    cases e2 : i.zero with
    | none => rw [e2] at h; simp at h
    | some z => rw [e2] at h; simp only [Option.map_some, Option.some.injEq] at h; exact ⟨i, z, rfl, e2, h.1, h.2.1, h.2.2⟩
def KSRel (s : TS) (T : Sh) (w : World) (m : Nat) (s3 s4 : Value) (wr : World) : Prop :=
  ∃ pre post, T.ino = pre ++ post ∧ post.length ≤ m ∧ s4 = .int .i64 ((post.head?.getD 0 : Nat) : Int) ∧ wr.ownsRow w.heap.size 27 2 s3 pre.length (keysOf s.f pre) ∧ Below w.heap.size w wr
set_option maxHeartbeats 1000000 in
set_option maxRecDepth 100000 in
theorem Keys_any (g gl : Nat) (s : TS) (T : Sh) (w : World) (h : Rd w g gl s T) (hlen : T.ino.length ≤ 100000) :
    Calls Try.prog 22 #[.pointer (some ⟨g, 0, none⟩)] w fun e w' => ∃ v, e = .returned v ∧ w'.ownsRow w.heap.size 27 2 v T.ino.length (keysOf s.f T.ino) ∧ Below w.heap.size w w' := by
  have H := Lib.hid h
  have HLN := Lib.hid hlen
  have HM := Lib.hid (most_any g gl s w h.m T 0 h.rep h.lt)
  rw [← h.root] at HM
  have hfst := fst_ino T h.rep
  rw [hfst] at HM
  have S := Lib.hid (show KSRel s T w T.ino.length (.slice none 0 0) (.int .i64 ((T.ino.head?.getD 0 : Nat) : Int)) w from ⟨[], T.ino, rfl, Nat.le_refl _, rfl, World.ownsRow_nil _ _ _ _, Below.refl _ _⟩)
  have q1 := h.m.hc.2.1
  generalize T.ino.head?.getD 0 = F at HM S
  clear h hlen hfst
  go_enter Try.func22, Try.ntmps22
  go_wp2_with fail
  refine HM.out.mono ?_
  rintro e w1 ⟨rfl, rfl⟩
  go_wp2_with fail
  go_loopg [3, 4] T.ino.length (fun m s3 s4 wr => KSRel s T w m s3 s4 wr)
  case atStart => exact S.out
  case round =>
    obtain ⟨pre, post, hT, hm, rfl, hown, hB⟩ := hrel
    have HT := Lib.hid hT
    have HMM := Lib.hid hm
    have HO := Lib.hid hown
    have HB := Lib.hid hB
    clear hT hm hB hown q1 S HM
    cases post with
    | nil =>
      have e0 : ((([] : List Nat).head?.getD 0 : Nat) : Int) = 0 := rfl
      rw [e0]
      go_wp2_with fail
      go_ret
      have e1 : T.ino = pre := by rw [HT.out]; simp
      rw [e1]
      exact ⟨_, rfl, HO.out, HB.out⟩
    | cons x rest =>
      have e0 : (((x :: rest).head?.getD 0 : Nat) : Int) = (x : Int) := rfl
      rw [e0]
      have R := H.out.below HB.out
      have hxm : x ∈ T.ino := by rw [HT.out]; simp
      have hx := R.lt x hxm
      have c0 : ¬ ((x : Nat) : Int) = 0 := by have := R.ne0 hxm; omega
      have q0 := R.m.hc.1
      have hs := R.m.sz
      obtain ⟨kt, hkt⟩ : ∃ k, (s.f x).t = k := ⟨_, rfl⟩
      obtain ⟨ks, hks⟩ : ∃ k, (s.f x).s = k := ⟨_, rfl⟩
      have k0 : wr.cell? ⟨gl, x * 8, none⟩ = some (.int .i64 kt) := by rw [← hkt]; exact R.m.n.cell x hx 0 (by omega)
      have k1 : wr.cell? ⟨gl, x * 8 + 1, none⟩ = some (.int .i64 ks) := by rw [← hks]; exact R.m.n.cell x hx 1 (by omega)
      have HK := Lib.hid (And.intro hkt hks)
      obtain ⟨i0, z0, hi, hz0, hz1, hz2, hz3⟩ := infoKey'
      have hpl : pre.length + 1 ≤ 100000 := by have h1 := HLN.out; rw [HT.out] at h1; simp only [List.length_append, List.length_cons] at h1; omega
      have HR := Lib.hid R
      clear hkt hks R hxm
      go_wp2_with (at_builtin; refine wpList_append_lies _ rfl _ _ 22 rfl w.heap.size 27 i0 z0 2 16 Try.underlying22 hi hz0 hz2 hz3 hz1 (by decide) _ _ _ rfl (own_alloc HO.out _) ⟨wr.heap.size, 0, none⟩ 1 1 [.int .i64 kt, .int .i64 ks] rfl rfl (World.news_of_block (heap_alloc_new wr _)) (by simp [Value.oneCell']) (by decide) (by unfold maxLen; omega) (by omega) (by simp; have := HB.out.size; omega) _ rfl ?_)
      intro g' cap' w1 hown' hgrow hat hlt
      have B1 : Below w.heap.size w w1 := by
        have BA := HB.out.alloc HB.out.size (.cells #[.int .i64 kt, .int .i64 ks] 27)
        refine ⟨hgrow.os.trans BA.os, hgrow.tape.trans BA.tape, hgrow.output.trans BA.output, Nat.le_trans BA.size hgrow.size, fun k hk => (hgrow.block k (Nat.lt_of_lt_of_le hk BA.size) ?_).trans (BA.block k hk)⟩
        intro e
        have := (own_block HO.out e.symm).1
        omega
      have hown2 : w1.ownsRow w.heap.size 27 2 (.slice (some ⟨g', 0, none⟩) (pre ++ [x]).length cap') (pre ++ [x]).length (keysOf s.f (pre ++ [x])) := by
        rw [keysOf_snoc, HK.out.1, HK.out.2, List.length_append]
        exact hown'
      have e3 : pre.length + 1 = (pre ++ [x]).length := by simp
      rw [e3]
      have HO2 := Lib.hid hown2
      have HB1 := Lib.hid B1
      obtain ⟨C, c, kx, a1, a2, a3, a4⟩ := way_split H.out HT.out
      have HA := Lib.hid (after_any g gl s w1 (H.out.below B1).m C c x kx a1 a2 (by rw [a3]; exact H.out.nd) (by rw [a3]; exact H.out.lt))
      rw [a4] at HA
      clear hown' hgrow hat hlt B1 hown2 e3 a1 a2 a3 a4 hi hz0 hz1 hz2 hz3 k0 k1 q0
      obtain ⟨N, hN⟩ : ∃ N, (pre ++ [x]).length = N := ⟨_, rfl⟩
      rw [hN] at HO2 ⊢
      have HN := Lib.hid hN
      clear hN
      go_wp2_with fail
      refine HA.out.mono ?_
      rintro e w2 ⟨rfl, rfl⟩
      go_wp2_with fail
      go_roundg rest.length
      case measure => have := HMM.out; simp only [List.length_cons] at this; omega
      case rel => exact ⟨pre ++ [x], rest, by rw [HT.out]; simp, Nat.le_refl _, rfl, by rw [HN.out]; exact HO2.out, HB1.out⟩
end Go.Proofs.Ytfoigflgglpobaa.Tr
