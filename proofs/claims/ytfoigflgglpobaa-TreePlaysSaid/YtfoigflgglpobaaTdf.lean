/- The contract of tree's swapping. No condition but that places are some. -/
import Derived.Test.YtfoigflgglpobaaTdc
set_option linter.unusedVariables false
set_option linter.unusedSimpArgs false
namespace Go.Proofs.Ytfoigflgglpobaa.Tr
open Go.RowKit Go.Proofs.Ytfoigflgglpobaa.Aid
def mid0 (h : (Nat → Nd) × Nat) (z y : Nat) : Nat → Nd := repN h.1 y { h.1 y with l := (h.1 z).l, r := (h.1 z).r, red := (h.1 z).red }
def mid1 (h : (Nat → Nd) × Nat) (z y : Nat) : Nat → Nd := if (h.1 z).l = 0 then mid0 h z y else setU (mid0 h z y) (h.1 z).l y
def mid2 (h : (Nat → Nd) × Nat) (z y : Nat) : Nat → Nd := if (h.1 z).r = 0 then mid1 h z y else setU (mid1 h z y) (h.1 z).r y
theorem takeF_mid (f : Nat → Nd) (root z y : Nat) : takeF f root z y = (mid2 (hangF f root z y) z y, (hangF f root z y).2) := rfl
def midk (h : (Nat → Nd) × Nat) (z y : Nat) : Nat → Nat → Nd
  | 0 => mid0 h z y
  | 1 => mid1 h z y
  | _ => mid2 h z y
theorem mid0_eq (h : (Nat → Nd) × Nat) (z y : Nat) : mid0 h z y = setC (setCh (setCh h.1 y false (h.1 z).l) y true (h.1 z).r) y (h.1 z).red := by
  funext w
  unfold mid0 repN setC setCh
  by_cases e : w = y
  · subst e; simp
  · simp [e]
def SwRel (g gl : Nat) (s : TS) (h : (Nat → Nd) × Nat) (z y B : Nat) (w : World) (m : Nat) (s9 s52 : Value) (wr : World) : Prop :=
  ∃ k : Nat, k ≤ 2 ∧ m = 2 - k ∧ s52 = .int .i64 k ∧ IsT wr g gl (s.with (midk h z y k, h.2)) ∧ Only (TF g gl) w wr ∧ Blk wr B 3 #[.int .i64 ((h.1 z).l : Nat), .int .i64 ((h.1 z).r : Nat)] ∧ w.heap.size ≤ B
set_option maxHeartbeats 2000000 in
set_option maxRecDepth 100000 in
theorem swap_any (g gl : Nat) (s : TS) (w : World) (h : IsT w g gl s) (hk : Lk s.f s.sz) (hr : s.root < s.sz) (z y : Nat) (hz : z < s.sz) (hy : y < s.sz) (hzy : y ≠ z) :
    Calls Try.prog 74 #[.pointer (some ⟨g, 0, none⟩), .int .i64 z, .int .i64 y] w fun e w' => e = .returned (.tuple #[]) ∧ IsT w' g gl (s.with (takeF s.f s.root z y)) ∧ Only (TF g gl) w w' := by
  rw [takeF_mid]
  have HL := Lib.hid (hk.hang hr hz hy)
  have HA := Lib.hid (hang_any g gl s w h z y hz hy (hk z hz).2.2)
  have OO := Lib.hid (Only.refl (TF g gl) w)
  have hsz := h.sz
  have hne := h.ne
  have hgl := h.n.lt
  have hg := h.b.lt
  clear h hk hr
  generalize hangF s.f s.root z y = H at HL HA ⊢
  go_enter Try.func74, Try.ntmps74
  go_wp2_with fail
  refine HA.out.mono ?_
  rintro e W ⟨rfl, h1, O1⟩
  clear HA
  have HO1 := Lib.hid (OO.out.then O1)
  clear OO O1
  have gl2 := h1.n.lt
  have q0 := h1.hc.1
  simp only [TS.with] at q0
  obtain ⟨N, hN⟩ : ∃ N, H.1 z = N := ⟨_, rfl⟩
  have c0 : W.cell? ⟨gl, z * 8, none⟩ = some (.int .i64 N.t) := by rw [← hN]; exact h1.n.cell z hz 0 (by omega)
  have c1 : W.cell? ⟨gl, z * 8 + 1, none⟩ = some (.int .i64 N.s) := by rw [← hN]; exact h1.n.cell z hz 1 (by omega)
  have c2 : W.cell? ⟨gl, z * 8 + 2, none⟩ = some (.int .i64 N.l) := by rw [← hN]; exact h1.l hz
  have c3 : W.cell? ⟨gl, z * 8 + 3, none⟩ = some (.int .i64 N.r) := by rw [← hN]; exact h1.r hz
  have c4 : W.cell? ⟨gl, z * 8 + 4, none⟩ = some (.int .i64 N.u) := by rw [← hN]; exact h1.u hz
  have c5 : W.cell? ⟨gl, z * 8 + 5, none⟩ = some (.bool N.red) := by rw [← hN]; exact h1.c hz
  have c6 : W.cell? ⟨gl, z * 8 + 6, none⟩ = some (.bool N.tak) := by rw [← hN]; exact h1.k hz
  have c7 : W.cell? ⟨gl, z * 8 + 7, none⟩ = some (.int .i64 N.turn) := by rw [← hN]; exact h1.t hz
  have hLz := (HL.out.1 z hz)
  rw [hN] at hLz
  have HN := Lib.hid hN
  have H1 := Lib.hid h1
  clear hN h1
  go_upto_region 3 with fail
  have hA := H1.out.alloc (.cells #[.int .i64 N.t, .int .i64 N.s, .int .i64 N.l, .int .i64 N.r, .int .i64 N.u, .bool N.red, .bool N.tak, .int .i64 N.turn] 104)
  have hB := Blk.new W 104 #[.int .i64 N.t, .int .i64 N.s, .int .i64 N.l, .int .i64 N.r, .int .i64 N.u, .bool N.red, .bool N.tak, .int .i64 N.turn]
  have hO := HO1.out.alloc (.cells #[.int .i64 N.t, .int .i64 N.s, .int .i64 N.l, .int .i64 N.r, .int .i64 N.u, .bool N.red, .bool N.tak, .int .i64 N.turn] 104)
  have hbg : W.heap.size ≠ gl := by omega
  generalize W.alloc (.cells #[.int .i64 N.t, .int .i64 N.s, .int .i64 N.l, .int .i64 N.r, .int .i64 N.u, .bool N.red, .bool N.tak, .int .i64 N.turn] 104) = W2 at hA hB hO ⊢
  generalize W.heap.size = b at hB hbg ⊢
  have b2 : W2.cell? ⟨b, 2, none⟩ = some (.int .i64 N.l) := hB.cell 2
  have b3 : W2.cell? ⟨b, 3, none⟩ = some (.int .i64 N.r) := hB.cell 3
  have b5 : W2.cell? ⟨b, 5, none⟩ = some (.bool N.red) := hB.cell 5
  have y2 := hA.l hy
  have y3 := hA.r hy
  have y5 := hA.c hy
  have fz := hA.n.frozen
  simp only [TS.with] at y2 y3 y5
  have hbg2 : gl ≠ b := fun e => hbg e.symm
  have TA : IsT (W2.setCell ⟨gl, y * 8 + 2, none⟩ (.int .i64 N.l)) g gl (s.with (setCh H.1 y false N.l, H.2)) := hA.setS hy false N.l
  have TB : IsT ((W2.setCell ⟨gl, y * 8 + 2, none⟩ (.int .i64 N.l)).setCell ⟨gl, y * 8 + 3, none⟩ (.int .i64 N.r)) g gl (s.with (setCh (setCh H.1 y false N.l) y true N.r, H.2)) := TA.setS hy true N.r
  have TD : IsT (((W2.setCell ⟨gl, y * 8 + 2, none⟩ (.int .i64 N.l)).setCell ⟨gl, y * 8 + 3, none⟩ (.int .i64 N.r)).setCell ⟨gl, y * 8 + 5, none⟩ (.bool N.red)) g gl (s.with (setC (setCh (setCh H.1 y false N.l) y true N.r) y N.red, H.2)) := TB.setC hy N.red
  have OD := Lib.hid (((hO.setCell (p := ⟨gl, y * 8 + 2, none⟩) (.inl (.inr rfl)) (.int .i64 N.l)).setCell (p := ⟨gl, y * 8 + 3, none⟩) (.inl (.inr rfl)) (.int .i64 N.r)).setCell (p := ⟨gl, y * 8 + 5, none⟩) (.inl (.inr rfl)) (.bool N.red))
  have em := mid0_eq H z y
  rw [HN.out] at em
  rw [← em] at TD
  have HTD := Lib.hid TD
  clear c0 c1 c2 c3 c4 c5 c6 c7 q0 H1 HO1 hA hB hO TA TB TD em
  go_region
  all_goals
    have T3 := HTD.out.drew
    have O3 := OD.out.drew
    generalize (((W2.setCell ⟨gl, y * 8 + 2, none⟩ (.int .i64 N.l)).setCell ⟨gl, y * 8 + 3, none⟩ (.int .i64 N.r)).setCell ⟨gl, y * 8 + 5, none⟩ (.bool N.red)).drew = W3 at T3 O3 ⊢
    have HT3 := Lib.hid T3
    have HO3 := Lib.hid O3
    have e2 : (mid0 H z y y).l = N.l := by unfold mid0; rw [repN_same, HN.out]
    have e3 : (mid0 H z y y).r = N.r := by unfold mid0; rw [repN_same, HN.out]
    have y2 : W3.cell? ⟨gl, y * 8 + 2, none⟩ = some (.int .i64 N.l) := by rw [← e2]; exact T3.l hy
    have y3 : W3.cell? ⟨gl, y * 8 + 3, none⟩ = some (.int .i64 N.r) := by rw [← e3]; exact T3.r hy
    clear T3 O3 e2 e3 fz b2 b3 b5 hbg hbg2 HTD OD
    go_upto_region 4 with fail
    go_region
    all_goals
      have hbl := Blk.new W3 3 #[.int .i64 N.l, .int .i64 N.r]
      have hTl := HT3.out.alloc (.cells #[.int .i64 N.l, .int .i64 N.r] 3)
      have hOl := HO3.out.alloc (.cells #[.int .i64 N.l, .int .i64 N.r] 3)
      have hsz3 := HO3.out.size
      have hBl := hbl.drew
      have hT4 := hTl.drew
      have hO4 := hOl.drew
      generalize (W3.alloc (.cells #[.int .i64 N.l, .int .i64 N.r] 3)).drew = W4 at hBl hT4 hO4 ⊢
      clear hbl hTl hOl
      generalize W3.heap.size = B at hBl hsz3 ⊢
      have S := Lib.hid (show SwRel g gl s H z y B w 2 undef (.int .i64 0) W4 from ⟨0, by omega, rfl, rfl, hT4, hO4, by rw [HN.out]; exact hBl, hsz3⟩)
      clear hT4 hO4 hBl
      go_wp2_with fail
      go_loopg [9, 52] 2 (fun m s9 s52 wr => SwRel g gl s H z y B w m s9 s52 wr)
      case atStart => exact S.out
      case round =>
        obtain ⟨k, hk2, rfl, rfl, hT, hO, hBk, hBw⟩ := hrel
        have HTk := Lib.hid hT
        have HOk := Lib.hid hO
        have HBk := Lib.hid hBk
        have HBw := Lib.hid hBw
        have b0 : wr.cell? ⟨B, 0, none⟩ = some (.int .i64 N.l) := by rw [← HN.out]; exact hBk.cell 0
        have b1 : wr.cell? ⟨B, 1, none⟩ = some (.int .i64 N.r) := by rw [← HN.out]; exact hBk.cell 1
        have q0 := hT.hc.1
        have fz := hT.n.frozen
        simp only [TS.with] at q0
        have hBgl : B ≠ gl := by omega
        clear hT hO hBk hBw y2 y3 S
        have k3 : k = 0 ∨ k = 1 ∨ k = 2 := by omega
        rcases k3 with rfl | rfl | rfl
        · by_cases e : N.l = 0
          · have em : midk H z y 1 = midk H z y 0 := by show mid1 H z y = mid0 H z y; unfold mid1; rw [HN.out, if_pos e]
            have HE := Lib.hid em
            have e' : ((N.l : Nat) : Int) = 0 := by omega
            clear em e
            go_wp2_with fail
            go_roundg 1
            case measure => omega
            case rel => exact ⟨1, by omega, rfl, rfl, by rw [HE.out]; exact HTk.out, HOk.out, HBk.out, HBw.out⟩
          · have cu := HTk.out.u hLz.1
            have F := Lib.hid (show IsT (wr.setCell ⟨gl, N.l * 8 + 4, none⟩ (.int .i64 y)) g gl (s.with (midk H z y 1, H.2)) from by
              have := HTk.out.setU hLz.1 y
              have em : midk H z y 1 = setU (midk H z y 0) N.l y := by show mid1 H z y = setU (mid0 H z y) N.l y; unfold mid1; rw [HN.out, if_neg e]
              rw [em]; exact this)
            have O := Lib.hid (HOk.out.setCell (p := ⟨gl, N.l * 8 + 4, none⟩) (.inl (.inr rfl)) (.int .i64 y))
            have BB := Lib.hid (HBk.out.far (p := ⟨gl, N.l * 8 + 4, none⟩) hBgl (.int .i64 y))
            have e' : ¬ ((N.l : Nat) : Int) = 0 := by omega
            clear e
            go_wp2_with fail
            go_roundg 1
            case measure => omega
            case rel => exact ⟨1, by omega, rfl, rfl, F.out, O.out, BB.out, HBw.out⟩
        · by_cases e : N.r = 0
          · have em : midk H z y 2 = midk H z y 1 := by show mid2 H z y = mid1 H z y; unfold mid2; rw [HN.out, if_pos e]
            have HE := Lib.hid em
            have e' : ((N.r : Nat) : Int) = 0 := by omega
            clear em e
            go_wp2_with fail
            go_roundg 0
            case measure => omega
            case rel => exact ⟨2, by omega, rfl, rfl, by rw [HE.out]; exact HTk.out, HOk.out, HBk.out, HBw.out⟩
          · have cu := HTk.out.u hLz.2.1
            have F := Lib.hid (show IsT (wr.setCell ⟨gl, N.r * 8 + 4, none⟩ (.int .i64 y)) g gl (s.with (midk H z y 2, H.2)) from by
              have := HTk.out.setU hLz.2.1 y
              have em : midk H z y 2 = setU (midk H z y 1) N.r y := by show mid2 H z y = setU (mid1 H z y) N.r y; unfold mid2; rw [HN.out, if_neg e]
              rw [em]; exact this)
            have O := Lib.hid (HOk.out.setCell (p := ⟨gl, N.r * 8 + 4, none⟩) (.inl (.inr rfl)) (.int .i64 y))
            have BB := Lib.hid (HBk.out.far (p := ⟨gl, N.r * 8 + 4, none⟩) hBgl (.int .i64 y))
            have e' : ¬ ((N.r : Nat) : Int) = 0 := by omega
            clear e
            go_wp2_with fail
            go_roundg 0
            case measure => omega
            case rel => exact ⟨2, by omega, rfl, rfl, F.out, O.out, BB.out, HBw.out⟩
        · go_wp2_with fail
          go_end0
          exact ⟨rfl, HTk.out, HOk.out⟩
end Go.Proofs.Ytfoigflgglpobaa.Tr
