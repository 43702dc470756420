/- The contract of tree's cutting. No condition but that memory holds a tree. -/
import Derived.Test.YtfoigflgglpobaaTde
import Derived.Test.YtfoigflgglpobaaTdf
set_option linter.unusedVariables false
set_option linter.unusedSimpArgs false
namespace Go.Proofs.Ytfoigflgglpobaa.Tr
open Go.RowKit Go.Proofs.Ytfoigflgglpobaa.Aid
def CutPost (g gl : Nat) (s : TS) (T : Sh) (pre post : List Nat) (w : World) (e : Ending) (w' : World) : Prop :=
  e = .returned (.tuple #[]) ∧ ∃ p, IsT w' g gl (s.with p) ∧ CutMid s T p ∧ (∃ T', RB p.1 p.2 T' ∧ T'.ino = pre ++ post) ∧ Only (TF g gl) w w'
theorem cut_in {T : Sh} {pre post : List Nat} {z : Nat} (hT : T.ino = pre ++ z :: post) : ∀ v, v ∈ pre ++ post → v ∈ T.ino := fun v hv => by rw [hT]; simp only [List.mem_append, List.mem_cons] at hv ⊢; exact hv.elim .inl fun e => .inr (.inr e)
set_option maxHeartbeats 2000000 in
set_option maxRecDepth 100000 in
/-- the place itself goes: at most one hangs on it -/
theorem cut_one (g gl : Nat) (s : TS) (T : Sh) (fl : List Nat) (w : World) (h : Full w g gl s T fl) (pre post : List Nat) (z : Nat) (hT : T.ino = pre ++ z :: post) (C : Cx) (c : Bool) (kz : Bool → Sh)
    (hR : Rep s.f (.node c z kz) C.up) (hC : RepC s.f s.root C z) (hpl : C.plug (.node c z kz) = T) (h1 : (kz false).root = 0 ∨ (kz true).root = 0) :
    Calls Try.prog 58 #[.pointer (some ⟨g, 0, none⟩), .int .i64 z] w (CutPost g gl s T pre post w) := by
  have hz : z < s.sz := h.lt z (by rw [hT]; simp)
  have q0 := h.m.hc.1
  have hs := h.m.sz
  have HIN := Lib.hid (cut_in hT)
  have cl : w.cell? ⟨gl, z * 8 + 2, none⟩ = some (.int .i64 (kz false).root) := by rw [← hR.2.2.2.1 false]; exact h.m.l hz
  have cr : w.cell? ⟨gl, z * 8 + 3, none⟩ = some (.int .i64 (kz true).root) := by rw [← hR.2.2.2.1 true]; exact h.m.r hz
  have lx : ∀ r, (kz r).root < s.sz := fun r => by rw [← hR.2.2.2.1 r]; exact h.lk.ch hz r
  have hredz := hR.2.1
  have Hu := (h.lk z hz).2.2
  have HM := Lib.hid h.m
  by_cases e0 : (kz false).root = 0
  · obtain ⟨M, F, D⟩ := cutA h hT hR hC hpl true (rep_root (hR.2.2.2.2 false) e0)
    have hx := lx true
    rw [e0] at cl
    obtain ⟨P, hP⟩ : ∃ P, hangF s.f s.root z (kz true).root = P := ⟨_, rfl⟩
    have HH := Lib.hid (hang_any g gl s w h.m z (kz true).root hz hx Hu)
    have hcr : (P.1 z).red = c := by rw [← hP, hang_red]; exact hredz
    rw [hP] at M F D HH
    have HMM := Lib.hid M
    have HF := Lib.hid F
    have HD := Lib.hid D
    clear M F D hP hR hC hpl h1 h e0 lx
    have HT2 := Lib.hid (show (kz true).root = (kz true).root from rfl)
    generalize kz true = t at cr hx HH HF HT2
    have HF' : Hid (c = false → FSt (s.with P) (pre ++ post) P C t) := HF
    obtain ⟨R, hRR⟩ : ∃ R, t.root = R := ⟨_, rfl⟩
    rw [hRR] at cr hx HH
    have HRR := Lib.hid hRR
    clear hRR HF HT2
    go_enter Try.func58, Try.ntmps58
    go_wp2_with fail
    refine HH.out.mono ?_
    rintro e W ⟨rfl, T1, O1⟩
    have q0 := T1.hc.1
    simp only [TS.with] at q0
    have cz : W.cell? ⟨gl, z * 8 + 5, none⟩ = some (.bool c) := by rw [← hcr]; exact T1.c hz
    have cx := T1.u hx
    have HT1 := Lib.hid T1
    have HO1 := Lib.hid O1
    clear T1 O1 cl cr
    cases c with
    | true =>
      go_wp2_with fail
      go_end0
      have E := HMM.out.end HIN.out (HD.out (by trivial))
      exact ⟨rfl, P, HT1.out, E.1, E.2, HO1.out⟩
    | false =>
      have HFF := Lib.hid (fill_any g gl (s.with P) W HT1.out (pre ++ post) C t (HF'.out rfl))
      rw [HRR.out] at HFF
      go_wp2_with fail
      refine HFF.out.mono ?_
      rintro e W2 ⟨rfl, q, Tq, Eq, Oq⟩
      go_wp2_with fail
      go_end0
      have E := HMM.out.end HIN.out Eq
      exact ⟨rfl, q, Tq, E.1, E.2, HO1.out.then Oq⟩
  · have e1 : (kz true).root = 0 := h1.resolve_left e0
    obtain ⟨M, F, D⟩ := cutA h hT hR hC hpl false (rep_root (hR.2.2.2.2 true) e1)
    have hx := lx false
    rw [e1] at cr
    obtain ⟨P, hP⟩ : ∃ P, hangF s.f s.root z (kz false).root = P := ⟨_, rfl⟩
    have HH := Lib.hid (hang_any g gl s w h.m z (kz false).root hz hx Hu)
    have hcr : (P.1 z).red = c := by rw [← hP, hang_red]; exact hredz
    rw [hP] at M F D HH
    have HMM := Lib.hid M
    have HF := Lib.hid F
    have HD := Lib.hid D
    clear M F D hP hR hC hpl h1 h lx
    have HT2 := Lib.hid (show (kz false).root = (kz false).root from rfl)
    generalize kz false = t at cl hx HH HF HT2 e0
    have HF' : Hid (c = false → FSt (s.with P) (pre ++ post) P C t) := HF
    obtain ⟨R, hRR⟩ : ∃ R, t.root = R := ⟨_, rfl⟩
    rw [hRR] at cl hx HH e0
    have HRR := Lib.hid hRR
    have d0 := bne_i (show ¬ ((R : Nat) : Int) = 0 by omega)
    have d1 : ¬ ((R : Nat) : Int) = 0 := by omega
    clear hRR HF HT2 e0
    go_enter Try.func58, Try.ntmps58
    go_wp2_with fail
    refine HH.out.mono ?_
    rintro e W ⟨rfl, T1, O1⟩
    have q0 := T1.hc.1
    simp only [TS.with] at q0
    have cz : W.cell? ⟨gl, z * 8 + 5, none⟩ = some (.bool c) := by rw [← hcr]; exact T1.c hz
    have cx := T1.u hx
    have HT1 := Lib.hid T1
    have HO1 := Lib.hid O1
    clear T1 O1 cl cr
    cases c with
    | true =>
      go_wp2_with fail
      go_end0
      have E := HMM.out.end HIN.out (HD.out (by trivial))
      exact ⟨rfl, P, HT1.out, E.1, E.2, HO1.out⟩
    | false =>
      have HFF := Lib.hid (fill_any g gl (s.with P) W HT1.out (pre ++ post) C t (HF'.out rfl))
      rw [HRR.out] at HFF
      go_wp2_with fail
      refine HFF.out.mono ?_
      rintro e W2 ⟨rfl, q, Tq, Eq, Oq⟩
      go_wp2_with fail
      go_end0
      have E := HMM.out.end HIN.out Eq
      exact ⟨rfl, q, Tq, E.1, E.2, HO1.out.then Oq⟩
set_option maxHeartbeats 2000000 in
set_option maxRecDepth 100000 in
/-- two hang on the place: another one comes in its place -/
theorem cut_two (g gl : Nat) (s : TS) (T : Sh) (fl : List Nat) (w : World) (h : Full w g gl s T fl) (pre post : List Nat) (z : Nat) (hT : T.ino = pre ++ z :: post) (C : Cx) (c : Bool) (kz : Bool → Sh)
    (hR : Rep s.f (.node c z kz) C.up) (hC : RepC s.f s.root C z) (hpl : C.plug (.node c z kz) = T) (h0 : (kz false).root ≠ 0) (h1 : (kz true).root ≠ 0) :
    Calls Try.prog 58 #[.pointer (some ⟨g, 0, none⟩), .int .i64 z] w (CutPost g gl s T pre post w) := by
  have hz : z < s.sz := h.lt z (by rw [hT]; simp)
  have q0 := h.m.hc.1
  have hs := h.m.sz
  have HIN := Lib.hid (cut_in hT)
  have cl : w.cell? ⟨gl, z * 8 + 2, none⟩ = some (.int .i64 (kz false).root) := by rw [← hR.2.2.2.1 false]; exact h.m.l hz
  have cr : w.cell? ⟨gl, z * 8 + 3, none⟩ = some (.int .i64 (kz true).root) := by rw [← hR.2.2.2.1 true]; exact h.m.r hz
  have HS := Lib.hid h.m
  obtain ⟨D, cy, y, ky, hD, hk, hfst, hpre⟩ := fst_way (kz true) (hR.2.2.2.2 true) h1
  obtain ⟨M, yc, yl, yr, yz, yT, zT, F, DD⟩ := cutB h hT hpl hD hk hpre
  have hy := h.lt y yT
  have hx : (ky true).root < s.sz := by rw [← yr]; exact (h.lk y hy).2.1
  have ins : ∀ v, v ∈ (kz true).ino → v < s.sz := fun v hv => h.lt v (by rw [← hpl, (plug_perm C _).mem_iff]; exact List.mem_append_left _ (mem_ino_side true hv))
  have HMo := Lib.hid (most_any g gl s w h.m (kz true) z (hR.2.2.2.2 true) ins)
  rw [hfst] at HMo
  have HH := Lib.hid (hang_any g gl s w h.m y (ky true).root hy hx (h.lk y hy).2.2)
  have hlk := h.lk.hang h.rootlt hy hx
  obtain ⟨P1, hP1⟩ : ∃ P, hangF s.f s.root y (ky true).root = P := ⟨_, rfl⟩
  have hcy : (P1.1 y).red = cy := by rw [← hP1, hang_red]; exact yc
  have yl' : w.cell? ⟨gl, y * 8 + 2, none⟩ = some (.int .i64 0) := by rw [show (0 : Int) = ((0 : Nat) : Int) from rfl, ← yl]; exact h.m.l hy
  have yr' : w.cell? ⟨gl, y * 8 + 3, none⟩ = some (.int .i64 (ky true).root) := by rw [← yr]; exact h.m.r hy
  obtain ⟨U, hU⟩ : ∃ U, (P1.1 (ky true).root).u = U := ⟨_, rfl⟩
  have hUl : U < s.sz := by rw [← hU, ← hP1]; exact (hlk.1 _ hx).2.2
  have hcut : cutF s.f s.root z y (ky true).root = (setU (takeF P1.1 P1.2 z y).1 (ky true).root (if U = z then y else U), (takeF P1.1 P1.2 z y).2) := by
    unfold cutF; dsimp only; rw [hP1, hU]
  rw [hP1] at HH hlk
  rw [hcut] at M F DD
  have HMM := Lib.hid M
  have HF := Lib.hid F
  have HDD := Lib.hid DD
  have HLK := Lib.hid hlk
  have HUU := Lib.hid hU
  clear M F DD hcut hlk hU hR hC hpl h yc yl yr hD hk hpre hP1 yT zT ins hfst
  generalize D.app (Cx.fr c y true (kz false) C) = E at HF
  generalize ky true = t at HH HF HMM HDD HUU hx yr'
  obtain ⟨X, hX⟩ : ∃ R, t.root = R := ⟨_, rfl⟩
  rw [hX] at HH HF HMM HDD HUU hx yr'
  have HX := Lib.hid hX
  clear hX
  generalize (kz false).root = L at cl h0
  generalize (kz true).root = R at cr h1 HMo
  have d0 := bne_i (show ¬ ((L : Nat) : Int) = 0 by omega)
  have d1 : ¬ ((L : Nat) : Int) = 0 := by omega
  have d2 := bne_i (show ¬ ((R : Nat) : Int) = 0 by omega)
  have d3 : ¬ ((R : Nat) : Int) = 0 := by omega
  have d4 := bne_i (show ¬ ((y : Nat) : Int) = ((z : Nat) : Int) by omega)
  have d5 : ¬ ((y : Nat) : Int) = ((z : Nat) : Int) := by omega
  clear h0 h1
  have AT : Hid (∀ at_ : Nat, (if U = z then y else U) = at_ → at_ < s.sz) := Lib.hid fun a ha => by rw [← ha]; split; exact hy; exact hUl
  by_cases hUz : U = z
  · subst hUz
    rw [if_pos rfl] at HMM HF HDD
    go_enter Try.func58, Try.ntmps58
    go_wp2_with fail
    refine HMo.out.mono ?_
    rintro e W0 ⟨rfl, rfl⟩
    go_wp2_with fail
    refine HH.out.mono ?_
    rintro e W ⟨rfl, T1, O1⟩
    have q0 := T1.hc.1
    simp only [TS.with] at q0
    have cy5 : W.cell? ⟨gl, y * 8 + 5, none⟩ = some (.bool cy) := by rw [← hcy]; exact T1.c hy
    have cx : W.cell? ⟨gl, X * 8 + 4, none⟩ = some (.int .i64 U) := by rw [← HUU.out]; exact T1.u hx
    have HT1 := Lib.hid T1
    have HO1 := Lib.hid O1
    clear T1 O1 cl cr yl' yr'
    go_wp2_with fail
    refine (swap_any g gl (s.with P1) W HT1.out HLK.out.1 HLK.out.2 U y hz hy yz).mono ?_
    rintro e W2 ⟨rfl, T2, O2⟩
    have HO2 := HO1.out.then O2
    have T2' : IsT W2 g gl (s.with (takeF P1.1 P1.2 U y)) := T2
    clear T2 O2
    generalize takeF P1.1 P1.2 U y = P2 at T2' HMM HF HDD
    have q0 := T2'.hc.1
    simp only [TS.with] at q0
    have cx := T2'.u hx
    have fz := T2'.n.frozen
    have T3 := Lib.hid (show IsT (W2.setCell ⟨gl, X * 8 + 4, none⟩ (.int .i64 y)) g gl (s.with (setU P2.1 X y, P2.2)) from T2'.setU hx y)
    have O3 := Lib.hid (HO2.setCell (p := ⟨gl, X * 8 + 4, none⟩) (.inl (.inr rfl)) (.int .i64 y))
    clear T2' HO2
    cases cy with
    | true =>
      go_wp2_with fail
      go_end0
      have E := HMM.out.end HIN.out (HDD.out (by trivial))
      exact ⟨rfl, _, T3.out, E.1, E.2, O3.out⟩
    | false =>
      have HFF := Lib.hid (fill_any g gl (s.with (setU P2.1 X y, P2.2)) _ T3.out (pre ++ post) E t (HF.out rfl))
      rw [HX.out] at HFF
      go_wp2_with fail
      refine HFF.out.mono ?_
      rintro e W4 ⟨rfl, q, Tq, Eq, Oq⟩
      go_wp2_with fail
      go_end0
      have E := HMM.out.end HIN.out Eq
      exact ⟨rfl, q, Tq, E.1, E.2, O3.out.then Oq⟩
  · rw [if_neg hUz] at HMM HF HDD
    have d6 : ¬ ((U : Nat) : Int) = ((z : Nat) : Int) := by omega
    clear hUz
    go_enter Try.func58, Try.ntmps58
    go_wp2_with fail
    refine HMo.out.mono ?_
    rintro e W0 ⟨rfl, rfl⟩
    go_wp2_with fail
    refine HH.out.mono ?_
    rintro e W ⟨rfl, T1, O1⟩
    have q0 := T1.hc.1
    simp only [TS.with] at q0
    have cy5 : W.cell? ⟨gl, y * 8 + 5, none⟩ = some (.bool cy) := by rw [← hcy]; exact T1.c hy
    have cx : W.cell? ⟨gl, X * 8 + 4, none⟩ = some (.int .i64 U) := by rw [← HUU.out]; exact T1.u hx
    have HT1 := Lib.hid T1
    have HO1 := Lib.hid O1
    clear T1 O1 cl cr yl' yr'
    go_wp2_with fail
    refine (swap_any g gl (s.with P1) W HT1.out HLK.out.1 HLK.out.2 z y hz hy yz).mono ?_
    rintro e W2 ⟨rfl, T2, O2⟩
    have HO2 := HO1.out.then O2
    have T2' : IsT W2 g gl (s.with (takeF P1.1 P1.2 z y)) := T2
    clear T2 O2
    generalize takeF P1.1 P1.2 z y = P2 at T2' HMM HF HDD
    have q0 := T2'.hc.1
    simp only [TS.with] at q0
    have cx := T2'.u hx
    have fz := T2'.n.frozen
    have T3 := Lib.hid (show IsT (W2.setCell ⟨gl, X * 8 + 4, none⟩ (.int .i64 U)) g gl (s.with (setU P2.1 X U, P2.2)) from T2'.setU hx U)
    have O3 := Lib.hid (HO2.setCell (p := ⟨gl, X * 8 + 4, none⟩) (.inl (.inr rfl)) (.int .i64 U))
    clear T2' HO2
    cases cy with
    | true =>
      go_wp2_with fail
      go_end0
      have E := HMM.out.end HIN.out (HDD.out (by trivial))
      exact ⟨rfl, _, T3.out, E.1, E.2, O3.out⟩
    | false =>
      have HFF := Lib.hid (fill_any g gl (s.with (setU P2.1 X U, P2.2)) _ T3.out (pre ++ post) E t (HF.out rfl))
      rw [HX.out] at HFF
      go_wp2_with fail
      refine HFF.out.mono ?_
      rintro e W4 ⟨rfl, q, Tq, Eq, Oq⟩
      go_wp2_with fail
      go_end0
      have E := HMM.out.end HIN.out Eq
      exact ⟨rfl, q, Tq, E.1, E.2, O3.out.then Oq⟩
theorem cut_any (g gl : Nat) (s : TS) (T : Sh) (fl : List Nat) (w : World) (h : Full w g gl s T fl) (pre post : List Nat) (z : Nat) (hT : T.ino = pre ++ z :: post) :
    Calls Try.prog 58 #[.pointer (some ⟨g, 0, none⟩), .int .i64 z] w (CutPost g gl s T pre post w) := by
  obtain ⟨C, c, kz, hR, hC, hpl, _⟩ := way_split h.rd hT
  by_cases h0 : (kz false).root = 0
  · exact cut_one g gl s T fl w h pre post z hT C c kz hR hC hpl (.inl h0)
  · by_cases h1 : (kz true).root = 0
    · exact cut_one g gl s T fl w h pre post z hT C c kz hR hC hpl (.inr h1)
    · exact cut_two g gl s T fl w h pre post z hT C c kz hR hC hpl h0 h1
end Go.Proofs.Ytfoigflgglpobaa.Tr
