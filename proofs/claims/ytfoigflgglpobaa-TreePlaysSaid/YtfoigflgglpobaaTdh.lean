/- The contract of tree's Drop. No condition but that memory holds a tree. -/
import Derived.Test.YtfoigflgglpobaaTdg
import Derived.Test.YtfoigflgglpobaaTrf
set_option linter.unusedVariables false
set_option linter.unusedSimpArgs false
namespace Go.Proofs.Ytfoigflgglpobaa.Tr
open Go.RowKit Go.Proofs.Ytfoigflgglpobaa.Aid
def DropPost (g gl : Nat) (s : TS) (T : Sh) (fl : List Nat) (z : Nat) (w : World) (e : Ending) (w' : World) : Prop :=
  e = .returned (.int .i64 0) ∧ ∃ s' T' pre post, Full w' g gl s' T' (z :: fl) ∧ DropRes s T z s' T' pre post ∧ Only (TF g gl) w w'
set_option maxHeartbeats 2000000 in
set_option maxRecDepth 100000 in
theorem Drop_at (g gl : Nat) (s : TS) (T : Sh) (fl : List Nat) (w : World) (h : Full w g gl s T fl) (z : Nat) (t : Int) (hi : isH s z t = true) (hzT : z ∈ T.ino) (ht : (s.f z).turn = t) :
    Calls Try.prog 17 #[.pointer (some ⟨g, 0, none⟩), .agg #[.int .i64 z, .int .i64 t]] w (DropPost g gl s T fl z w) := by
  have hz : z < s.sz := h.lt z hzT
  obtain ⟨pre, post, hT⟩ := List.append_of_mem hzT
  have hn1 : 1 ≤ s.n := by rw [h.n, hT]; simp only [List.length_append, List.length_cons]; omega
  have hs := h.m.sz
  have hgl := h.m.n.lt
  have hg := h.m.b.lt
  have HF := Lib.hid h
  have HAl := Lib.hid (h.below (((Below.refl w.heap.size w).alloc (Nat.le_refl _) (.cells #[.int .i64 z, .int .i64 t] 29))))
  have HO := Lib.hid ((Only.refl (TF g gl) w).alloc (.cells #[.int .i64 z, .int .i64 t] 29))
  have h2 := Blk.new w 29 #[.int .i64 z, .int .i64 t]
  have hb : ¬ TF g gl w.heap.size := by rintro (e | e) <;> omega
  have hbg : w.heap.size ≠ gl := by omega
  have hbg2 : w.heap.size ≠ g := by omega
  have hn2 : s.n ≤ 10000 := by have h1 := h.cnt; have h2 := h.n; have h3 := h.m.sz; omega
  have hneg := h.m.ne
  have hts := Lib.hid ht
  clear h ht hzT
  go_enter Try.func17, Try.ntmps17
  go_upto_region 1 with fail
  generalize w.alloc (.cells #[.int .i64 z, .int .i64 t] 29) = W at HAl HO h2 ⊢
  generalize w.heap.size = b at h2 hb hbg hbg2 ⊢
  obtain ⟨r0, r1⟩ := two_cells h2
  have HI := Lib.hid (is_any g gl s W HAl.out.m z t)
  rw [hi] at HI
  clear hi
  go_wp2_with fail
  refine HI.out.mono ?_
  rintro e W2 ⟨rfl, bl⟩
  have HF2 := Lib.hid (HAl.out.below bl)
  have HO2 := Lib.hid (HO.out.below bl)
  have h3 := h2.below bl h2.lt
  obtain ⟨r0, r1⟩ := two_cells h3
  clear HAl HO bl h2 HI
  go_wp2_with fail
  refine (cut_any g gl s T fl W2 HF2.out pre post z hT).mono ?_
  rintro e W3 ⟨rfl, q, T3, M, ⟨T', rb, hT'⟩, O3⟩
  have HM := Lib.hid M
  have HRB := Lib.hid (And.intro rb hT')
  have h4 := O3.blk h3 hb
  obtain ⟨r0, r1⟩ := two_cells h4
  have HO3 := Lib.hid (HO2.out.then O3)
  have q0 := T3.hc.1
  have q3 := T3.hc.2.2.2.1
  simp only [TS.with] at q0 q3
  have c0 := T3.n.cell z hz 0 (by omega)
  have c1 := T3.n.cell z hz 1 (by omega)
  have c2 := T3.l hz
  have c3 := T3.r hz
  have c4 := T3.u hz
  have c5 := T3.c hz
  have c6 := T3.k hz
  have c7 := T3.t hz
  have c0' : W3.cell? ⟨gl, z * 8, none⟩ = some (.int .i64 (q.1 z).t) := c0
  have c1' : W3.cell? ⟨gl, z * 8 + 1, none⟩ = some (.int .i64 (q.1 z).s) := c1
  simp only [TS.with] at c2 c3 c4 c5 c6 c7
  have fz := T3.n.frozen
  have H3 := Lib.hid T3
  clear c0 c1 M rb hT' O3 h3 HF2 HO2 T3
  go_upto_region 6 with fail
  go_region
  all_goals
    have eN : ((((((((W3.setCell ⟨gl, z * 8, none⟩ (.int .i64 0)).setCell ⟨gl, z * 8 + 1, none⟩ (.int .i64 0)).setCell ⟨gl, z * 8 + 2, none⟩ (.int .i64 s.free)).setCell ⟨gl, z * 8 + 3, none⟩ (.int .i64 0)).setCell ⟨gl, z * 8 + 4, none⟩ (.int .i64 0)).setCell ⟨gl, z * 8 + 5, none⟩ (.bool false)).setCell ⟨gl, z * 8 + 6, none⟩ (.bool false)).setCell ⟨gl, z * 8 + 7, none⟩ (.int .i64 t)) = node8 W3 gl z (freeNd s.free t) := rfl
    rw [eN]
    clear eN
    have T4 := (H3.out.node hz (freeNd s.free t)).drew
    have O4 := (node8_only (n := z) (a := freeNd s.free t) HO3.out (.inr rfl)).drew
    have h5' : Blk (node8 W3 gl z (freeNd s.free t)) b 29 #[.int .i64 z, .int .i64 t] := by unfold Blk; rw [node8_far hbg]; exact h4
    have h5 := h5'.drew
    clear h5'
    generalize (node8 W3 gl z (freeNd s.free t)).drew = W4 at T4 O4 h5 ⊢
    clear c0' c1' c2 c3 c4 c5 c6 c7 q0 q3 fz
    obtain ⟨r0, r1⟩ := two_cells h5
    have q3 := T4.hc.2.2.2.1
    have fg := T4.b.frozen
    have T5 := T4.setFree z
    have O5 := O4.setCell (p := ⟨g, 3, none⟩) (.inl (.inl rfl)) (.int .i64 z)
    simp only [TS.with] at q3 T5
    go_upto_region 8 with fail
    generalize W4.setCell ⟨g, 3, none⟩ (.int .i64 z) = W5 at T5 O5 ⊢
    clear T4 O4 h5 r0 r1 q3 fg
    have q0 := T5.hc.1
    have c0 : W5.cell? ⟨gl, 0, none⟩ = _ := T5.n.cell 0 (by show 0 < s.sz; omega) 0 (by omega)
    have c1 : W5.cell? ⟨gl, 1, none⟩ = _ := T5.n.cell 0 (by show 0 < s.sz; omega) 1 (by omega)
    have c2 : W5.cell? ⟨gl, 2, none⟩ = _ := T5.n.cell 0 (by show 0 < s.sz; omega) 2 (by omega)
    have c3 : W5.cell? ⟨gl, 3, none⟩ = _ := T5.n.cell 0 (by show 0 < s.sz; omega) 3 (by omega)
    have c4 : W5.cell? ⟨gl, 4, none⟩ = _ := T5.n.cell 0 (by show 0 < s.sz; omega) 4 (by omega)
    have c5 : W5.cell? ⟨gl, 5, none⟩ = _ := T5.n.cell 0 (by show 0 < s.sz; omega) 5 (by omega)
    have c6 : W5.cell? ⟨gl, 6, none⟩ = _ := T5.n.cell 0 (by show 0 < s.sz; omega) 6 (by omega)
    have c7 : W5.cell? ⟨gl, 7, none⟩ = _ := T5.n.cell 0 (by show 0 < s.sz; omega) 7 (by omega)
    have fz := T5.n.frozen
    simp only [Nd.cells] at c0 c1 c2 c3 c4 c5 c6 c7
    have H5 := Lib.hid T5
    clear T5
    go_upto_region 9 with fail
    have eN : ((((((((W5.setCell ⟨gl, 0, none⟩ (.int .i64 0)).setCell ⟨gl, 1, none⟩ (.int .i64 0)).setCell ⟨gl, 2, none⟩ (.int .i64 0)).setCell ⟨gl, 3, none⟩ (.int .i64 0)).setCell ⟨gl, 4, none⟩ (.int .i64 0)).setCell ⟨gl, 5, none⟩ (.bool false)).setCell ⟨gl, 6, none⟩ (.bool false)).setCell ⟨gl, 7, none⟩ (.int .i64 0)) = node8 W5 gl 0 zeroN := rfl
    rw [eN]
    clear eN c0 c1 c2 c3 c4 c5 c6 c7 fz q0
    have T6 := H5.out.node (x := 0) (by show 0 < s.sz; omega) zeroN
    have O6 := node8_only (n := 0) (a := zeroN) O5 (gl := gl) (.inr rfl)
    clear H5 O5
    generalize node8 W5 gl 0 zeroN = W6 at T6 O6 ⊢
    have q2 := T6.hc.2.2.1
    have fg := T6.b.frozen
    simp only at q2
    have T7 := Lib.hid (T6.setN (s.n - 1))
    have O7 := Lib.hid (O6.setCell (p := ⟨g, 2, none⟩) (.inl (.inl rfl)) (.int .i64 (s.n - 1 : Nat)))
    have en : ((s.n - 1 : Nat) : Int) = (s.n : Int) - 1 := by omega
    rw [en] at T7 O7
    clear T6 O6 en
    go_wp2_with fail
    go_ret
    have hm : IsT (W6.setCell ⟨g, 2, none⟩ (.int .i64 ((s.n : Int) - 1))) g gl (s.dropped q z) := by
      have := T7.out
      unfold TS.dropped
      rw [hts.out]
      exact this
    obtain ⟨F, R⟩ := drop_full HF.out hT HM.out HRB.out.1 HRB.out.2 hm
    exact ⟨rfl, _, _, pre, post, F, R, O7.out⟩
theorem Drop_yes (g gl : Nat) (s : TS) (T : Sh) (fl : List Nat) (w : World) (h : Full w g gl s T fl) (p t : Int) (hi : isH s p t = true) :
    Calls Try.prog 17 #[.pointer (some ⟨g, 0, none⟩), .agg #[.int .i64 p, .int .i64 t]] w (DropPost g gl s T fl p.toNat w) := by
  obtain ⟨h1, h2, h3, h4⟩ := isH_at hi
  obtain ⟨z, rfl⟩ : ∃ z : Nat, p = z := ⟨p.toNat, by omega⟩
  have e : ((z : Nat) : Int).toNat = z := by simp
  rw [e] at h3 h4 ⊢
  exact Drop_at g gl s T fl w h z t hi ((h.tak z (by omega)).1 h3) h4
end Go.Proofs.Ytfoigflgglpobaa.Tr
