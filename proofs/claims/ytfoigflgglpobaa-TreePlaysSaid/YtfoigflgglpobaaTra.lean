/- The contracts of tree's hanging and turning. No condition but that a place is one. -/
import Derived.Test.YtfoigflgglpobaaTr
set_option linter.unusedVariables false
set_option linter.unusedSimpArgs false
namespace Go.Proofs.Ytfoigflgglpobaa.Tr
open Go.RowKit Go.Proofs.Ytfoigflgglpobaa.Aid
/-- numbers whose nodes and root are others now -/
def TS.with (s : TS) (p : (Nat → Nd) × Nat) : TS := { s with f := p.1, root := p.2 }
theorem hangF_root {f : Nat → Nd} {root old x : Nat} (h : (f old).u = 0) : hangF f root old x = (setU f x 0, x) := by unfold hangF; rw [h]; rfl
theorem hangF_left {f : Nat → Nd} {root old x u : Nat} (h : (f old).u = u) (h0 : u ≠ 0) (hl : (f u).l = old) : hangF f root old x = (setU (setCh f u false x) x u, root) := by unfold hangF; rw [h, if_neg h0, if_neg h0, if_pos hl]
theorem hangF_right {f : Nat → Nd} {root old x u : Nat} (h : (f old).u = u) (h0 : u ≠ 0) (hl : ¬ (f u).l = old) : hangF f root old x = (setU (setCh f u true x) x u, root) := by unfold hangF; rw [h, if_neg h0, if_neg h0, if_neg hl]
set_option maxHeartbeats 1000000 in
set_option maxRecDepth 100000 in
theorem hang_any (g gl : Nat) (s : TS) (w : World) (h : IsT w g gl s) (old x : Nat) (ho : old < s.sz) (hx : x < s.sz) (hu : (s.f old).u < s.sz) :
    Calls Try.prog 73 #[.pointer (some ⟨g, 0, none⟩), .int .i64 old, .int .i64 x] w fun e w' => e = .returned (.tuple #[]) ∧ IsT w' g gl (s.with (hangF s.f s.root old x)) ∧ Only (TF g gl) w w' := by
  obtain ⟨q0, q1, _, _, _⟩ := h.hc
  have hs := h.sz
  have hne := h.ne
  have hne2 := h.ne.symm
  have c1 := h.u ho
  have f1 := h.n.frozen
  have f2 := h.b.frozen
  have OO := Lib.hid (Only.refl (TF g gl) w)
  obtain ⟨u, eu⟩ : ∃ u, (s.f old).u = u := ⟨_, rfl⟩
  rw [eu] at c1 hu
  have H := Lib.hid h
  clear h
  by_cases h0 : u = 0
  · subst h0
    have HF := Lib.hid (hangF_root (root := s.root) (x := x) eu)
    clear eu
    go_enter Try.func73, Try.ntmps73
    go_upto_region 6 with fail
    have h1 := H.out.setRoot x
    have O1 := OO.out.setCell (p := ⟨g, 1, none⟩) (.inl (.inl rfl)) (.int .i64 x)
    generalize w.setCell ⟨g, 1, none⟩ (.int .i64 x) = W at h1 O1 ⊢
    clear q0 q1 c1 f1 f2
    obtain ⟨q0, _, _, _, _⟩ := h1.hc
    have c5 := h1.u hx
    have f1 := h1.n.frozen
    go_wp2_with fail
    go_end0
    rw [HF.out]
    exact ⟨rfl, h1.setU hx 0, O1.setCell (.inl (.inr rfl)) _⟩
  · have c2 := H.out.l hu
    have c3 := H.out.r hu
    have c0 : ¬ ((u : Nat) : Int) = 0 := by omega
    by_cases hl : (s.f u).l = old
    · have HF := Lib.hid (hangF_left (root := s.root) (x := x) eu h0 hl)
      have HN : Hid (u ≠ 0) := Lib.hid h0
      rw [hl] at c2
      clear eu h0 hl
      go_enter Try.func73, Try.ntmps73
      go_upto_region 6 with fail
      have h1 : IsT (w.setCell ⟨gl, u * 8 + 2, none⟩ (.int .i64 x)) g gl { s with f := setCh s.f u false x } := H.out.setS hu false x
      have O1 := OO.out.setCell (p := ⟨gl, u * 8 + 2, none⟩) (.inl (.inr rfl)) (.int .i64 x)
      generalize w.setCell ⟨gl, u * 8 + 2, none⟩ (.int .i64 x) = W at h1 O1 ⊢
      clear q0 q1 c1 c2 c3 f1 f2
      obtain ⟨q0, _, _, _, _⟩ := h1.hc
      have c5 := h1.u hx
      have f1 := h1.n.frozen
      go_wp2_with fail
      go_end0
      rw [HF.out]
      exact ⟨rfl, h1.setU hx u, O1.setCell (.inl (.inr rfl)) _⟩
    · have HF := Lib.hid (hangF_right (root := s.root) (x := x) eu h0 hl)
      have c4 : ¬ ((((s.f u).l : Nat) : Int) = ((old : Nat) : Int)) := by omega
      clear eu h0 hl
      generalize (s.f u).l = ll at c2 c4
      go_enter Try.func73, Try.ntmps73
      go_upto_region 6 with fail
      have h1 : IsT (w.setCell ⟨gl, u * 8 + 3, none⟩ (.int .i64 x)) g gl { s with f := setCh s.f u true x } := H.out.setS hu true x
      have O1 := OO.out.setCell (p := ⟨gl, u * 8 + 3, none⟩) (.inl (.inr rfl)) (.int .i64 x)
      generalize w.setCell ⟨gl, u * 8 + 3, none⟩ (.int .i64 x) = W at h1 O1 ⊢
      clear q0 q1 c1 c2 c3 f1 f2
      obtain ⟨q0, _, _, _, _⟩ := h1.hc
      have c5 := h1.u hx
      have f1 := h1.n.frozen
      go_wp2_with fail
      go_end0
      rw [HF.out]
      exact ⟨rfl, h1.setU hx u, O1.setCell (.inl (.inr rfl)) _⟩
/-- all that nodes point at are places -/
def Lk (f : Nat → Nd) (sz : Nat) : Prop := ∀ z, z < sz → (f z).l < sz ∧ (f z).r < sz ∧ (f z).u < sz
theorem Lk.ch {f : Nat → Nd} {sz : Nat} (h : Lk f sz) {z : Nat} (hz : z < sz) (r : Bool) : Tr.ch f z r < sz := by
  cases r
  · exact (h z hz).1
  · exact (h z hz).2.1
theorem Lk.setCh {f : Nat → Nd} {sz : Nat} (h : Lk f sz) (x : Nat) (hx : x < sz) (r : Bool) {v : Nat} (hv : v < sz) : Lk (Tr.setCh f x r v) sz := fun z hz => by
  by_cases e : z = x
  · subst e
    have := h z hz
    unfold Tr.setCh; rw [if_pos rfl]
    cases r
    · exact ⟨hv, this.2.1, this.2.2⟩
    · exact ⟨this.1, hv, this.2.2⟩
  · rw [setCh_ne e]; exact h z hz
theorem Lk.setU {f : Nat → Nd} {sz : Nat} (h : Lk f sz) (x : Nat) {v : Nat} (hv : v < sz) : Lk (Tr.setU f x v) sz := fun z hz => by
  by_cases e : z = x
  · subst e
    have := h z hz
    unfold Tr.setU; rw [if_pos rfl]
    exact ⟨this.1, this.2.1, hv⟩
  · rw [setU_ne e]; exact h z hz
theorem Lk.setC {f : Nat → Nd} {sz : Nat} (h : Lk f sz) (x : Nat) (c : Bool) : Lk (Tr.setC f x c) sz := fun z hz => by
  by_cases e : z = x
  · subst e
    have := h z hz
    unfold Tr.setC; rw [if_pos rfl]
    exact this
  · rw [setC_ne e]; exact h z hz
theorem Lk.hang {f : Nat → Nd} {sz root : Nat} (h : Lk f sz) (hr : root < sz) {old x : Nat} (ho : old < sz) (hx : x < sz) : Lk (hangF f root old x).1 sz ∧ (hangF f root old x).2 < sz := by
  unfold hangF
  refine ⟨Lk.setU ?_ x (h old ho).2.2, ?_⟩
  · split
    · exact h
    · split <;> exact h.setCh _ (h old ho).2.2 _ hx
  · dsimp only; split
    · exact hx
    · exact hr
theorem Lk.turn {f : Nat → Nd} {sz root : Nat} (h : Lk f sz) (hr : root < sz) {x : Nat} (hx : x < sz) (r : Bool) : Lk (turnF f root x r).1 sz ∧ (turnF f root x r).2 < sz := by
  have hy := h.ch hx (!r)
  have hi := h.ch hy r
  unfold turnF
  dsimp only
  have h2 : Lk (if Tr.ch f (Tr.ch f x (!r)) r = 0 then Tr.setCh f x (!r) (Tr.ch f (Tr.ch f x (!r)) r) else Tr.setU (Tr.setCh f x (!r) (Tr.ch f (Tr.ch f x (!r)) r)) (Tr.ch f (Tr.ch f x (!r)) r) x) sz := by
    split
    · exact h.setCh x hx _ hi
    · exact (h.setCh x hx _ hi).setU _ hx
  have h3 := h2.hang hr (root := root) hx hy
  exact ⟨(h3.1.setCh _ hy r hx).setU x hy, h3.2⟩
set_option maxHeartbeats 1000000 in
set_option maxRecDepth 100000 in
theorem turn_any (g gl : Nat) (s : TS) (w : World) (h : IsT w g gl s) (hk : Lk s.f s.sz) (hr : s.root < s.sz) (x : Nat) (hx : x < s.sz) (r : Bool) :
    Calls Try.prog 72 #[.pointer (some ⟨g, 0, none⟩), .int .i64 x, .bool r] w fun e w' => e = .returned (.tuple #[]) ∧ IsT w' g gl (s.with (turnF s.f s.root x r)) ∧ Only (TF g gl) w w' := by
  obtain ⟨y, hy⟩ : ∃ y, ch s.f x (!r) = y := ⟨_, rfl⟩
  obtain ⟨i, hi⟩ : ∃ i, ch s.f y r = i := ⟨_, rfl⟩
  have ly : y < s.sz := by rw [← hy]; exact hk.ch hx _
  have li : i < s.sz := by rw [← hi]; exact hk.ch ly _
  obtain ⟨f2, hf2⟩ : ∃ f2, (if i = 0 then setCh s.f x (!r) i else setU (setCh s.f x (!r) i) i x) = f2 := ⟨_, rfl⟩
  have hk2 : Lk f2 s.sz := by
    rw [← hf2]
    split
    · exact hk.setCh x hx _ li
    · exact (hk.setCh x hx _ li).setU _ hx
  obtain ⟨H2, hH2⟩ : ∃ H2, hangF f2 s.root x y = H2 := ⟨_, rfl⟩
  have HFe : turnF s.f s.root x r = (setU (setCh H2.1 y r x) x y, H2.2) := by
    unfold turnF
    simp only [hy, hi, hf2, hH2]
  have HF := Lib.hid HFe
  clear HFe
  have HI := Lib.hid hi
  have HY := Lib.hid hy
  have HF2 := Lib.hid hf2
  have HK2 := Lib.hid hk2
  have HH2 := Lib.hid hH2
  have HX := Lib.hid hx
  have HLY := Lib.hid ly
  have HLI := Lib.hid li
  clear hi hy hf2 hk2 hH2
  have H := Lib.hid h
  have OO := Lib.hid (Only.refl (TF g gl) w)
  have cx := h.sd hx (!r)
  rw [HY.out] at cx
  go_enter Try.func72, Try.ntmps72
  go_wp2_with fail
  refine (child_any g gl s w h x hx (!r)).mono ?_
  rintro e w1 ⟨rfl, rfl⟩
  have cy := h.sd ly r
  rw [HI.out] at cy
  go_wp2_with fail
  refine (child_any g gl s w h y ly r).mono ?_
  rintro e w1 ⟨rfl, rfl⟩
  go_wp2_with fail
  refine (child_any g gl s w h x hx (!r)).mono ?_
  rintro e w1 ⟨rfl, rfl⟩
  clear cy
  have F := h.n.frozen
  clear h
  go_upto_region 3 with fail
  have h1 := H.out.setS hx (!r) i
  have O1 := OO.out.setCell (p := ⟨gl, x * 8 + off (!r), none⟩) (.inl (.inr rfl)) (.int .i64 i)
  generalize w.setCell ⟨gl, x * 8 + off (!r), none⟩ (.int .i64 i) = W1 at h1 O1 ⊢
  clear F cx
  have q0 := h1.hc.1
  have hs := h1.sz
  have ci := h1.u li
  have F := h1.n.frozen
  simp only at q0 hs
  go_upto_if 29 with fail
  go_cut [7] (fun s7 wx => IsT wx g gl { s with f := f2 } ∧ Only (TF g gl) w wx)
  case first =>
    by_cases h0 : i = 0
    · have e2 := HF2.out
      rw [if_pos h0] at e2
      have h1' : IsT W1 g gl { s with f := f2 } := by rw [← e2]; exact h1
      have c0 : ((i : Nat) : Int) = 0 := by omega
      have H1 := Lib.hid h1'
      clear h1 h1' e2 h0
      go_wp2
      go_meet
      exact ⟨H1.out, O1⟩
    · have e2 := HF2.out
      rw [if_neg h0] at e2
      have h1' : IsT (W1.setCell ⟨gl, i * 8 + 4, none⟩ (.int .i64 x)) g gl { s with f := f2 } := by rw [← e2]; exact h1.setU li x
      have c0 : ¬ ((i : Nat) : Int) = 0 := by omega
      have H1 := Lib.hid h1'
      clear h1 h1' e2 h0
      go_wp2
      go_meet
      exact ⟨H1.out, O1.setCell (.inl (.inr rfl)) _⟩
  case rest =>
    obtain ⟨h2, O2⟩ := hcut
    clear q0 hs ci F h1 O1 W1
    have KU := HK2.out
    go_wp2_with fail
    refine (hang_any g gl { s with f := f2 } wc h2 x y HX.out HLY.out (KU x HX.out).2.2).mono ?_
    rintro e W3 ⟨rfl, h3, O3⟩
    have O23 := O2.then O3
    simp only [TS.with, HH2.out] at h3
    go_wp2_with fail
    refine (child_any g gl _ W3 h3 y HLY.out r).mono ?_
    rintro e w1 ⟨rfl, rfl⟩
    have F := h3.n.frozen
    have cy := h3.sd (x := y) HLY.out r
    go_upto_region 7 with fail
    have h4 := h3.setS (x := y) HLY.out r x
    have O4 := O23.setCell (p := ⟨gl, y * 8 + off r, none⟩) (.inl (.inr rfl)) (.int .i64 x)
    clear O23 O2 O3 h2
    generalize W3.setCell ⟨gl, y * 8 + off r, none⟩ (.int .i64 x) = W4 at h4 O4 ⊢
    clear F cy h3
    have q0 := h4.hc.1
    have cx := h4.u (x := x) HX.out
    have F := h4.n.frozen
    have hs := h4.sz
    simp only at q0 hs
    have hx := HX.out
    go_wp2_with fail
    go_end0
    rw [HF.out]
    exact ⟨rfl, h4.setU (x := x) HX.out y, O4.setCell (.inl (.inr rfl)) _⟩
end Go.Proofs.Ytfoigflgglpobaa.Tr
