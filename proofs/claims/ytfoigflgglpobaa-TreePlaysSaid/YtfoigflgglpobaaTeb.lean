/- fixed: tree's calls whose answers the document fixes. No condition. -/
import Derived.Test.YtfoigflgglpobaaTea
set_option linter.unusedVariables false
set_option linter.unusedSimpArgs false
namespace Go.Proofs.Ytfoigflgglpobaa.Tr
open Go.RowKit Go.Proofs.Ytfoigflgglpobaa.Aid
theorem nil_app {α : Type} {a b : List α} (h : ([] : List α) = a ++ b) : a = [] ∧ b = [] := by
  cases a with
  | nil => exact ⟨rfl, h.symm⟩
  | cons x a => cases h
theorem one_app {α : Type} {x : α} {a b : List α} (h : [x] = a ++ b) : (a = [] ∧ b = [x]) ∨ (a = [x] ∧ b = []) := by
  cases a with
  | nil => exact .inl ⟨rfl, h.symm⟩
  | cons y a =>
    simp only [List.cons_append, List.cons.injEq] at h
    obtain ⟨rfl, h⟩ := h
    obtain ⟨rfl, rfl⟩ := nil_app h
    exact .inr ⟨rfl, rfl⟩
set_option maxHeartbeats 4000000 in
set_option maxRecDepth 100000 in
theorem fixed_any (w : World) : Calls Try.prog 11 #[] w fun e w' => e = .returned (.bool true) ∧ Below w.heap.size w w' := by
  go_enter Try.func11, Try.ntmps11
  go_wp2_with fail
  refine (New_some 2 w (by omega)).mono ?_
  rintro e W0 ⟨g, gl, rfl, T0, hg, hgl, b0⟩
  have L0 : LSt w W0 g gl (newS 2) .nil [] [] := ⟨⟨full_new (by omega) T0, b0, hg, hgl⟩, fun e he => by cases he⟩
  have HL0 := Lib.hid L0
  clear T0 b0 hg hgl L0
  go_wp2_with fail
  refine (Put_yes g gl (newS 2) .nil [] W0 HL0.out.t.t 5 1 (by show 0 < 2; omega) ((TnB.new 2).bnd (by omega))).mono ?_
  rintro e W1 ⟨s1, T1, fl1, x1, pre1, post1, rfl, F1, R1, O1⟩
  obtain ⟨rfl, rfl⟩ := nil_app R1.ino
  have i1 : T1.ino = [x1] := R1.ino'
  have m1 : x1 ∈ T1.ino := by rw [i1]; simp
  have B1 := Lib.hid ((TnB.new 2).put R1 (by omega))
  have most1 : s1.most = 2 := R1.most
  have key1 := R1.key
  rw [hnd_in F1 m1]
  obtain ⟨t1, ht1⟩ : ∃ t, (s1.f x1).turn = t := ⟨_, rfl⟩
  rw [ht1]
  have L1 := Lib.hid ((HL0.out.goes F1 O1).box x1 t1)
  have HF1 := Lib.hid F1
  have H1 := Lib.hid (And.intro i1 (And.intro most1 (And.intro key1 (And.intro ht1 R1.lt))))
  clear HL0 O1 R1 i1 m1 most1 key1 ht1 F1
  go_upto_region 3 with fail
  generalize W1.alloc (.cells #[.int .i64 x1, .int .i64 t1] 29) = V1 at L1 ⊢
  generalize W1.heap.size = a1 at L1 ⊢
  go_wp2_with fail
  refine (Put_yes g gl s1 T1 fl1 V1 L1.out.t.t 3 2 (by rw [H1.out.1, H1.out.2.1]; simp) (B1.out.bnd (by omega))).mono ?_
  rintro e W2 ⟨s2, T2, fl2, x2, pre2, post2, rfl, F2, R2, O2⟩
  have hpp : pre2 = [] ∧ post2 = [x1] := by
    have h1 := R2.ino
    rw [H1.out.1] at h1
    rcases one_app h1 with h2 | ⟨rfl, rfl⟩
    · exact h2
    · have h3 := R2.pre x1 (by simp)
      unfold kle at h3
      rw [H1.out.2.2.1.1, H1.out.2.2.1.2] at h3
      omega
  obtain ⟨rfl, rfl⟩ := hpp
  have i2 : T2.ino = [x2, x1] := R2.ino'
  have m2 : x2 ∈ T2.ino := by rw [i2]; simp
  have m21 : x1 ∈ T2.ino := by rw [i2]; simp
  have most2 : s2.most = 2 := R2.most.trans H1.out.2.1
  have x12 : x1 ≠ x2 := fun e => by have := F2.rb.nd; rw [i2, e] at this; simp at this
  have t21 : (s2.f x1).turn = t1 := by rw [← H1.out.2.2.2.1]; exact (R2.old x1 H1.out.2.2.2.2 x12).2.2
  rw [hnd_in F2 m2]
  obtain ⟨t2, ht2⟩ : ∃ t, (s2.f x2).turn = t := ⟨_, rfl⟩
  rw [ht2]
  have L2 := Lib.hid ((L1.out.goes F2 O2).box x2 t2)
  have HF2 := Lib.hid F2
  have hh1 : hnd s2 x1 = .agg #[.int .i64 x1, .int .i64 t1] := by rw [hnd_in F2 m21, t21]
  have hh2 : hnd s2 x2 = .agg #[.int .i64 x2, .int .i64 t2] := by rw [hnd_in F2 m2, ht2]
  have H2 := Lib.hid (And.intro i2 (And.intro most2 (And.intro hh1 (And.intro hh2 (And.intro m2 (And.intro ht2 x12))))))
  clear L1 O2 R2 i2 m2 m21 most2 t21 hh1 hh2 ht2 F2 x12 B1
  go_upto_region 4 with fail
  generalize W2.alloc (.cells #[.int .i64 x2, .int .i64 t2] 29) = V2 at L2 ⊢
  generalize W2.heap.size = a2 at L2 ⊢
  go_wp2_with fail
  refine (Put_no g gl s2 T2 fl2 V2 L2.out.t.t 0 0 (by rw [H2.out.1, H2.out.2.1]; rfl)).mono ?_
  rintro e W3 ⟨rfl, F3, O3⟩
  have L3 := Lib.hid ((L2.out.goes F3 O3).box 0 0)
  clear L2 F3 O3
  go_upto_region 5 with fail
  generalize W3.alloc (.cells #[.int .i64 0, .int .i64 0] 29) = V3 at L3 ⊢
  generalize W3.heap.size = a3 at L3 ⊢
  have CF := First_row V3 L3.out.t.t
  rw [H2.out.1, show hd [x2, x1] = x2 from rfl, H2.out.2.2.2.1, show decide ([x2, x1] ≠ []) = true from rfl] at CF
  have HCF := Lib.hid CF
  clear CF
  go_wp2_with fail
  refine HCF.out.mono ?_
  rintro e W4 ⟨rfl, b4⟩
  have L4 := Lib.hid ((L3.out.call b4).box x2 t2)
  clear L3 b4 HCF
  go_upto_region 6 with fail
  generalize W4.alloc (.cells #[.int .i64 x2, .int .i64 t2] 29) = V4 at L4 ⊢
  generalize W4.heap.size = a4 at L4 ⊢
  obtain ⟨p40, p41⟩ := L4.out.cells (e := (a4, x2, t2)) (by simp)
  dsimp only at p40 p41
  have CN := Next_row V4 L4.out.t.t (pre := []) (post := [x1]) (x := x2) H2.out.1
  rw [H2.out.2.2.2.2.2.1, show hd [x1] = x1 from rfl, H2.out.2.2.1, show decide ([x1] ≠ []) = true from rfl] at CN
  have HCN := Lib.hid CN
  clear CN
  go_wp2_with fail
  refine HCN.out.mono ?_
  rintro e W5 ⟨rfl, b5⟩
  have L5 := Lib.hid ((L4.out.call b5).box x1 t1)
  clear L4 b5 HCN p40 p41
  go_upto_region 7 with fail
  generalize W5.alloc (.cells #[.int .i64 x1, .int .i64 t1] 29) = V5 at L5 ⊢
  generalize W5.heap.size = a5 at L5 ⊢
  obtain ⟨p20, p21⟩ := L5.out.cells (e := (a2, x2, t2)) (by simp)
  dsimp only at p20 p21
  go_wp2_with fail
  have hi2 : isH s2 x2 t2 = true := by have := isH_in L5.out.t.t H2.out.2.2.2.2.1; rw [H2.out.2.2.2.2.2.1] at this; exact this
  refine (Drop_yes g gl s2 T2 fl2 V5 L5.out.t.t x2 t2 hi2).mono ?_
  rintro e W6 ⟨rfl, s6, T6, pre6, post6, F6, R6, O6⟩
  have i6 : T6.ino = [x1] := by
    have h1 := R6.ino
    have h2 := R6.ino'
    have e2 : ((x2 : Nat) : Int).toNat = x2 := by simp
    rw [e2, H2.out.1] at h1
    obtain ⟨rfl, rfl⟩ := split_eq (A := []) (show [] ++ x2 :: [x1] = pre6 ++ x2 :: post6 from h1) (by have := L5.out.t.t.rb.nd; rw [H2.out.1] at this; exact this)
    exact h2
  have L6 := Lib.hid (L5.out.goes F6 O6)
  have hi6 : isH s6 x2 t2 = false := isH_not F6 (by rw [i6]; simp; exact fun e => H2.out.2.2.2.2.2.2 e.symm)
  have n6 : s6.n = 1 := by rw [F6.n, i6]; rfl
  have H6 := Lib.hid (And.intro hi6 n6)
  clear L5 R6 O6 F6 i6 hi6 n6 hi2 p20 p21
  obtain ⟨p20, p21⟩ := L6.out.cells (e := (a2, x2, t2)) (by simp)
  dsimp only at p20 p21
  go_wp2_with fail
  refine (Drop_no g gl s6 W6 L6.out.t.t.m x2 t2 H6.out.1).mono ?_
  rintro e W7 ⟨rfl, b7⟩
  have L7 := Lib.hid (L6.out.call b7)
  clear L6 b7 p20 p21
  go_wp2_with fail
  refine (Put_nil 0 0 W7).mono ?_
  rintro e W8 ⟨rfl, b8⟩
  have L8 := Lib.hid ((L7.out.call b8).box 0 0)
  clear L7 b8
  go_upto_region 11 with fail
  generalize W8.alloc (.cells #[.int .i64 0, .int .i64 0] 29) = V8 at L8 ⊢
  generalize W8.heap.size = a8 at L8 ⊢
  obtain ⟨p10, p11⟩ := L8.out.cells (e := (a1, x1, t1)) (by simp)
  obtain ⟨p20, p21⟩ := L8.out.cells (e := (a2, x2, t2)) (by simp)
  obtain ⟨p40, p41⟩ := L8.out.cells (e := (a4, x2, t2)) (by simp)
  obtain ⟨p50, p51⟩ := L8.out.cells (e := (a5, x1, t1)) (by simp)
  dsimp only at p10 p11 p20 p21 p40 p41 p50 p51
  have HN := Lib.hid (Len_any g gl s6 V8 L8.out.t.t.m)
  rw [H6.out.2] at HN
  go_wp2_with (first
    | (refine HN.out.mono ?_; rintro e W9 ⟨rfl, rfl⟩)
    | (refine (New_none 0 _ (.inl (by omega))).mono ?_; rintro e W9 ⟨rfl, rfl⟩)
    | (refine (Len_nil _).mono ?_; rintro e W9 ⟨rfl, rfl⟩))
  go_ret
  exact ⟨rfl, L8.out.t.b⟩
end Go.Proofs.Ytfoigflgglpobaa.Tr
