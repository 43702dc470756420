/- TreePlays' own rows: an item behind all that aren't later. No condition. -/
import Derived.Test.YtfoigflgglpobaaTed
import Derived.Test.YtfoigflgglpobaaRow
import Derived.Deep.RegionLaw
import Derived.StillTailTactics
set_option linter.unusedVariables false
set_option linter.unusedSimpArgs false
namespace Go.Proofs.Ytfoigflgglpobaa.Tr
open Go.RowKit Go.Proofs.Ytfoigflgglpobaa.Aid
/-- an item of a law's row: a key, and a handle -/
structure It where
  t : Int
  s : Int
  x : Nat
  n : Int
def It.cells (a : It) : List Value := [.int .i64 a.t, .int .i64 a.s, .int .i64 a.x, .int .i64 a.n]
def itc (l : List It) : List Value := l.flatMap It.cells
theorem itc_len (l : List It) : (itc l).length = l.length * 4 := by
  induction l with
  | nil => rfl
  | cons a l ih => simp only [itc, List.flatMap_cons, List.length_append, List.length_cons, It.cells] at ih ⊢; simp only [List.length_nil]; omega
theorem itc_app (l k : List It) : itc (l ++ k) = itc l ++ itc k := by simp [itc]
theorem itc_ones (l : List It) : Ones (itc l) := fun u hu => by
  obtain ⟨a, _, ha⟩ := List.mem_flatMap.1 hu
  simp only [It.cells, List.mem_cons, List.not_mem_nil, or_false] at ha
  rcases ha with rfl | rfl | rfl | rfl <;> rfl
theorem a_ones (a : It) : Ones a.cells := fun u ha => by
  simp only [It.cells, List.mem_cons, List.not_mem_nil, or_false] at ha
  rcases ha with rfl | rfl | rfl | rfl <;> rfl
theorem itc_at : ∀ (l : List It) (j : Nat) (a : It), l[j]? = some a → (itc l)[j * 4]? = some (.int .i64 a.t) ∧ (itc l)[j * 4 + 1]? = some (.int .i64 a.s) ∧ (itc l)[j * 4 + 2]? = some (.int .i64 a.x) ∧ (itc l)[j * 4 + 3]? = some (.int .i64 a.n) := by
  intro l
  induction l with
  | nil => intro j e h; simp at h
  | cons b l ih =>
    intro j a h
    cases j with
    | zero =>
      simp only [List.getElem?_cons_zero, Option.some.injEq] at h
      subst h
      exact ⟨rfl, rfl, rfl, rfl⟩
    | succ j =>
      simp only [List.getElem?_cons_succ] at h
      obtain ⟨h1, h2, h3, h4⟩ := ih j a h
      have e1 : itc (b :: l) = [.int .i64 b.t, .int .i64 b.s, .int .i64 b.x, .int .i64 b.n] ++ itc l := rfl
      have e2 : ∀ i, (itc (b :: l))[i + 4]? = (itc l)[i]? := fun i => by
        rw [e1, List.getElem?_append_right (by simp)]
        simp
      refine ⟨?_, ?_, ?_, ?_⟩
      · rw [show (j + 1) * 4 = j * 4 + 4 by omega, e2]; exact h1
      · rw [show (j + 1) * 4 + 1 = j * 4 + 1 + 4 by omega, e2]; exact h2
      · rw [show (j + 1) * 4 + 2 = j * 4 + 2 + 4 by omega, e2]; exact h3
      · rw [show (j + 1) * 4 + 3 = j * 4 + 3 + 4 by omega, e2]; exact h4
theorem itc_take (l : List It) (k : Nat) : (itc l).take (k * 4) = itc (l.take k) := by
  induction l generalizing k with
  | nil => simp [itc]
  | cons b l ih =>
    cases k with
    | zero => simp [itc]
    | succ k =>
      have e1 : itc (b :: l) = b.cells ++ itc l := rfl
      rw [e1, show (k + 1) * 4 = b.cells.length + k * 4 by simp [It.cells]; omega, List.take_length_add_append, ih]
      rfl
theorem itc_drop (l : List It) (k : Nat) : (itc l).drop (k * 4) = itc (l.drop k) := by
  induction l generalizing k with
  | nil => simp [itc]
  | cons b l ih =>
    cases k with
    | zero => simp [itc]
    | succ k =>
      have e1 : itc (b :: l) = b.cells ++ itc l := rfl
      rw [e1, show (k + 1) * 4 = b.cells.length + k * 4 by simp [It.cells]; omega, List.drop_length_add_append, ih]
      rfl
theorem infoIt : (Try.prog.info? 56).map (fun i => (i.zero.map (·.cells.size), i.size, i.bytes)) = some (some 4, 4, 32) := by kernel_rfl
theorem infoIt' : ∃ i z, Try.prog.info? 56 = some i ∧ i.zero = some z ∧ z.cells.size = 4 ∧ i.size = 4 ∧ i.bytes = 32 := by
  have h := infoIt
  cases e : Try.prog.info? 56 with
  | none => rw [e] at h; cases h
  | some i =>
    rw [e] at h
    simp only [Option.map_some, Option.some.injEq, Prod.mk.injEq] at h
    cases e2 : i.zero with
    | none => rw [e2] at h; simp at h
    | some z => rw [e2] at h; simp only [Option.map_some, Option.some.injEq] at h; exact ⟨i, z, rfl, e2, h.1, h.2.1, h.2.2⟩
/-- how many items come ahead of a key, or with it -/
def atOf (a : It) : List It → Nat
  | [] => 0
  | b :: l => if klt a.t a.s b.t b.s then 0 else atOf a l + 1
theorem atOf_le (a : It) (l : List It) : atOf a l ≤ l.length := by
  induction l with
  | nil => exact Nat.le_refl _
  | cons b l ih => unfold atOf; split; exact Nat.zero_le _; simp only [List.length_cons]; omega
def insIt (a : It) (l : List It) : List It := l.take (atOf a l) ++ a :: l.drop (atOf a l)
/-- what stands in the law's put -/
structure LMid (w0 W : World) (base : Nat) (v : Value) (l : List It) (X : Nat) (a : It) : Prop where
  b : Below w0.heap.size w0 W
  r : W.ownsRow base 56 4 v l.length (itc l)
  x : Blk W X 56 #[.int .i64 a.t, .int .i64 a.s, .int .i64 a.x, .int .i64 a.n]
  k : ∀ q, v.ownBlock = some q → q < w0.heap.size
  hx : w0.heap.size ≤ X
theorem LMid.call {w0 W W' : World} {base X : Nat} {v : Value} {l : List It} {a : It} (h : LMid w0 W base v l X a) (b : Below W.heap.size W W') : LMid w0 W' base v l X a := ⟨h.b.trans (b.mono h.b.size), own_below h.r b, h.x.below b h.x.lt, h.k, h.hx⟩
theorem LMid.drew {w0 W : World} {base X : Nat} {v : Value} {l : List It} {a : It} (h : LMid w0 W base v l X a) : LMid w0 W.drew base v l X a := ⟨below_drewN h.b 1, h.r, h.x, h.k, h.hx⟩
theorem LMid.stands (w0 : World) (base : Nat) (v : Value) (l : List It) (a : It) : Stands (fun W => LMid w0 W base v l w0.heap.size a) (w0.heap.size + 1) := by
  refine ⟨fun W h => h.x.lt, fun W o h => h.call ((Below.refl _ _).alloc (Nat.le_refl _) o), fun W h => h.drew, fun W W' row h g hr => ?_⟩
  refine ⟨h.b.grown g h.b.size (fun k hk => by have := hr k hk; omega), own_same h.r fun b hb => g.block b (own_block h.r hb).2 (fun e => ?_), h.x.grown g (fun e => ?_), h.k, h.hx⟩
  · have h1 := hr b e.symm
    have h2 := h.k b hb
    omega
  · have h1 := hr _ e.symm
    omega
def LRel (w0 : World) (base : Nat) (v : Value) (l : List It) (X : Nat) (a : It) (m : Nat) (s5 : Value) (wr : World) : Prop :=
  ∃ k : Nat, k ≤ atOf a l ∧ m = l.length - k ∧ s5 = .int .i64 k ∧ LMid w0 wr base v l X a
theorem atOf_lt {a : It} : ∀ {l : List It} {k : Nat} {b : It}, k ≤ atOf a l → l[k]? = some b → (klt a.t a.s b.t b.s ↔ k = atOf a l) := by
  intro l
  induction l with
  | nil => intro k b _ h; simp at h
  | cons c l ih =>
    intro k b hk h
    unfold atOf at hk ⊢
    by_cases e : klt a.t a.s c.t c.s
    · rw [if_pos e] at hk ⊢
      have : k = 0 := by omega
      subst this
      simp only [List.getElem?_cons_zero, Option.some.injEq] at h
      subst h
      simp [e]
    · rw [if_neg e] at hk ⊢
      cases k with
      | zero =>
        simp only [List.getElem?_cons_zero, Option.some.injEq] at h
        subst h
        simp [e]
      | succ k =>
        simp only [List.getElem?_cons_succ] at h
        rw [ih (by omega) h]
        omega
set_option maxHeartbeats 400000 in
set_option maxRecDepth 100000 in
theorem put_law (base : Nat) (v : Value) (l : List It) (a : It) (w : World) (hl : l.length ≤ 10000) (h : w.ownsRow base 56 4 v l.length (itc l)) :
    Calls Try.prog 24 #[v, .agg #[.int .i64 a.t, .int .i64 a.s, .int .i64 a.x, .int .i64 a.n]] w fun e w' => ∃ v', e = .returned v' ∧ w'.ownsRow w.heap.size 56 4 v' (l.length + 1) (itc (insIt a l)) ∧ Below w.heap.size w w' := by
  have hx := Blk.new w 56 #[.int .i64 a.t, .int .i64 a.s, .int .i64 a.x, .int .i64 a.n]
  have hB : Below w.heap.size w (w.alloc (.cells #[.int .i64 a.t, .int .i64 a.s, .int .i64 a.x, .int .i64 a.n] 56)) := (Below.refl w.heap.size w).alloc (Nat.le_refl _) _
  have M := Lib.hid (show LMid w (w.alloc (.cells #[.int .i64 a.t, .int .i64 a.s, .int .i64 a.x, .int .i64 a.n] 56)) base v l w.heap.size a from ⟨hB, own_alloc h _, hx, fun q hq => (own_block h hq).2, Nat.le_refl _⟩)
  have HS := Lib.hid (show atOf a l ≤ l.length from atOf_le a l)
  clear hx hB
  have hv : ∃ A cap, v = .slice A l.length cap ∧ ∀ j, j < l.length → ∃ q, A = some ⟨q, 0, none⟩ := by
    by_cases h0 : 0 < l.length
    · obtain ⟨q, cap, h1, _⟩ := own_form h h0
      exact ⟨_, _, h1, fun _ _ => ⟨_, rfl⟩⟩
    · have h1 := h
      have h2 : l.length = 0 := by omega
      rw [h2] at h1 ⊢
      obtain ⟨A, cap, e⟩ := own_none h1
      exact ⟨A, cap, e, fun j hj => by omega⟩
  obtain ⟨A, cap, rfl, hA⟩ := hv
  have HA := Lib.hid hA
  have HIN := Lib.hid h
  clear hA h
  go_enter Try.func24, Try.ntmps24
  go_upto_region 1 with fail
  generalize w.alloc (.cells #[.int .i64 a.t, .int .i64 a.s, .int .i64 a.x, .int .i64 a.n] 56) = W at M ⊢
  obtain ⟨X, hX⟩ : ∃ X, w.heap.size = X := ⟨_, rfl⟩
  have HX := Lib.hid hX
  rw [hX] at M ⊢
  clear hX
  go_upto_block 0 with fail
  go_cut [5] (fun s5 wx => s5 = .int .i64 (atOf a l : Nat) ∧ LMid w wx base (.slice A l.length cap) l X a)
  case first =>
    go_wp2_with fail
    go_loopg [5] l.length (fun m s5 wr => LRel w base (.slice A l.length cap) l X a m s5 wr)
    case atStart => exact ⟨0, by omega, rfl, rfl, M.out⟩
    case round =>
      obtain ⟨k, hk, rfl, rfl, LM⟩ := hrel
      clear M
      have hkl := HS.out
      by_cases hlt : k < l.length
      · obtain ⟨b, hb⟩ : ∃ b, l[k]? = some b := ⟨l[k], List.getElem?_eq_getElem hlt⟩
        obtain ⟨q, rfl⟩ := HA.out k hlt
        have hiff := atOf_lt hk hb
        obtain ⟨f0, f1, f2, f3⟩ := itc_at l k b hb
        have PD := LM.drew
        have c0 := own_cell LM.r f0
        have c1 := own_cell LM.r f1
        have x0 : wr.cell? ⟨X, 0, none⟩ = some (.int .i64 a.t) := LM.x.cell 0
        have x1 : wr.cell? ⟨X, 1, none⟩ = some (.int .i64 a.s) := LM.x.cell 1
        obtain ⟨σ, hσ⟩ : ∃ σ, decide (klt a.t a.s b.t b.s) = σ := ⟨_, rfl⟩
        have HAH := Lib.hid (fun W => ahead_any a.t a.s b.t b.s W)
        rw [hσ] at HAH
        have HI := Lib.hid (And.intro hiff hσ)
        have HF := Lib.hid (And.intro f0 f1)
        generalize b.t = bt at c0 HAH
        generalize b.s = bs at c1 HAH
        clear hiff hσ hb f2 f3 f0 f1
        go_upto_region 2 with fail
        refine wp_region_still_tail 12 (by kernel_rfl) (by kernel_rfl) ?_
        change wpStill _ _ wr.drew _ _ _
        have c0' : wr.drew.cell? ⟨q, k * 4, none⟩ = some (.int .i64 bt) := c0
        have c1' : wr.drew.cell? ⟨q, k * 4 + 1, none⟩ = some (.int .i64 bs) := c1
        have x0' : wr.drew.cell? ⟨X, 0, none⟩ = some (.int .i64 a.t) := x0
        have x1' : wr.drew.cell? ⟨X, 1, none⟩ = some (.int .i64 a.s) := x1
        clear c0 c1 x0 x1
        simp only [List.take_succ_cons, List.take_zero, List.drop_succ_cons, List.drop_zero]
        still_step
        still_step
        still_step
        still_step
        still_step
        still_step
        still_step
        still_step
        still_step
        still_step
        still_step
        still_step
        refine wpStill_nil ?_
        change wpList _ _ _ _ _ wr.drew
        clear c0' c1' x0' x1'
        go_wp2_with fail
        refine (HAH.out _).mono ?_
        rintro e W5 ⟨rfl, b5⟩
        have LM5 := Lib.hid (PD.call b5)
        clear PD LM b5
        cases σ with
        | false =>
          have hne : k ≠ atOf a l := fun e => by
            have := HI.out.1.2 e
            have h2 := HI.out.2
            rw [decide_eq_false_iff_not] at h2
            exact h2 this
          go_wp2_with fail
          go_roundg (l.length - (k + 1))
          case measure => omega
          case rel => exact ⟨k + 1, by omega, rfl, by go_num, LM5.out⟩
        | true =>
          have hke : k = atOf a l := HI.out.1.1 (of_decide_eq_true HI.out.2)
          have hkl2 : k ≤ l.length := by omega
          have HKE := Lib.hid hke
          clear hke
          go_wp2_with fail
          go_meet
          exact ⟨by rw [HKE.out], LM5.out⟩
      · have hke : k = atOf a l := by omega
        have d : decide (((k : Nat) : Int) < ((l.length : Nat) : Int)) = false := decide_eq_false (by omega)
        have LH := Lib.hid LM
        clear LM
        have HKE := Lib.hid hke
        clear hke
        go_upto_region 2 with fail
        go_quiet (fail)
        go_wp2_with fail
        go_meet
        exact ⟨by rw [HKE.out], ⟨below_drewN LH.out.b _, LH.out.r, LH.out.x, LH.out.k, LH.out.hx⟩⟩
  case rest =>
    obtain ⟨rfl, LM⟩ := hcut
    obtain ⟨K, hK⟩ : ∃ K, atOf a l = K := ⟨_, rfl⟩
    have hKl := HS.out
    rw [hK] at hKl
    have HK := Lib.hid hK
    rw [hK]
    clear hK
    have x0 : wc.cell? ⟨X, 0, none⟩ = some (.int .i64 a.t) := LM.x.cell 0
    have x1 : wc.cell? ⟨X, 1, none⟩ = some (.int .i64 a.s) := LM.x.cell 1
    have x2 : wc.cell? ⟨X, 2, none⟩ = some (.int .i64 a.x) := LM.x.cell 2
    have x3 : wc.cell? ⟨X, 3, none⟩ = some (.int .i64 a.n) := LM.x.cell 3
    have hcp := (own_cap LM.r).2.1
    have hKc : K ≤ cap := by omega
    have ST : Stands (fun W => LMid w W base (.slice A l.length cap) l X a) (X + 1) := HX.out ▸ LMid.stands w base (.slice A l.length cap) l a
    obtain ⟨i0, z0, hi0, hz0, hz1, hz2, hz3⟩ := infoIt'
    have F1 := S10.start (e := 56) ST LM
    have F2 := S11.start1 (e := 56) (xs := #[.int .i64 a.t, .int .i64 a.s, .int .i64 a.x, .int .i64 a.n]) ST LM
    have F3 := S11.start2 (e := 56) (xs := #[.int .i64 a.t, .int .i64 a.s, .int .i64 a.x, .int .i64 a.n]) ST LM
    have hXc : X < wc.heap.size := LM.x.lt
    go_upto_region 4 with fail
    go_region_law (first
      | (refine step_append_any _ (by rfl) _ _ _ (by rfl) (X + 1) 56 i0 z0 4 32 Try.underlying50 hi0 hz0 hz2 hz3 hz1 (by decide) (Value.slice (some ⟨wc.heap.size, 0, none⟩) 0 0) 0 [] (by rfl) (by with_reducible exact own_empty F1.z F1.l) (Value.slice A K cap) K ((itc l).take (K * 4)) (by rfl) (by with_reducible exact src_to F1.r.r hKl) ((itc_ones l).take _) (by unfold maxLen; omega) (by omega) (by have := F1.z.lt; have := F1.l; omega) ?_; intro v1 w1 ho1 hg1 hb1; have H20 := F1.next ST ho1 hg1; have y0 : w1.cell? ⟨X, 0, none⟩ = some (.int .i64 a.t) := H20.r.x.cell 0; have y1 : w1.cell? ⟨X, 1, none⟩ = some (.int .i64 a.s) := H20.r.x.cell 1; have y2 : w1.cell? ⟨X, 2, none⟩ = some (.int .i64 a.x) := H20.r.x.cell 2; have y3 : w1.cell? ⟨X, 3, none⟩ = some (.int .i64 a.n) := H20.r.x.cell 3)
      | (refine step_append_any _ (by rfl) _ _ _ (by rfl) (X + 1) 56 i0 z0 4 32 Try.underlying50 hi0 hz0 hz2 hz3 hz1 (by decide) (Value.slice (some ⟨wc.heap.size, 0, none⟩) 0 0) 0 [] (by rfl) (by with_reducible exact own_empty F2.z F2.l) (Value.slice A K cap) K ((itc l).take (K * 4)) (by rfl) (by with_reducible exact src_to F2.r.r hKl) ((itc_ones l).take _) (by unfold maxLen; omega) (by omega) (by have := F2.z.lt; have := F2.l; omega) ?_; intro v1 w1 ho1 hg1 hb1; have H21 := F2.next ST ho1 hg1; have y0 : w1.cell? ⟨X, 0, none⟩ = some (.int .i64 a.t) := H21.r.x.cell 0; have y1 : w1.cell? ⟨X, 1, none⟩ = some (.int .i64 a.s) := H21.r.x.cell 1; have y2 : w1.cell? ⟨X, 2, none⟩ = some (.int .i64 a.x) := H21.r.x.cell 2; have y3 : w1.cell? ⟨X, 3, none⟩ = some (.int .i64 a.n) := H21.r.x.cell 3)
      | (refine step_append_any _ (by rfl) _ _ _ (by rfl) (X + 1) 56 i0 z0 4 32 Try.underlying50 hi0 hz0 hz2 hz3 hz1 (by decide) (Value.slice (some ⟨wc.heap.size + 1, 0, none⟩) 0 0) 0 [] (by rfl) (by with_reducible exact own_empty F3.z F3.l) (Value.slice A K cap) K ((itc l).take (K * 4)) (by rfl) (by with_reducible exact src_to F3.r.r hKl) ((itc_ones l).take _) (by unfold maxLen; omega) (by omega) (by have := F3.z.lt; have := F3.l; omega) ?_; intro v1 w1 ho1 hg1 hb1; have H21 := F3.next ST ho1 hg1; have y0 : w1.cell? ⟨X, 0, none⟩ = some (.int .i64 a.t) := H21.r.x.cell 0; have y1 : w1.cell? ⟨X, 1, none⟩ = some (.int .i64 a.s) := H21.r.x.cell 1; have y2 : w1.cell? ⟨X, 2, none⟩ = some (.int .i64 a.x) := H21.r.x.cell 2; have y3 : w1.cell? ⟨X, 3, none⟩ = some (.int .i64 a.n) := H21.r.x.cell 3)
      | (have H21x := H20.box (xs := #[.int .i64 a.t, .int .i64 a.s, .int .i64 a.x, .int .i64 a.n]) ST; refine step_append_any _ (by rfl) _ _ _ (by rfl) (X + 1) 56 i0 z0 4 32 Try.underlying50 hi0 hz0 hz2 hz3 hz1 (by decide) v1 (0 + K) ([] ++ (itc l).take (K * 4)) (by rfl) (by with_reducible exact H21x.o) (Value.slice (some ⟨w1.heap.size, 0, none⟩) 1 1) 1 (It.cells a) (by rfl) (by exact src_block H21x.x rfl 1) (a_ones a) (by unfold maxLen; omega) (by omega) (by have := H21x.r.x.lt; have := H21x.x.lt; omega) ?_; intro v2 w2 ho2 hg2 hb2; have H30 := H21x.next ST ho2 hg2)
      | (refine step_append_any _ (by rfl) _ _ _ (by rfl) (X + 1) 56 i0 z0 4 32 Try.underlying50 hi0 hz0 hz2 hz3 hz1 (by decide) v1 (0 + K) ([] ++ (itc l).take (K * 4)) (by rfl) (by with_reducible exact H21.o) (Value.slice (some ⟨wc.heap.size + 1, 0, none⟩) 1 1) 1 (It.cells a) (by rfl) (by exact src_block H21.x rfl 1) (a_ones a) (by unfold maxLen; omega) (by omega) (by have := H21.r.x.lt; have := H21.x.lt; omega) ?_; intro v2 w2 ho2 hg2 hb2; have H30 := H21.next ST ho2 hg2)
      | (refine step_append_any _ (by rfl) _ _ _ (by rfl) (X + 1) 56 i0 z0 4 32 Try.underlying50 hi0 hz0 hz2 hz3 hz1 (by decide) v1 (0 + K) ([] ++ (itc l).take (K * 4)) (by rfl) (by with_reducible exact H21.o) (Value.slice (some ⟨wc.heap.size, 0, none⟩) 1 1) 1 (It.cells a) (by rfl) (by exact src_block H21.x rfl 1) (a_ones a) (by unfold maxLen; omega) (by omega) (by have := H21.r.x.lt; have := H21.x.lt; omega) ?_; intro v2 w2 ho2 hg2 hb2; have H30 := H21.next ST ho2 hg2)
      | (refine step_append_any _ (by rfl) _ _ _ (by rfl) (X + 1) 56 i0 z0 4 32 Try.underlying50 hi0 hz0 hz2 hz3 hz1 (by decide) v2 (0 + K + 1) ([] ++ (itc l).take (K * 4) ++ It.cells a) (by rfl) (by with_reducible exact H30.o) (Value.slice (if cap = K then A else Option.map (fun x => x.add (K * 4)) A) (l.length - K) (cap - K)) (l.length - K) ((itc l).drop (K * 4)) (by rfl) (by with_reducible exact src_from H30.r.r hKl) ((itc_ones l).drop _) (by unfold maxLen; omega) (by omega) (by have := H30.r.x.lt; omega) ?_; intro v3 w3 ho3 hg3 hb3; have H40 := H30.next ST ho3 hg3))
    all_goals
      have en : 0 + K + 1 + (l.length - K) = l.length + 1 := by omega
      have ey : [] ++ (itc l).take (K * 4) ++ It.cells a ++ (itc l).drop (K * 4) = itc (insIt a l) := by
        unfold insIt
        rw [HK.out, itc_app, itc_take, itc_drop]
        simp [itc]
      have ho := H40.o
      rw [en, ey] at ho
      have hor := Lib.hid (own_mono (base' := w.heap.size) ho (by rw [HX.out]; exact Nat.le_succ X))
      have hbr := Lib.hid H40.r.b
      clear F1 F2 F3 ST H40 H30 ho ho1 ho2 ho3 hg1 hg2 hg3 hb1 hb2 hb3 en ey
      go_wp2_with fail
      all_goals
        go_ret
        exact ⟨_, rfl, hor.out, hbr.out⟩
end Go.Proofs.Ytfoigflgglpobaa.Tr
