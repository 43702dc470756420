/- Lemmas and contracts for RowQueuePlays, merged by program out of Tef, Tee, Teg, Qo, Qp, Qr. No condition. -/
import Derived.Test.YtfoigflgglpobaaBQ10
import Derived.Test.YtfoigflgglpobaaBQ8
import Derived.Test.YtfoigflgglpobaaBQ9
import Derived.Deep.RegionLaw
import Derived.StillTailTactics
set_option linter.unusedVariables false
set_option linter.unusedSimpArgs false
/- TreePlays' own rows: an item behind all that aren't later. No condition. -/
set_option linter.unusedVariables false
set_option linter.unusedSimpArgs false
namespace Go.Proofs.Ytfoigflgglpobaa.Tr
open Go.RowKit Go.Proofs.Ytfoigflgglpobaa.Aid
/-- an item of a law's row: a key, and a handle -/
structure It where
  t : Int
  s : Int
  x : Nat
  n : Int
def It.cells (a : It) : List Value := [.int .i64 a.t, .int .i64 a.s, .int .i64 a.x, .int .i64 a.n]
def itc (l : List It) : List Value := l.flatMap It.cells
theorem itc_len (l : List It) : (itc l).length = l.length * 4 := by
  induction l with
  | nil => rfl
  | cons a l ih => simp only [itc, List.flatMap_cons, List.length_append, List.length_cons, It.cells] at ih ⊢; simp only [List.length_nil]; omega
theorem itc_app (l k : List It) : itc (l ++ k) = itc l ++ itc k := by simp [itc]
theorem itc_ones (l : List It) : Ones (itc l) := fun u hu => by
  obtain ⟨a, _, ha⟩ := List.mem_flatMap.1 hu
  simp only [It.cells, List.mem_cons, List.not_mem_nil, or_false] at ha
  rcases ha with rfl | rfl | rfl | rfl <;> rfl
theorem a_ones (a : It) : Ones a.cells := fun u ha => by
  simp only [It.cells, List.mem_cons, List.not_mem_nil, or_false] at ha
  rcases ha with rfl | rfl | rfl | rfl <;> rfl
theorem itc_at : ∀ (l : List It) (j : Nat) (a : It), l[j]? = some a → (itc l)[j * 4]? = some (.int .i64 a.t) ∧ (itc l)[j * 4 + 1]? = some (.int .i64 a.s) ∧ (itc l)[j * 4 + 2]? = some (.int .i64 a.x) ∧ (itc l)[j * 4 + 3]? = some (.int .i64 a.n) := by
  intro l
  induction l with
  | nil => intro j e h; simp at h
  | cons b l ih =>
    intro j a h
    cases j with
    | zero =>
      simp only [List.getElem?_cons_zero, Option.some.injEq] at h
      subst h
      exact ⟨rfl, rfl, rfl, rfl⟩
    | succ j =>
      simp only [List.getElem?_cons_succ] at h
      obtain ⟨h1, h2, h3, h4⟩ := ih j a h
      have e1 : itc (b :: l) = [.int .i64 b.t, .int .i64 b.s, .int .i64 b.x, .int .i64 b.n] ++ itc l := rfl
      have e2 : ∀ i, (itc (b :: l))[i + 4]? = (itc l)[i]? := fun i => by
        rw [e1, List.getElem?_append_right (by simp)]
        simp
      refine ⟨?_, ?_, ?_, ?_⟩
      · rw [show (j + 1) * 4 = j * 4 + 4 by omega, e2]; exact h1
      · rw [show (j + 1) * 4 + 1 = j * 4 + 1 + 4 by omega, e2]; exact h2
      · rw [show (j + 1) * 4 + 2 = j * 4 + 2 + 4 by omega, e2]; exact h3
      · rw [show (j + 1) * 4 + 3 = j * 4 + 3 + 4 by omega, e2]; exact h4
theorem itc_take (l : List It) (k : Nat) : (itc l).take (k * 4) = itc (l.take k) := by
  induction l generalizing k with
  | nil => simp [itc]
  | cons b l ih =>
    cases k with
    | zero => simp [itc]
    | succ k =>
      have e1 : itc (b :: l) = b.cells ++ itc l := rfl
      rw [e1, show (k + 1) * 4 = b.cells.length + k * 4 by simp [It.cells]; omega, List.take_length_add_append, ih]
      rfl
theorem itc_drop (l : List It) (k : Nat) : (itc l).drop (k * 4) = itc (l.drop k) := by
  induction l generalizing k with
  | nil => simp [itc]
  | cons b l ih =>
    cases k with
    | zero => simp [itc]
    | succ k =>
      have e1 : itc (b :: l) = b.cells ++ itc l := rfl
      rw [e1, show (k + 1) * 4 = b.cells.length + k * 4 by simp [It.cells]; omega, List.drop_length_add_append, ih]
      rfl
theorem infoIt : (Try.prog.info? 56).map (fun i => (i.zero.map (·.cells.size), i.size, i.bytes)) = some (some 4, 4, 32) := by kernel_rfl
theorem infoIt' : ∃ i z, Try.prog.info? 56 = some i ∧ i.zero = some z ∧ z.cells.size = 4 ∧ i.size = 4 ∧ i.bytes = 32 := by
  have h := infoIt
  cases e : Try.prog.info? 56 with
  | none => rw [e] at h; cases h
  | some i =>
    rw [e] at h
    simp only [Option.map_some, Option.some.injEq, Prod.mk.injEq] at h
    cases e2 : i.zero with
    | none => rw [e2] at h; simp at h
    | some z => rw [e2] at h; simp only [Option.map_some, Option.some.injEq] at h; exact ⟨i, z, rfl, e2, h.1, h.2.1, h.2.2⟩
/-- how many items come ahead of a key, or with it -/
def atOf (a : It) : List It → Nat
  | [] => 0
  | b :: l => if klt a.t a.s b.t b.s then 0 else atOf a l + 1
theorem atOf_le (a : It) (l : List It) : atOf a l ≤ l.length := by
  induction l with
  | nil => exact Nat.le_refl _
  | cons b l ih => unfold atOf; split; exact Nat.zero_le _; simp only [List.length_cons]; omega
def insIt (a : It) (l : List It) : List It := l.take (atOf a l) ++ a :: l.drop (atOf a l)
/-- what stands in the law's put -/
structure LMid (w0 W : World) (base : Nat) (v : Value) (l : List It) (X : Nat) (a : It) : Prop where
  b : Below w0.heap.size w0 W
  r : W.ownsRow base 56 4 v l.length (itc l)
  x : Blk W X 56 #[.int .i64 a.t, .int .i64 a.s, .int .i64 a.x, .int .i64 a.n]
  k : ∀ q, v.ownBlock = some q → q < w0.heap.size
  hx : w0.heap.size ≤ X
theorem LMid.call {w0 W W' : World} {base X : Nat} {v : Value} {l : List It} {a : It} (h : LMid w0 W base v l X a) (b : Below W.heap.size W W') : LMid w0 W' base v l X a := ⟨h.b.trans (b.mono h.b.size), own_below h.r b, h.x.below b h.x.lt, h.k, h.hx⟩
theorem LMid.drew {w0 W : World} {base X : Nat} {v : Value} {l : List It} {a : It} (h : LMid w0 W base v l X a) : LMid w0 W.drew base v l X a := ⟨below_drewN h.b 1, h.r, h.x, h.k, h.hx⟩
theorem LMid.stands (w0 : World) (base : Nat) (v : Value) (l : List It) (a : It) : Stands (fun W => LMid w0 W base v l w0.heap.size a) (w0.heap.size + 1) := by
  refine ⟨fun W h => h.x.lt, fun W o h => h.call ((Below.refl _ _).alloc (Nat.le_refl _) o), fun W h => h.drew, fun W W' row h g hr => ?_⟩
  refine ⟨h.b.grown g h.b.size (fun k hk => by have := hr k hk; omega), own_same h.r fun b hb => g.block b (own_block h.r hb).2 (fun e => ?_), h.x.grown g (fun e => ?_), h.k, h.hx⟩
  · have h1 := hr b e.symm
    have h2 := h.k b hb
    omega
  · have h1 := hr _ e.symm
    omega
def LRel (w0 : World) (base : Nat) (v : Value) (l : List It) (X : Nat) (a : It) (m : Nat) (s5 : Value) (wr : World) : Prop :=
  ∃ k : Nat, k ≤ atOf a l ∧ m = l.length - k ∧ s5 = .int .i64 k ∧ LMid w0 wr base v l X a
theorem atOf_lt {a : It} : ∀ {l : List It} {k : Nat} {b : It}, k ≤ atOf a l → l[k]? = some b → (klt a.t a.s b.t b.s ↔ k = atOf a l) := by
  intro l
  induction l with
  | nil => intro k b _ h; simp at h
  | cons c l ih =>
    intro k b hk h
    unfold atOf at hk ⊢
    by_cases e : klt a.t a.s c.t c.s
    · rw [if_pos e] at hk ⊢
      have : k = 0 := by omega
      subst this
      simp only [List.getElem?_cons_zero, Option.some.injEq] at h
      subst h
      simp [e]
    · rw [if_neg e] at hk ⊢
      cases k with
      | zero =>
        simp only [List.getElem?_cons_zero, Option.some.injEq] at h
        subst h
        simp [e]
      | succ k =>
        simp only [List.getElem?_cons_succ] at h
        rw [ih (by omega) h]
        omega
set_option maxHeartbeats 400000 in
set_option maxRecDepth 100000 in
theorem put_law (base : Nat) (v : Value) (l : List It) (a : It) (w : World) (hl : l.length ≤ 10000) (h : w.ownsRow base 56 4 v l.length (itc l)) :
    Calls Try.prog 24 #[v, .agg #[.int .i64 a.t, .int .i64 a.s, .int .i64 a.x, .int .i64 a.n]] w fun e w' => ∃ v', e = .returned v' ∧ w'.ownsRow w.heap.size 56 4 v' (l.length + 1) (itc (insIt a l)) ∧ Below w.heap.size w w' := by
  have hx := Blk.new w 56 #[.int .i64 a.t, .int .i64 a.s, .int .i64 a.x, .int .i64 a.n]
  have hB : Below w.heap.size w (w.alloc (.cells #[.int .i64 a.t, .int .i64 a.s, .int .i64 a.x, .int .i64 a.n] 56)) := (Below.refl w.heap.size w).alloc (Nat.le_refl _) _
  have M := Lib.hid (show LMid w (w.alloc (.cells #[.int .i64 a.t, .int .i64 a.s, .int .i64 a.x, .int .i64 a.n] 56)) base v l w.heap.size a from ⟨hB, own_alloc h _, hx, fun q hq => (own_block h hq).2, Nat.le_refl _⟩)
  have HS := Lib.hid (show atOf a l ≤ l.length from atOf_le a l)
  clear hx hB
  have hv : ∃ A cap, v = .slice A l.length cap ∧ ∀ j, j < l.length → ∃ q, A = some ⟨q, 0, none⟩ := by
    by_cases h0 : 0 < l.length
    · obtain ⟨q, cap, h1, _⟩ := own_form h h0
      exact ⟨_, _, h1, fun _ _ => ⟨_, rfl⟩⟩
    · have h1 := h
      have h2 : l.length = 0 := by omega
      rw [h2] at h1 ⊢
      obtain ⟨A, cap, e⟩ := own_none h1
      exact ⟨A, cap, e, fun j hj => by omega⟩
  obtain ⟨A, cap, rfl, hA⟩ := hv
  have HA := Lib.hid hA
  have HIN := Lib.hid h
  clear hA h
  go_enter Try.func24, Try.ntmps24
  go_upto_region 1 with fail
  generalize w.alloc (.cells #[.int .i64 a.t, .int .i64 a.s, .int .i64 a.x, .int .i64 a.n] 56) = W at M ⊢
  obtain ⟨X, hX⟩ : ∃ X, w.heap.size = X := ⟨_, rfl⟩
  have HX := Lib.hid hX
  rw [hX] at M ⊢
  clear hX
  go_upto_block 0 with fail
  go_cut [5] (fun s5 wx => s5 = .int .i64 (atOf a l : Nat) ∧ LMid w wx base (.slice A l.length cap) l X a)
  case first =>
    go_wp2_with fail
    go_loopg [5] l.length (fun m s5 wr => LRel w base (.slice A l.length cap) l X a m s5 wr)
    case atStart => exact ⟨0, by omega, rfl, rfl, M.out⟩
    case round =>
      obtain ⟨k, hk, rfl, rfl, LM⟩ := hrel
      clear M
      have hkl := HS.out
      by_cases hlt : k < l.length
      · obtain ⟨b, hb⟩ : ∃ b, l[k]? = some b := ⟨l[k], List.getElem?_eq_getElem hlt⟩
        obtain ⟨q, rfl⟩ := HA.out k hlt
        have hiff := atOf_lt hk hb
        obtain ⟨f0, f1, f2, f3⟩ := itc_at l k b hb
        have PD := LM.drew
        have c0 := own_cell LM.r f0
        have c1 := own_cell LM.r f1
        have x0 : wr.cell? ⟨X, 0, none⟩ = some (.int .i64 a.t) := LM.x.cell 0
        have x1 : wr.cell? ⟨X, 1, none⟩ = some (.int .i64 a.s) := LM.x.cell 1
        obtain ⟨σ, hσ⟩ : ∃ σ, decide (klt a.t a.s b.t b.s) = σ := ⟨_, rfl⟩
        have HAH := Lib.hid (fun W => ahead_any a.t a.s b.t b.s W)
        rw [hσ] at HAH
        have HI := Lib.hid (And.intro hiff hσ)
        have HF := Lib.hid (And.intro f0 f1)
        generalize b.t = bt at c0 HAH
        generalize b.s = bs at c1 HAH
        clear hiff hσ hb f2 f3 f0 f1
        go_upto_region 2 with fail
        refine wp_region_still_tail 12 (by kernel_rfl) (by kernel_rfl) ?_
        change wpStill _ _ wr.drew _ _ _
        have c0' : wr.drew.cell? ⟨q, k * 4, none⟩ = some (.int .i64 bt) := c0
        have c1' : wr.drew.cell? ⟨q, k * 4 + 1, none⟩ = some (.int .i64 bs) := c1
        have x0' : wr.drew.cell? ⟨X, 0, none⟩ = some (.int .i64 a.t) := x0
        have x1' : wr.drew.cell? ⟨X, 1, none⟩ = some (.int .i64 a.s) := x1
        clear c0 c1 x0 x1
        simp only [List.take_succ_cons, List.take_zero, List.drop_succ_cons, List.drop_zero]
        still_step
        still_step
        still_step
        still_step
        still_step
        still_step
        still_step
        still_step
        still_step
        still_step
        still_step
        still_step
        refine wpStill_nil ?_
        change wpList _ _ _ _ _ wr.drew
        clear c0' c1' x0' x1'
        go_wp2_with fail
        refine (HAH.out _).mono ?_
        rintro e W5 ⟨rfl, b5⟩
        have LM5 := Lib.hid (PD.call b5)
        clear PD LM b5
        cases σ with
        | false =>
          have hne : k ≠ atOf a l := fun e => by
            have := HI.out.1.2 e
            have h2 := HI.out.2
            rw [decide_eq_false_iff_not] at h2
            exact h2 this
          go_wp2_with fail
          go_roundg (l.length - (k + 1))
          case measure => omega
          case rel => exact ⟨k + 1, by omega, rfl, by go_num, LM5.out⟩
        | true =>
          have hke : k = atOf a l := HI.out.1.1 (of_decide_eq_true HI.out.2)
          have hkl2 : k ≤ l.length := by omega
          have HKE := Lib.hid hke
          clear hke
          go_wp2_with fail
          go_meet
          exact ⟨by rw [HKE.out], LM5.out⟩
      · have hke : k = atOf a l := by omega
        have d : decide (((k : Nat) : Int) < ((l.length : Nat) : Int)) = false := decide_eq_false (by omega)
        have LH := Lib.hid LM
        clear LM
        have HKE := Lib.hid hke
        clear hke
        go_upto_region 2 with fail
        go_quiet (fail)
        go_wp2_with fail
        go_meet
        exact ⟨by rw [HKE.out], ⟨below_drewN LH.out.b _, LH.out.r, LH.out.x, LH.out.k, LH.out.hx⟩⟩
  case rest =>
    obtain ⟨rfl, LM⟩ := hcut
    obtain ⟨K, hK⟩ : ∃ K, atOf a l = K := ⟨_, rfl⟩
    have hKl := HS.out
    rw [hK] at hKl
    have HK := Lib.hid hK
    rw [hK]
    clear hK
    have x0 : wc.cell? ⟨X, 0, none⟩ = some (.int .i64 a.t) := LM.x.cell 0
    have x1 : wc.cell? ⟨X, 1, none⟩ = some (.int .i64 a.s) := LM.x.cell 1
    have x2 : wc.cell? ⟨X, 2, none⟩ = some (.int .i64 a.x) := LM.x.cell 2
    have x3 : wc.cell? ⟨X, 3, none⟩ = some (.int .i64 a.n) := LM.x.cell 3
    have hcp := (own_cap LM.r).2.1
    have hKc : K ≤ cap := by omega
    have ST : Stands (fun W => LMid w W base (.slice A l.length cap) l X a) (X + 1) := HX.out ▸ LMid.stands w base (.slice A l.length cap) l a
    obtain ⟨i0, z0, hi0, hz0, hz1, hz2, hz3⟩ := infoIt'
    have F1 := S10.start (e := 56) ST LM
    have F2 := S11.start1 (e := 56) (xs := #[.int .i64 a.t, .int .i64 a.s, .int .i64 a.x, .int .i64 a.n]) ST LM
    have F3 := S11.start2 (e := 56) (xs := #[.int .i64 a.t, .int .i64 a.s, .int .i64 a.x, .int .i64 a.n]) ST LM
    have hXc : X < wc.heap.size := LM.x.lt
    go_upto_region 4 with fail
    go_region_law (first
      | (refine step_append_any _ (by rfl) _ _ _ (by rfl) (X + 1) 56 i0 z0 4 32 Try.underlying50 hi0 hz0 hz2 hz3 hz1 (by decide) (Value.slice (some ⟨wc.heap.size, 0, none⟩) 0 0) 0 [] (by rfl) (by with_reducible exact own_empty F1.z F1.l) (Value.slice A K cap) K ((itc l).take (K * 4)) (by rfl) (by with_reducible exact src_to F1.r.r hKl) ((itc_ones l).take _) (by unfold maxLen; omega) (by omega) (by have := F1.z.lt; have := F1.l; omega) ?_; intro v1 w1 ho1 hg1 hb1; have H20 := F1.next ST ho1 hg1; have y0 : w1.cell? ⟨X, 0, none⟩ = some (.int .i64 a.t) := H20.r.x.cell 0; have y1 : w1.cell? ⟨X, 1, none⟩ = some (.int .i64 a.s) := H20.r.x.cell 1; have y2 : w1.cell? ⟨X, 2, none⟩ = some (.int .i64 a.x) := H20.r.x.cell 2; have y3 : w1.cell? ⟨X, 3, none⟩ = some (.int .i64 a.n) := H20.r.x.cell 3)
      | (refine step_append_any _ (by rfl) _ _ _ (by rfl) (X + 1) 56 i0 z0 4 32 Try.underlying50 hi0 hz0 hz2 hz3 hz1 (by decide) (Value.slice (some ⟨wc.heap.size, 0, none⟩) 0 0) 0 [] (by rfl) (by with_reducible exact own_empty F2.z F2.l) (Value.slice A K cap) K ((itc l).take (K * 4)) (by rfl) (by with_reducible exact src_to F2.r.r hKl) ((itc_ones l).take _) (by unfold maxLen; omega) (by omega) (by have := F2.z.lt; have := F2.l; omega) ?_; intro v1 w1 ho1 hg1 hb1; have H21 := F2.next ST ho1 hg1; have y0 : w1.cell? ⟨X, 0, none⟩ = some (.int .i64 a.t) := H21.r.x.cell 0; have y1 : w1.cell? ⟨X, 1, none⟩ = some (.int .i64 a.s) := H21.r.x.cell 1; have y2 : w1.cell? ⟨X, 2, none⟩ = some (.int .i64 a.x) := H21.r.x.cell 2; have y3 : w1.cell? ⟨X, 3, none⟩ = some (.int .i64 a.n) := H21.r.x.cell 3)
      | (refine step_append_any _ (by rfl) _ _ _ (by rfl) (X + 1) 56 i0 z0 4 32 Try.underlying50 hi0 hz0 hz2 hz3 hz1 (by decide) (Value.slice (some ⟨wc.heap.size + 1, 0, none⟩) 0 0) 0 [] (by rfl) (by with_reducible exact own_empty F3.z F3.l) (Value.slice A K cap) K ((itc l).take (K * 4)) (by rfl) (by with_reducible exact src_to F3.r.r hKl) ((itc_ones l).take _) (by unfold maxLen; omega) (by omega) (by have := F3.z.lt; have := F3.l; omega) ?_; intro v1 w1 ho1 hg1 hb1; have H21 := F3.next ST ho1 hg1; have y0 : w1.cell? ⟨X, 0, none⟩ = some (.int .i64 a.t) := H21.r.x.cell 0; have y1 : w1.cell? ⟨X, 1, none⟩ = some (.int .i64 a.s) := H21.r.x.cell 1; have y2 : w1.cell? ⟨X, 2, none⟩ = some (.int .i64 a.x) := H21.r.x.cell 2; have y3 : w1.cell? ⟨X, 3, none⟩ = some (.int .i64 a.n) := H21.r.x.cell 3)
      | (have H21x := H20.box (xs := #[.int .i64 a.t, .int .i64 a.s, .int .i64 a.x, .int .i64 a.n]) ST; refine step_append_any _ (by rfl) _ _ _ (by rfl) (X + 1) 56 i0 z0 4 32 Try.underlying50 hi0 hz0 hz2 hz3 hz1 (by decide) v1 (0 + K) ([] ++ (itc l).take (K * 4)) (by rfl) (by with_reducible exact H21x.o) (Value.slice (some ⟨w1.heap.size, 0, none⟩) 1 1) 1 (It.cells a) (by rfl) (by exact src_block H21x.x rfl 1) (a_ones a) (by unfold maxLen; omega) (by omega) (by have := H21x.r.x.lt; have := H21x.x.lt; omega) ?_; intro v2 w2 ho2 hg2 hb2; have H30 := H21x.next ST ho2 hg2)
      | (refine step_append_any _ (by rfl) _ _ _ (by rfl) (X + 1) 56 i0 z0 4 32 Try.underlying50 hi0 hz0 hz2 hz3 hz1 (by decide) v1 (0 + K) ([] ++ (itc l).take (K * 4)) (by rfl) (by with_reducible exact H21.o) (Value.slice (some ⟨wc.heap.size + 1, 0, none⟩) 1 1) 1 (It.cells a) (by rfl) (by exact src_block H21.x rfl 1) (a_ones a) (by unfold maxLen; omega) (by omega) (by have := H21.r.x.lt; have := H21.x.lt; omega) ?_; intro v2 w2 ho2 hg2 hb2; have H30 := H21.next ST ho2 hg2)
      | (refine step_append_any _ (by rfl) _ _ _ (by rfl) (X + 1) 56 i0 z0 4 32 Try.underlying50 hi0 hz0 hz2 hz3 hz1 (by decide) v1 (0 + K) ([] ++ (itc l).take (K * 4)) (by rfl) (by with_reducible exact H21.o) (Value.slice (some ⟨wc.heap.size, 0, none⟩) 1 1) 1 (It.cells a) (by rfl) (by exact src_block H21.x rfl 1) (a_ones a) (by unfold maxLen; omega) (by omega) (by have := H21.r.x.lt; have := H21.x.lt; omega) ?_; intro v2 w2 ho2 hg2 hb2; have H30 := H21.next ST ho2 hg2)
      | (refine step_append_any _ (by rfl) _ _ _ (by rfl) (X + 1) 56 i0 z0 4 32 Try.underlying50 hi0 hz0 hz2 hz3 hz1 (by decide) v2 (0 + K + 1) ([] ++ (itc l).take (K * 4) ++ It.cells a) (by rfl) (by with_reducible exact H30.o) (Value.slice (if cap = K then A else Option.map (fun x => x.add (K * 4)) A) (l.length - K) (cap - K)) (l.length - K) ((itc l).drop (K * 4)) (by rfl) (by with_reducible exact src_from H30.r.r hKl) ((itc_ones l).drop _) (by unfold maxLen; omega) (by omega) (by have := H30.r.x.lt; omega) ?_; intro v3 w3 ho3 hg3 hb3; have H40 := H30.next ST ho3 hg3))
    all_goals
      have en : 0 + K + 1 + (l.length - K) = l.length + 1 := by omega
      have ey : [] ++ (itc l).take (K * 4) ++ It.cells a ++ (itc l).drop (K * 4) = itc (insIt a l) := by
        unfold insIt
        rw [HK.out, itc_app, itc_take, itc_drop]
        simp [itc]
      have ho := H40.o
      rw [en, ey] at ho
      have hor := Lib.hid (own_mono (base' := w.heap.size) ho (by rw [HX.out]; exact Nat.le_succ X))
      have hbr := Lib.hid H40.r.b
      clear F1 F2 F3 ST H40 H30 ho ho1 ho2 ho3 hg1 hg2 hg3 hb1 hb2 hb3 en ey
      go_wp2_with fail
      all_goals
        go_ret
        exact ⟨_, rfl, hor.out, hbr.out⟩
end Go.Proofs.Ytfoigflgglpobaa.Tr
/- TreeAt: from the first node whose time isn't below one all that follow aren't: the walk. No condition. -/
set_option linter.unusedVariables false
set_option linter.unusedSimpArgs false
namespace Go.Proofs.Ytfoigflgglpobaa.Tr
open Go.RowKit Go.Proofs.Ytfoigflgglpobaa.Aid
/-- where a search for a time ends, by the row of places -/
theorem at_split {f : Nat → Nd} {τ : Int} (t : Sh) : ∀ b, Srt f t.ino → ∃ pre post, t.ino = pre ++ post ∧ (∀ z, z ∈ pre → (f z).t < τ) ∧ (∀ z, z ∈ post → τ ≤ (f z).t) ∧ atF f τ t b = post.head?.getD b := by
  induction t with
  | nil => intro b _; exact ⟨[], [], rfl, fun z hz => (by cases hz), fun z hz => (by cases hz), rfl⟩
  | node c x k ih =>
    intro b hs
    have hs' : Srt f ((k false).ino ++ x :: (k true).ino) := hs
    obtain ⟨a1, a2, a3⟩ := List.pairwise_append.1 hs'
    obtain ⟨a4, a5⟩ := List.pairwise_cons.1 a2
    by_cases h : τ ≤ (f x).t
    · obtain ⟨pre, post, e1, e2, e3, e4⟩ := ih false x a1
      refine ⟨pre, post ++ x :: (k true).ino, by show (k false).ino ++ _ = _; rw [e1, List.append_assoc], e2, fun z hz => ?_, ?_⟩
      · rcases List.mem_append.1 hz with hz | hz
        · exact e3 z hz
        · rcases List.mem_cons.1 hz with rfl | hz
          · exact h
          · have := a4 z hz; unfold kle at this; omega
      · unfold atF
        rw [if_pos h, e4]
        cases post <;> rfl
    · obtain ⟨pre, post, e1, e2, e3, e4⟩ := ih true b a5
      refine ⟨(k false).ino ++ x :: pre, post, by show (k false).ino ++ x :: (k true).ino = _; rw [e1, List.append_assoc]; rfl, fun z hz => ?_, e3, ?_⟩
      · rcases List.mem_append.1 hz with hz | hz
        · have := a3 z hz x (by simp); unfold kle at this; omega
        · rcases List.mem_cons.1 hz with rfl | hz
          · omega
          · exact e2 z hz
      · unfold atF
        rw [if_neg h, e4]
/-- how many keys are below a time -/
def cntB (f : Nat → Nd) (τ : Int) (l : List Nat) : Nat := l.countP fun z => decide ((f z).t < τ)
theorem cntB_put {s s' : TS} {T T' : Sh} {kt ks : Int} {x : Nat} {pre post : List Nat} {τ : Int} (r : PutRes s T kt ks s' T' x pre post) (lt : ∀ z, z ∈ T.ino → z < s.sz) (nd : T'.ino.Nodup) :
    cntB s'.f τ T'.ino = cntB s.f τ T.ino + (if kt < τ then 1 else 0) := by
  unfold cntB
  rw [r.ino', r.ino, List.countP_append, List.countP_cons, List.countP_append]
  have hne : ∀ z, z ∈ pre ++ post → z ≠ x := fun z hz e => by
    rw [r.ino'] at nd
    exact (sub_nodup nd).2 (e ▸ hz)
  have h : ∀ l : List Nat, (∀ z, z ∈ l → z ∈ pre ++ post) → l.countP (fun z => decide ((s'.f z).t < τ)) = l.countP (fun z => decide ((s.f z).t < τ)) := fun l hl =>
    List.countP_congr fun z hz => by rw [(r.old z (lt z (by rw [r.ino]; exact hl z hz)) (hne z (hl z hz))).1]
  rw [h pre (fun z hz => by simp [hz]), h post (fun z hz => by simp [hz]), r.key.1]
  by_cases e : kt < τ <;> simp [e] <;> omega
theorem cntB_split {f : Nat → Nd} {τ : Int} {pre post : List Nat} (h1 : ∀ z, z ∈ pre → (f z).t < τ) (h2 : ∀ z, z ∈ post → τ ≤ (f z).t) : cntB f τ (pre ++ post) = pre.length := by
  unfold cntB
  rw [List.countP_append, List.countP_eq_length.2 (fun z hz => by simpa using h1 z hz), List.countP_eq_zero.2 (fun z hz => by have := h2 z hz; simp; omega)]
  rfl
def A1Rel (w0 : World) (g gl N : Nat) (τ : Int) (m : Nat) (s6 s24 : Value) (wr : World) : Prop :=
  ∃ (k : Nat) (s : TS) (T : Sh) (fl : List Nat), k ≤ N ∧ m = N - k ∧ s24 = .int .i64 k ∧ s6 = .int .i64 (cntB s.f τ T.ino : Nat) ∧ TSt w0 wr g gl s T fl ∧ T.ino.length = k ∧ s.most = 200 ∧ TnB s k
def A2Rel (w0 : World) (g gl : Nat) (s : TS) (T : Sh) (fl : List Nat) (post : List Nat) (HB : Nat) (m : Nat) (s10 s11 : Value) (wr : World) : Prop :=
  ∃ done rest, post = done ++ rest ∧ m = rest.length ∧ s10 = .bool (decide (rest ≠ [])) ∧ s11 = .int .i64 (done.length : Nat) ∧ TSt w0 wr g gl s T fl ∧ Blk wr HB 29 (two_ (hd rest : Nat) (hturn s (hd rest)))
set_option maxHeartbeats 4000000 in
set_option maxRecDepth 100000 in
theorem treeAt_big (A : Option Addr) (N cap : Nat) (hN : 200 < N) (hmx : N ≤ maxLen) (τ : Int) (w : World) : Calls Try.prog 5 #[.slice A N cap, .int .i64 τ] w fun e w' => e = .returned (.bool true) ∧ Below w.heap.size w w' := by
  have d : decide (((N : Nat) : Int) > 200) = true := decide_eq_true (by omega)
  go_enter Try.func5, Try.ntmps5
  go_wp2_with fail
  refine (fixed_any w).mono ?_
  rintro e w1 ⟨rfl, b1⟩
  have HB := Lib.hid b1
  clear b1
  go_wp2_with fail
  go_ret
  exact ⟨rfl, HB.out⟩
set_option maxHeartbeats 4000000 in
set_option maxRecDepth 100000 in
theorem treeAt_any (A : Option Addr) (N cap : Nat) (hN : N ≤ 200) (τ : Int) (w : World) (hin : KeysIn w w.heap.size A N) : Calls Try.prog 5 #[.slice A N cap, .int .i64 τ] w fun e w' => e = .returned (.bool true) ∧ Below w.heap.size w w' := by
  have d : decide (((N : Nat) : Int) > 200) = false := decide_eq_false (by omega)
  have HK := Lib.hid hin
  clear hin
  go_enter Try.func5, Try.ntmps5
  go_wp2_with fail
  refine (fixed_any w).mono ?_
  rintro e V1 ⟨rfl, b1⟩
  go_wp2_with fail
  refine (New_some 200 V1 (by omega)).mono ?_
  rintro e W0 ⟨g, gl, rfl, T0, hg, hgl, b0⟩
  have s1 := b1.size
  have S := Lib.hid (show A1Rel w g gl N τ N (.int .i64 (0 : Nat)) (.int .i64 (0 : Nat)) W0 from ⟨0, newS 200, .nil, [], by omega, rfl, rfl, rfl, ⟨full_new (by omega) T0, b1.trans (b0.mono s1), by omega, by omega⟩, rfl, rfl, TnB.new 200⟩)
  clear T0 b0 b1 hg hgl s1 d
  go_wp2_with fail
  go_loopg [6, 24] N (fun m s6 s24 wr => A1Rel w g gl N τ m s6 s24 wr)
  case atStart => exact S.out
  case round =>
    obtain ⟨k, s, T, fl, hk, rfl, rfl, rfl, HT, hlen, hmost, hTn⟩ := hrel
    clear S
    have HI := Lib.hid (And.intro hlen (And.intro hmost hTn))
    clear hlen hmost hTn
    have hcb : cntB s.f τ T.ino ≤ k := by rw [← HI.out.1]; exact List.countP_le_length
    by_cases hlt : k < N
    · obtain ⟨x, rfl, kt, ks, hat⟩ := HK.out k hlt
      obtain ⟨q0, q1⟩ := hat _ HT.b
      clear hat
      go_upto_region 10 with fail
      have hbx := Blk.new wr 27 #[.int .i64 kt, .int .i64 ks]
      have H2 := HT.alloc (.cells #[.int .i64 kt, .int .i64 ks] 27)
      have hgg := HT.t.m.b.lt
      have hggl := HT.t.m.n.lt
      clear HT q0 q1
      generalize wr.alloc (.cells #[.int .i64 kt, .int .i64 ks] 27) = W2 at hbx H2 ⊢
      generalize wr.heap.size = kb at hbx hgg hggl ⊢
      obtain ⟨x0, x1⟩ := two_cells hbx
      go_wp2_with fail
      refine (Put_yes g gl s T fl W2 H2.t kt ks (by rw [HI.out.1, HI.out.2.1]; omega) (HI.out.2.2.bnd (by omega))).mono ?_
      rintro e W3 ⟨s1, T1, fl1, x', pre1, post1, rfl, F1, R1, O1⟩
      have hl1 : T1.ino.length = k + 1 := by
        have h1 := HI.out.1
        rw [R1.ino] at h1
        rw [R1.ino']
        simp only [List.length_append, List.length_cons] at h1 ⊢
        omega
      have hm1 := R1.most.trans HI.out.2.1
      have ht1 := HI.out.2.2.put R1 (by omega)
      have hcnt := cntB_put (τ := τ) R1 H2.t.lt F1.rb.nd
      have hb3 := O1.blk hbx (by rintro (e | e) <;> omega)
      have H3 := Lib.hid (H2.goes F1 O1)
      have HE := Lib.hid (And.intro hl1 (And.intro hm1 ht1))
      clear H2 F1 R1 O1 hl1 hm1 ht1 x0 x1 hbx
      generalize hnd s1 x' = hv
      generalize cntB s.f τ T.ino = cb at hcnt hcb ⊢
      obtain ⟨x0, x1⟩ := two_cells hb3
      by_cases hkt : kt < τ
      · rw [if_pos hkt] at hcnt
        have HC := Lib.hid hcnt
        clear hcnt
        go_wp2_with fail
        go_roundg (N - (k + 1))
        case measure => omega
        case rel => exact ⟨k + 1, s1, T1, _, by omega, rfl, by go_num, by rw [HC.out]; go_num, H3.out, HE.out.1, HE.out.2.1, by have := HE.out.2.2; exact this⟩
      · rw [if_neg hkt] at hcnt
        have HC := Lib.hid hcnt
        clear hcnt
        go_wp2_with fail
        go_roundg (N - (k + 1))
        case measure => omega
        case rel => exact ⟨k + 1, s1, T1, _, by omega, rfl, by go_num, by rw [HC.out]; rfl, H3.out, HE.out.1, HE.out.2.1, by have := HE.out.2.2; exact this⟩
    · have hkN : k = N := by omega
      subst hkN
      obtain ⟨pre, post, hT, hp1, hp2, hat⟩ := at_split (f := s.f) (τ := τ) T 0 HT.t.srt
      have hat' : atF s.f τ T 0 = hd post := hat
      have hcs : cntB s.f τ T.ino = pre.length := by rw [hT]; exact cntB_split hp1 hp2
      have hll : pre.length + post.length = k := by rw [← HI.out.1, hT, List.length_append]
      have CA := At_any g gl s T wr HT.t.rd τ
      rw [hat', hd_ne HT.t (l := post) (fun z hz => by rw [hT]; simp [hz])] at CA
      have hok : decide (((pre.length : Nat) : Int) < ((k : Nat) : Int)) = decide (post ≠ []) := by
        cases post with
        | nil =>
          simp only [List.length_nil] at hll
          rw [decide_eq_false (by omega)]; rfl
        | cons a l =>
          simp only [List.length_cons] at hll
          rw [decide_eq_true (by omega)]; rfl
      rw [hcs]
      have hnd0 : hnd s (hd post) = .agg (two_ (hd post : Nat) (hturn s (hd post))) := rfl
      have HCA := Lib.hid CA
      have HF := Lib.hid (And.intro hT (And.intro hp2 (And.intro hll hok)))
      have HTT := Lib.hid HT
      obtain ⟨ok, hokk⟩ : ∃ ok, decide (post ≠ []) = ok := ⟨_, rfl⟩
      have hok2 : decide (((pre.length : Nat) : Int) < ((k : Nat) : Int)) = ok := by rw [hok, hokk]
      have HOK := Lib.hid hokk
      have hpk : pre.length ≤ k := by omega
      rw [hokk, hnd0] at HCA
      clear CA hat hat' hcs hp1 hp2 hT hok hnd0 HT hokk hcb
      have hgg := HTT.out.t.m.b.lt
      have hggl := HTT.out.t.m.n.lt
      obtain ⟨p0, hp0⟩ : ∃ p, ((hd post : Nat) : Int) = p := ⟨_, rfl⟩
      obtain ⟨p1, hp1⟩ : ∃ p, hturn s (hd post) = p := ⟨_, rfl⟩
      rw [hp0, hp1] at HCA
      have HPP := Lib.hid (And.intro hp0 hp1)
      clear hp0 hp1
      go_wp2_with fail
      refine HCA.out.mono ?_
      rintro e W3 ⟨rfl, b3⟩
      have H3 := (HTT.out.call b3).alloc (.cells #[.int .i64 p0, .int .i64 p1] 29)
      have h3 := Blk.new W3 29 (two_ p0 p1)
      have s3 := b3.size
      have hw3 := HTT.out.b.size
      unfold two_ at h3
      clear HTT HCA b3
      unfold two_
      go_upto_region 15 with fail
      generalize W3.alloc (.cells #[.int .i64 p0, .int .i64 p1] 29) = W4 at H3 h3 ⊢
      have hHB : W3.heap.size ≠ g ∧ W3.heap.size ≠ gl ∧ w.heap.size ≤ W3.heap.size := by omega
      generalize W3.heap.size = HB at h3 hHB ⊢
      clear hgg hggl s3 hw3
      have h3' : Blk W4 HB 29 (two_ (hd post : Nat) (hturn s (hd post))) := by rw [HPP.out.1, HPP.out.2]; exact h3
      have S := Lib.hid (show A2Rel w g gl s T fl post HB post.length (.bool ok) (.int .i64 (0 : Nat)) W4 from ⟨[], post, rfl, rfl, by rw [HOK.out], rfl, H3, h3'⟩)
      have H3' := H3
      clear h3 h3' H3
      have hcase : (ok = true ∧ pre.length < k) ∨ (ok = false ∧ ¬ pre.length < k) := by
        by_cases e : pre.length < k
        · exact .inl ⟨by rw [← hok2]; exact decide_eq_true (by omega), e⟩
        · exact .inr ⟨by rw [← hok2]; exact decide_eq_false (by omega), e⟩
      rcases hcase with ⟨rfl, hlk⟩ | ⟨rfl, hlk⟩
      all_goals
        have HWAY := Lib.hid (Heights_any g gl s T)
        have hways : T.most ≤ 2 * T.least + 1 := by obtain ⟨b, hb⟩ := H3'.t.rb.bal; exact ways hb H3'.t.rb.nrr H3'.t.rb.red
        have hml := most_len T
        have HW := Lib.hid hways
        clear hways H3'
        go_wp2_with fail
        go_loopg [10, 11] post.length (fun m s10 s11 wr => A2Rel w g gl s T fl post HB m s10 s11 wr)
        case atStart => exact S.out
        case round =>
          obtain ⟨done, rest, hpo, rfl, rfl, rfl, HT, hbx⟩ := hrel
          clear S
          have hlp : done.length + rest.length = post.length := by rw [hpo, List.length_append]
          cases rest with
          | nil =>
            have HT2 := Lib.hid HT
            have hdl : done.length = post.length := by simpa using hlp
            have hsum : ((done.length : Nat) : Int) + ((pre.length : Nat) : Int) = ((k : Nat) : Int) := by omega
            rw [show decide (([] : List Nat) ≠ []) = false from rfl]
            have HH := Lib.hid (HWAY.out wr HT.t.rd (by have := HF.out.2.2.1; have h1 := HI.out.1; omega))
            have hk2 : k ≤ 200 := hN
            have hm2 : T.most ≤ 200 := by have := HI.out.1; omega
            have hl2 : T.least ≤ 200 := by have := HI.out.1; omega
            generalize T.most = mo at HH HW hm2
            generalize T.least = le at HH HW hl2
            have hmo : decide (((mo : Nat) : Int) ≤ 2 * ((le : Nat) : Int) + 1) = true := decide_eq_true (by have := HW.out; omega)
            have hmo2 : ((mo : Nat) : Int) ≤ 2 * ((le : Nat) : Int) + 1 := by have := HW.out; omega
            generalize done.length = n at *
            generalize pre.length = c at *
            clear HT hbx hpo hlp hml
            go_wp2_with fail
            refine HH.out.mono ?_
            rintro e W5 ⟨rfl, rfl⟩
            go_wp2_with fail
            go_ret
            exact ⟨rfl, HT2.out.b⟩
          | cons x rest =>
            have hxT : x ∈ T.ino := by rw [HF.out.1, hpo]; simp
            have hsp : T.ino = (pre ++ done) ++ x :: rest := by rw [HF.out.1, hpo, List.append_assoc]
            rw [show decide (x :: rest ≠ []) = true from rfl]
            have hx0 := HT.t.rd.ne0 hxT
            have e1 : hd (x :: rest) = x := rfl
            have e2 : hturn s x = (s.f x).turn := by unfold hturn; rw [if_neg hx0]
            rw [e1, e2] at hbx
            have C1 := fun W hW => Key_row (w := W) (g := g) (gl := gl) (s := s) (T := T) (fl := fl) hW hxT
            have C2 := fun W hW => Next_row (w := W) (g := g) (gl := gl) (s := s) (T := T) (fl := fl) hW hsp
            have hτ := HF.out.2.1 x (by rw [hpo]; simp)
            have hn0 : hnd s (hd rest) = .agg #[.int .i64 (hd rest : Nat), .int .i64 (hturn s (hd rest))] := rfl
            simp only [hn0] at C2
            obtain ⟨tx, htx⟩ : ∃ t, (s.f x).turn = t := ⟨_, rfl⟩
            obtain ⟨kt, hkt⟩ : ∃ t, (s.f x).t = t := ⟨_, rfl⟩
            obtain ⟨ks, hks⟩ : ∃ t, (s.f x).s = t := ⟨_, rfl⟩
            rw [htx] at hbx
            rw [hkt] at hτ
            simp only [htx, hkt, hks] at C1 C2
            have HC1 := Lib.hid C1
            have HC2 := Lib.hid C2
            have HT2 := Lib.hid HT
            have HBX := Lib.hid hbx
            have HPO := Lib.hid hpo
            obtain ⟨x0, x1⟩ := two_cells hbx
            have hdn : done.length ≤ 10000 := by have := HI.out.1; omega
            clear C1 C2 hn0 htx hkt hks hsp HT hbx hpo e1 e2 hxT hx0
            obtain ⟨q0, hq0⟩ : ∃ q, ((hd rest : Nat) : Int) = q := ⟨_, rfl⟩
            obtain ⟨q1, hq1⟩ : ∃ q, hturn s (hd rest) = q := ⟨_, rfl⟩
            obtain ⟨ok, hok⟩ : ∃ q, decide (rest ≠ []) = q := ⟨_, rfl⟩
            simp only [hq0, hq1, hok] at HC2
            have HQ := Lib.hid (And.intro hq0 (And.intro hq1 hok))
            clear hq0 hq1 hok
            go_wp2_with fail
            refine (HC1.out wr HT2.out.t).mono ?_
            rintro e W3 ⟨rfl, b3⟩
            have H3 := (HT2.out.call b3).alloc (.cells #[.int .i64 kt, .int .i64 ks] 27)
            have h3 := (HBX.out.below b3 HBX.out.lt).alloc (.cells #[.int .i64 kt, .int .i64 ks] 27)
            have k3 := Blk.new W3 27 #[.int .i64 kt, .int .i64 ks]
            clear HT2 HBX b3 x0 x1 HC1
            go_upto_region 21 with fail
            generalize W3.alloc (.cells #[.int .i64 kt, .int .i64 ks] 27) = W4 at H3 h3 k3 ⊢
            generalize W3.heap.size = kb at k3 ⊢
            obtain ⟨y0, y1⟩ := two_cells k3
            have hτ' : decide (kt < τ) = false := decide_eq_false (by omega)
            have hτ2 : ¬ kt < τ := by omega
            obtain ⟨x0, x1⟩ := two_cells h3
            have H4 := Lib.hid H3
            have HBX := Lib.hid h3
            clear H3 h3 k3 hτ
            obtain ⟨n, hnn⟩ : ∃ n, done.length = n := ⟨_, rfl⟩
            have HND := Lib.hid hnn
            rw [hnn] at hdn hlp ⊢
            clear hnn
            go_wp2_with fail
            refine (HC2.out W4 H4.out.t).mono ?_
            rintro e W5 ⟨rfl, b5⟩
            have H5 := H4.out.call b5
            have h5 := HBX.out.below b5 HBX.out.lt
            have H6 := Lib.hid ((H5.far (p := ⟨HB, 0, none⟩) hHB.1 hHB.2.1 hHB.2.2 (.int .i64 q0)).far (p := ⟨HB, 1, none⟩) hHB.1 hHB.2.1 hHB.2.2 (.int .i64 q1))
            have h6 := Lib.hid (two_set h5 q0 q1)
            have f5 := h5.frozen
            clear x0 x1 y0 y1
            obtain ⟨x0, x1⟩ := two_cells h5
            clear H5 h5 H4 HBX b5 HC2
            go_wp2_with fail
            go_roundg rest.length
            case measure => simp
            case rel => exact ⟨done ++ [x], rest, by rw [HPO.out]; simp, rfl, by rw [HQ.out.2.2], by rw [List.length_append, HND.out]; go_num, H6.out, by rw [HQ.out.1, HQ.out.2.1]; exact h6.out⟩
theorem treeAt_walk (A : Option Addr) (N cap : Nat) (w : World) (hr : Leaf.Row w [.int .i64, .int .i64] A N) (τ : Int) (hτ : -9223372036854775808 ≤ τ ∧ τ ≤ 9223372036854775807) : Calls Try.prog 5 #[.slice A N cap, .int .i64 τ] w fun e w' => e = .returned (.bool true) ∧ Below w.heap.size w w' := by
  by_cases h : 200 < N
  · exact treeAt_big A N cap h (len_in hr) τ w
  · exact treeAt_any A N cap (by omega) τ w (keys_of hr)
end Go.Proofs.Ytfoigflgglpobaa.Tr
/- TreePlays' own rows: where a handle is; is a tree what a row tells? No condition but that the row is the tree's. -/
set_option linter.unusedVariables false
set_option linter.unusedSimpArgs false
namespace Go.Proofs.Ytfoigflgglpobaa.Tr
open Go.RowKit Go.Proofs.Ytfoigflgglpobaa.Aid
/-- the row of a tree's items -/
def itOf (s : TS) (x : Nat) : It := ⟨(s.f x).t, (s.f x).s, x, (s.f x).turn⟩
def rowOf (s : TS) (l : List Nat) : List It := l.map (itOf s)
theorem rowOf_len (s : TS) (l : List Nat) : (rowOf s l).length = l.length := by simp [rowOf]
theorem own_parts {w : World} {base : Nat} {e : TypeId} {size : Nat} {v : Value} {n : Nat} {xs : List Value} (h : w.ownsRow base e size v n xs) : ∃ A cap, v = .slice A n cap ∧ ∀ j, j < n → ∃ q, A = some ⟨q, 0, none⟩ := by
  by_cases h0 : 0 < n
  · obtain ⟨q, cap, h1, _⟩ := own_form h h0
    exact ⟨_, _, h1, fun _ _ => ⟨_, rfl⟩⟩
  · have h2 : n = 0 := by omega
    subst h2
    obtain ⟨A, cap, e⟩ := own_none h
    exact ⟨A, cap, e, fun j hj => by omega⟩
/-- an item has a handle -/
def HasH (b : It) (p t : Int) : Prop := (b.x : Int) = p ∧ b.n = t
def FRel (w0 : World) (base : Nat) (v : Value) (l : List It) (X : Nat) (p t : Int) (m : Nat) (s9 : Value) (wr : World) : Prop :=
  ∃ k : Nat, k ≤ l.length ∧ m = l.length - k ∧ s9 = .int .i64 k ∧ Below w0.heap.size w0 wr ∧ wr.ownsRow base 56 4 v l.length (itc l) ∧ Blk wr X 29 (two_ p t) ∧ ∀ j b, j < k → l[j]? = some b → ¬ HasH b p t
set_option maxHeartbeats 400000 in
set_option maxRecDepth 100000 in
theorem find_law (base : Nat) (v : Value) (l : List It) (p t : Int) (w : World) (hl : l.length ≤ 10000) (h : w.ownsRow base 56 4 v l.length (itc l)) :
    Calls Try.prog 23 #[v, .agg #[.int .i64 p, .int .i64 t]] w fun e w' => ∃ r : Int, e = .returned (.int .i64 r) ∧ -1 ≤ r ∧ r ≤ 10000 ∧ (r < 0 ↔ ∀ b, b ∈ l → ¬ HasH b p t) ∧ Below w.heap.size w w' := by
  have hx := Blk.new w 29 #[.int .i64 p, .int .i64 t]
  have hB : Below w.heap.size w (w.alloc (.cells #[.int .i64 p, .int .i64 t] 29)) := (Below.refl w.heap.size w).alloc (Nat.le_refl _) _
  have S := Lib.hid (show FRel w base v l w.heap.size p t l.length (.int .i64 (0 : Nat)) (w.alloc (.cells #[.int .i64 p, .int .i64 t] 29)) from ⟨0, by omega, rfl, rfl, hB, own_alloc h _, hx, fun j b hj => by omega⟩)
  obtain ⟨A, cap, rfl, hA⟩ := own_parts h
  have HA := Lib.hid hA
  clear hx hB h hA
  go_enter Try.func23, Try.ntmps23
  go_upto_region 1 with fail
  generalize w.alloc (.cells #[.int .i64 p, .int .i64 t] 29) = W at S ⊢
  obtain ⟨X, hX⟩ : ∃ X, w.heap.size = X := ⟨_, rfl⟩
  have S2 : Hid (FRel w base (.slice A l.length cap) l X p t l.length (.int .i64 (0 : Nat)) W) := by rw [← hX]; exact S
  rw [hX]
  have HX := Lib.hid hX
  clear S hX
  go_wp2_with fail
  go_loopg [9] l.length (fun m s9 wr => FRel w base (.slice A l.length cap) l X p t m s9 wr)
  case atStart => exact S2.out
  case round =>
    obtain ⟨k, hk, rfl, rfl, hb, ho, hx, hno⟩ := hrel
    clear S2
    by_cases hlt : k < l.length
    · obtain ⟨b, hbk⟩ : ∃ b, l[k]? = some b := ⟨l[k], List.getElem?_eq_getElem hlt⟩
      obtain ⟨q, rfl⟩ := HA.out k hlt
      obtain ⟨f0, f1, f2, f3⟩ := itc_at l k b hbk
      have c0 := own_cell ho f0
      have c1 := own_cell ho f1
      have c2 := own_cell ho f2
      have c3 := own_cell ho f3
      have hbox := Blk.new wr 56 #[.int .i64 b.t, .int .i64 b.s, .int .i64 b.x, .int .i64 b.n]
      have B2 := hb.alloc hb.size (.cells #[.int .i64 b.t, .int .i64 b.s, .int .i64 b.x, .int .i64 b.n] 56)
      have o2 := own_alloc ho (.cells #[.int .i64 b.t, .int .i64 b.s, .int .i64 b.x, .int .i64 b.n] 56)
      have x2 := hx.alloc (.cells #[.int .i64 b.t, .int .i64 b.s, .int .i64 b.x, .int .i64 b.n] 56)
      have HN := Lib.hid hno
      clear hb ho hx hno f0 f1 f2 f3
      go_upto_region 4 with fail
      clear c0 c1 c2 c3
      generalize wr.alloc (.cells #[.int .i64 b.t, .int .i64 b.s, .int .i64 b.x, .int .i64 b.n] 56) = W2 at hbox B2 o2 x2 ⊢
      generalize wr.heap.size = ib at hbox ⊢
      have b2 : W2.cell? ⟨ib, 2, none⟩ = some (.int .i64 b.x) := hbox.cell 2
      have b3 : W2.cell? ⟨ib, 3, none⟩ = some (.int .i64 b.n) := hbox.cell 3
      obtain ⟨y0, y1⟩ := two_cells x2
      have HH := Lib.hid (And.intro B2 (And.intro o2 x2))
      have HB := Lib.hid hbk
      clear hbox B2 o2 x2 hbk
      by_cases e1 : (b.x : Int) = p
      · by_cases e2 : b.n = t
        · have HE := Lib.hid (show HasH b p t from ⟨e1, e2⟩)
          subst e1 e2
          go_wp2_with fail
          go_ret
          refine ⟨k, rfl, by omega, by omega, ?_, HH.out.1⟩
          constructor
          · intro e; omega
          · intro hall
            exact absurd HE.out (hall b (List.mem_of_getElem? HB.out))
        · have e3 := beq_i e2
          have HNE := Lib.hid (show ¬ HasH b p t from fun h => e2 h.2)
          subst e1
          go_wp2_with fail
          go_roundg (l.length - (k + 1))
          case measure => omega
          case rel =>
            refine ⟨k + 1, by omega, rfl, by go_num, HH.out.1, HH.out.2.1, HH.out.2.2, fun j c hj hc => ?_⟩
            by_cases ej : j = k
            · subst ej; rw [HB.out] at hc; injection hc with hc; subst hc; exact HNE.out
            · exact HN.out j c (by omega) hc
      · have e3 := beq_i e1
        have HNE := Lib.hid (show ¬ HasH b p t from fun h => e1 h.1)
        go_wp2_with fail
        go_roundg (l.length - (k + 1))
        case measure => omega
        case rel =>
          refine ⟨k + 1, by omega, rfl, by go_num, HH.out.1, HH.out.2.1, HH.out.2.2, fun j c hj hc => ?_⟩
          by_cases ej : j = k
          · subst ej; rw [HB.out] at hc; injection hc with hc; subst hc; exact HNE.out
          · exact HN.out j c (by omega) hc
    · have hke : k = l.length := by omega
      subst hke
      have HB := Lib.hid hb
      have HN := Lib.hid hno
      clear hb ho hx hno
      go_wp2_with fail
      go_ret
      refine ⟨-1, rfl, by omega, by omega, ?_, HB.out⟩
      constructor
      · intro _ b hb
        obtain ⟨j, hj, he⟩ := List.getElem_of_mem hb
        exact HN.out j b hj (by rw [List.getElem?_eq_getElem hj, he])
      · intro _; omega
theorem set2_far {W : World} {b HB : Nat} {u v : Value} (h : b ≠ HB) : ((W.setCell ⟨HB, 0, none⟩ u).setCell ⟨HB, 1, none⟩ v).heap[b]? = W.heap[b]? := by
  rw [Below.heap_setCell _ ⟨HB, 1, none⟩ _ b h, Below.heap_setCell _ ⟨HB, 0, none⟩ _ b h]
def SaRel (w0 : World) (g gl : Nat) (s : TS) (T : Sh) (fl : List Nat) (base : Nat) (v kv : Value) (HB : Nat) (m : Nat) (s7 s35 : Value) (wr : World) : Prop :=
  ∃ done rest, T.ino = done ++ rest ∧ m = rest.length ∧ s7 = .bool (decide (rest ≠ [])) ∧ s35 = .int .i64 (done.length : Nat) ∧ Full wr g gl s T fl ∧ Below w0.heap.size w0 wr ∧ Blk wr HB 29 (two_ (hd rest : Nat) (hturn s (hd rest))) ∧
    wr.ownsRow base 56 4 v T.ino.length (itc (rowOf s T.ino)) ∧ wr.ownsRow w0.heap.size 27 2 kv T.ino.length (keysOf s.f T.ino)
theorem keysOf_at (f : Nat → Nd) : ∀ (l : List Nat) (j x : Nat), l[j]? = some x → (keysOf f l)[j * 2]? = some (.int .i64 (f x).t) ∧ (keysOf f l)[j * 2 + 1]? = some (.int .i64 (f x).s) := by
  intro l
  induction l with
  | nil => intro j e h; simp at h
  | cons a l ih =>
    intro j e h
    cases j with
    | zero =>
      simp only [List.getElem?_cons_zero, Option.some.injEq] at h
      subst h
      exact ⟨rfl, rfl⟩
    | succ j =>
      simp only [List.getElem?_cons_succ] at h
      have := ih j e h
      have e1 : keysOf f (a :: l) = .int .i64 (f a).t :: .int .i64 (f a).s :: keysOf f l := rfl
      rw [e1, show (j + 1) * 2 = j * 2 + 1 + 1 by omega, show j * 2 + 1 + 1 + 1 = (j * 2 + 1) + 1 + 1 by omega]
      simp only [List.getElem?_cons_succ]
      exact this
set_option maxHeartbeats 1000000 in
set_option maxRecDepth 100000 in
theorem same_law (g gl : Nat) (s : TS) (T : Sh) (fl : List Nat) (base : Nat) (v : Value) (w : World) (hlen : T.ino.length ≤ 10000) (ht : Full w g gl s T fl) (h : w.ownsRow base 56 4 v T.ino.length (itc (rowOf s T.ino))) :
    Calls Try.prog 25 #[.pointer (some ⟨g, 0, none⟩), v] w fun e w' => e = .returned (.bool true) ∧ Below w.heap.size w w' := by
  have HK := Lib.hid (Keys_any g gl s T w ht.rd (by omega))
  obtain ⟨A, cap, rfl, hA⟩ := own_parts h
  have HA := Lib.hid hA
  have HT := Lib.hid ht
  have HO := Lib.hid h
  have hg := ht.m.b.lt
  have hgl := ht.m.n.lt
  have hn : s.n = T.ino.length := ht.n
  clear hA h ht
  go_enter Try.func25, Try.ntmps25
  go_wp2_with fail
  refine HK.out.mono ?_
  rintro e W1 ⟨kv, rfl, ho1, b1⟩
  have T1 := HT.out.below b1
  have o1 := own_below HO.out b1
  have HL := Lib.hid (Len_any g gl s W1 T1.m)
  rw [hn] at HL
  obtain ⟨KA, kc, rfl, hKA⟩ := own_parts ho1
  have HKA := Lib.hid hKA
  have H1 := Lib.hid (And.intro T1 (And.intro o1 (And.intro ho1 b1)))
  clear hKA T1 o1 ho1 b1 HK
  go_wp2_with fail
  refine HL.out.mono ?_
  rintro e W2 ⟨rfl, rfl⟩
  have CF := First_row W1 H1.out.1
  obtain ⟨p0, hp0⟩ : ∃ p, ((hd T.ino : Nat) : Int) = p := ⟨_, rfl⟩
  obtain ⟨p1, hp1⟩ : ∃ p, hturn s (hd T.ino) = p := ⟨_, rfl⟩
  have hnd0 : hnd s (hd T.ino) = .agg #[.int .i64 p0, .int .i64 p1] := by rw [← hp0, ← hp1]; rfl
  obtain ⟨ok, hok⟩ : ∃ q, decide (T.ino ≠ []) = q := ⟨_, rfl⟩
  rw [hnd0, hok] at CF
  have HOK := Lib.hid hok
  clear hok
  have HCF := Lib.hid CF
  clear CF hnd0
  go_wp2_with fail
  refine HCF.out.mono ?_
  rintro e W3 ⟨rfl, b3⟩
  have T3 := (H1.out.1.below b3).below ((Below.refl W3.heap.size W3).alloc (Nat.le_refl _) (.cells #[.int .i64 p0, .int .i64 p1] 29))
  have o3 := own_alloc (own_below H1.out.2.1 b3) (.cells #[.int .i64 p0, .int .i64 p1] 29)
  have k3 := own_alloc (own_below H1.out.2.2.1 b3) (.cells #[.int .i64 p0, .int .i64 p1] 29)
  have B3 := (H1.out.2.2.2.trans (b3.mono H1.out.2.2.2.size)).alloc (Nat.le_trans H1.out.2.2.2.size b3.size) (.cells #[.int .i64 p0, .int .i64 p1] 29)
  have h3 := Blk.new W3 29 (two_ p0 p1)
  have s1 := H1.out.2.2.2.size
  have s3 := b3.size
  unfold two_ at h3
  have hv3 : ∀ b, (Value.slice A T.ino.length cap).ownBlock = some b → b < W3.heap.size := fun b hb => (own_block (own_below H1.out.2.1 b3) hb).2
  have hk3 : ∀ b, (Value.slice KA T.ino.length kc).ownBlock = some b → b < W3.heap.size := fun b hb => (own_block (own_below H1.out.2.2.1 b3) hb).2
  clear H1 HCF b3 HL
  go_upto_region 5 with fail
  generalize W3.alloc (.cells #[.int .i64 p0, .int .i64 p1] 29) = W4 at T3 o3 k3 B3 h3 ⊢
  have hHB : W3.heap.size ≠ g ∧ W3.heap.size ≠ gl ∧ w.heap.size ≤ W3.heap.size := by omega
  have HV := Lib.hid (And.intro hv3 hk3)
  clear hv3 hk3 s1 s3
  generalize W3.heap.size = HB at h3 hHB HV ⊢
  have h3' : Blk W4 HB 29 (two_ (hd T.ino : Nat) (hturn s (hd T.ino))) := by rw [hp0, hp1]; exact h3
  have S := Lib.hid (show SaRel w g gl s T fl base (.slice A T.ino.length cap) (.slice KA T.ino.length kc) HB T.ino.length (.bool ok) (.int .i64 (0 : Nat)) W4 from ⟨[], T.ino, rfl, rfl, by rw [HOK.out], rfl, T3, B3, h3', o3, k3⟩)
  have HSZ := Lib.hid (And.intro T3.rb (And.intro T3.m.sz hlen))
  clear T3 o3 k3 B3 h3 h3' hp0 hp1
  go_wp2_with fail
  go_loopg [7, 35] T.ino.length (fun m s7 s35 wr => SaRel w g gl s T fl base (.slice A T.ino.length cap) (.slice KA T.ino.length kc) HB m s7 s35 wr)
  case atStart => exact S.out
  case round =>
    obtain ⟨done, rest, hpo, rfl, rfl, rfl, HF, HBl, hbx, ho, hk⟩ := hrel
    clear S
    have hlp : done.length + rest.length = T.ino.length := by rw [hpo, List.length_append]
    cases rest with
    | nil =>
      have hdl : done.length = T.ino.length := by simpa using hlp
      rw [show decide (([] : List Nat) ≠ []) = false from rfl, hdl]
      have HH := Lib.hid (Heights_any g gl s T wr HF.rd (by omega))
      have hways : T.most ≤ 2 * T.least + 1 := by obtain ⟨b, hb⟩ := HF.rb.bal; exact ways hb HF.rb.nrr HF.rb.red
      have hml := most_len T
      have hm2 : T.most ≤ 10000 := by omega
      have hl2 : T.least ≤ 10000 := by omega
      have HBH := Lib.hid HBl
      generalize T.most = mo at HH hways hm2
      generalize T.least = le at HH hways hl2
      have hmo : decide (((mo : Nat) : Int) ≤ 2 * ((le : Nat) : Int) + 1) = true := decide_eq_true (by omega)
      have hmo2 : ((mo : Nat) : Int) ≤ 2 * ((le : Nat) : Int) + 1 := by omega
      clear HF HBl hbx ho hk hlp hml hdl hpo hways
      generalize T.ino.length = n at *
      go_wp2_with fail
      refine HH.out.mono ?_
      rintro e W5 ⟨rfl, rfl⟩
      go_wp2_with fail
      go_ret
      exact ⟨rfl, HBH.out⟩
    | cons x rest =>
      have hxT : x ∈ T.ino := by rw [hpo]; simp
      have hat : T.ino[done.length]? = some x := by rw [hpo]; simp
      have hrow : (rowOf s T.ino)[done.length]? = some (itOf s x) := by unfold rowOf; rw [List.getElem?_map, hat]; rfl
      obtain ⟨f0, f1, f2, f3⟩ := itc_at _ _ _ hrow
      obtain ⟨g0, g1⟩ := keysOf_at s.f T.ino _ _ hat
      rw [show decide (x :: rest ≠ []) = true from rfl]
      have hx0 := HF.rd.ne0 hxT
      have e1 : hd (x :: rest) = x := rfl
      have e2 : hturn s x = (s.f x).turn := by unfold hturn; rw [if_neg hx0]
      rw [e1, e2] at hbx
      have C1 := fun W hW => Key_row (w := W) (g := g) (gl := gl) (s := s) (T := T) (fl := fl) hW hxT
      have C2 := fun W hW => Next_row (w := W) (g := g) (gl := gl) (s := s) (T := T) (fl := fl) hW hpo
      have hn0 : hnd s (hd rest) = .agg #[.int .i64 (hd rest : Nat), .int .i64 (hturn s (hd rest))] := rfl
      simp only [hn0] at C2
      have f0' : (itc (rowOf s T.ino))[done.length * 4]? = some (.int .i64 (s.f x).t) := f0
      have f1' : (itc (rowOf s T.ino))[done.length * 4 + 1]? = some (.int .i64 (s.f x).s) := f1
      have f2' : (itc (rowOf s T.ino))[done.length * 4 + 2]? = some (.int .i64 x) := f2
      have f3' : (itc (rowOf s T.ino))[done.length * 4 + 3]? = some (.int .i64 (s.f x).turn) := f3
      obtain ⟨tx, htx⟩ : ∃ t, (s.f x).turn = t := ⟨_, rfl⟩
      obtain ⟨kt, hkt⟩ : ∃ t, (s.f x).t = t := ⟨_, rfl⟩
      obtain ⟨ks, hks⟩ : ∃ t, (s.f x).s = t := ⟨_, rfl⟩
      rw [htx] at hbx f3'
      rw [hkt] at f0' g0
      rw [hks] at f1' g1
      simp only [htx, hkt, hks] at C1 C2
      have hdl : done.length < T.ino.length := by simp only [List.length_cons] at hlp; omega
      obtain ⟨q, rfl⟩ := HA.out done.length hdl
      obtain ⟨kq, rfl⟩ := HKA.out done.length hdl
      have c0 := own_cell ho f0'
      have c1 := own_cell ho f1'
      have c2 := own_cell ho f2'
      have c3 := own_cell ho f3'
      obtain ⟨q0, hq0⟩ : ∃ q, ((hd rest : Nat) : Int) = q := ⟨_, rfl⟩
      obtain ⟨q1, hq1⟩ : ∃ q, hturn s (hd rest) = q := ⟨_, rfl⟩
      obtain ⟨ok2, hok2⟩ : ∃ q, decide (rest ≠ []) = q := ⟨_, rfl⟩
      simp only [hq0, hq1, hok2] at C2
      have HC1 := Lib.hid C1
      have HC2 := Lib.hid C2
      have HQ := Lib.hid (And.intro hq0 (And.intro hq1 (And.intro hok2 hpo)))
      have hbox := Blk.new wr 56 #[.int .i64 kt, .int .i64 ks, .int .i64 x, .int .i64 tx]
      have F2 := HF.below ((Below.refl wr.heap.size wr).alloc (Nat.le_refl _) (.cells #[.int .i64 kt, .int .i64 ks, .int .i64 x, .int .i64 tx] 56))
      have B2 := HBl.alloc HBl.size (.cells #[.int .i64 kt, .int .i64 ks, .int .i64 x, .int .i64 tx] 56)
      have o2 := own_alloc ho (.cells #[.int .i64 kt, .int .i64 ks, .int .i64 x, .int .i64 tx] 56)
      have k2 := own_alloc hk (.cells #[.int .i64 kt, .int .i64 ks, .int .i64 x, .int .i64 tx] 56)
      have h2 := hbx.alloc (.cells #[.int .i64 kt, .int .i64 ks, .int .i64 x, .int .i64 tx] 56)
      have HG := Lib.hid (And.intro g0 g1)
      clear C1 C2 hn0 htx hkt hks HF hbx hpo e1 e2 hxT hx0 hat hrow f0 f1 f2 f3 f0' f1' f2' f3' g0 g1 hq0 hq1 hok2 HBl ho hk
      obtain ⟨n, hnn⟩ : ∃ n, done.length = n := ⟨_, rfl⟩
      have HND := Lib.hid hnn
      rw [hnn] at hdl c0 c1 c2 c3 hlp HG ⊢
      clear hnn
      go_upto_region 8 with fail
      clear c0 c1 c2 c3
      generalize wr.alloc (.cells #[.int .i64 kt, .int .i64 ks, .int .i64 x, .int .i64 tx] 56) = W2 at hbox F2 B2 o2 k2 h2 ⊢
      generalize wr.heap.size = ib at hbox ⊢
      have i2 : W2.cell? ⟨ib, 2, none⟩ = some (.int .i64 x) := hbox.cell 2
      have i3 : W2.cell? ⟨ib, 3, none⟩ = some (.int .i64 tx) := hbox.cell 3
      have H2 := Lib.hid (And.intro F2 (And.intro B2 (And.intro o2 (And.intro k2 (And.intro h2 hbox)))))
      clear F2 B2 o2 k2 h2 hbox
      go_wp2_with fail
      refine (HC1.out W2 H2.out.1).mono ?_
      rintro e W3 ⟨rfl, b3⟩
      have F3 := (H2.out.1.below b3).below ((Below.refl W3.heap.size W3).alloc (Nat.le_refl _) (.cells #[.int .i64 kt, .int .i64 ks] 27))
      have B3 := (H2.out.2.1.trans (b3.mono H2.out.2.1.size)).alloc (Nat.le_trans H2.out.2.1.size b3.size) (.cells #[.int .i64 kt, .int .i64 ks] 27)
      have o3 := own_alloc (own_below H2.out.2.2.1 b3) (.cells #[.int .i64 kt, .int .i64 ks] 27)
      have k3 := own_alloc (own_below H2.out.2.2.2.1 b3) (.cells #[.int .i64 kt, .int .i64 ks] 27)
      have h3 := (H2.out.2.2.2.2.1.below b3 H2.out.2.2.2.2.1.lt).alloc (.cells #[.int .i64 kt, .int .i64 ks] 27)
      have x3 := (H2.out.2.2.2.2.2.below b3 H2.out.2.2.2.2.2.lt).alloc (.cells #[.int .i64 kt, .int .i64 ks] 27)
      have y3 := Blk.new W3 27 #[.int .i64 kt, .int .i64 ks]
      clear H2 HC1 b3 i2 i3
      go_upto_region 9 with fail
      generalize W3.alloc (.cells #[.int .i64 kt, .int .i64 ks] 27) = W4 at F3 B3 o3 k3 h3 x3 y3 ⊢
      generalize W3.heap.size = yb at y3 ⊢
      have k0 := own_cell k3 HG.out.1
      have k1 := own_cell k3 HG.out.2
      obtain ⟨y0, y1⟩ := two_cells y3
      obtain ⟨h0, h1⟩ := two_cells h3
      have i0 : W4.cell? ⟨ib, 0, none⟩ = some (.int .i64 kt) := x3.cell 0
      have i1 : W4.cell? ⟨ib, 1, none⟩ = some (.int .i64 ks) := x3.cell 1
      have i2 : W4.cell? ⟨ib, 2, none⟩ = some (.int .i64 x) := x3.cell 2
      have i3 : W4.cell? ⟨ib, 3, none⟩ = some (.int .i64 tx) := x3.cell 3
      have H4 := Lib.hid (And.intro F3 (And.intro B3 (And.intro o3 (And.intro k3 h3))))
      clear F3 B3 o3 k3 h3 x3 y3
      go_quiet (fail)
      have F5 := H4.out.1.same (w' := W4.drewN nq) fun _ _ => rfl
      have B5 := below_drewN H4.out.2.1 nq
      have o5 := own_drewN H4.out.2.2.1 nq
      have k5 := own_drewN H4.out.2.2.2.1 nq
      have h5 := H4.out.2.2.2.2.drewN nq
      clear H4 k0 k1 y0 y1 h0 h1 i0 i1 i2 i3
      generalize W4.drewN nq = W5 at F5 B5 o5 k5 h5 ⊢
      obtain ⟨h0, h1⟩ := two_cells h5
      have H5 := Lib.hid (And.intro F5 (And.intro B5 (And.intro o5 (And.intro k5 h5))))
      clear F5 B5 o5 k5 h5
      go_wp2_with fail
      refine (HC2.out W5 H5.out.1).mono ?_
      rintro e W6 ⟨rfl, b6⟩
      have F6 := H5.out.1.below b6
      have B6 := H5.out.2.1.trans (b6.mono H5.out.2.1.size)
      have o6 := own_below H5.out.2.2.1 b6
      have k6 := own_below H5.out.2.2.2.1 b6
      have h6 := H5.out.2.2.2.2.below b6 H5.out.2.2.2.2.lt
      have F7 := Lib.hid (F6.same (w' := (W6.setCell ⟨HB, 0, none⟩ (.int .i64 q0)).setCell ⟨HB, 1, none⟩ (.int .i64 q1)) fun i hi => set2_far (by rcases hi with e | e <;> omega))
      have B7 := Lib.hid ((B6.setCell (p := ⟨HB, 0, none⟩) hHB.2.2 (.int .i64 q0)).setCell (p := ⟨HB, 1, none⟩) hHB.2.2 (.int .i64 q1))
      have h7 := Lib.hid (two_set h6 q0 q1)
      have o7 := Lib.hid (own_same o6 (w' := (W6.setCell ⟨HB, 0, none⟩ (.int .i64 q0)).setCell ⟨HB, 1, none⟩ (.int .i64 q1)) fun b hb => set2_far (fun e => Nat.lt_irrefl _ (e ▸ HV.out.1 b hb)))
      have k7 := Lib.hid (own_same k6 (w' := (W6.setCell ⟨HB, 0, none⟩ (.int .i64 q0)).setCell ⟨HB, 1, none⟩ (.int .i64 q1)) fun b hb => set2_far (fun e => Nat.lt_irrefl _ (e ▸ HV.out.2 b hb)))
      have f6 := h6.frozen
      clear h0 h1
      obtain ⟨h0, h1⟩ := two_cells h6
      clear F6 B6 o6 k6 h6 H5 HC2 b6
      go_wp2_with fail
      go_roundg rest.length
      case measure => simp
      case rel => exact ⟨done ++ [x], rest, by rw [HQ.out.2.2.2]; simp, rfl, by rw [HQ.out.2.2.1], by rw [List.length_append, HND.out]; go_num, F7.out, B7.out, by rw [HQ.out.1, HQ.out.2.1]; exact h7.out, o7.out, k7.out⟩
end Go.Proofs.Ytfoigflgglpobaa.Tr
/- The law's place: where a timer is in a row. No condition but that memory holds the row. -/
set_option linter.unusedVariables false
set_option linter.unusedSimpArgs false
namespace Go.Proofs.Ytfoigflgglpobaa.Q
open Go.RowKit Go.Proofs.Ytfoigflgglpobaa.Aid Go.Proofs.Ytfoigflgglpobaa.Tr
def PlcIs (l : List Tm) (id r : Int) : Prop := (r = -1 ∧ ∀ b, b ∈ l → b.id ≠ id) ∨ ∃ (k : Nat) (b : Tm), r = k ∧ k < l.length ∧ l[k]? = some b ∧ b.id = id
def PRel (w0 : World) (base : Nat) (v : Value) (l : List Tm) (id : Int) (m : Nat) (s9 : Value) (wr : World) : Prop :=
  ∃ k : Nat, k ≤ l.length ∧ m = l.length - k ∧ s9 = .int .i64 k ∧ Below w0.heap.size w0 wr ∧ RSl wr base v l ∧ ∀ j b, j < k → l[j]? = some b → b.id ≠ id
set_option maxHeartbeats 400000 in
set_option maxRecDepth 100000 in
theorem place_law (base : Nat) (v : Value) (l : List Tm) (id : Int) (w : World) (hl : l.length ≤ 10000) (h : RSl w base v l) :
    Calls Try.prog 28 #[v, .int .i64 id] w fun e w' => ∃ r : Int, e = .returned (.int .i64 r) ∧ PlcIs l id r ∧ Below w.heap.size w w' := by
  have S2 := Lib.hid (show PRel w base v l id l.length (.int .i64 (0 : Nat)) w from ⟨0, by omega, rfl, rfl, Below.refl _ _, h, fun j b hj => by omega⟩)
  obtain ⟨A, cap, rfl, hA⟩ := rsl_parts h
  have HA := Lib.hid hA
  clear h hA
  go_enter Try.func28, Try.ntmps28
  go_wp2_with fail
  go_loopg [9] l.length (fun m s9 wr => PRel w base (.slice A l.length cap) l id m s9 wr)
  case atStart => exact S2.out
  case round =>
    obtain ⟨k, hk, rfl, rfl, hb, ho, hno⟩ := hrel
    clear S2
    by_cases hlt : k < l.length
    · obtain ⟨b, hbk⟩ : ∃ b, l[k]? = some b := ⟨l[k], List.getElem?_eq_getElem hlt⟩
      obtain ⟨q, o, rfl⟩ := HA.out k hlt
      obtain ⟨c0, c1, c2, c3, c4⟩ := rsl_tm ho hbk
      have hbox := Blk.new wr 65 #[.int .i64 b.id, .int .i64 b.clock, .int .i64 b.soft, .int .i64 b.hard, .bool b.lazy]
      have B2 := hb.alloc hb.size (.cells #[.int .i64 b.id, .int .i64 b.clock, .int .i64 b.soft, .int .i64 b.hard, .bool b.lazy] 65)
      have o2 := rsl_alloc ho (.cells #[.int .i64 b.id, .int .i64 b.clock, .int .i64 b.soft, .int .i64 b.hard, .bool b.lazy] 65)
      have HN := Lib.hid hno
      clear hb ho hno
      go_upto_region 4 with fail
      clear c0 c1 c2 c3 c4
      generalize wr.alloc (.cells #[.int .i64 b.id, .int .i64 b.clock, .int .i64 b.soft, .int .i64 b.hard, .bool b.lazy] 65) = W2 at hbox B2 o2 ⊢
      generalize wr.heap.size = ib at hbox ⊢
      have b2 : W2.cell? ⟨ib, 0, none⟩ = some (.int .i64 b.id) := hbox.cell 0
      have HH := Lib.hid (And.intro B2 o2)
      have HB := Lib.hid hbk
      clear hbox B2 o2 hbk
      by_cases e1 : b.id = id
      · subst e1
        have HL := Lib.hid hlt
        go_wp2_with fail
        go_ret
        exact ⟨k, rfl, .inr ⟨k, b, rfl, HL.out, HB.out, rfl⟩, HH.out.1⟩
      · have e3 := beq_i e1
        have HNE := Lib.hid e1
        go_wp2_with fail
        go_roundg (l.length - (k + 1))
        case measure => omega
        case rel =>
          refine ⟨k + 1, by omega, rfl, by go_num, HH.out.1, HH.out.2, fun j c hj hc => ?_⟩
          by_cases ej : j = k
          · subst ej; rw [HB.out] at hc; injection hc with hc; subst hc; exact HNE.out
          · exact HN.out j c (by omega) hc
    · have hke : k = l.length := by omega
      subst hke
      have HB := Lib.hid hb
      have HN := Lib.hid hno
      clear hb ho hno
      go_wp2_with fail
      go_ret
      refine ⟨-1, rfl, .inl ⟨rfl, fun b hb => ?_⟩, HB.out⟩
      obtain ⟨j, hj, e⟩ := List.getElem_of_mem hb
      exact HN.out j b hj (by rw [List.getElem?_eq_getElem hj, e])
end Go.Proofs.Ytfoigflgglpobaa.Q
/- The law's put: a timer behind all whose time isn't later; what stands in its walk. -/
set_option linter.unusedVariables false
set_option linter.unusedSimpArgs false
namespace Go.Proofs.Ytfoigflgglpobaa.Q
open Go.RowKit Go.Proofs.Ytfoigflgglpobaa.Aid Go.Proofs.Ytfoigflgglpobaa.Tr Go.Proofs.Ytfoigflgglpobaa.Kt
/-- how many items come ahead of a key, or with it -/
def atT (a : Tm) : List Tm → Nat
  | [] => 0
  | b :: l => if cl a.soft < cl b.soft then 0 else atT a l + 1
theorem atT_le (a : Tm) (l : List Tm) : atT a l ≤ l.length := by
  induction l with
  | nil => exact Nat.le_refl _
  | cons b l ih => unfold atT; split; exact Nat.zero_le _; simp only [List.length_cons]; omega
def insT (a : Tm) (l : List Tm) : List Tm := l.take (atT a l) ++ a :: l.drop (atT a l)
/-- what stands in the law's put -/
structure TMid (w0 W : World) (base : Nat) (v : Value) (l : List Tm) (X : Nat) (a : Tm) : Prop where
  b : Below w0.heap.size w0 W
  r : RSl W base v l
  x : Blk W X 65 #[.int .i64 a.id, .int .i64 a.clock, .int .i64 a.soft, .int .i64 a.hard, .bool a.lazy]
  k : ∀ q, v.ownBlock = some q → q < w0.heap.size
  hx : w0.heap.size ≤ X
theorem TMid.call {w0 W W' : World} {base X : Nat} {v : Value} {l : List Tm} {a : Tm} (h : TMid w0 W base v l X a) (b : Below W.heap.size W W') : TMid w0 W' base v l X a := ⟨h.b.trans (b.mono h.b.size), rsl_below h.r b, h.x.below b h.x.lt, h.k, h.hx⟩
theorem TMid.drew {w0 W : World} {base X : Nat} {v : Value} {l : List Tm} {a : Tm} (h : TMid w0 W base v l X a) : TMid w0 W.drew base v l X a := ⟨below_drewN h.b 1, rsl_drewN h.r 1, h.x, h.k, h.hx⟩
theorem TMid.stands (w0 : World) (base : Nat) (v : Value) (l : List Tm) (a : Tm) : Stands (fun W => TMid w0 W base v l w0.heap.size a) (w0.heap.size + 1) := by
  refine ⟨fun W h => h.x.lt, fun W o h => h.call ((Below.refl _ _).alloc (Nat.le_refl _) o), fun W h => h.drew, fun W W' row h g hr => ?_⟩
  refine ⟨h.b.grown g h.b.size (fun k hk => by have := hr k hk; omega), rsl_same h.r fun b hb => g.block b (rsl_block h.r hb).2 (fun e => ?_), h.x.grown g (fun e => ?_), h.k, h.hx⟩
  · have h1 := hr b e.symm
    have h2 := h.k b hb
    omega
  · have h1 := hr _ e.symm
    omega
def TRel (w0 : World) (base : Nat) (v : Value) (l : List Tm) (X : Nat) (a : Tm) (m : Nat) (s5 : Value) (wr : World) : Prop :=
  ∃ k : Nat, k ≤ atT a l ∧ m = l.length - k ∧ s5 = .int .i64 k ∧ TMid w0 wr base v l X a
theorem atT_lt {a : Tm} : ∀ {l : List Tm} {k : Nat} {b : Tm}, k ≤ atT a l → l[k]? = some b → (cl a.soft < cl b.soft ↔ k = atT a l) := by
  intro l
  induction l with
  | nil => intro k b _ h; simp at h
  | cons c l ih =>
    intro k b hk h
    unfold atT at hk ⊢
    by_cases e : cl a.soft < cl c.soft
    · rw [if_pos e] at hk ⊢
      have : k = 0 := by omega
      subst this
      simp only [List.getElem?_cons_zero, Option.some.injEq] at h
      subst h
      simp [e]
    · rw [if_neg e] at hk ⊢
      cases k with
      | zero =>
        simp only [List.getElem?_cons_zero, Option.some.injEq] at h
        subst h
        simp [e]
      | succ k =>
        simp only [List.getElem?_cons_succ] at h
        rw [ih (by omega) h]
        omega
end Go.Proofs.Ytfoigflgglpobaa.Q
/- A queue as its callers see it: a row of timers, and what each of its functions answers and leaves. No condition but that memory holds a queue. -/
set_option linter.unusedVariables false
set_option linter.unusedSimpArgs false
namespace Go.Proofs.Ytfoigflgglpobaa.Q
open Go.RowKit Go.Proofs.Ytfoigflgglpobaa.Aid Go.Proofs.Ytfoigflgglpobaa.Tr Go.Proofs.Ytfoigflgglpobaa.Kt
/-- a queue's blocks -/
structure QP where
  q : Nat
  g : Nat
  gl : Nat
  m1 : Nat
  m2 : Nat
def QP.F (P : QP) : Nat → Prop := QF P.q P.g P.gl P.m1 P.m2
def QP.v (P : QP) : Value := .pointer (some ⟨P.q, 0, none⟩)
/-- memory holds a queue of these timers, in order; at most M came so far -/
def QHas (w : World) (P : QP) (row : List Tm) (M : Int) : Prop := ∃ s T fl tm A B, QIs w P.q P.g P.gl P.m1 P.m2 s T fl tm A B ∧ row = T.ino.map tm ∧ TnB s M ∧ 0 ≤ M
section
variable {w w' : World} {P : QP} {row : List Tm} {M : Int}
theorem QHas.foot_lt (h : QHas w P row M) {b : Nat} (hb : P.F b) : b < w.heap.size := by
  obtain ⟨s, T, fl, tm, A, B, h, _⟩ := h; exact h.foot_lt hb
theorem QHas.same (h : QHas w P row M) (e : ∀ b, P.F b → w'.heap[b]? = w.heap[b]?) : QHas w' P row M := by
  obtain ⟨s, T, fl, tm, A, B, h, k⟩ := h; exact ⟨s, T, fl, tm, A, B, h.same e, k⟩
theorem QHas.below (h : QHas w P row M) (b : Below w.heap.size w w') : QHas w' P row M := h.same fun i hi => b.block i (h.foot_lt hi)
theorem QHas.alloc (h : QHas w P row M) (o : Obj) : QHas (w.alloc o) P row M := h.below ((Below.refl _ _).alloc (Nat.le_refl _) o)
theorem QHas.drewN (h : QHas w P row M) (n : Nat) : QHas (w.drewN n) P row M := h.same fun _ _ => rfl
theorem QHas.drew (h : QHas w P row M) : QHas w.drew P row M := h.same fun _ _ => rfl
theorem QHas.far (h : QHas w P row M) {p : Addr} (hp : ¬ P.F p.block) (u : Value) : QHas (w.setCell p u) P row M := h.same fun b hb => Below.heap_setCell w p u b (by rintro rfl; exact hp hb)
theorem QHas.only {S : Nat → Prop} (h : QHas w P row M) (o : Only S w w') (hs : ∀ b, P.F b → ¬ S b) : QHas w' P row M := h.same fun b hb => o.block b (h.foot_lt hb) (hs b hb)
theorem QHas.len (h : QHas w P row M) : row.length ≤ 64 := by
  obtain ⟨s, T, fl, tm, A, B, h, rfl, _⟩ := h
  have h1 := h.t.cnt
  have h2 := h.t.m.sz
  have h3 := h.t.cap
  have h4 := h.most
  rw [List.length_map]
  omega
theorem QHas.wf (h : QHas w P row M) {a : Tm} (ha : a ∈ row) : I64 a.id := by
  obtain ⟨s, T, fl, tm, A, B, h, rfl, _⟩ := h
  obtain ⟨x, hx, rfl⟩ := List.mem_map.1 ha
  exact h.wf x hx
theorem QHas.ids (h : QHas w P row M) : (row.map Tm.id).Nodup := by
  obtain ⟨s, T, fl, tm, A, B, h, rfl, _⟩ := h
  have hn := h.t.rb.nd
  rw [List.map_map]
  refine List.pairwise_map.2 (List.Pairwise.imp_of_mem ?_ hn)
  intro x y hx hy hxy e
  exact hxy (h.inj hx hy e)
theorem QHas.mono (h : QHas w P row M) {M' : Int} (hM : M ≤ M') : QHas w P row M' := by
  obtain ⟨s, T, fl, tm, A, B, h, k, t, h0⟩ := h
  exact ⟨s, T, fl, tm, A, B, h, k, fun z hz => ⟨(t z hz).1, by have := (t z hz).2; omega⟩, by omega⟩
theorem QHas.sorted (h : QHas w P row M) : row.Pairwise (fun a b => cl a.soft ≤ cl b.soft) := by
  obtain ⟨s, T, fl, tm, A, B, h, rfl, _⟩ := h
  have hs := h.t.srt
  rw [List.pairwise_map]
  refine hs.imp_of_mem ?_
  intro x y hx hy e
  have h1 := h.key x hx
  have h2 := h.key y hy
  unfold kle at e
  omega
end
def hasT (row : List Tm) (id : Int) : Bool := row.any (fun b => decide (b.id = id))
def getT (row : List Tm) (id : Int) : Tm := (row.find? (fun b => decide (b.id = id))).getD zeroT
def delT (row : List Tm) (id : Int) : List Tm := row.eraseP (fun b => decide (b.id = id))
def addE (row : List Tm) (a : Tm) : Int := if a.hard < a.soft then 2 else if hasT row a.id then 9 else if row.length = 64 then 3 else 0
def addR (row : List Tm) (a : Tm) : List Tm := if addE row a = 0 then insT a row else row
def dueB (row : List Tm) (now : Int) : Bool := match row with
  | [] => false
  | a :: _ => !nev a.soft && decide (cl a.soft ≤ cl now)
theorem agg_agg' (a : Tm) : a.agg = a.agg' := rfl
section
variable {w w' : World} {P : QP} {row : List Tm} {M : Int}
theorem hasT_iff {l : List Nat} {tm : Nat → Tm} {id : Int} : hasT (l.map tm) id = true ↔ ∃ x, x ∈ l ∧ (tm x).id = id := by
  unfold hasT
  rw [List.any_eq_true]
  constructor
  · rintro ⟨b, hb, e⟩
    obtain ⟨x, hx, rfl⟩ := List.mem_map.1 hb
    exact ⟨x, hx, of_decide_eq_true e⟩
  · rintro ⟨x, hx, e⟩
    exact ⟨_, List.mem_map.2 ⟨x, hx, rfl⟩, decide_eq_true e⟩
theorem QIs.has' {q g gl m1 m2 : Nat} {s : TS} {T : Sh} {fl : List Nat} {tm : Nat → Tm} {A B : Value → Option Value} (h : QIs w q g gl m1 m2 s T fl tm A B) (id : Int) :
    (∃ x, x ∈ T.ino ∧ (tm x).id = id ∧ hasT (T.ino.map tm) id = true ∧ (A (.int .i64 id)).isSome = true) ∨ (hasT (T.ino.map tm) id = false ∧ A (.int .i64 id) = none) := by
  rcases h.has id with ⟨x, hx, e, eA⟩ | ⟨hn, eA⟩
  · exact .inl ⟨x, hx, e, hasT_iff.2 ⟨x, hx, e⟩, by rw [eA]; rfl⟩
  · refine .inr ⟨?_, eA⟩
    cases e : hasT (T.ino.map tm) id with
    | false => rfl
    | true =>
      obtain ⟨x, hx, e⟩ := hasT_iff.1 e
      exact absurd e (hn x hx)
theorem QHas_new (w : World) : Calls Try.prog 27 #[] w fun e w' => ∃ P : QP, e = .returned P.v ∧ QHas w' P [] 0 ∧ (∀ b, P.F b → w.heap.size ≤ b) ∧ Below w.heap.size w w' :=
  (QNew_any w (fun _ => zeroT)).mono fun e w' ⟨q, g, gl, m1, m2, h1, h2, h3, h4⟩ => ⟨⟨q, g, gl, m1, m2⟩, h1, ⟨_, _, _, _, _, _, h2, rfl, TnB.new 64, Int.le_refl _⟩, h3, h4⟩
theorem QHas_has (h : QHas w P row M) (id : Int) (hid : I64 id) : Calls Try.prog 37 #[P.v, .int .i64 id] w fun e w' => e = .returned (.bool (hasT row id)) ∧ Below w.heap.size w w' := by
  obtain ⟨s, T, fl, tm, A, B, h, rfl, _⟩ := h
  refine (Has_any _ _ _ _ _ s T fl tm A B id hid w h).mono ?_
  rintro e w' ⟨rfl, b⟩
  refine ⟨?_, b⟩
  rcases h.has' id with ⟨_, _, _, e1, e2⟩ | ⟨e1, e2⟩
  · rw [e1, e2]
  · rw [e1, e2]; rfl
theorem QHas_len (h : QHas w P row M) : Calls Try.prog 36 #[P.v] w fun e w' => e = .returned (.int .i64 (row.length : Nat)) ∧ w = w' := by
  obtain ⟨s, T, fl, tm, A, B, h, rfl, _⟩ := h
  rw [List.length_map]
  exact QLen_any _ _ _ _ _ s T fl tm A B w h
theorem QHas_first (h : QHas w P row M) : Calls Try.prog 35 #[P.v] w fun e w' => e = .returned (.tuple #[(row.head?.getD zeroT).agg, .bool (decide (row ≠ []))]) ∧ Below w.heap.size w w' := by
  obtain ⟨s, T, fl, tm, A, B, h, rfl, _⟩ := h
  cases e : T.ino with
  | nil => exact QFirst_none _ _ _ _ _ s T fl tm A B w h e
  | cons x l =>
    refine (QFirst_some _ _ _ _ _ s T fl tm A B w h x l e).mono ?_
    rintro e' w' ⟨rfl, b⟩
    exact ⟨by simp [agg_agg'], b⟩
theorem atT_pre {a : Tm} : ∀ {l k : List Tm}, (∀ b, b ∈ l → ¬ cl a.soft < cl b.soft) → (∀ b, b ∈ k → cl a.soft < cl b.soft) → atT a (l ++ k) = l.length := by
  intro l
  induction l with
  | nil =>
    intro k _ hk
    cases k with
    | nil => rfl
    | cons b k => show (if cl a.soft < cl b.soft then 0 else _) = 0; rw [if_pos (hk b (by simp))]
  | cons c l ih =>
    intro k hl hk
    show (if cl a.soft < cl c.soft then 0 else atT a (l ++ k) + 1) = _
    rw [if_neg (hl c (by simp)), ih (fun b hb => hl b (by simp [hb])) hk]
    rfl
theorem map_other {tm tm' : Nat → Tm} {x : Nat} (h : ∀ y, y ≠ x → tm' y = tm y) {l : List Nat} (hl : x ∉ l) : l.map tm' = l.map tm :=
  List.map_congr_left fun y hy => h y (fun e => hl (e ▸ hy))
theorem QHas_add (h : QHas w P row M) (a : Tm) (hid : I64 a.id) (hM : M ≤ 4611686018427387904) :
    Calls Try.prog 30 #[P.v, a.agg] w fun e w' => e = .returned (.int .i64 (addE row a)) ∧ QHas w' P (addR row a) (M + 1) ∧ Only P.F w w' := by
  have h0 := h
  have hlen := h.len
  obtain ⟨s, T, fl, tm, A, B, h, rfl, ht, hM0⟩ := h
  by_cases c1 : a.hard < a.soft
  · refine (Add_inval P.q a c1 w).mono ?_
    rintro e w' ⟨rfl, b⟩
    have e1 : addE (T.ino.map tm) a = 2 := by unfold addE; rw [if_pos c1]
    exact ⟨by rw [e1], by unfold addR; rw [e1]; exact (h0.below b).mono (by omega), Only.of_below b _⟩
  rcases h.has' a.id with ⟨x, hx, ex, e2, e3⟩ | ⟨e2, e3⟩
  · refine (Add_busy _ _ _ _ _ s T fl tm A B a hid c1 w h x hx ex).mono ?_
    rintro e w' ⟨rfl, b⟩
    have e1 : addE (T.ino.map tm) a = 9 := by unfold addE; rw [if_neg c1, if_pos e2]
    exact ⟨by rw [e1], by unfold addR; rw [e1]; exact (h0.below b).mono (by omega), Only.of_below b _⟩
  by_cases c3 : T.ino.length = 64
  · refine (Add_full _ _ _ _ _ s T fl tm A B a hid c1 w h e3 c3).mono ?_
    rintro e w' ⟨rfl, h', o⟩
    have e1 : addE (T.ino.map tm) a = 3 := by unfold addE; rw [if_neg c1, e2, if_neg (by simp), if_pos (by rw [List.length_map]; exact c3)]
    exact ⟨by rw [e1], by unfold addR; rw [e1]; exact QHas.mono (M := M) ⟨s, T, fl, tm, A, B, h', rfl, ht, hM0⟩ (by omega), o⟩
  · have hl : T.ino.length < 64 := by rw [List.length_map] at hlen; omega
    refine (Add_room _ _ _ _ _ s T fl tm A B a hid c1 w h e3 hl (ht.bnd hM)).mono ?_
    rintro e w' ⟨rfl, s', T', fl', x, pre, post, tm', A', B', h', R, hx, ho, o⟩
    have e1 : addE (T.ino.map tm) a = 0 := by unfold addE; rw [if_neg c1, e2, if_neg (by simp), if_neg (by rw [List.length_map]; exact c3)]
    refine ⟨by rw [e1], ⟨s', T', fl', tm', A', B', h', ?_, ht.put R hM0, by omega⟩, o⟩
    have hnd := h'.t.rb.nd
    rw [R.ino'] at hnd
    have hxn := (sub_nodup hnd).2
    have n1 : x ∉ pre := fun e => hxn (by simp [e])
    have n2 : x ∉ post := fun e => hxn (by simp [e])
    unfold addR
    rw [e1, if_pos rfl, R.ino', R.ino]
    simp only [List.map_append, List.map_cons, hx, map_other ho n1, map_other ho n2]
    unfold insT
    rw [atT_pre, List.take_left, List.drop_left]
    · intro b hb
      obtain ⟨z, hz, rfl⟩ := List.mem_map.1 hb
      have h1 := R.pre z hz
      have h2 := h.key z (by rw [R.ino]; simp [hz])
      unfold kle at h1
      omega
    · intro b hb
      obtain ⟨z, hz, rfl⟩ := List.mem_map.1 hb
      have h1 := R.post z hz
      have h2 := h.key z (by rw [R.ino]; simp [hz])
      unfold kle at h1
      omega
theorem drop_row {s s' : TS} {T T' : Sh} {x : Nat} {pre post : List Nat} (R : DropRes s T x s' T' pre post) {tm : Nat → Tm} (inj : ∀ y, y ∈ T.ino → (tm y).id = (tm x).id → y = x) (nd : T.ino.Nodup) : T'.ino.map tm = delT (T.ino.map tm) (tm x).id ∧ getT (T.ino.map tm) (tm x).id = tm x := by
  rw [R.ino] at nd inj
  have hx := (sub_nodup nd).2
  have h1 : ∀ b, b ∈ pre.map tm → ¬ (decide (b.id = (tm x).id)) = true := fun b hb e => by
    obtain ⟨z, hz, rfl⟩ := List.mem_map.1 hb
    have := inj z (by simp [hz]) (of_decide_eq_true e)
    exact hx (by rw [← this]; simp [hz])
  constructor
  · rw [R.ino, R.ino']
    unfold delT
    simp only [List.map_append, List.map_cons]
    rw [List.eraseP_append_right _ h1, List.eraseP_cons_of_pos (by simp)]
  · rw [R.ino]
    unfold getT
    simp only [List.map_append, List.map_cons, List.find?_append]
    rw [List.find?_eq_none.2 h1, Option.none_or, List.find?_cons_of_pos (by simp)]
    rfl
theorem QHas_drop (h : QHas w P row M) (id : Int) (hid : I64 id) :
    Calls Try.prog 31 #[P.v, .int .i64 id] w fun e w' => e = .returned (.tuple #[(getT row id).agg, .bool (hasT row id)]) ∧ QHas w' P (delT row id) M ∧ Only P.F w w' := by
  have h0 := h
  obtain ⟨s, T, fl, tm, A, B, h, rfl, ht, hM0⟩ := h
  rcases h.has' id with ⟨x, hx, rfl, e2, e3⟩ | ⟨e2, e3⟩
  · refine (QDrop_yes _ _ _ _ _ s T fl tm A B w h x hx).mono ?_
    rintro e w' ⟨rfl, s', T', fl', pre, post, A', B', h', R, o⟩
    obtain ⟨r1, r2⟩ := drop_row R (tm := tm) (fun y hy e => h.inj hy hx e) h.t.rb.nd
    exact ⟨by rw [r2, e2], ⟨s', T', fl', tm, A', B', h', r1.symm, ht.drop R, hM0⟩, o⟩
  · refine (QDrop_no _ _ _ _ _ s T fl tm A B id hid w h e3).mono ?_
    rintro e w' ⟨rfl, b⟩
    have hn : ∀ b, b ∈ T.ino.map tm → ¬ (decide (b.id = id)) = true := fun b hb e => by
      have : hasT (T.ino.map tm) id = true := List.any_eq_true.2 ⟨b, hb, e⟩
      rw [e2] at this; cases this
    have r1 : delT (T.ino.map tm) id = T.ino.map tm := List.eraseP_of_forall_not hn
    have r2 : getT (T.ino.map tm) id = zeroT := by unfold getT; rw [List.find?_eq_none.2 hn]; rfl
    exact ⟨by rw [r2, e2, agg_agg'], by rw [r1]; exact h0.below b, Only.of_below b _⟩
theorem QHas_due (h : QHas w P row M) (now : Int) :
    Calls Try.prog 32 #[P.v, .int .i64 now] w fun e w' => e = .returned (.tuple #[(if dueB row now then row.head?.getD zeroT else zeroT).agg, .bool (dueB row now)]) ∧ QHas w' P (if dueB row now then row.tail else row) M ∧ Only P.F w w' := by
  have h0 := h
  obtain ⟨s, T, fl, tm, A, B, h, rfl, ht, hM0⟩ := h
  cases eT : T.ino with
  | nil =>
    rw [eT] at h0
    refine (Due_none _ _ _ _ _ s T fl tm A B w h eT now).mono ?_
    rintro e w' ⟨rfl, b⟩
    exact ⟨rfl, h0.below b, Only.of_below b _⟩
  | cons x l =>
    rw [eT] at h0
    cases en : nev (tm x).soft with
    | true =>
      refine (Due_never _ _ _ _ _ s T fl tm A B w h x l eT now en).mono ?_
      rintro e w' ⟨rfl, b⟩
      have e1 : dueB ((x :: l).map tm) now = false := by show (!nev (tm x).soft && _) = false; rw [en]; rfl
      rw [e1]
      exact ⟨rfl, h0.below b, Only.of_below b _⟩
    | false =>
      by_cases hc : cl (tm x).soft > cl now
      · refine (Due_later _ _ _ _ _ s T fl tm A B w h x l eT now en hc).mono ?_
        rintro e w' ⟨rfl, b⟩
        have e1 : dueB ((x :: l).map tm) now = false := by show (!nev (tm x).soft && _) = false; rw [en, decide_eq_false (by omega)]; rfl
        rw [e1]
        exact ⟨rfl, h0.below b, Only.of_below b _⟩
      · refine (Due_fire _ _ _ _ _ s T fl tm A B w h x l eT now en hc).mono ?_
        rintro e w' ⟨rfl, s', T', fl', pre, post, A', B', h', R, o⟩
        have e1 : dueB ((x :: l).map tm) now = true := by show (!nev (tm x).soft && _) = true; rw [en, decide_eq_true (by omega)]; rfl
        rw [e1]
        obtain ⟨r1, r2⟩ := drop_row R (tm := tm) (fun y hy e => h.inj hy (by rw [eT]; simp) e) h.t.rb.nd
        refine ⟨rfl, ⟨s', T', fl', tm, A', B', h', ?_, ht.drop R, hM0⟩, o⟩
        rw [r1, eT]
        unfold delT
        rw [List.map_cons, List.eraseP_cons_of_pos (by simp)]
        rfl
end
end Go.Proofs.Ytfoigflgglpobaa.Q
