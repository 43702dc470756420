/- Lemmas and contracts for RowTtlPlays, merged by program out of Vs, Vt, Leaf, Lfa, Vx, Stq. No condition. -/
import Derived.Test.YtfoigflgglpobaaBW8
import Derived.Test.YtfoigflgglpobaaBW7
import Derived.Deep.RegionLaw
import Derived.BigQuiet
import Derived.Deep.Slices
import Derived.ChangeSame
import Derived.ChangeArms
import Derived.OpenShut
import Derived.WideShapes
import Derived.Laws.Rows
import Derived.RowKit
import Derived.StillTailTactics
set_option linter.unusedVariables false
set_option linter.unusedSimpArgs false
/- The law's place, and without: where an item is in a row. No condition but that memory holds the row. -/
set_option linter.unusedVariables false
set_option linter.unusedSimpArgs false
namespace Go.Proofs.Ytfoigflgglpobaa.V
open Go.RowKit Go.Proofs.Ytfoigflgglpobaa.Aid Go.Proofs.Ytfoigflgglpobaa.Tr
def PlcIs (l : List It) (id r : Int) : Prop := (r = -1 ∧ ∀ b, b ∈ l → b.k ≠ id) ∨ ∃ (k : Nat) (b : It), r = k ∧ k < l.length ∧ l[k]? = some b ∧ b.k = id
def PRel (w0 : World) (base : Nat) (v : Value) (l : List It) (id : Int) (m : Nat) (s9 : Value) (wr : World) : Prop :=
  ∃ k : Nat, k ≤ l.length ∧ m = l.length - k ∧ s9 = .int .i64 k ∧ Below w0.heap.size w0 wr ∧ IRow wr base v l ∧ ∀ j b, j < k → l[j]? = some b → b.k ≠ id
set_option maxHeartbeats 400000 in
set_option maxRecDepth 100000 in
theorem place_law (base : Nat) (v : Value) (l : List It) (id : Int) (w : World) (hl : l.length ≤ 10000) (h : IRow w base v l) :
    Calls Try.prog 47 #[v, .int .i64 id] w fun e w' => ∃ r : Int, e = .returned (.int .i64 r) ∧ PlcIs l id r ∧ Below w.heap.size w w' := by
  have S2 := Lib.hid (show PRel w base v l id l.length (.int .i64 (0 : Nat)) w from ⟨0, by omega, rfl, rfl, Below.refl _ _, h, fun j b hj => by omega⟩)
  obtain ⟨A, cap, rfl, hA⟩ := irl_parts h
  have HA := Lib.hid hA
  clear h hA
  go_enter Try.func47, Try.ntmps47
  go_wp2_with fail
  go_loopg [9] l.length (fun m s9 wr => PRel w base (.slice A l.length cap) l id m s9 wr)
  case atStart => exact S2.out
  case round =>
    obtain ⟨k, hk, rfl, rfl, hb, ho, hno⟩ := hrel
    clear S2
    by_cases hlt : k < l.length
    · obtain ⟨b, hbk⟩ : ∃ b, l[k]? = some b := ⟨l[k], List.getElem?_eq_getElem hlt⟩
      obtain ⟨q, o, rfl⟩ := HA.out k hlt
      obtain ⟨c0, c1, c2⟩ := irl_it ho hbk
      have hbox := Blk.new wr 95 #[.int .i64 b.k, .int .i64 b.v, .int .i64 b.e]
      have B2 := hb.alloc hb.size (.cells #[.int .i64 b.k, .int .i64 b.v, .int .i64 b.e] 95)
      have o2 := irl_alloc ho (.cells #[.int .i64 b.k, .int .i64 b.v, .int .i64 b.e] 95)
      have HN := Lib.hid hno
      clear hb ho hno
      go_upto_region 4 with fail
      clear c0 c1 c2
      generalize wr.alloc (.cells #[.int .i64 b.k, .int .i64 b.v, .int .i64 b.e] 95) = W2 at hbox B2 o2 ⊢
      generalize wr.heap.size = ib at hbox ⊢
      have b2 : W2.cell? ⟨ib, 0, none⟩ = some (.int .i64 b.k) := hbox.cell 0
      have HH := Lib.hid (And.intro B2 o2)
      have HB := Lib.hid hbk
      clear hbox B2 o2 hbk
      by_cases e1 : b.k = id
      · subst e1
        have HL := Lib.hid hlt
        go_wp2_with fail
        go_ret
        exact ⟨k, rfl, .inr ⟨k, b, rfl, HL.out, HB.out, rfl⟩, HH.out.1⟩
      · have e3 := beq_i e1
        have HNE := Lib.hid e1
        go_wp2_with fail
        go_roundg (l.length - (k + 1))
        case measure => omega
        case rel =>
          refine ⟨k + 1, by omega, rfl, by go_num, HH.out.1, HH.out.2, fun j c hj hc => ?_⟩
          by_cases ej : j = k
          · subst ej; rw [HB.out] at hc; injection hc with hc; subst hc; exact HNE.out
          · exact HN.out j c (by omega) hc
    · have hke : k = l.length := by omega
      subst hke
      have HB := Lib.hid hb
      have HN := Lib.hid hno
      clear hb ho hno
      go_wp2_with fail
      go_ret
      refine ⟨-1, rfl, .inl ⟨rfl, fun b hb => ?_⟩, HB.out⟩
      obtain ⟨j, hj, e⟩ := List.getElem_of_mem hb
      exact HN.out j b hj (by rw [List.getElem?_eq_getElem hj, e])
/-- what stands in the law's without -/
structure WMid (w0 W : World) (base : Nat) (v : Value) (l : List It) : Prop where
  b : Below w0.heap.size w0 W
  r : IRow W base v l
  k : ∀ q, v.ownBlock = some q → q < w0.heap.size
theorem WMid.stands (w0 : World) (base : Nat) (v : Value) (l : List It) : Stands (fun W => WMid w0 W base v l) w0.heap.size := by
  refine ⟨fun W h => h.b.size, fun W o h => ⟨h.b.alloc h.b.size _, irl_alloc h.r o, h.k⟩, fun W h => ⟨below_drewN h.b 1, irl_drewN h.r 1, h.k⟩, fun W W' row h g hr => ?_⟩
  refine ⟨h.b.grown g h.b.size (fun k hk => by have := hr k hk; omega), irl_same h.r fun b hb => g.block b (irl_block h.r hb).2 (fun e => ?_), h.k⟩
  have h1 := hr b e.symm
  have h2 := h.k b hb
  omega
set_option maxHeartbeats 400000 in
set_option maxRecDepth 100000 in
theorem without_law (base : Nat) (v : Value) (l : List It) (K : Nat) (hK : K < l.length) (w : World) (hl : l.length ≤ 10000) (h : IRow w base v l) :
    Calls Try.prog 49 #[v, .int .i64 K] w fun e w' => ∃ v', e = .returned v' ∧ w'.ownsRow w.heap.size 95 3 v' (l.take K ++ l.drop (K + 1)).length (ivc (l.take K ++ l.drop (K + 1))) ∧ Below w.heap.size w w' := by
  obtain ⟨r, hr⟩ : ∃ r, l.take K ++ l.drop (K + 1) = r := ⟨_, rfl⟩
  rw [hr]
  have HR := Lib.hid hr
  clear hr
  have M : WMid w w base v l := ⟨Below.refl _ _, h, fun q hq => (irl_block h hq).2⟩
  obtain ⟨A, cap, rfl, hA⟩ := irl_parts h
  have hcp := (irl_cap h).2
  have hKc : K ≤ cap := by omega
  have hKl : K ≤ l.length := by omega
  have hK1 : K + 1 ≤ l.length := hK
  have hw : IntKind.i64.wrap ((K : Int) + 1) = ((K + 1 : Nat) : Int) := by rw [IntKind.wrap_i64]; omega
  have c1 : (0 : Int) ≤ (K : Int) + 1 := by omega
  have c2 : (K : Int) + 1 ≤ (l.length : Int) := by omega
  have c3 : (K : Int) + 1 ≤ (cap : Int) := by omega
  have ST : Stands (fun W => WMid w W base (.slice A l.length cap) l) w.heap.size := WMid.stands w base (.slice A l.length cap) l
  obtain ⟨i0, z0, hi0, hz0, hz1, hz2, hz3⟩ := infoItm'
  have F1 := S10.start (e := 95) ST M
  clear h hA M
  go_enter Try.func49, Try.ntmps49
  go_upto_region 1 with fail
  go_region_law (first
    | (refine step_append_any _ (by rfl) _ _ _ (by rfl) w.heap.size 95 i0 z0 3 24 Try.underlying91 hi0 hz0 hz2 hz3 hz1 (by decide) (Value.slice (some ⟨w.heap.size, 0, none⟩) 0 0) 0 [] (by rfl) (by with_reducible exact own_empty F1.z F1.l) (Value.slice A K cap) K ((ivc l).take (K * 3)) (by rfl) (by with_reducible exact irl_to F1.r.r hKl) ((ivc_ones l).take _) (by unfold maxLen; omega) (by omega) (by have := F1.z.lt; have := F1.l; omega) ?_; intro v1 w1 ho1 hg1 hb1; have H20 := F1.next ST ho1 hg1)
    | (refine step_append_any _ (by rfl) _ _ _ (by rfl) w.heap.size 95 i0 z0 3 24 Try.underlying91 hi0 hz0 hz2 hz3 hz1 (by decide) v1 (0 + K) ([] ++ (ivc l).take (K * 3)) (by rfl) (by with_reducible exact H20.o) (Value.slice (if cap = K + 1 then A else Option.map (fun x => x.add ((K + 1) * 3)) A) (l.length - (K + 1)) (cap - (K + 1))) (l.length - (K + 1)) ((ivc l).drop ((K + 1) * 3)) (by rfl) (by with_reducible exact irl_from H20.r.r hK1) ((ivc_ones l).drop _) (by unfold maxLen; omega) (by omega) (by have := H20.r.b.size; omega) ?_; intro v3 w3 ho3 hg3 hb3; have H40 := H20.next ST ho3 hg3))
  all_goals
    have en : 0 + K + (l.length - (K + 1)) = r.length := by rw [← HR.out]; simp; omega
    have ey : [] ++ (ivc l).take (K * 3) ++ (ivc l).drop ((K + 1) * 3) = ivc r := by rw [← HR.out, ivc_app, ivc_take, ivc_drop, List.nil_append]
    have ho := H40.o
    rw [en, ey] at ho
    have hor := Lib.hid ho
    have hbr := Lib.hid H40.r.b
    clear F1 ST H40 H20 ho ho1 ho3 hg1 hg3 hb1 hb3 en ey
    go_wp2_with fail
    all_goals
      go_ret
      exact ⟨_, rfl, hor.out, hbr.out⟩
end Go.Proofs.Ytfoigflgglpobaa.V
/- The law's with: a row by ends with an item behind those like it; its walk. No condition but that memory holds the row. -/
set_option linter.unusedVariables false
set_option linter.unusedSimpArgs false
namespace Go.Proofs.Ytfoigflgglpobaa.V
open Go.RowKit Go.Proofs.Ytfoigflgglpobaa.Aid Go.Proofs.Ytfoigflgglpobaa.Tr
/-- how many items end no later -/
def atV (a : It) : List It → Nat
  | [] => 0
  | b :: l => if b.e ≤ a.e then atV a l + 1 else 0
theorem atV_le (a : It) (l : List It) : atV a l ≤ l.length := by
  induction l with
  | nil => exact Nat.le_refl _
  | cons b l ih => unfold atV; split; simp only [List.length_cons]; omega; exact Nat.zero_le _
theorem insV_at (a : It) (l : List It) : insV a l = l.take (atV a l) ++ a :: l.drop (atV a l) := by
  unfold insV
  induction l with
  | nil => rfl
  | cons b l ih =>
    unfold atV
    by_cases e : b.e ≤ a.e
    · rw [if_pos e, List.takeWhile_cons_of_pos (by simp [e]), List.dropWhile_cons_of_pos (by simp [e])]
      simp only [List.take_succ_cons, List.drop_succ_cons, List.cons_append, List.cons.injEq, true_and]
      exact ih
    · rw [if_neg e, List.takeWhile_cons_of_neg (by simp [e]), List.dropWhile_cons_of_neg (by simp [e])]
      rfl
theorem insV_len (a : It) (l : List It) : (insV a l).length = l.length + 1 := by
  have := atV_le a l
  rw [insV_at]
  simp only [List.length_append, List.length_take, List.length_cons, List.length_drop]
  omega
theorem atV_lt {a : It} : ∀ {l : List It} {k : Nat} {b : It}, k ≤ atV a l → l[k]? = some b → (¬ b.e ≤ a.e ↔ k = atV a l) := by
  intro l
  induction l with
  | nil => intro k b _ h; simp at h
  | cons c l ih =>
    intro k b hk h
    unfold atV at hk ⊢
    by_cases e : c.e ≤ a.e
    · rw [if_pos e] at hk ⊢
      cases k with
      | zero =>
        simp only [List.getElem?_cons_zero, Option.some.injEq] at h
        subst h
        simp [e]
      | succ k =>
        simp only [List.getElem?_cons_succ] at h
        rw [ih (by omega) h]
        omega
    · rw [if_neg e] at hk ⊢
      have : k = 0 := by omega
      subst this
      simp only [List.getElem?_cons_zero, Option.some.injEq] at h
      subst h
      simp [e]
/-- where it is in a row, and whether -/
theorem plcV_no {row : List It} {id r : Int} (h : PlcIs row id r) (hn : hasV row id = false) : r = -1 := by
  rcases h with ⟨h, _⟩ | ⟨k, b, rfl, hk, hb, e⟩
  · exact h
  · have : hasV row id = true := List.any_eq_true.2 ⟨b, List.mem_of_getElem? hb, decide_eq_true e⟩
    rw [hn] at this; cases this
theorem splitV {α : Type} {l : List α} {k : Nat} {b : α} (h : l[k]? = some b) : l = l.take k ++ b :: l.drop (k + 1) := by
  have hk : k < l.length := (List.getElem?_eq_some_iff.1 h).1
  have h1 := (List.take_append_drop k l).symm
  rw [List.drop_eq_getElem_cons hk] at h1
  have h2 : l[k] = b := by rw [List.getElem?_eq_getElem hk] at h; injection h
  rw [h2] at h1
  exact h1
theorem plcV_yes {row : List It} {id r : Int} (h : PlcIs row id r) (hd : (row.map It.k).Nodup) (hy : hasV row id = true) : ∃ k : Nat, r = k ∧ k < row.length ∧ row[k]? = some (getV row id) ∧ delV row id = row.take k ++ row.drop (k + 1) := by
  rcases h with ⟨_, hn⟩ | ⟨k, b, rfl, hk, hb, e⟩
  · obtain ⟨b, hb, e⟩ := List.any_eq_true.1 hy
    exact absurd (of_decide_eq_true e) (hn b hb)
  · have hs := splitV hb
    have h1 : ∀ c, c ∈ row.take k → ¬ (decide (c.k = id)) = true := fun c hc e' => by
      rw [hs, List.map_append, List.map_cons, List.nodup_append] at hd
      exact hd.2.2 c.k (List.mem_map.2 ⟨c, hc, rfl⟩) b.k (by simp) ((of_decide_eq_true e').trans e.symm)
    have h2 : getV row id = b := by
      unfold getV
      rw [hs, List.find?_append, List.find?_eq_none.2 h1, Option.none_or, List.find?_cons_of_pos (by simp [e])]
      rfl
    refine ⟨k, rfl, hk, by rw [h2]; exact hb, ?_⟩
    have h3 : delV (row.take k ++ b :: row.drop (k + 1)) id = row.take k ++ row.drop (k + 1) := by
      unfold delV
      rw [List.eraseP_append_right _ h1, List.eraseP_cons_of_pos (by simp [e])]
    rw [← hs] at h3
    exact h3
/-- what stands in the law's with -/
structure IMid (w0 W : World) (v : Value) (l : List It) (X : Nat) (a : It) : Prop where
  b : Below w0.heap.size w0 W
  r : IRow W 0 v l
  x : Blk W X 95 #[.int .i64 a.k, .int .i64 a.v, .int .i64 a.e]
  hx : w0.heap.size ≤ X
theorem IMid.call {w0 W W' : World} {X : Nat} {v : Value} {l : List It} {a : It} (h : IMid w0 W v l X a) (b : Below W.heap.size W W') : IMid w0 W' v l X a := ⟨h.b.trans (b.mono h.b.size), irl_below h.r b, h.x.below b h.x.lt, h.hx⟩
theorem IMid.drew {w0 W : World} {X : Nat} {v : Value} {l : List It} {a : It} (h : IMid w0 W v l X a) : IMid w0 W.drew v l X a := ⟨below_drewN h.b 1, irl_drewN h.r 1, h.x, h.hx⟩
theorem IMid.stands {w0 W : World} {v : Value} {l : List It} {X : Nat} {a : It} (h : IMid w0 W v l X a) : Stands (fun W' => IMid w0 W' v l X a ∧ W.heap.size ≤ W'.heap.size) W.heap.size := by
  have hv : ∀ b, v.ownBlock = some b → b < W.heap.size := fun b hb => (irl_block h.r hb).2
  have hX : X < W.heap.size := h.x.lt
  refine ⟨fun W' h' => h'.2, fun W' o h' => ⟨h'.1.call ((Below.refl _ _).alloc (Nat.le_refl _) o), by simp; omega⟩, fun W' h' => ⟨h'.1.drew, h'.2⟩, fun W1 W2 row1 h' g' hr => ?_⟩
  have ne : ∀ b, b < W.heap.size → some b ≠ row1 := fun b hb e => by have := hr b e.symm; omega
  have sz := g'.size
  have sz0 := h.b.size
  exact ⟨⟨h'.1.b.grown g' h'.1.b.size (fun k hk => by have := hr k hk; omega), irl_same h'.1.r fun b hb => g'.block b (irl_block h'.1.r hb).2 (ne b (hv b hb)), h'.1.x.grown g' (fun e => ne _ hX e), h'.1.hx⟩, by omega⟩
def WRel (w0 : World) (v : Value) (l : List It) (X : Nat) (a : It) (m : Nat) (s6 : Value) (wr : World) : Prop :=
  ∃ k : Nat, k ≤ atV a l ∧ m = l.length - k ∧ s6 = .int .i64 k ∧ IMid w0 wr v l X a
set_option maxHeartbeats 1000000 in
set_option maxRecDepth 100000 in
theorem with_law (base : Nat) (v : Value) (l : List It) (a : It) (w : World) (hl : l.length ≤ 10000) (hd : (l.map It.k).Nodup) (h : IRow w base v l) :
    Calls Try.prog 48 #[v, .agg #[.int .i64 a.k, .int .i64 a.v, .int .i64 a.e]] w fun e w' => ∃ v', e = .returned v' ∧ w'.ownsRow w.heap.size 95 3 v' ((delV l a.k).length + 1) (ivc (insV a (delV l a.k))) ∧ Below w.heap.size w w' := by
  have hx := Blk.new w 95 #[.int .i64 a.k, .int .i64 a.v, .int .i64 a.e]
  have hB : Below w.heap.size w (w.alloc (.cells #[.int .i64 a.k, .int .i64 a.v, .int .i64 a.e] 95)) := (Below.refl w.heap.size w).alloc (Nat.le_refl _) _
  have M := Lib.hid (show IMid w (w.alloc (.cells #[.int .i64 a.k, .int .i64 a.v, .int .i64 a.e] 95)) v l w.heap.size a from ⟨hB, irl_alloc (irl_mono h (Nat.zero_le _)) _, hx, Nat.le_refl _⟩)
  clear hx hB
  obtain ⟨A, cap, rfl, hA⟩ := irl_parts h
  obtain ⟨l2, hl2⟩ : ∃ l2, delV l a.k = l2 := ⟨_, rfl⟩
  have hll : l2.length ≤ l.length := by rw [← hl2]; exact (List.eraseP_sublist).length_le
  rw [hl2]
  have HD := Lib.hid (And.intro hd hl2)
  clear hA h hd hl2
  go_enter Try.func48, Try.ntmps48
  go_upto_region 1 with fail
  generalize w.alloc (.cells #[.int .i64 a.k, .int .i64 a.v, .int .i64 a.e] 95) = W at M ⊢
  obtain ⟨X, hX⟩ : ∃ X, w.heap.size = X := ⟨_, rfl⟩
  have HX := Lib.hid hX
  rw [hX] at M ⊢
  clear hX
  have x0 : W.cell? ⟨X, 0, none⟩ = some (.int .i64 a.k) := M.out.x.cell 0
  have HPL := Lib.hid (place_law 0 (.slice A l.length cap) l a.k W hl M.out.r)
  go_upto_if 12 with (go_at_call 47; refine HPL.out.mono ?_; rintro e W3 ⟨r, rfl, hp, b3⟩)
  have M3 := Lib.hid (M.out.call b3)
  have HP := Lib.hid hp
  clear x0 HPL b3 hp M
  go_cut [0] (fun s0 wx => IMid w wx s0 l2 X a)
  case first =>
    cases hy : hasV l a.k with
    | false =>
      have hr := plcV_no HP.out hy
      have he := delV_no hy
      subst hr
      have HE := Lib.hid he
      clear he hy
      go_wp2_with fail
      go_meet
      show IMid w _ _ l2 X a
      rw [← HD.out.2, HE.out]
      exact M3.out
    | true =>
      obtain ⟨K, rfl, hK, hk, hdl⟩ := plcV_yes HP.out HD.out.1 hy
      have HE := Lib.hid hdl
      have HW := Lib.hid (without_law 0 (.slice A l.length cap) l K hK W3 hl M3.out.r)
      have d1 : (0 : Int) ≤ (K : Int) := by omega
      clear hy hk hdl
      go_wp2_with (go_at_call 49; refine HW.out.mono ?_; rintro e W4 ⟨v', rfl, ho, b4⟩)
      go_meet
      show IMid w _ _ l2 X a
      rw [← HD.out.2, HE.out]
      have h5 := M3.out.call b4
      exact ⟨h5.b, irl_mono (irl_own ho) (Nat.zero_le _), h5.x, h5.hx⟩
  case rest =>
    clear M3 HP
    obtain ⟨A2, cap2, rfl, hA2⟩ := irl_parts hcut.r
    have HA := Lib.hid hA2
    have M4 := Lib.hid hcut
    have HS := Lib.hid (show atV a l2 ≤ l2.length from atV_le a l2)
    clear hcut hA2
    go_upto_block 0 with fail
    go_cut [6] (fun s6 wx => s6 = .int .i64 (atV a l2 : Nat) ∧ IMid w wx (.slice A2 l2.length cap2) l2 X a)
    case first =>
      go_wp2_with fail
      go_loopg [6] l2.length (fun m s6 wr => WRel w (.slice A2 l2.length cap2) l2 X a m s6 wr)
      case atStart => exact ⟨0, by omega, rfl, rfl, M4.out⟩
      case round =>
        obtain ⟨k, hk, rfl, rfl, LM⟩ := hrel
        clear M4
        have hkl := HS.out
        by_cases hlt : k < l2.length
        · obtain ⟨b, hb⟩ : ∃ b, l2[k]? = some b := ⟨l2[k], List.getElem?_eq_getElem hlt⟩
          obtain ⟨q, o, rfl⟩ := HA.out k hlt
          have hiff := atV_lt hk hb
          have c2 : wr.cell? ⟨q, o + k * 3 + 2, none⟩ = some (.int .i64 b.e) := (irl_it LM.r hb).2.2
          have x2 : wr.cell? ⟨X, 2, none⟩ = some (.int .i64 a.e) := LM.x.cell 2
          have LM5 := Lib.hid LM
          have HI := Lib.hid hiff
          clear hiff hb LM
          by_cases hle : b.e ≤ a.e
          · have hne : k + 1 ≤ atV a l2 := by
              have h1 := HI.out
              have h2 : ¬ k = atV a l2 := fun e => h1.2 e hle
              omega
            have HNE := Lib.hid hne
            clear hne
            go_upto_region 5 with fail
            go_quiet (fail)
            go_wp2_with fail
            go_roundg (l2.length - (k + 1))
            case measure => omega
            case rel => exact ⟨k + 1, HNE.out, rfl, by go_num, ⟨below_drewN LM5.out.b _, irl_drewN LM5.out.r _, LM5.out.x, LM5.out.hx⟩⟩
          · have hke : k = atV a l2 := HI.out.1 hle
            have HKE := Lib.hid hke
            have hle' : decide (b.e ≤ a.e) = false := decide_eq_false hle
            clear hke
            go_upto_region 5 with fail
            go_quiet (fail)
            go_wp2_with fail
            go_meet
            exact ⟨by rw [HKE.out], ⟨below_drewN LM5.out.b _, irl_drewN LM5.out.r _, LM5.out.x, LM5.out.hx⟩⟩
        · have hke : k = atV a l2 := by omega
          have d : decide (((k : Nat) : Int) < ((l2.length : Nat) : Int)) = false := decide_eq_false (by omega)
          have LH := Lib.hid LM
          clear LM
          have HKE := Lib.hid hke
          clear hke
          go_upto_region 5 with fail
          go_quiet (fail)
          go_wp2_with fail
          go_meet
          exact ⟨by rw [HKE.out], ⟨below_drewN LH.out.b _, irl_drewN LH.out.r _, LH.out.x, LH.out.hx⟩⟩
    case rest =>
      obtain ⟨rfl, LM⟩ := hcut
      clear M4
      obtain ⟨K, hK⟩ : ∃ K, atV a l2 = K := ⟨_, rfl⟩
      have hKl := HS.out
      rw [hK] at hKl
      have HK := Lib.hid hK
      rw [hK]
      clear hK
      have x0 : wc.cell? ⟨X, 0, none⟩ = some (.int .i64 a.k) := LM.x.cell 0
      have x1 : wc.cell? ⟨X, 1, none⟩ = some (.int .i64 a.v) := LM.x.cell 1
      have x2 : wc.cell? ⟨X, 2, none⟩ = some (.int .i64 a.e) := LM.x.cell 2
      have hcp := (irl_cap LM.r).2
      have hKc : K ≤ cap2 := by omega
      have ST := LM.stands
      obtain ⟨i0, z0, hi0, hz0, hz1, hz2, hz3⟩ := infoItm'
      have F1 := S10.start (e := 95) ST (W := wc) ⟨LM, Nat.le_refl _⟩
      have F2 := S11.start1 (e := 95) (xs := #[.int .i64 a.k, .int .i64 a.v, .int .i64 a.e]) ST (W := wc) ⟨LM, Nat.le_refl _⟩
      have F3 := S11.start2 (e := 95) (xs := #[.int .i64 a.k, .int .i64 a.v, .int .i64 a.e]) ST (W := wc) ⟨LM, Nat.le_refl _⟩
      have hXc : X < wc.heap.size := LM.x.lt
      have hwc : w.heap.size ≤ wc.heap.size := LM.b.size
      go_upto_region 7 with fail
      go_region_law (first
        | (refine step_append_any _ (by rfl) _ _ _ (by rfl) wc.heap.size 95 i0 z0 3 24 Try.underlying91 hi0 hz0 hz2 hz3 hz1 (by decide) (Value.slice (some ⟨wc.heap.size, 0, none⟩) 0 0) 0 [] (by rfl) (by with_reducible exact own_empty F1.z F1.l) (Value.slice A2 K cap2) K ((ivc l2).take (K * 3)) (by rfl) (by with_reducible exact irl_to F1.r.1.r hKl) ((ivc_ones l2).take _) (by unfold maxLen; omega) (by omega) (by have := F1.r.2; omega) ?_; intro v1 w1 ho1 hg1 hb1; have H20 := F1.next ST ho1 hg1; have y0 : w1.cell? ⟨X, 0, none⟩ = some (.int .i64 a.k) := H20.r.1.x.cell 0; have y1 : w1.cell? ⟨X, 1, none⟩ = some (.int .i64 a.v) := H20.r.1.x.cell 1; have y2 : w1.cell? ⟨X, 2, none⟩ = some (.int .i64 a.e) := H20.r.1.x.cell 2)
        | (refine step_append_any _ (by rfl) _ _ _ (by rfl) wc.heap.size 95 i0 z0 3 24 Try.underlying91 hi0 hz0 hz2 hz3 hz1 (by decide) (Value.slice (some ⟨wc.heap.size, 0, none⟩) 0 0) 0 [] (by rfl) (by with_reducible exact own_empty F2.z F2.l) (Value.slice A2 K cap2) K ((ivc l2).take (K * 3)) (by rfl) (by with_reducible exact irl_to F2.r.1.r hKl) ((ivc_ones l2).take _) (by unfold maxLen; omega) (by omega) (by have := F2.r.2; omega) ?_; intro v1 w1 ho1 hg1 hb1; have H21 := F2.next ST ho1 hg1; have y0 : w1.cell? ⟨X, 0, none⟩ = some (.int .i64 a.k) := H21.r.1.x.cell 0; have y1 : w1.cell? ⟨X, 1, none⟩ = some (.int .i64 a.v) := H21.r.1.x.cell 1; have y2 : w1.cell? ⟨X, 2, none⟩ = some (.int .i64 a.e) := H21.r.1.x.cell 2)
        | (refine step_append_any _ (by rfl) _ _ _ (by rfl) wc.heap.size 95 i0 z0 3 24 Try.underlying91 hi0 hz0 hz2 hz3 hz1 (by decide) (Value.slice (some ⟨wc.heap.size + 1, 0, none⟩) 0 0) 0 [] (by rfl) (by with_reducible exact own_empty F3.z F3.l) (Value.slice A2 K cap2) K ((ivc l2).take (K * 3)) (by rfl) (by with_reducible exact irl_to F3.r.1.r hKl) ((ivc_ones l2).take _) (by unfold maxLen; omega) (by omega) (by have := F3.r.2; omega) ?_; intro v1 w1 ho1 hg1 hb1; have H21 := F3.next ST ho1 hg1; have y0 : w1.cell? ⟨X, 0, none⟩ = some (.int .i64 a.k) := H21.r.1.x.cell 0; have y1 : w1.cell? ⟨X, 1, none⟩ = some (.int .i64 a.v) := H21.r.1.x.cell 1; have y2 : w1.cell? ⟨X, 2, none⟩ = some (.int .i64 a.e) := H21.r.1.x.cell 2)
        | (have H21x := H20.box (xs := #[.int .i64 a.k, .int .i64 a.v, .int .i64 a.e]) ST; refine step_append_any _ (by rfl) _ _ _ (by rfl) wc.heap.size 95 i0 z0 3 24 Try.underlying91 hi0 hz0 hz2 hz3 hz1 (by decide) v1 (0 + K) ([] ++ (ivc l2).take (K * 3)) (by rfl) (by with_reducible exact H21x.o) (Value.slice (some ⟨w1.heap.size, 0, none⟩) 1 1) 1 (It.list a) (by rfl) (by exact src_block H21x.x rfl 1) (iv_ones a) (by unfold maxLen; omega) (by omega) (by have := H21x.r.2; omega) ?_; intro v2 w2 ho2 hg2 hb2; have H30 := H21x.next ST ho2 hg2)
        | (refine step_append_any _ (by rfl) _ _ _ (by rfl) wc.heap.size 95 i0 z0 3 24 Try.underlying91 hi0 hz0 hz2 hz3 hz1 (by decide) v1 (0 + K) ([] ++ (ivc l2).take (K * 3)) (by rfl) (by with_reducible exact H21.o) (Value.slice (some ⟨wc.heap.size + 1, 0, none⟩) 1 1) 1 (It.list a) (by rfl) (by exact src_block H21.x rfl 1) (iv_ones a) (by unfold maxLen; omega) (by omega) (by have := H21.r.2; omega) ?_; intro v2 w2 ho2 hg2 hb2; have H30 := H21.next ST ho2 hg2)
        | (refine step_append_any _ (by rfl) _ _ _ (by rfl) wc.heap.size 95 i0 z0 3 24 Try.underlying91 hi0 hz0 hz2 hz3 hz1 (by decide) v1 (0 + K) ([] ++ (ivc l2).take (K * 3)) (by rfl) (by with_reducible exact H21.o) (Value.slice (some ⟨wc.heap.size, 0, none⟩) 1 1) 1 (It.list a) (by rfl) (by exact src_block H21.x rfl 1) (iv_ones a) (by unfold maxLen; omega) (by omega) (by have := H21.r.2; omega) ?_; intro v2 w2 ho2 hg2 hb2; have H30 := H21.next ST ho2 hg2)
        | (refine step_append_any _ (by rfl) _ _ _ (by rfl) wc.heap.size 95 i0 z0 3 24 Try.underlying91 hi0 hz0 hz2 hz3 hz1 (by decide) v2 (0 + K + 1) ([] ++ (ivc l2).take (K * 3) ++ It.list a) (by rfl) (by with_reducible exact H30.o) (Value.slice (if cap2 = K then A2 else Option.map (fun x => x.add (K * 3)) A2) (l2.length - K) (cap2 - K)) (l2.length - K) ((ivc l2).drop (K * 3)) (by rfl) (by with_reducible exact irl_from H30.r.1.r hKl) ((ivc_ones l2).drop _) (by unfold maxLen; omega) (by omega) (by have := H30.r.2; omega) ?_; intro v3 w3 ho3 hg3 hb3; have H40 := H30.next ST ho3 hg3))
      all_goals
        have en : 0 + K + 1 + (l2.length - K) = l2.length + 1 := by omega
        have ey : [] ++ (ivc l2).take (K * 3) ++ It.list a ++ (ivc l2).drop (K * 3) = ivc (insV a l2) := by
          rw [insV_at, HK.out, ivc_app, ivc_take, ivc_drop]
          simp [ivc]
        have ho := H40.o
        rw [en, ey] at ho
        have hor := Lib.hid (own_mono (base' := w.heap.size) ho hwc)
        have hbr := Lib.hid H40.r.1.b
        clear F1 F2 F3 ST H40 H30 ho ho1 ho2 ho3 hg1 hg2 hg3 hb1 hb2 hb3 en ey
        go_wp2_with fail
        all_goals
          go_ret
          exact ⟨_, rfl, hor.out, by rw [HX.out] at hbr ⊢; exact hbr.out⟩
end Go.Proofs.Ytfoigflgglpobaa.V
/- Arguments that are structs, arrays, and slices of those, whose innermost parts are ints and bools: what their cells hold. Plain theorems over any program; no condition. -/
set_option linter.unusedVariables false
namespace Go.Proofs.Ytfoigflgglpobaa.Leaf
open Go.RowKit Go.ChangeShapes Go.WideShapes Go.Deep
inductive Lf where
  | int (k : IntKind)
  | bool
def Lf.fits : Lf → Value → Prop
  | .int k, v => ∃ n, v = .int k n ∧ (Lit.int k n).wf = true
  | .bool, v => ∃ b, v = .bool b
inductive Fits : List Lf → List Value → Prop where
  | nil : Fits [] []
  | cons {l : Lf} {v : Value} {ls : List Lf} {vs : List Value} : l.fits v → Fits ls vs → Fits (l :: ls) (v :: vs)
theorem Fits.length {ls : List Lf} {vs : List Value} (h : Fits ls vs) : vs.length = ls.length := by
  induction h with
  | nil => rfl
  | cons _ _ ih => simp [ih]
theorem Fits.append {a b : List Lf} {x y : List Value} (h : Fits a x) (k : Fits b y) : Fits (a ++ b) (x ++ y) := by
  induction h with
  | nil => simpa using k
  | cons h1 _ ih => exact .cons h1 ih
theorem Fits.int {k : IntKind} {ls : List Lf} {vs : List Value} (h : Fits (.int k :: ls) vs) : ∃ n r, vs = .int k n :: r ∧ (Lit.int k n).wf = true ∧ Fits ls r := by
  cases h with
  | cons h1 h2 =>
    obtain ⟨n, rfl, hw⟩ := h1
    exact ⟨n, _, rfl, hw, h2⟩
theorem Fits.bool {ls : List Lf} {vs : List Value} (h : Fits (.bool :: ls) vs) : ∃ b r, vs = .bool b :: r ∧ Fits ls r := by
  cases h with
  | cons h1 h2 =>
    obtain ⟨b, rfl⟩ := h1
    exact ⟨b, _, rfl, h2⟩
theorem Fits.done {vs : List Value} (h : Fits [] vs) : vs = [] := by cases h; rfl
def leavesFs (g : TypeId → Option (List Lf)) (c : TypeId → Nat) : Nat → List Field → Option (List Lf)
  | _, [] => some []
  | acc, f :: fs => (g f.type).bind fun l => if f.offset = acc ∧ c f.type = l.length then (leavesFs g c (acc + l.length) fs).map (l ++ ·) else none
def leaves (P : Program) : Nat → TypeId → Option (List Lf)
  | 0, _ => none
  | n + 1, t => match P.underlying t with
    | some (.int k) => some [.int k]
    | some .bool => some [.bool]
    | some (.array m e) => (leaves P n e).bind fun l => if P.cellsOf e = l.length ∧ P.cellsOf t = m * l.length then some (List.replicate m l).flatten else none
    | some (.struct fs) => (leavesFs (leaves P n) P.cellsOf 0 fs.toList).bind fun l => if P.cellsOf t = l.length then some l else none
    | _ => none
theorem fits_fields {g : TypeId → Option (List Lf)} {c : TypeId → Nat} {cs : List Value} (fs : List Field) : ∀ (acc : Nat) (ls : List Lf), leavesFs g c acc fs = some ls →
    (∀ f ∈ fs, ∀ l, g f.type = some l → Fits l ((cs.drop f.offset).take (c f.type))) → Fits ls ((cs.drop acc).take ls.length) := by
  induction fs with
  | nil =>
    intro acc ls h _
    simp only [leavesFs, Option.some.injEq] at h
    subst h
    simpa using Fits.nil
  | cons f fs ih =>
    intro acc ls h hf
    simp only [leavesFs] at h
    obtain ⟨l, hl, h⟩ := Option.bind_eq_some_iff.1 h
    by_cases hc : f.offset = acc ∧ c f.type = l.length
    · rw [if_pos hc] at h
      obtain ⟨l', hl', rfl⟩ := Option.map_eq_some_iff.1 h
      have h1 := hf f List.mem_cons_self l hl
      rw [hc.1, hc.2] at h1
      have h2 := ih (acc + l.length) l' hl' (fun f' hf' => hf f' (List.mem_cons_of_mem _ hf'))
      rw [List.length_append, List.take_add, List.drop_drop]
      exact h1.append h2
    · rw [if_neg hc] at h
      cases h
theorem fits_array {l : List Lf} {cs : List Value} (m : Nat) (h : ∀ i, i < m → Fits l ((cs.drop (i * l.length)).take l.length)) : Fits (List.replicate m l).flatten (cs.take (m * l.length)) := by
  induction m with
  | zero => simpa using Fits.nil
  | succ m ih =>
    have h1 := ih (fun i hi => h i (by omega))
    have h2 := h m (by omega)
    rw [List.replicate_succ', List.flatten_append, Nat.succ_mul, List.take_add]
    simpa using h1.append h2
theorem leaves_fit {H : Type} {enc : TypeId × Value → H} {P : Program} {w : World} {base : Nat} {spare : Nat → Bool} {held : Bool} (n : Nat) : ∀ {t : TypeId} {ls : List Lf} {fuel : Nat} {cs : List Value} {x : DataW H × List MemPlace},
    leaves P n t = some ls → DataW.trod enc P w base spare held fuel t cs = some x → Fits ls cs := by
  induction n with
  | zero => intro t ls fuel cs x h; simp [leaves] at h
  | succ n ih =>
    intro t ls fuel cs x h ht
    unfold leaves at h
    split at h
    · next k hu =>
      obtain ⟨m, rfl, _, hw⟩ := DataW.trod_int hu ht
      simp only [Option.some.injEq] at h
      subst h
      exact .cons ⟨m, rfl, hw⟩ .nil
    · next hu =>
      obtain ⟨b, rfl, _⟩ := DataW.trod_bool hu ht
      simp only [Option.some.injEq] at h
      subst h
      exact .cons ⟨b, rfl⟩ .nil
    · next m e hu =>
      obtain ⟨l, hl, h⟩ := Option.bind_eq_some_iff.1 h
      by_cases hc : P.cellsOf e = l.length ∧ P.cellsOf t = m * l.length
      · rw [if_pos hc] at h
        simp only [Option.some.injEq] at h
        subst h
        obtain ⟨xs, m', _, _, hlen, hxl, hat⟩ := DataW.trod_array hu ht
        have := fits_array (cs := cs) m (fun i hi => by
          have h1 := hat i hi
          rw [hc.1] at h1
          have hx : xs[i]? = some (xs[i]'(by omega)) := List.getElem?_eq_getElem (by omega)
          exact ih hl (h1.trans hx))
        rwa [List.take_of_length_le (by rw [hlen, hc.2]; exact Nat.le_refl _)] at this
      · rw [if_neg hc] at h; cases h
    · next fs hu =>
      obtain ⟨l, hl, h⟩ := Option.bind_eq_some_iff.1 h
      by_cases hc : P.cellsOf t = l.length
      · rw [if_pos hc] at h
        simp only [Option.some.injEq] at h
        subst h
        obtain ⟨xs, m', _, _, hlen, hxl, hat⟩ := DataW.trod_struct hu ht
        have := fits_fields (cs := cs) fs.toList 0 l hl (fun f hf l' hl' => by
          obtain ⟨i, hi, rfl⟩ := List.mem_iff_getElem.1 hf
          have hi' : i < fs.size := by simpa using hi
          have h1 := hat i fs[i] (by simp [hi'])
          have hx : xs[i]? = some (xs[i]'(by omega)) := List.getElem?_eq_getElem (by omega)
          have h2 := ih (t := fs[i].type) (by simpa using hl') (h1.trans hx)
          simpa using h2)
        rwa [List.drop_zero, List.take_of_length_le (by rw [hlen, hc]; exact Nat.le_refl _)] at this
      · rw [if_neg hc] at h; cases h
    · cases h
/-- a slice that came in: at each place the cells of one element -/
def Row (w : World) (ls : List Lf) (A : Option Addr) (n : Nat) : Prop :=
  n = 0 ∨ ∃ x, ∃ E : Nat → List Value, A = some x ∧ x.block < w.heap.size ∧ n ≤ maxLen ∧ ∀ k, k < n → Fits ls (E k) ∧ ∀ j, j < ls.length → w.cell? (x.add (k * ls.length + j)) = (E k)[j]?
theorem open_row {H : Type} {enc : TypeId × Value → H} {P : Program} {w : World} {base : Nat} {spare : Nat → Bool} {held : Bool} {t e : TypeId} {A : Option Addr} {len cap : Nat} {d : DataW H} {p : List MemPlace} {ls : List Lf} (k : Nat)
    (ht : P.underlying t = some (.slice e)) (hl : leaves P k e = some ls) (hc : P.cellsOf e = ls.length) (hpos : 0 < ls.length) (h : DataW.Trod enc P w base spare held t (.slice A len cap) d p) : Row w ls A len := by
  obtain ⟨fuel, h⟩ := h
  rcases open_slice ht h with ⟨hcs, _⟩ | ⟨a, len', cap', m, n, D, Pl, hcs, hb, hll, hm, hmm, hx, hi⟩
  · simp [Value.cells] at hcs
    exact .inl hcs.2.1
  · simp [Value.cells] at hcs
    obtain ⟨rfl, rfl, rfl⟩ := hcs
    by_cases h0 : len = 0
    · exact .inl h0
    have hlm : len ≤ m := by rw [hmm]; split <;> omega
    have each : ∀ i, i < len → ∃ cs', Fits ls cs' ∧ ∀ j, j < ls.length → w.cell? (a.add (i * ls.length + j)) = cs'[j]? := by
      intro i hi'
      obtain ⟨cs', hcell, ht'⟩ := hi i (by omega)
      obtain ⟨_, hcl, hat⟩ := World.cells?_some hcell
      refine ⟨cs', leaves_fit k hl ht', fun j hj => ?_⟩
      rw [← hat j (by omega), hc, Go.Deep.add_add]
    refine .inr ⟨a, fun i => if hi' : i < len then (each i hi').choose else [], rfl, ?_, by omega, fun i hi' => ?_⟩
    · obtain ⟨cs', hf, hat⟩ := each 0 (by omega)
      have := hat 0 hpos
      have hl0 : 0 < cs'.length := by rw [hf.length]; exact hpos
      rw [List.getElem?_eq_getElem hl0] at this
      have := block_lt_of_cell this
      unfold Addr.add at this
      split at this <;> exact this
    · simp only [hi', dif_pos]
      exact (each i hi').choose_spec
theorem open_flat {H : Type} {enc : TypeId × Value → H} {P : Program} {w : World} {base b0 : Nat} {spare : Nat → Bool} {held : Bool} {r : Reach} {t : TypeId} {fs : Array Field} {v : Value} {d : DataW H} {p : List MemPlace} {ls : List Lf} (k : Nat)
    (hs : P.underlying t = some (.struct fs)) (hl : leaves P k t = some ls) (hv : Value.okWide P w r b0 t v) (h : DataW.Trod enc P w base spare held t v d p) : ∃ cs, v = .agg cs ∧ Fits ls cs.toList := by
  obtain ⟨cs, rfl, hsz⟩ := okWide_struct hs hv
  obtain ⟨fuel, h⟩ := h
  exact ⟨cs, rfl, leaves_fit k hl h⟩
/-- the cells of element k, told one by one -/
theorem cell_of {w : World} {x : Addr} {k c j : Nat} {E : List Value} {v : Value} (h : ∀ j, j < c → w.cell? (x.add (k * c + j)) = E[j]?) (hj : j < c) (hv : E[j]? = some v) :
    w.cell? (if j = 0 then x.add (k * c) else ⟨(x.add (k * c)).block, (x.add (k * c)).off + j, none⟩) = some v := by
  rw [← hv, ← h j hj, ← Go.Deep.add_add]
  congr 1
end Go.Proofs.Ytfoigflgglpobaa.Leaf
/- An array of plain leaves that came in by value. No condition. -/
set_option linter.unusedVariables false
namespace Go.Proofs.Ytfoigflgglpobaa.Leaf
open Go.RowKit Go.ChangeShapes Go.WideShapes Go.Deep
theorem okWide_arr {P : Program} {w : World} {r : Reach} {base : Nat} {t e : TypeId} {n : Nat} {v : Value} (ht : P.underlying t = some (.array n e)) (h : Value.okWide P w r base t v) : ∃ cs, v = .agg cs := by
  simp only [Value.okWide, ht] at h
  obtain ⟨cs, h1, _⟩ := h
  exact ⟨cs, h1⟩
theorem open_arr {H : Type} {enc : TypeId × Value → H} {P : Program} {w : World} {base b0 : Nat} {spare : Nat → Bool} {held : Bool} {r : Reach} {t e : TypeId} {n : Nat} {v : Value} {d : DataW H} {p : List MemPlace} {ls : List Lf} (k : Nat)
    (hs : P.underlying t = some (.array n e)) (hl : leaves P k t = some ls) (hv : Value.okWide P w r b0 t v) (h : DataW.Trod enc P w base spare held t v d p) : ∃ cs, v = .agg cs ∧ Fits ls cs.toList := by
  obtain ⟨cs, rfl⟩ := okWide_arr hs hv
  obtain ⟨fuel, h⟩ := h
  exact ⟨cs, rfl, leaves_fit k hl h⟩
theorem len_in' {w : World} {A : Option Addr} {n : Nat} {ls : List Leaf.Lf} (h : Leaf.Row w ls A n) : n ≤ maxLen := by
  rcases h with rfl | ⟨_, _, _, _, h, _⟩
  · exact Nat.zero_le _
  · exact h
end Go.Proofs.Ytfoigflgglpobaa.Leaf
/- TtlPlays: what stands from round to round, in plain Lean. No condition. -/
set_option linter.unusedVariables false
set_option linter.unusedSimpArgs false
namespace Go.Proofs.Ytfoigflgglpobaa.V
open Go.RowKit Go.Proofs.Ytfoigflgglpobaa.Aid Go.Proofs.Ytfoigflgglpobaa.Tr Go.Proofs.Ytfoigflgglpobaa.Kt Go.Proofs.Ytfoigflgglpobaa.Q
/-- an act: its kind, a time, a key, a value, how long -/
structure VA where
  kind : Int
  now : Int
  key : Int
  val : Int
  keep : Int
def VA.cells (a : VA) : Array Value := #[.int .u8 a.kind, .int .i64 a.now, .int .i64 a.key, .int .i64 a.val, .int .i64 a.keep]
def ActV (w : World) (x : Addr) (a : VA) : Prop := w.cell? x = some (.int .u8 a.kind) ∧ w.cell? ⟨x.block, x.off + 1, none⟩ = some (.int .i64 a.now) ∧ w.cell? ⟨x.block, x.off + 2, none⟩ = some (.int .i64 a.key) ∧ w.cell? ⟨x.block, x.off + 3, none⟩ = some (.int .i64 a.val) ∧ w.cell? ⟨x.block, x.off + 4, none⟩ = some (.int .i64 a.keep)
/-- the acts that came in, as they read whenever nothing old has changed -/
def ActsV (w : World) (B : Nat) (A : Option Addr) (n : Nat) : Prop := ∀ k, k < n → ∃ x, A = some x ∧ ∃ a : VA, (0 ≤ a.kind ∧ a.kind ≤ 255) ∧ I64 a.key ∧ (I64 a.now ∧ I64 a.keep) ∧ ∀ w', Below B w w' → ActV w' (x.add (k * 5)) a
theorem actsV_of {w : World} {A : Option Addr} {n : Nat} (h : Leaf.Row w [.int .u8, .int .i64, .int .i64, .int .i64, .int .i64] A n) : ActsV w w.heap.size A n := by
  intro k hk
  rcases h with rfl | ⟨x, E, rfl, hx, _, hE⟩
  · omega
  obtain ⟨hf, hc⟩ := hE k hk
  obtain ⟨k0, r0, e0, w0, f0⟩ := hf.int
  obtain ⟨k1, r1, rfl, w1, f1⟩ := f0.int
  obtain ⟨k2, r2, rfl, w2, f2⟩ := f1.int
  obtain ⟨k3, r3, rfl, w3, f3⟩ := f2.int
  obtain ⟨k4, r4, rfl, w4, f4⟩ := f3.int
  obtain rfl := f4.done
  refine ⟨x, rfl, ⟨k0, k1, k2, k3, k4⟩, bounds_u8 w0, bounds_i64 w2, ⟨bounds_i64 w1, bounds_i64 w4⟩, fun w' hb => ?_⟩
  have c := fun j hj v hv => Leaf.cell_of (c := 5) (j := j) (v := v) hc hj hv
  have key : ∀ q : Addr, q.block = x.block → w'.cell? q = w.cell? q := fun q hq => hb.cell (by rw [hq]; exact hx)
  exact ⟨(key _ (add_block _ _)).trans (c 0 (by decide) _ (by rw [e0]; rfl)), (key ⟨(x.add (k * 5)).block, (x.add (k * 5)).off + 1, none⟩ (add_block _ _)).trans (c 1 (by decide) _ (by rw [e0]; rfl)), (key ⟨(x.add (k * 5)).block, (x.add (k * 5)).off + 2, none⟩ (add_block _ _)).trans (c 2 (by decide) _ (by rw [e0]; rfl)), (key ⟨(x.add (k * 5)).block, (x.add (k * 5)).off + 3, none⟩ (add_block _ _)).trans (c 3 (by decide) _ (by rw [e0]; rfl)), (key ⟨(x.add (k * 5)).block, (x.add (k * 5)).off + 4, none⟩ (add_block _ _)).trans (c 4 (by decide) _ (by rw [e0]; rfl))⟩
/-- what stands in TtlPlays: the store, and the law's row -/
structure LVd (w0 W : World) (P : VP) (row : List It) (mo now : Int) (base : Nat) (v : Value) (l : List It) (M : Int) : Prop where
  s : VSt w0 W P row mo now M
  r : IRow W base v l
  d : (∀ b, P.F b → b < base) ∧ w0.heap.size ≤ base ∧ base ≤ W.heap.size
section
variable {w0 W W' : World} {P : VP} {row row' l l' : List It} {mo now now' : Int} {base : Nat} {v v' : Value} {M M' : Int}
theorem LVd.call (h : LVd w0 W P row mo now base v l M) (b : Below W.heap.size W W') : LVd w0 W' P row mo now base v l M := ⟨h.s.call b, irl_below h.r b, h.d.1, h.d.2.1, Nat.le_trans h.d.2.2 b.size⟩
theorem LVd.alloc (h : LVd w0 W P row mo now base v l M) (o : Obj) : LVd w0 (W.alloc o) P row mo now base v l M := h.call ((Below.refl _ _).alloc (Nat.le_refl _) o)
theorem LVd.drewN (h : LVd w0 W P row mo now base v l M) (n : Nat) : LVd w0 (W.drewN n) P row mo now base v l M := ⟨h.s.drewN n, irl_drewN h.r n, h.d⟩
theorem LVd.drew (h : LVd w0 W P row mo now base v l M) : LVd w0 W.drew P row mo now base v l M := h.drewN 1
theorem LVd.goes (h : LVd w0 W P row mo now base v l M) (k : VHas W' P row' mo now' M') (o : Only P.F W W') : LVd w0 W' P row' mo now' base v l M' :=
  ⟨h.s.goes k o, irl_only h.r o (fun b hb hF => by have := h.d.1 b hF; omega), h.d.1, h.d.2.1, Nat.le_trans h.d.2.2 o.size⟩
theorem LVd.rowed (h : LVd w0 W P row mo now base v l M) (r : IRow W base v' l') : LVd w0 W P row mo now base v' l' M := ⟨h.s, r, h.d⟩
theorem LVd.mono (h : LVd w0 W P row mo now base v l M) (hM : M ≤ M') : LVd w0 W P row mo now base v l M' := ⟨⟨h.s.q.mono hM, h.s.b, h.s.f⟩, h.r, h.d⟩
end
/-- .. and the act of this round -/
structure LVa (w0 W : World) (P : VP) (row : List It) (mo now : Int) (base : Nat) (v : Value) (l : List It) (M : Int) (X : Nat) (a : VA) : Prop where
  h : LVd w0 W P row mo now base v l M
  x : Blk W X 93 #[.int .u8 a.kind, .int .i64 a.now, .int .i64 a.key, .int .i64 a.val, .int .i64 a.keep]
  bx : base ≤ X
section
variable {w0 W W' : World} {P : VP} {row row' l l' : List It} {mo now now' : Int} {base X : Nat} {v v' : Value} {M M' : Int} {a : VA}
theorem LVd.act (h : LVd w0 W P row mo now base v l M) (a : VA) : LVa w0 (W.alloc (.cells #[.int .u8 a.kind, .int .i64 a.now, .int .i64 a.key, .int .i64 a.val, .int .i64 a.keep] 93)) P row mo now base v l M W.heap.size a :=
  ⟨h.alloc _, Blk.new _ _ _, h.d.2.2⟩
theorem LVa.call (h : LVa w0 W P row mo now base v l M X a) (b : Below W.heap.size W W') : LVa w0 W' P row mo now base v l M X a := ⟨h.h.call b, h.x.below b h.x.lt, h.bx⟩
theorem LVa.drewN (h : LVa w0 W P row mo now base v l M X a) (n : Nat) : LVa w0 (W.drewN n) P row mo now base v l M X a := ⟨h.h.drewN n, h.x, h.bx⟩
theorem LVa.drew (h : LVa w0 W P row mo now base v l M X a) : LVa w0 W.drew P row mo now base v l M X a := h.drewN 1
theorem LVa.goes (h : LVa w0 W P row mo now base v l M X a) (k : VHas W' P row' mo now' M') (o : Only P.F W W') : LVa w0 W' P row' mo now' base v l M' X a :=
  ⟨h.h.goes k o, o.blk h.x (fun e => by have := h.h.d.1 X e; have := h.bx; omega), h.bx⟩
theorem LVa.rowed (h : LVa w0 W P row mo now base v l M X a) (r : IRow W base v' l') : LVa w0 W P row mo now base v' l' M X a := ⟨h.h.rowed r, h.x, h.bx⟩
theorem LVa.mono (h : LVa w0 W P row mo now base v l M X a) (hM : M ≤ M') : LVa w0 W P row mo now base v l M' X a := ⟨h.h.mono hM, h.x, h.bx⟩
theorem LVa.cells (h : LVa w0 W P row mo now base v l M X a) : W.cell? ⟨X, 0, none⟩ = some (.int .u8 a.kind) ∧ W.cell? ⟨X, 1, none⟩ = some (.int .i64 a.now) ∧ W.cell? ⟨X, 2, none⟩ = some (.int .i64 a.key) ∧ W.cell? ⟨X, 3, none⟩ = some (.int .i64 a.val) ∧ W.cell? ⟨X, 4, none⟩ = some (.int .i64 a.keep) :=
  ⟨h.x.cell 0, h.x.cell 1, h.x.cell 2, h.x.cell 3, h.x.cell 4⟩
end
theorem own_only {S : Nat → Prop} {w w' : World} {base : Nat} {e : TypeId} {size n : Nat} {v : Value} {xs : List Value} (h : w.ownsRow base e size v n xs) (o : Only S w w') (hs : ∀ b, base ≤ b → ¬ S b) : w'.ownsRow base e size v n xs :=
  own_same h fun b hb => o.block b (own_block h hb).2 (hs b (own_block h hb).1)
/-- the law's time and the store's -/
def NowIs (nL nP : Int) : Prop := -2305843009213693952 ≤ nL ∧ nL ≤ 1125899906842624 ∧ (nP = nL ∨ nP = -4611686018427387903 ∧ nL = -2305843009213693952)
theorem now_step {nL nP n : Int} (h : NowIs nL nP) (h1 : -1125899906842624 ≤ n) (h2 : n ≤ 1125899906842624) :
    max nP (cl n) = max nL n ∧ NowIs (max nL n) (max nL n) ∧ -1125899906842624 ≤ max nL n ∧ max nL n ≤ 1125899906842624 ∧ cl n ≤ max nL n := by
  obtain ⟨h3, h4, h5⟩ := h
  rw [cl_in (by omega) (by omega)]
  unfold NowIs
  omega
theorem now_same {t n : Int} (h : cl n ≤ t) : max t (cl n) = t := by omega
/-- none is over -/
def Fresh (row : List It) (t : Int) : Prop := ∀ b, b ∈ row → t < b.e
theorem fresh_row {row : List It} {t n : Int} (h : Fresh row t) (hc : cl n ≤ t) : rowN row t n = row := by
  unfold rowN
  rw [now_same hc]
  cases row with
  | nil => rfl
  | cons b l => exact List.dropWhile_cons_of_neg (by have := h b (by simp); simp [ov]; omega)
theorem fresh_drop {row : List It} {t : Int} (h : row.Pairwise (fun a b => a.e ≤ b.e)) : Fresh (row.dropWhile (ov t)) t := by
  induction row with
  | nil => intro b hb; simp at hb
  | cons a l ih =>
    cases e : ov t a with
    | true => rw [List.dropWhile_cons_of_pos e]; exact ih h.of_cons
    | false =>
      rw [List.dropWhile_cons_of_neg (by rw [e]; decide)]
      intro b hb
      have he : ¬ a.e ≤ t := of_decide_eq_false e
      rcases List.mem_cons.1 hb with rfl | hb
      · omega
      · have := (List.pairwise_cons.1 h).1 b hb; omega
theorem Fresh.sub {row row' : List It} {t : Int} (h : Fresh row t) (k : ∀ b, b ∈ row' → b ∈ row) : Fresh row' t := fun b hb => h b (k b hb)
theorem fresh_ins {row : List It} {a : It} {t : Int} (h : Fresh row t) (ha : t < a.e) : Fresh (insV a row) t := by
  intro b hb
  rw [insV_at] at hb
  rcases List.mem_append.1 hb with hb | hb
  · exact h b (List.mem_of_mem_take hb)
  · rcases List.mem_cons.1 hb with rfl | hb
    · exact ha
    · exact h b (List.mem_of_mem_drop hb)
theorem fresh_del {row : List It} {k t : Int} (h : Fresh row t) : Fresh (delV row k) t := h.sub fun b hb => List.mem_of_mem_eraseP hb
theorem fresh_room {row : List It} {mo k t : Int} (h : Fresh row t) : Fresh (mkRoom row mo k) t := by
  unfold mkRoom
  split
  · exact h.sub fun b hb => List.mem_of_mem_tail hb
  · exact h
theorem ad_keep {t k : Int} (h1 : -1125899906842624 ≤ t) (h2 : t ≤ 1125899906842624) (h3 : ¬ k < 1) (h4 : k ≤ 1125899906842624) : ad t k = t + k := by
  unfold ad
  rw [cl_in (x := t) (by omega) (by omega), cl_in (x := k) (by omega) (by omega), cl_in (x := t + k) (by omega) (by omega)]
  split <;> omega
theorem unt_left {t e : Int} (h1 : -1125899906842624 ≤ t) (h2 : t ≤ 1125899906842624) (h3 : t < e) (h4 : e ≤ 4611686018427387) : unt t e = e - t := by
  unfold unt sb cl
  omega
def VRl (w0 : World) (P : VP) (mo : Int) (base N : Nat) (m : Nat) (s8 s9 s63 : Value) (wr : World) : Prop :=
  ∃ (k : Nat) (row : List It) (nL nP : Int), k ≤ N ∧ m = N - k ∧ s63 = .int .i64 k ∧ s9 = .int .i64 nL ∧ NowIs nL nP ∧ LVd w0 wr P row mo nP base s8 row k ∧ (∀ b, b ∈ row → b.e ≤ 4503599627370496)
def VDr (W : World) (base : Nat) (r1 : List It) (t : Int) (m : Nat) (s8 : Value) (wr : World) : Prop := ∃ l, m = l.length ∧ l.dropWhile (ov t) = r1 ∧ IRow W base s8 l ∧ W = wr
def VCut (w0 : World) (P : VP) (mo t : Int) (base k X : Nat) (a : VA) (s8 : Value) (wx : World) : Prop := ∃ row, LVa w0 wx P row mo t base s8 row (k + 1 : Nat) X a ∧ Fresh row t ∧ (∀ b, b ∈ row → b.e ≤ 4503599627370496)
def VIn (w0 : World) (P : VP) (mo t : Int) (row : List It) (base kb : Nat) (v vk : Value) (M : Int) (m : Nat) (s295 : Value) (wr : World) : Prop :=
  ∃ j : Nat, j ≤ row.length ∧ m = row.length - j ∧ s295 = .int .i64 j ∧ LVd w0 wr P row mo t base v row M ∧ wr.ownsRow kb 3 1 vk row.length (nums (row.map It.k))
section
variable {w : World} {P : VP} {row : List It} {mo t M : Int}
theorem VHas.above (h : VHas w P row mo t M) : ∀ b, w.heap.size ≤ b → ¬ P.F b := fun b hb hF => Nat.lt_irrefl _ (Nat.lt_of_lt_of_le (h.foot_lt hF) hb)
theorem V_next_f (h : VHas w P row mo t M) (hf : Fresh row t) (n : Int) (hc : cl n ≤ t) {e0 : Int} (he : nextV row = e0) :
    Calls Try.prog 50 #[.pointer (some ⟨P.q, 0, none⟩), .int .i64 n] w fun e w' => e = .returned (.int .i64 e0) ∧ VHas w' P row mo t M ∧ Only P.F w w' := by
  have C := V_next h n
  rw [now_same hc, fresh_row hf hc, he] at C
  exact C
theorem V_len_f (h : VHas w P row mo t M) (hf : Fresh row t) (n : Int) (hc : cl n ≤ t) {k : Nat} (he : row.length = k) :
    Calls Try.prog 43 #[.pointer (some ⟨P.q, 0, none⟩), .int .i64 n] w fun e w' => e = .returned (.int .i64 (k : Nat)) ∧ VHas w' P row mo t M ∧ Only P.F w w' := by
  have C := V_len h n
  rw [now_same hc, fresh_row hf hc, he] at C
  exact C
theorem V_keys_f (h : VHas w P row mo t M) (hmo : mo ≤ 1024) (hf : Fresh row t) (n : Int) (hc : cl n ≤ t) {k : Nat} (he : row.length = k) :
    Calls Try.prog 46 #[.pointer (some ⟨P.q, 0, none⟩), .int .i64 n] w fun e w' => (∃ v, e = .returned v ∧ w'.ownsRow w.heap.size 3 1 v k (nums (row.map It.k))) ∧ VHas w' P row mo t M ∧ Only P.F w w' := by
  have C := V_keys h hmo n
  rw [now_same hc, fresh_row hf hc, he] at C
  exact C
end
theorem own_parts {w : World} {base : Nat} {e : TypeId} {size n : Nat} {v : Value} {xs : List Value} (h : w.ownsRow base e size v n xs) : ∃ A cap, v = .slice A n cap ∧ ∀ j, j < n → ∃ q, A = some ⟨q, 0, none⟩ := by
  obtain ⟨hl, ⟨rfl, rfl⟩ | ⟨g, cap, cur, rfl, _⟩⟩ := h
  · exact ⟨none, 0, rfl, fun j hj => absurd hj (Nat.not_lt_zero _)⟩
  · exact ⟨_, cap, rfl, fun j hj => ⟨g, rfl⟩⟩
theorem nums_at {l : List Int} {j : Nat} {k : Int} (h : l[j]? = some k) : (nums l)[j]? = some (.int .i64 k) := by
  unfold nums
  rw [List.getElem?_map, h]
  rfl
end Go.Proofs.Ytfoigflgglpobaa.V
/- A region's first operations, which only read, in one world, by the walk that reads in every world of a class. Plain theorems over any program; no condition. -/
namespace Go.Proofs.Ytfoigflgglpobaa.Aid
open Go
variable {P : Program} {ops : Array Oper}
/-- only the world w -/
def One (w : World) : World → Prop := fun w' => w' = w
attribute [go_sem] One
theorem still_of_quiet {Q : Act → Prop} {w : World} : ∀ (l : List Oper) (a : Act), wpQuiet P ops (One w) Q l a → wpStill P ops w Q l a := by
  intro l
  induction l with
  | nil => intro a h; exact h
  | cons o rest ih =>
    intro a h
    unfold wpQuiet at h
    unfold wpStill
    split
    · rename_i hw
      rw [if_pos hw] at h
      obtain ⟨v, h1, h2⟩ := h
      have h3 := h1 w rfl
      unfold Oper.quietAt at h3
      unfold Oper.still
      generalize (execOp a.eval o).run P w = r at *
      cases r with
      | ok n w' =>
        cases n <;> simp only [Oper.quietUpon] at h3
        case value u =>
          obtain ⟨rfl, rfl⟩ := h3
          rw [Oper.stillUpon_value]
          exact ih _ h2
        case skip =>
          obtain ⟨rfl, rfl⟩ := h3
          rw [Oper.stillUpon_skip]
          exact ih _ h2
        case enter f args =>
          obtain ⟨rfl, hc⟩ := h3
          unfold Oper.stillUpon
          exact ⟨rfl, v, hc, ih _ h2⟩
      | halt x w' => simp only [Oper.quietUpon] at h3
    · rename_i hw
      rw [if_neg hw] at h
      exact ih _ h
end Go.Proofs.Ytfoigflgglpobaa.Aid
