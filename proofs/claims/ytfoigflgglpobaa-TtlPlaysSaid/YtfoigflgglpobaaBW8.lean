/- Lemmas and contracts for RowTtlPlays, merged by program out of Vm, Vn, Row, Vo, Vp, Vq, Vr. No condition. -/
import Derived.Test.YtfoigflgglpobaaBW7
import Derived.Test.YtfoigflgglpobaaBW0
import Derived.Test.YtfoigflgglpobaaBW6
import Derived.Carry
import Derived.Maps.AppendAt
import Derived.Laws.OwnMore
import Derived.Deep.AppendLies
import Derived.Deep.RegionLaw
import Derived.StillTailTactics
set_option linter.unusedVariables false
set_option linter.unusedSimpArgs false
/- A value is put. No condition but that memory holds a store. -/
set_option linter.unusedVariables false
set_option linter.unusedSimpArgs false
namespace Go.Proofs.Ytfoigflgglpobaa.V
open Go.RowKit Go.Proofs.Ytfoigflgglpobaa.Aid Go.Proofs.Ytfoigflgglpobaa.Tr Go.Proofs.Ytfoigflgglpobaa.Kt Go.Proofs.Ytfoigflgglpobaa.Q
theorem V_put_nil (n k v keep : Int) (w : World) : Calls Try.prog 40 #[.pointer none, .int .i64 n, .int .i64 k, .int .i64 v, .int .i64 keep] w fun e w' => e = .returned (.int .i64 1) ∧ w = w' := by
  go_enter Try.func40, Try.ntmps40
  go_wp2_with fail
  go_ret
  exact ⟨rfl, rfl⟩
theorem V_put_bad (P : VP) (n k v keep : Int) (hk : keep < 1) (w : World) : Calls Try.prog 40 #[.pointer (some ⟨P.q, 0, none⟩), .int .i64 n, .int .i64 k, .int .i64 v, .int .i64 keep] w fun e w' => e = .returned (.int .i64 2) ∧ w = w' := by
  have d := decide_eq_true hk
  go_enter Try.func40, Try.ntmps40
  go_wp2_with fail
  go_ret
  exact ⟨rfl, rfl⟩
/-- the row, if there is no room for one more -/
def mkRoom (row : List It) (mo k : Int) : List It := if hasV row k = false ∧ (row.length : Int) = mo then row.tail else row
def PCutV (w0 : World) (P : VP) (row : List It) (mo nn k M : Int) (wx : World) : Prop := VHas wx P (mkRoom row mo k) mo nn M ∧ Only P.F w0 wx
set_option maxHeartbeats 2000000 in
set_option maxRecDepth 100000 in
theorem V_put {w : World} {P : VP} {row : List It} {mo now M : Int} (h : VHas w P row mo now M) (n k v keep : Int) (hk : I64 k) (hM : M ≤ 4611686018427387904) (hmo : 1 ≤ mo) (hkp : ¬ keep < 1) (hend : max now (cl n) < ad (max now (cl n)) keep) :
    Calls Try.prog 40 #[.pointer (some ⟨P.q, 0, none⟩), .int .i64 n, .int .i64 k, .int .i64 v, .int .i64 keep] w fun e w' => e = .returned (.int .i64 0) ∧ VHas w' P (insV ⟨k, v, ad (max now (cl n)) keep⟩ (delV (mkRoom (rowN row now n) mo k) k)) mo (max now (cl n)) (M + 1) ∧ Only P.F w w' := by
  have HC := Lib.hid (show Calls Try.prog 63 #[.pointer (some ⟨P.q, 0, none⟩), .int .i64 n] w fun e w' => e = .returned (.tuple #[]) ∧ VHas w' P (rowN row now n) mo (max now (cl n)) M ∧ Only P.F w w' from V_reach h n)
  clear h
  generalize rowN row now n = row' at HC ⊢
  generalize max now (cl n) = nn at HC hend ⊢
  have d : decide (keep < 1) = false := decide_eq_false hkp
  obtain ⟨en, hen⟩ : ∃ e, ad nn keep = e := ⟨_, rfl⟩
  rw [hen] at hend ⊢
  have d2 : decide (en > nn) = true := decide_eq_true hend
  have HE := Lib.hid (And.intro hen (And.intro hend hmo))
  clear hen hend hkp hmo
  obtain ⟨y, hy⟩ : ∃ y, hasV row' k = y := ⟨_, rfl⟩
  have HY := Lib.hid hy
  clear hy
  obtain ⟨r2, hr2⟩ : ∃ r, mkRoom row' mo k = r := ⟨_, rfl⟩
  rw [hr2]
  have HR := Lib.hid hr2
  clear hr2
  cases y with
  | true =>
    go_enter Try.func40, Try.ntmps40
    go_wp2_with fail
    refine HC.out.mono ?_
    rintro e W1 ⟨rfl, h1, o1⟩
    obtain ⟨x, tx, lk⟩ := h1.lookB hk
    rw [HY.out] at lk
    obtain ⟨sq, q0, q1, q2, q3, q4, q5⟩ := h1.cells
    have h2 := h1.alloc (.cells #[.int .i64 (getV row' k).v, .int .i64 (getV row' k).e, .int .i64 x, .int .i64 tx] 122)
    have O2 := o1.alloc (.cells #[.int .i64 (getV row' k).v, .int .i64 (getV row' k).e, .int .i64 x, .int .i64 tx] 122)
    clear HC h1 o1
    go_upto_region 7 with fail
    clear q0 q1 q2 q3 q4 q5 lk
    generalize W1.alloc (.cells #[.int .i64 (getV row' k).v, .int .i64 (getV row' k).e, .int .i64 x, .int .i64 tx] 122) = W2 at h2 O2 ⊢
    go_quiet (fail)
    have er : mkRoom row' mo k = row' := by unfold mkRoom; rw [if_neg (fun e => by rw [HY.out] at e; cases e.1)]
    have e2 : row' = r2 := er.symm.trans HR.out
    have h3 := h2.drewN nq
    rw [e2] at h3
    have hlen := delV_len HY.out
    have hmx := h2.len
    rw [e2] at hlen hmx
    have HRM := Lib.hid (show ((delV r2 k).length : Int) < mo by omega)
    have HZ := Lib.hid (And.intro h3 (O2.drewN nq))
    clear h2 O2 h3 er e2 hlen hmx
    generalize W2.drewN nq = W3 at HZ ⊢
    obtain ⟨sq, q0, q1, q2, q3, q4, q5⟩ := HZ.out.1.cells
    have HL := Lib.hid (V_lay HZ.out.1 ⟨k, v, en⟩ hk HRM.out hM)
    go_wp2_with fail
    refine (add_any _ _ _).mono ?_
    rintro e w5 ⟨rfl, rfl⟩
    rw [HE.out.1]
    go_wp2_with fail
    with_reducible refine HL.out.mono ?_
    rintro e W6 ⟨rfl, h6, o6⟩
    have FIN := Lib.hid (And.intro h6 (HZ.out.2.then o6))
    clear h6 o6 HL HZ q0 q1 q2 q3 q4 q5
    go_wp2_with fail
    go_ret
    exact ⟨rfl, FIN.out.1, FIN.out.2⟩
  | false =>
    go_enter Try.func40, Try.ntmps40
    go_wp2_with fail
    refine HC.out.mono ?_
    rintro e W1 ⟨rfl, h1, o1⟩
    obtain ⟨x, tx, lk⟩ := h1.lookB hk
    rw [HY.out] at lk
    obtain ⟨sq, q0, q1, q2, q3, q4, q5⟩ := h1.cells
    have h2 := h1.alloc (.cells #[.int .i64 (getV row' k).v, .int .i64 (getV row' k).e, .int .i64 x, .int .i64 tx] 122)
    have O2 := o1.alloc (.cells #[.int .i64 (getV row' k).v, .int .i64 (getV row' k).e, .int .i64 x, .int .i64 tx] 122)
    clear HC h1 o1
    go_upto_region 7 with fail
    clear q0 q1 q2 q3 q4 q5 lk
    generalize W1.alloc (.cells #[.int .i64 (getV row' k).v, .int .i64 (getV row' k).e, .int .i64 x, .int .i64 tx] 122) = W2 at h2 O2 ⊢
    have hD := h2.drew
    have OD := O2.drew
    clear h2 O2
    refine wp_region_still_tail 12 (by kernel_rfl) (by kernel_rfl) ?_
    change wpStill _ _ W2.drew (fun a' => wpList _ _ _ _ a' W2.drew) _ _
    generalize W2.drew = V at hD OD ⊢
    obtain ⟨sq, q0, q1, q2, q3, q4, q5⟩ := hD.cells
    have hl := hD.lenM
    simp only [List.take_succ_cons, List.take_zero, List.drop_succ_cons, List.drop_zero]
    still_step
    still_step
    still_step
    still_step
    still_step
    still_step
    still_step
    still_step
    still_step
    still_step
    still_step
    still_step
    refine wpStill_nil ?_
    clear q0 q1 q2 q3 q4 q5 hl
    by_cases hm : ((row'.length : Nat) : Int) = mo
    · have HHM := Lib.hid hm
      have er : mkRoom row' mo k = row'.tail := by unfold mkRoom; rw [if_pos ⟨HY.out, hm⟩]
      have e2 : row'.tail = r2 := er.symm.trans HR.out
      subst hm
      cases row' with
      | nil => have := HE.out.2.2; simp at this
      | cons a l =>
        have e2 : l = r2 := e2
        subst e2
        have HF := Lib.hid (show Calls Try.prog 64 #[.pointer (some ⟨P.q, 0, none⟩)] V fun e w' => e = .returned (.tuple #[.int .i64 a.k, .bool true]) ∧ Below V.heap.size V w' from by
          have C := V_first hD
          rw [show decide (a :: l ≠ []) = true from rfl] at C
          exact C)
        have HH := Lib.hid (And.intro hD (And.intro OD (hD.wf (a := a) (by simp))))
        clear hD OD er
        go_wp2_with fail
        refine HF.out.mono ?_
        rintro e W4 ⟨rfl, b4⟩
        have HCT := Lib.hid (V_cut (HH.out.1.below b4) a.k HH.out.2.2)
        have O4 := HH.out.2.1.below b4
        clear HF b4
        go_wp2_with fail
        refine HCT.out.mono ?_
        rintro e W5 ⟨rfl, h5, o5⟩
        have e1 : delV (a :: l) a.k = l := by unfold delV; rw [List.eraseP_cons_of_pos (by simp)]
        rw [e1] at h5
        have hno : hasV l k = false := by
          have h9 := HY.out
          unfold hasV at h9 ⊢
          rw [List.any_cons, Bool.or_eq_false_iff] at h9
          exact h9.2
        have HRM := Lib.hid (show ((delV l k).length : Int) < (((a :: l).length : Nat) : Int) by rw [delV_no hno]; simp; omega)
        have HZ := Lib.hid (And.intro h5 (O4.then o5))
        clear h5 o5 O4 HCT HH e1 hno
        obtain ⟨sq, q0, q1, q2, q3, q4, q5⟩ := HZ.out.1.cells
        have HL := Lib.hid (V_lay HZ.out.1 ⟨k, v, en⟩ hk HRM.out hM)
        go_wp2_with fail
        refine (add_any _ _ _).mono ?_
        rintro e w5 ⟨rfl, rfl⟩
        rw [HE.out.1]
        go_wp2_with fail
        with_reducible refine HL.out.mono ?_
        rintro e W6 ⟨rfl, h6, o6⟩
        have FIN := Lib.hid (And.intro h6 (HZ.out.2.then o6))
        clear h6 o6 HL HZ q0 q1 q2 q3 q4 q5
        go_wp2_with fail
        go_ret
        exact ⟨rfl, FIN.out.1, FIN.out.2⟩
    · have dm := beq_i hm
      have er : mkRoom row' mo k = row' := by unfold mkRoom; rw [if_neg (fun e => hm e.2)]
      have e2 : row' = r2 := er.symm.trans HR.out
      have hmx := hD.len
      have HRM := Lib.hid (show ((delV r2 k).length : Int) < mo by rw [← e2, delV_no HY.out]; omega)
      rw [e2] at hD
      have HZ := Lib.hid (And.intro hD OD)
      clear hD OD er e2 hmx
      obtain ⟨sq, q0, q1, q2, q3, q4, q5⟩ := HZ.out.1.cells
      have HL := Lib.hid (V_lay HZ.out.1 ⟨k, v, en⟩ hk HRM.out hM)
      go_wp2_with fail
      refine (add_any _ _ _).mono ?_
      rintro e w5 ⟨rfl, rfl⟩
      rw [HE.out.1]
      go_wp2_with fail
      with_reducible refine HL.out.mono ?_
      rintro e W6 ⟨rfl, h6, o6⟩
      have FIN := Lib.hid (And.intro h6 (HZ.out.2.then o6))
      clear h6 o6 HL HZ q0 q1 q2 q3 q4 q5
      go_wp2_with fail
      go_ret
      exact ⟨rfl, FIN.out.1, FIN.out.2⟩
end Go.Proofs.Ytfoigflgglpobaa.V
/- A new store. No condition. -/
set_option linter.unusedVariables false
set_option linter.unusedSimpArgs false
namespace Go.Proofs.Ytfoigflgglpobaa.V
open Go.RowKit Go.Proofs.Ytfoigflgglpobaa.Aid Go.Proofs.Ytfoigflgglpobaa.Tr Go.Proofs.Ytfoigflgglpobaa.Kt Go.Proofs.Ytfoigflgglpobaa.Q
theorem V_new_bad (p : Int) (hp : p < 1 ∨ 1024 < p) (w : World) : Calls Try.prog 39 #[.int .i64 p] w fun e w' => e = .returned (.pointer none) ∧ w = w' := by
  rcases hp with hp | hp
  · have d := decide_eq_true hp
    go_enter Try.func39, Try.ntmps39
    go_wp2_with fail
    go_ret
    exact ⟨rfl, rfl⟩
  · have d : decide (p < 1) = false := decide_eq_false (by omega)
    have d2 : decide (p > 1024) = true := decide_eq_true hp
    go_enter Try.func39, Try.ntmps39
    go_wp2_with fail
    go_ret
    exact ⟨rfl, rfl⟩
set_option maxHeartbeats 1000000 in
set_option maxRecDepth 100000 in
theorem V_new (p : Nat) (hp : 1 ≤ p) (hp2 : p ≤ 1024) (w : World) : Calls Try.prog 39 #[.int .i64 p] w fun e w' => ∃ P : VP, e = .returned (.pointer (some ⟨P.q, 0, none⟩)) ∧ VHas w' P [] p (-4611686018427387903) 0 ∧ (∀ b, P.F b → w.heap.size ≤ b) ∧ Below w.heap.size w w' := by
  have hmm := @run_makeMap Try.prog
  have d : decide (((p : Nat) : Int) < 1) = false := decide_eq_false (by omega)
  have d2 : decide (((p : Nat) : Int) > 1024) = false := decide_eq_false (by omega)
  go_enter Try.func39, Try.ntmps39
  go_wp2_with fail
  refine (New_some p w (by omega)).mono ?_
  rintro e W0 ⟨g, gl, rfl, T0, hg, hgl, b0⟩
  go_wp2_with fail
  go_ret
  have e1 : (W0.alloc (.map #[] 0)).heap.size = W0.heap.size + 1 := by simp
  have e2 : ((W0.alloc (.map #[] 0)).alloc (.map #[] 0)).heap.size = W0.heap.size + 2 := by simp
  have s0 := b0.size
  have l1 := T0.b.lt
  have l2 := T0.n.lt
  have hne := T0.ne
  have hF := (full_new (by omega) T0).below (((Below.refl W0.heap.size W0).alloc (Nat.le_refl _) (.map #[] 0)).alloc (by rw [e1]; omega) (.map #[] 0) |>.alloc (by rw [e2]; omega) (.cells (stc p (-4611686018427387903) 0 g W0.heap.size (W0.heap.size + 1)) 120))
  have hm1 := ((map_new (P := Try.prog) (k := 3) W0).alloc (.map #[] 0)).alloc (.cells (stc p (-4611686018427387903) 0 g W0.heap.size (W0.heap.size + 1)) 120)
  have hm2 := (map_new (P := Try.prog) (k := 29) (W0.alloc (.map #[] 0))).alloc (.cells (stc p (-4611686018427387903) 0 g W0.heap.size (W0.heap.size + 1)) 120)
  have hq := Blk.new ((W0.alloc (.map #[] 0)).alloc (.map #[] 0)) 120 (stc p (-4611686018427387903) 0 g W0.heap.size (W0.heap.size + 1))
  rw [e1] at hm2
  rw [e2] at hq
  refine ⟨⟨W0.heap.size + 2, g, gl, W0.heap.size, W0.heap.size + 1⟩, rfl, ⟨newS p, .nil, [], fun _ => ⟨0, 0, 0⟩, fun _ => none, fun _ => none, 0, ⟨hq, hF, hm1, hm2, fun x hx => absurd hx (by simp [Sh.ino]), fun v e h => (by cases h), fun v e h => (by cases h), fun x hx => absurd hx (by simp [Sh.ino]), fun x hx => absurd hx (by simp [Sh.ino]), fun x hx => absurd hx (by simp [Sh.ino]), rfl, (by dsimp only; omega)⟩, rfl, TnB.new p, Int.le_refl _, Int.le_refl _⟩, fun b hb => ?_, ?_⟩
  · have hb : b = W0.heap.size + 2 ∨ b = g ∨ b = gl ∨ b = W0.heap.size ∨ b = W0.heap.size + 1 := hb
    omega
  · exact b0.trans ((((Below.refl W0.heap.size W0).alloc (Nat.le_refl _) (.map #[] 0)).alloc (by rw [e1]; omega) (.map #[] 0) |>.alloc (by rw [e2]; omega) _).mono s0)
end Go.Proofs.Ytfoigflgglpobaa.V
/- Appending any slice to a row of one's own: at a step of a region. No program in sight; no condition. -/
set_option linter.unusedVariables false
namespace Go.Proofs.Ytfoigflgglpobaa.Aid
open Go.RowKit
/-- what a slice yields: m elements, the cells ys -/
def IsSrc (w : World) (size : Nat) (x : Value) (m : Nat) (ys : List Value) : Prop :=
  (x = .slice none 0 0 ∧ m = 0 ∧ ys = []) ∨ ∃ ad c, x = .slice (some ad) m c ∧ ys.length = m * size ∧ ∀ j u, ys[j]? = some u → w.cell? (ad.add j) = some u
/-- one of the model's cells, each -/
def Ones (l : List Value) : Prop := ∀ u ∈ l, u.oneCell' = true
theorem Ones.take {l : List Value} (h : Ones l) (n : Nat) : Ones (l.take n) := fun u hu => h u (List.mem_of_mem_take hu)
theorem Ones.drop {l : List Value} (h : Ones l) (n : Nat) : Ones (l.drop n) := fun u hu => h u (List.mem_of_mem_drop hu)
theorem Ones.append {l k : List Value} (h : Ones l) (g : Ones k) : Ones (l ++ k) := fun u hu => (List.mem_append.1 hu).elim (h u) (g u)
theorem add0 (g k j : Nat) : (⟨g, k, none⟩ : Addr).add j = ⟨g, k + j, none⟩ := by unfold Addr.add; split <;> simp_all
section
variable {w : World} {base : Nat} {e : TypeId} {size : Nat} {n : Nat} {xs : List Value}
theorem src_own {v : Value} (h : w.ownsRow base e size v n xs) : IsSrc w size v n xs := by
  obtain ⟨hl, ⟨rfl, rfl⟩ | ⟨g, cap, cur, rfl, h1, h2, h3, h4, h5, h6⟩⟩ := h
  · exact .inl ⟨rfl, rfl, by cases xs; rfl; simp at hl⟩
  · refine .inr ⟨_, _, rfl, hl, fun j u hu => ?_⟩
    rw [add0, Nat.zero_add]
    exact own_cell ⟨hl, .inr ⟨g, cap, cur, rfl, h1, h2, h3, h4, h5, h6⟩⟩ hu
theorem src_take {g cap k : Nat} (h : w.ownsRow base e size (.slice (some ⟨g, 0, none⟩) n cap) n xs) (hk : k ≤ n) (c : Nat) : IsSrc w size (.slice (some ⟨g, 0, none⟩) k c) k (xs.take (k * size)) := by
  have hl := h.1
  have hks : k * size ≤ n * size := Nat.mul_le_mul_right _ hk
  refine .inr ⟨_, _, rfl, by rw [List.length_take]; omega, fun j u hu => ?_⟩
  rw [add0, Nat.zero_add]
  refine own_cell h ?_
  rw [List.getElem?_take] at hu
  split at hu
  · exact hu
  · cases hu
theorem src_drop {g cap k : Nat} (h : w.ownsRow base e size (.slice (some ⟨g, 0, none⟩) n cap) n xs) (hk : k ≤ n) (c : Nat) : IsSrc w size (.slice (some ⟨g, k * size, none⟩) (n - k) c) (n - k) (xs.drop (k * size)) := by
  have hl := h.1
  have hks : k * size ≤ n * size := Nat.mul_le_mul_right _ hk
  refine .inr ⟨_, _, rfl, by rw [List.length_drop, hl, Nat.sub_mul], fun j u hu => ?_⟩
  rw [add0]
  refine own_cell h ?_
  rw [List.getElem?_drop] at hu
  exact hu
theorem own_cap {A : Option Addr} {m cap : Nat} (h : w.ownsRow base e size (.slice A m cap) n xs) : m = n ∧ n ≤ cap ∧ (A = none → n = 0 ∧ cap = 0) ∧ ∀ x, A = some x → x = ⟨x.block, 0, none⟩ := by
  obtain ⟨hl, ⟨hv, rfl⟩ | ⟨g, cap', cur, hv, h1, h2, h3, h4, h5, h6⟩⟩ := h
  · injection hv with ha hm hc; subst ha hm hc; exact ⟨rfl, Nat.le_refl _, fun _ => ⟨rfl, rfl⟩, fun x hx => (by cases hx)⟩
  · injection hv with ha hm hc; subst ha hm hc; exact ⟨rfl, h3, fun e => (by cases e), fun x hx => (by injection hx with hx; subst hx; rfl)⟩
/-- l[:k], as the model writes it -/
theorem src_to {A : Option Addr} {cap k : Nat} (h : w.ownsRow base e size (.slice A n cap) n xs) (hk : k ≤ n) : IsSrc w size (.slice A k cap) k (xs.take (k * size)) := by
  obtain ⟨_, h1, h2, h3⟩ := own_cap h
  cases A with
  | none =>
    obtain ⟨rfl, rfl⟩ := h2 rfl
    obtain rfl : k = 0 := by omega
    exact .inl ⟨rfl, rfl, by simp⟩
  | some x =>
    have hx := h3 x rfl
    obtain ⟨g, hg⟩ : ∃ g, x.block = g := ⟨_, rfl⟩
    rw [hg] at hx
    subst hx
    exact src_take h hk cap
/-- l[k:], as the model writes it -/
theorem src_from {A : Option Addr} {cap k : Nat} (h : w.ownsRow base e size (.slice A n cap) n xs) (hk : k ≤ n) : IsSrc w size (.slice (if cap = k then A else Option.map (fun x => x.add (k * size)) A) (n - k) (cap - k)) (n - k) (xs.drop (k * size)) := by
  obtain ⟨_, h1, h2, h3⟩ := own_cap h
  cases A with
  | none =>
    obtain ⟨rfl, rfl⟩ := h2 rfl
    obtain rfl : k = 0 := by omega
    have hx : xs = [] := by have := h.1; cases xs; rfl; simp at this
    refine .inl ⟨by simp, rfl, by rw [hx]; simp⟩
  | some x =>
    have hx := h3 x rfl
    obtain ⟨g, hg⟩ : ∃ g, x.block = g := ⟨_, rfl⟩
    rw [hg] at hx
    subst hx
    by_cases hc : cap = k
    · have hn : n = k := by omega
      rw [if_pos hc]
      have hl := h.1
      subst hn
      have e1 : n - n = 0 := Nat.sub_self n
      refine .inr ⟨_, _, rfl, by rw [e1, List.length_drop, hl]; omega, fun j u hu => ?_⟩
      rw [List.getElem?_drop, List.getElem?_eq_none (by omega)] at hu
      cases hu
    · rw [if_neg hc]
      have e2 : Option.map (fun x : Addr => x.add (k * size)) (some ⟨g, 0, none⟩) = some ⟨g, k * size, none⟩ := by
        show some ((⟨g, 0, none⟩ : Addr).add (k * size)) = _
        rw [add0, Nat.zero_add]
      rw [e2]
      exact src_drop h hk _
theorem own_empty {g : Nat} (h : Blk w g e #[]) (hb : base ≤ g) : w.ownsRow base e size (.slice (some ⟨g, 0, none⟩) 0 0) 0 [] :=
  ⟨by simp, .inr ⟨g, 0, #[], rfl, hb, h, Nat.le_refl _, Nat.zero_le _, by simp, by simp⟩⟩
theorem src_block {B : Nat} {cs : Array Value} {t : TypeId} (h : Blk w B t cs) (hs : cs.size = size) (c : Nat) : IsSrc w size (.slice (some ⟨B, 0, none⟩) 1 c) 1 cs.toList :=
  .inr ⟨_, _, rfl, by simp [hs], World.news_of_block h⟩
theorem IsSrc.same {x : Value} {m : Nat} {ys : List Value} {w' : World} (h : IsSrc w size x m ys) (k : ∀ b, x.ownBlock = some b → w'.heap[b]? = w.heap[b]?) : IsSrc w' size x m ys := by
  rcases h with h | ⟨ad, c, rfl, h1, h2⟩
  · exact .inl h
  · refine .inr ⟨ad, c, rfl, h1, fun j u hu => ?_⟩
    rw [← h2 j u hu]
    exact World.cell?_of_block (by rw [add_block]; exact k ad.block rfl)
end
/-- building 'append(append(append([]T{}, l[:k]...), x), l[k:]...)': R holds of what was there; b0 is the empty row, B holds x, v1 is the first part -/
structure S10 (R : World → Prop) (L : Nat) (e : TypeId) (W : World) (b0 : Nat) : Prop where
  r : R W
  z : Blk W b0 e #[]
  l : L ≤ b0
structure S11 (R : World → Prop) (L : Nat) (e : TypeId) (xs : Array Value) (W : World) (b0 B : Nat) : Prop where
  r : R W
  z : Blk W b0 e #[]
  l : L ≤ b0
  x : Blk W B e xs
  ne : B ≠ b0
structure S20 (R : World → Prop) (L : Nat) (e : TypeId) (size : Nat) (W : World) (v : Value) (n : Nat) (ys : List Value) : Prop where
  r : R W
  o : W.ownsRow L e size v n ys
structure S21 (R : World → Prop) (L : Nat) (e : TypeId) (size : Nat) (xs : Array Value) (W : World) (v : Value) (n : Nat) (ys : List Value) (B : Nat) : Prop where
  r : R W
  o : W.ownsRow L e size v n ys
  x : Blk W B e xs
section
variable {R : World → Prop} {L : Nat} {e : TypeId} {size : Nat} {xs : Array Value} {W W' : World} {b0 B n : Nat} {v v' : Value} {ys : List Value}
/-- R stands whatever is made, drawn, or changed in rows from L on -/
structure Stands (R : World → Prop) (L : Nat) : Prop where
  low : ∀ W, R W → L ≤ W.heap.size
  alloc : ∀ W o, R W → R (W.alloc o)
  drew : ∀ W, R W → R W.drew
  grow : ∀ W W' row, R W → W.grownBy W' row → (∀ b, row = some b → L ≤ b) → R W'
theorem S10.start (st : Stands R L) (h : R W) : S10 R L e ((W.alloc (.cells #[] e)).drew) W.heap.size := ⟨st.drew _ (st.alloc _ _ h), (Blk.new W e #[]).drew, st.low _ h⟩
theorem S11.start1 (st : Stands R L) (h : R W) : S11 R L e xs (((W.alloc (.cells #[] e)).alloc (.cells xs e)).drew) W.heap.size (W.heap.size + 1) := by
  have h1 := Blk.new (W.alloc (.cells #[] e)) e xs
  have e1 : (W.alloc (.cells #[] e)).heap.size = W.heap.size + 1 := by simp
  rw [e1] at h1
  exact ⟨st.drew _ (st.alloc _ _ (st.alloc _ _ h)), ((Blk.new W e #[]).alloc _).drew, st.low _ h, h1.drew, by omega⟩
theorem S11.start2 (st : Stands R L) (h : R W) : S11 R L e xs (((W.alloc (.cells xs e)).alloc (.cells #[] e)).drew) (W.heap.size + 1) W.heap.size := by
  have h1 := Blk.new (W.alloc (.cells xs e)) e #[]
  have e1 : (W.alloc (.cells xs e)).heap.size = W.heap.size + 1 := by simp
  rw [e1] at h1
  have := st.low _ h
  exact ⟨st.drew _ (st.alloc _ _ (st.alloc _ _ h)), h1.drew, by omega, ((Blk.new W e xs).alloc _).drew, by omega⟩
theorem S10.next (st : Stands R L) (h : S10 R L e W b0) (ho : W'.ownsRow L e size v n ys) (g : W.grownBy W' (Value.slice (some ⟨b0, 0, none⟩) 0 0).ownBlock) : S20 R L e size W' v n ys :=
  ⟨st.grow _ _ _ h.r g (fun b hb => by injection hb with hb; subst hb; exact h.l), ho⟩
theorem S11.next (st : Stands R L) (h : S11 R L e xs W b0 B) (ho : W'.ownsRow L e size v n ys) (g : W.grownBy W' (Value.slice (some ⟨b0, 0, none⟩) 0 0).ownBlock) : S21 R L e size xs W' v n ys B :=
  ⟨st.grow _ _ _ h.r g (fun b hb => by injection hb with hb; subst hb; exact h.l), ho, h.x.grown g (fun e => by injection e with e; exact h.ne e)⟩
theorem S20.box (st : Stands R L) (h : S20 R L e size W v n ys) : S21 R L e size xs (W.alloc (.cells xs e)) v n ys W.heap.size := ⟨st.alloc _ _ h.r, own_alloc h.o _, Blk.new _ _ _⟩
theorem S21.next (st : Stands R L) (h : S21 R L e size xs W v n ys B) {m : Nat} {zs : List Value} (ho : W'.ownsRow L e size v' m zs) (g : W.grownBy W' v.ownBlock) : S20 R L e size W' v' m zs :=
  ⟨st.grow _ _ _ h.r g (fun b hb => (own_block h.o hb).1), ho⟩
theorem S20.next (st : Stands R L) (h : S20 R L e size W v n ys) {m : Nat} {zs : List Value} (ho : W'.ownsRow L e size v' m zs) (g : W.grownBy W' v.ownBlock) : S20 R L e size W' v' m zs :=
  ⟨st.grow _ _ _ h.r g (fun b hb => (own_block h.o hb).1), ho⟩
end
variable {P : Program}
theorem run_append_any (w : World) (base : Nat) (t ty e : TypeId) (i : TypeInfo) (z : Value) (size bytes : Nat) (ht : P.underlying t = some (.slice e)) (hi : P.info? e = some i) (hz : i.zero = some z)
    (hsize : i.size = size) (hby : i.bytes = bytes) (hzs : z.cells.size = size) (hsz : 0 < size)
    (v : Value) (n : Nat) (xs : List Value) (hown : w.ownsRow base e size v n xs) (x : Value) (m : Nat) (ys : List Value) (hx : IsSrc w size x m ys) (h1 : Ones ys)
    (h63 : n + m ≤ maxLen) (hbytes : (n + m) * bytes ≤ 140737488355328) (hbase : base ≤ w.heap.size) :
    ∃ v' w', (Builtin.append_ #[t, t] ty #[v, x]).run P w = .ok v' w' ∧ w'.ownsRow base e size v' (n + m) (xs ++ ys) ∧ w.grownBy w' v.ownBlock ∧ (v'.ownBlock = v.ownBlock ∨ v'.ownBlock = some w.heap.size) := by
  rcases hx with ⟨rfl, rfl, rfl⟩ | ⟨ad, c, rfl, hl, hc⟩
  · exact ⟨v, w, run_append_owned_none w base t ty e i size ht hi v n xs hown, by simpa using hown, World.grownBy.refl _ _, .inl rfl⟩
  · obtain ⟨v', w', a1, a2, a3, _, a5⟩ := run_append_own_at w base t ty e i z size bytes ht hi hz hsize hby hzs hsz v n xs hown ad m c ys hl hc h1 h63 hbytes hbase
    exact ⟨v', w', a1, a2, a3, a5⟩
theorem wp_append_any (w : World) {o : Oper} {a : Act} {K : Act → World → Prop} {Q : Exit → Act → World → Prop} (s x : Operand) (t : TypeId)
    (ho : o.op = .call { callee := .builtin .append, args := #[s, x], argTypes := #[t, t] })
    (base : Nat) (e : TypeId) (i : TypeInfo) (z : Value) (size bytes : Nat) (ht : P.underlying t = some (.slice e)) (hi : P.info? e = some i) (hz : i.zero = some z)
    (hsize : i.size = size) (hby : i.bytes = bytes) (hzs : z.cells.size = size) (hsz : 0 < size)
    (v : Value) (n : Nat) (xs : List Value) (hs : a.eval s = v) (hown : w.ownsRow base e size v n xs) (xv : Value) (m : Nat) (ys : List Value) (hx : a.eval x = xv) (hsrc : IsSrc w size xv m ys) (h1 : Ones ys)
    (h63 : n + m ≤ maxLen) (hbytes : (n + m) * bytes ≤ 140737488355328) (hbase : base ≤ w.heap.size)
    (h : ∀ v' w', w'.ownsRow base e size v' (n + m) (xs ++ ys) → w.grownBy w' v.ownBlock → (v'.ownBlock = v.ownBlock ∨ v'.ownBlock = some w.heap.size) → K (a.put o.dst v') w') : o.wp P a w K Q := by
  obtain ⟨v', w', hr, h2, h3, h4⟩ := run_append_any (P := P) w base t o.type e i z size bytes ht hi hz hsize hby hzs hsz v n xs hown xv m ys hsrc h1 h63 hbytes hbase
  unfold Oper.wp execOp
  simp only [ho, resolve, invoke, builtin, Sem.run_bind, Sem.run_pure, Result.andThen_ok, List.map_toArray, List.map_cons, List.map_nil, hs, hx, hr]
  exact h v' w' h2 h3 h4
theorem wpList_append_any (w : World) {ops : Array Oper} {rest : List Oper} {o : Oper} {a : Act} {Q : Exit → Act → World → Prop} (hgd : o.guard = none) (s x : Operand) (t : TypeId)
    (ho : o.op = .call { callee := .builtin .append, args := #[s, x], argTypes := #[t, t] })
    (base : Nat) (e : TypeId) (i : TypeInfo) (z : Value) (size bytes : Nat) (ht : P.underlying t = some (.slice e)) (hi : P.info? e = some i) (hz : i.zero = some z)
    (hsize : i.size = size) (hby : i.bytes = bytes) (hzs : z.cells.size = size) (hsz : 0 < size)
    (v : Value) (n : Nat) (xs : List Value) (hs : a.eval s = v) (hown : w.ownsRow base e size v n xs) (xv : Value) (m : Nat) (ys : List Value) (hx : a.eval x = xv) (hsrc : IsSrc w size xv m ys) (h1 : Ones ys)
    (h63 : n + m ≤ maxLen) (hbytes : (n + m) * bytes ≤ 140737488355328) (hbase : base ≤ w.heap.size)
    (h : ∀ v' w', w'.ownsRow base e size v' (n + m) (xs ++ ys) → w.grownBy w' v.ownBlock → (v'.ownBlock = v.ownBlock ∨ v'.ownBlock = some w.heap.size) → wpList P ops Q rest (a.put o.dst v') w') : wpList P ops Q (o :: rest) a w :=
  wpList_plain hgd fun _ hK => wp_append_any w s x t ho base e i z size bytes ht hi hz hsize hby hzs hsz v n xs hs hown xv m ys hx hsrc h1 h63 hbytes hbase fun v' w' h2 h3 h4 => hK _ _ (h v' w' h2 h3 h4)
theorem step_append_any (w : World) {ops : Array Oper} {o : Oper} {a : Act} {K : Act → World → Prop} {Q : Exit → Act → World → Prop} {E : Prop} (hgd : o.guard = none) (s x : Operand) (t : TypeId)
    (ho : o.op = .call { callee := .builtin .append, args := #[s, x], argTypes := #[t, t] })
    (base : Nat) (e : TypeId) (i : TypeInfo) (z : Value) (size bytes : Nat) (ht : P.underlying t = some (.slice e)) (hi : P.info? e = some i) (hz : i.zero = some z)
    (hsize : i.size = size) (hby : i.bytes = bytes) (hzs : z.cells.size = size) (hsz : 0 < size)
    (v : Value) (n : Nat) (xs : List Value) (hs : a.eval s = v) (hown : w.ownsRow base e size v n xs) (xv : Value) (m : Nat) (ys : List Value) (hx : a.eval x = xv) (hsrc : IsSrc w size xv m ys) (h1 : Ones ys)
    (h63 : n + m ≤ maxLen) (hbytes : (n + m) * bytes ≤ 140737488355328) (hbase : base ≤ w.heap.size)
    (h : ∀ v' w', w'.ownsRow base e size v' (n + m) (xs ++ ys) → w.grownBy w' v.ownBlock → (v'.ownBlock = v.ownBlock ∨ v'.ownBlock = some w.heap.size) → K (a.put o.dst v') w') :
    if Region.wanted o (yielded ops a.tmps) = true then Oper.wp P o a w K Q else E := by
  have hw : Region.wanted o (yielded ops a.tmps) = true := by simp [Region.wanted, hgd]
  rw [if_pos hw]
  exact wp_append_any w s x t ho base e i z size bytes ht hi hz hsize hby hzs hsz v n xs hs hown xv m ys hx hsrc h1 h63 hbytes hbase h
end Go.Proofs.Ytfoigflgglpobaa.Aid
/- All keys, by their ends. No condition but that memory holds a store. -/
set_option linter.unusedVariables false
set_option linter.unusedSimpArgs false
namespace Go.Proofs.Ytfoigflgglpobaa.V
open Go.RowKit Go.Proofs.Ytfoigflgglpobaa.Aid Go.Proofs.Ytfoigflgglpobaa.Tr Go.Proofs.Ytfoigflgglpobaa.Kt Go.Proofs.Ytfoigflgglpobaa.Q
theorem infoN2 : (Try.prog.info? 3).map (fun i => (i.zero.map (·.cells.size), i.size, i.bytes)) = some (some 1, 1, 8) := by kernel_rfl
theorem infoN2' : ∃ i z, Try.prog.info? 3 = some i ∧ i.zero = some z ∧ z.cells.size = 1 ∧ i.size = 1 ∧ i.bytes = 8 := by
  have h := infoN2
  cases e : Try.prog.info? 3 with
  | none => rw [e] at h; cases h
  | some i =>
    rw [e] at h
    simp only [Option.map_some, Option.some.injEq, Prod.mk.injEq] at h
    obtain ⟨h1, h2, h3⟩ := h
    cases ez : i.zero with
    | none => rw [ez] at h1; simp at h1
    | some z =>
      rw [ez] at h1
      simp only [Option.map_some, Option.some.injEq] at h1
      exact ⟨i, z, rfl, ez, h1, h2, h3⟩
theorem own_zero (w : World) (base : Nat) (e : TypeId) (size : Nat) : w.ownsRow base e size (.slice none 0 0) 0 [] := ⟨by simp, .inl ⟨rfl, rfl⟩⟩
theorem set2_far {W : World} {b HB : Nat} {u v : Value} (h : b ≠ HB) : ((W.setCell ⟨HB, 0, none⟩ u).setCell ⟨HB, 1, none⟩ v).heap[b]? = W.heap[b]? :=
  (Below.heap_setCell _ ⟨HB, 1, none⟩ v b h).trans (Below.heap_setCell W ⟨HB, 0, none⟩ u b h)
/-- whole numbers as cells -/
def nums (l : List Int) : List Value := l.map (fun k => .int .i64 k)
theorem nums_app (l : List Int) (k : Int) : nums (l ++ [k]) = nums l ++ [.int .i64 k] := by simp [nums]
theorem one_ones (k : Int) : Ones [(Value.int .i64 k : Value)] := fun u hu => by
  have : u = .int .i64 k := by simpa using hu
  subst this; rfl
theorem SIs.lookB {w : World} {q g gl m1 m2 : Nat} {s : TS} {T : Sh} {fl : List Nat} {it : Nat → It} {A B : Value → Option Value} {mo now sq : Int} (h : SIs w q g gl m1 m2 s T fl it A B mo now sq) {x : Nat} (hx : x ∈ T.ino) :
    (Instr.lookup 112 (.map (some m2)) (.agg #[.int .i64 x, .int .i64 (s.f x).turn]) false).run Try.prog w = .ok (.int .i64 (it x).k) w := by
  have hI : I64 ((x : Nat) : Int) := by
    have h1 := h.t.m.sz
    have h2 := h.t.lt x hx
    unfold I64; omega
  have hl := (map_look kHan Try.underlying112 h.b (key_han hI (h.tn x hx)) (zeroN_run w)).2
  have h1 := (h.at_ x hx).2
  unfold hnV at h1
  rw [h1] at hl
  exact hl
def KRel (w0 : World) (base q g gl m1 m2 : Nat) (s : TS) (T : Sh) (fl : List Nat) (it : Nat → It) (A B : Value → Option Value) (mo now sq : Int) (m : Nat) (s5 s6 s7 : Value) (W : World) : Prop :=
  ∃ done rest HB, T.ino = done ++ rest ∧ m = rest.length ∧ W.ownsRow base 3 1 s5 done.length (nums (done.map fun x => (it x).k)) ∧ s6 = .pointer (some ⟨HB, 0, none⟩) ∧ s7 = .bool (decide (rest ≠ [])) ∧ Blk W HB 29 (two_ (hd rest : Nat) (hturn s (hd rest))) ∧ base ≤ HB ∧ (∀ b, s5.ownBlock = some b → b ≠ HB) ∧ SIs W q g gl m1 m2 s T fl it A B mo now sq ∧ Below base w0 W
theorem sf_lt {w0 : World} {base q g gl m1 m2 : Nat} {s : TS} {T : Sh} {fl : List Nat} {it : Nat → It} {A B : Value → Option Value} {mo now sq : Int} (h : SIs w0 q g gl m1 m2 s T fl it A B mo now sq) {b : Nat} (hb : w0.heap.size ≤ b) : ¬ SF q g gl m1 m2 b := fun e => by have := h.foot_lt e; omega
set_option maxHeartbeats 2000000 in
set_option maxRecDepth 100000 in
theorem V_keys {w : World} {P : VP} {row : List It} {mo now M : Int} (h : VHas w P row mo now M) (hmo : mo ≤ 1024) (n : Int) :
    Calls Try.prog 46 #[.pointer (some ⟨P.q, 0, none⟩), .int .i64 n] w fun e w' => (∃ v, e = .returned v ∧ w'.ownsRow w.heap.size 3 1 v (rowN row now n).length (nums ((rowN row now n).map It.k))) ∧ VHas w' P (rowN row now n) mo (max now (cl n)) M ∧ Only P.F w w' := by
  have HC := Lib.hid (show Calls Try.prog 63 #[.pointer (some ⟨P.q, 0, none⟩), .int .i64 n] w fun e w' => e = .returned (.tuple #[]) ∧ VHas w' P (rowN row now n) mo (max now (cl n)) M ∧ Only P.F w w' from V_reach h n)
  clear h
  generalize rowN row now n = row' at HC ⊢
  generalize max now (cl n) = nn at HC ⊢
  go_enter Try.func46, Try.ntmps46
  go_wp2_with fail
  refine HC.out.mono ?_
  rintro e W1 ⟨rfl, h1, o1⟩
  have HV := Lib.hid (And.intro h1 o1)
  clear HC o1
  obtain ⟨s, T, fl, it, A, B, sq, h, hrow, ht⟩ := h1
  have HRW := Lib.hid hrow
  clear hrow ht
  obtain ⟨q0, q1, q2, q3, q4, q5⟩ := h.hc
  have CF := First_row W1 h.t
  obtain ⟨p0, hp0⟩ : ∃ p, ((hd T.ino : Nat) : Int) = p := ⟨_, rfl⟩
  obtain ⟨p1, hp1⟩ : ∃ p, hturn s (hd T.ino) = p := ⟨_, rfl⟩
  have hnd0 : hnd s (hd T.ino) = .agg #[.int .i64 p0, .int .i64 p1] := by rw [← hp0, ← hp1]; rfl
  obtain ⟨ok, hok⟩ : ∃ q, decide (T.ino ≠ []) = q := ⟨_, rfl⟩
  rw [hnd0, hok] at CF
  have HP := Lib.hid (And.intro hp0 (And.intro hp1 hok))
  have HCF := Lib.hid CF
  have H := Lib.hid h
  have HNF := Lib.hid (fun (b : Nat) (hb : W1.heap.size ≤ b) => sf_lt (base := 0) h hb)
  have HLE := Lib.hid (show T.ino.length ≤ 1024 from by
    have h1 := h.t.cnt
    have h2 := h.t.m.sz
    have h3 := h.t.cap
    have h4 := h.most
    omega)
  clear CF hnd0 hp0 hp1 hok h hmo
  go_wp2_with fail
  refine HCF.out.mono ?_
  rintro e W3 ⟨rfl, b3⟩
  clear q0 q1 q2 q3 q4 q5
  have Q3 := (H.out.below b3).alloc (.cells #[.int .i64 p0, .int .i64 p1] 29)
  have B3 := b3.alloc b3.size (.cells #[.int .i64 p0, .int .i64 p1] 29)
  have h3 := Blk.new W3 29 (two_ p0 p1)
  have s3 := b3.size
  unfold two_ at h3
  clear HCF b3
  go_upto_region 6 with fail
  generalize W3.alloc (.cells #[.int .i64 p0, .int .i64 p1] 29) = W4 at Q3 B3 h3 ⊢
  generalize W3.heap.size = HB at h3 s3 ⊢
  have S := Lib.hid (show KRel W1 W1.heap.size P.q P.g P.gl P.m1 P.m2 s T fl it A B mo nn sq T.ino.length (.slice none 0 0) (.pointer (some ⟨HB, 0, none⟩)) (.bool ok) W4 from
    ⟨[], T.ino, HB, rfl, rfl, own_zero _ _ _ _, rfl, by rw [HP.out.2.2], by rw [HP.out.1, HP.out.2.1]; exact h3, s3, fun b hb => (by cases hb), Q3, B3⟩)
  clear Q3 B3 h3 s3
  go_loopg [5, 6, 7] T.ino.length (fun m s5 s6 s7 wr => KRel W1 W1.heap.size P.q P.g P.gl P.m1 P.m2 s T fl it A B mo nn sq m s5 s6 s7 wr)
  case atStart => exact S.out
  case round =>
    obtain ⟨done, rest, HB2, hpo, rfl, ho, rfl, rfl, hbx, hHB, hne, HQ, HBl⟩ := hrel
    clear S HP
    cases rest with
    | nil =>
      rw [show decide (([] : List Nat) ≠ []) = false from rfl]
      have hd0 : T.ino = done := by rw [hpo, List.append_nil]
      rw [← hd0] at ho
      have e1 : row'.length = T.ino.length := by rw [HRW.out, List.length_map]
      have e2 : nums (row'.map It.k) = nums (T.ino.map fun x => (it x).k) := by rw [HRW.out, List.map_map]; rfl
      have HH := Lib.hid (And.intro (HV.out.1.below HBl) (And.intro (HV.out.2.below HBl) (own_mono ho (base' := w.heap.size) HV.out.2.size)))
      rw [← e1, ← e2] at HH
      clear ho hbx hHB hne HQ HBl hpo hd0 e1 e2
      go_wp2_with fail
      go_ret
      exact ⟨⟨_, rfl, HH.out.2.2⟩, HH.out.1, HH.out.2.1⟩
    | cons x rest =>
      rw [show decide (x :: rest ≠ []) = true from rfl]
      have hxT : x ∈ T.ino := by rw [hpo]; simp
      have hx0 := HQ.t.rd.ne0 hxT
      have e1 : hd (x :: rest) = x := rfl
      have e2 : hturn s x = (s.f x).turn := by unfold hturn; rw [if_neg hx0]
      rw [e1, e2] at hbx
      have C2 := fun W hW => Next_row (w := W) (g := P.g) (gl := P.gl) (s := s) (T := T) (fl := fl) hW hpo
      have hn0 : hnd s (hd rest) = .agg #[.int .i64 (hd rest : Nat), .int .i64 (hturn s (hd rest))] := rfl
      simp only [hn0] at C2
      obtain ⟨q0, q1, q2, q3, q4, q5⟩ := HQ.drew.hc
      have l1 := HQ.drew.lookB hxT
      obtain ⟨tx, htx⟩ : ∃ t, (s.f x).turn = t := ⟨_, rfl⟩
      rw [htx] at hbx l1
      simp only [htx] at C2
      obtain ⟨r0, hr0⟩ : ∃ q, ((hd rest : Nat) : Int) = q := ⟨_, rfl⟩
      obtain ⟨r1, hr1⟩ : ∃ q, hturn s (hd rest) = q := ⟨_, rfl⟩
      obtain ⟨ok2, hok2⟩ : ∃ q, decide (rest ≠ []) = q := ⟨_, rfl⟩
      simp only [hr0, hr1, hok2] at C2
      have HC2 := Lib.hid C2
      have HR := Lib.hid (And.intro hr0 (And.intro hr1 (And.intro hok2 hpo)))
      have hlp : done.length + (rest.length + 1) = T.ino.length := by rw [hpo, List.length_append]; rfl
      have hll := HLE.out
      obtain ⟨h0, h1⟩ := two_cells hbx.drew
      obtain ⟨i0, z0, hi0, hz0, hz1, hz2, hz3⟩ := infoN2'
      have hbs := HBl.size
      obtain ⟨kx, hkx⟩ : ∃ k, (it x).k = k := ⟨_, rfl⟩
      rw [hkx] at l1
      have HK := Lib.hid hkx
      have ho1 : ((wr.alloc (.cells #[.int .i64 kx] 3)).drew).ownsRow W1.heap.size 3 1 u5 done.length (nums (done.map fun x => (it x).k)) := own_drewN (own_alloc ho _) 1
      have hy1 : Blk ((wr.alloc (.cells #[.int .i64 kx] 3)).drew) wr.heap.size 3 #[.int .i64 kx] := (Blk.new wr _ _).drew
      have HW := Lib.hid (And.intro HQ (And.intro HBl (And.intro hbx ho)))
      clear C2 hn0 htx HQ hbx hpo e1 e2 hxT hx0 hr0 hr1 hok2 HBl ho hkx
      go_upto_region 8 with fail
      go_region_law (refine step_append_any _ (by rfl) _ _ _ (by rfl) W1.heap.size 3 i0 z0 1 8 Try.underlying89 hi0 hz0 hz2 hz3 hz1 (by decide) u5 done.length (nums (done.map fun x => (it x).k)) (by rfl) (by with_reducible exact ho1) (Value.slice (some ⟨wr.heap.size, 0, none⟩) 1 1) 1 [.int .i64 kx] (by rfl) (by exact src_block hy1 rfl 1) (one_ones kx) (by unfold maxLen; omega) (by omega) (by simp; omega) ?_; intro v2 w2 ho2 hg2 hb2)
      all_goals
        have bb := HW.out
        have b2 : Below W1.heap.size W1 w2 := (below_drewN (bb.2.1.alloc hbs _) 1).grown hg2 (by simp; omega) (fun b hb => (own_block ho1 hb).1)
        have Q2 : SIs w2 P.q P.g P.gl P.m1 P.m2 s T fl it A B mo nn sq := H.out.same fun b hb => b2.block b (H.out.foot_lt hb)
        have x2 : Blk w2 HB2 29 (two_ x tx) := ((bb.2.2.1.alloc (.cells #[.int .i64 kx] 3)).drew).grown hg2 (fun e => hne HB2 e.symm rfl)
        have s2 := b2.size
        have o2 := own_alloc ho2 (.cells #[.int .i64 x, .int .i64 tx] 29)
        have l2' := fun b hb => (own_block (b := b) ho2 hb).2
        have Q5 := (Q2.alloc (.cells #[.int .i64 x, .int .i64 tx] 29)).drew
        have B5 := b2.alloc b2.size (.cells #[.int .i64 x, .int .i64 tx] 29)
        have x5 := (Blk.new w2 29 (two_ x tx)).drew
        unfold two_ at x5
        clear h0 h1 q0 q1 q2 q3 q4 q5 l1 ho1 hy1 HW bb hbs hb2 hg2 b2 Q2 ho2 hne hHB
        obtain ⟨h0, h1⟩ := two_cells x2
        clear x2
        go_upto_region 7 with fail
        clear h0 h1
        generalize w2.alloc (.cells #[.int .i64 x, .int .i64 tx] 29) = W5 at o2 Q5 B5 x5 ⊢
        generalize w2.heap.size = HB5 at l2' x5 s2 ⊢
        obtain ⟨q0, q1, q2, q3, q4, q5⟩ := Q5.hc
        have h0 : W5.drew.cell? ⟨HB5, 0, none⟩ = some (.int .i64 x) := x5.cell 0
        have h1 : W5.drew.cell? ⟨HB5, 1, none⟩ = some (.int .i64 tx) := x5.cell 1
        have HW := Lib.hid (And.intro Q5 (And.intro B5 (And.intro x5 o2)))
        clear Q5 B5 x5 o2 q0 q1 q2 q4 q5
        go_region_with (go_at_call 20; refine (HC2.out _ (by with_reducible exact HW.out.1.t)).mono ?_; rintro e W6 ⟨rfl, b6⟩; have x6 := HW.out.2.2.1.below b6 HW.out.2.2.1.lt; have y0 : W6.cell? ⟨HB5, 0, none⟩ = some (.int .i64 x) := x6.cell 0; have y1 : W6.cell? ⟨HB5, 1, none⟩ = some (.int .i64 tx) := x6.cell 1; have f6 := x6.frozen; clear x6)
        all_goals
          have hs6 : W1.heap.size ≤ HB5 := by omega
          have B5 := below_drewN HW.out.2.1 1
          have x6 := two_set (HW.out.2.2.1.below b6 HW.out.2.2.1.lt) r0 r1
          have Q6 := ((HW.out.1.below b6).far (p := ⟨HB5, 0, none⟩) (HNF.out HB5 hs6) (.int .i64 r0)).far (p := ⟨HB5, 1, none⟩) (HNF.out HB5 hs6) (.int .i64 r1)
          have B6 := ((B5.trans (b6.mono B5.size)).setCell (p := ⟨HB5, 0, none⟩) hs6 (.int .i64 r0)).setCell (p := ⟨HB5, 1, none⟩) hs6 (.int .i64 r1)
          have hv2 : ∀ b, v2.ownBlock = some b → b ≠ HB5 := fun b hb e => by have := l2' b hb; omega
          have o6 := own_same (own_below (own_drewN HW.out.2.2.2 1) b6) (w' := (W6.setCell ⟨HB5, 0, none⟩ (.int .i64 r0)).setCell ⟨HB5, 1, none⟩ (.int .i64 r1)) fun b hb => set2_far (hv2 b hb)
          have et : nums (List.map (fun x => (it x).k) (done ++ [x])) = nums (List.map (fun x => (it x).k) done) ++ [.int .i64 kx] := by rw [List.map_append, List.map_cons, List.map_nil, nums_app, HK.out]
          have el : (done ++ [x]).length = done.length + 1 := by simp
          have HZ := Lib.hid (And.intro x6 (And.intro Q6 (And.intro B6 (And.intro o6 (And.intro et el)))))
          clear y0 y1 f6 h0 h1 q3 x6 Q6 B6 B5 o6 et el HW b6 HC2
          go_wp2_with fail
          go_roundg rest.length
          case measure => simp
          case rel => exact ⟨done ++ [x], rest, HB5, by rw [HR.out.2.2.2]; simp, rfl, by rw [HZ.out.2.2.2.2.1, HZ.out.2.2.2.2.2]; exact HZ.out.2.2.2.1, rfl, by rw [HR.out.2.2.1], by rw [HR.out.1, HR.out.2.1]; exact HZ.out.1, hs6, hv2, HZ.out.2.1, HZ.out.2.2.1⟩
end Go.Proofs.Ytfoigflgglpobaa.V
/- Calls on no store. No condition. -/
set_option linter.unusedVariables false
set_option linter.unusedSimpArgs false
namespace Go.Proofs.Ytfoigflgglpobaa.V
open Go.RowKit Go.Proofs.Ytfoigflgglpobaa.Aid Go.Proofs.Ytfoigflgglpobaa.Tr Go.Proofs.Ytfoigflgglpobaa.Kt Go.Proofs.Ytfoigflgglpobaa.Q
set_option maxHeartbeats 1000000 in
set_option maxRecDepth 100000 in
theorem N_at (n k : Int) (w : World) : Calls Try.prog 68 #[.pointer none, .int .i64 n, .int .i64 k] w fun e w' => e = .returned (.tuple #[.agg #[.int .i64 0, .int .i64 0, .int .i64 0, .int .i64 0], .bool false]) ∧ Below w.heap.size w w' := by
  have hb := Blk.new w 122 #[.int .i64 0, .int .i64 0, .int .i64 0, .int .i64 0]
  have hB := (Below.refl w.heap.size w).alloc (Nat.le_refl _) (.cells #[.int .i64 0, .int .i64 0, .int .i64 0, .int .i64 0] 122)
  go_enter Try.func68, Try.ntmps68
  go_upto_region 1 with fail
  generalize w.alloc (.cells #[.int .i64 0, .int .i64 0, .int .i64 0, .int .i64 0] 122) = W at hb hB ⊢
  obtain ⟨R, hRe⟩ : ∃ R, w.heap.size = R := ⟨_, rfl⟩
  have hRw : w.heap.size ≤ R := by omega
  rw [hRe] at hb ⊢
  clear hRe
  obtain ⟨d0, d1, d2, d3⟩ := bx4 hb
  have fz := hb.frozen
  have R4 := set4_blk hb 0 0 0 0
  obtain ⟨r0, r1, r2, r3⟩ := bx4 R4
  have O4 : Below w.heap.size w (set4 W R 0 0 0 0) := (((hB.setCell (p := ⟨R, 0, none⟩) hRw _).setCell (p := ⟨R, 1, none⟩) hRw _).setCell (p := ⟨R, 2, none⟩) hRw _).setCell (p := ⟨R, 3, none⟩) hRw _
  have FIN := Lib.hid O4
  unfold set4 at r0 r1 r2 r3 FIN
  clear hb hB R4 O4
  go_wp2_with fail
  exact bodyPost_ret (v := .tuple #[.agg #[.int .i64 0, .int .i64 0, .int .i64 0, .int .i64 0], .bool false]) (by simp [results, Try.results68, go_sem, r0, r1, r2, r3]) rfl ⟨rfl, FIN.out⟩
set_option maxHeartbeats 1000000 in
set_option maxRecDepth 100000 in
theorem N_get (n k : Int) (w : World) : Calls Try.prog 41 #[.pointer none, .int .i64 n, .int .i64 k] w fun e w' => e = .returned (.tuple #[.int .i64 0, .bool false]) ∧ Below w.heap.size w w' := by
  have HC := Lib.hid (N_at n k w)
  go_enter Try.func41, Try.ntmps41
  go_wp2_with fail
  refine HC.out.mono ?_
  rintro e W1 ⟨rfl, b1⟩
  have FIN := Lib.hid (b1.alloc b1.size (.cells #[.int .i64 0, .int .i64 0, .int .i64 0, .int .i64 0] 122))
  obtain ⟨c0, c1, c2, c3⟩ := bx4 (Blk.new W1 122 #[.int .i64 0, .int .i64 0, .int .i64 0, .int .i64 0])
  clear HC b1
  go_wp2_with fail
  go_ret2
  exact ⟨rfl, FIN.out⟩
set_option maxHeartbeats 1000000 in
set_option maxRecDepth 100000 in
theorem N_drop (n k : Int) (w : World) : Calls Try.prog 44 #[.pointer none, .int .i64 n, .int .i64 k] w fun e w' => e = .returned (.bool false) ∧ Below w.heap.size w w' := by
  have HC := Lib.hid (N_at n k w)
  go_enter Try.func44, Try.ntmps44
  go_wp2_with fail
  refine HC.out.mono ?_
  rintro e W1 ⟨rfl, b1⟩
  have FIN := Lib.hid (b1.alloc b1.size (.cells #[.int .i64 0, .int .i64 0, .int .i64 0, .int .i64 0] 122))
  clear HC b1
  go_wp2_with fail
  go_ret
  exact ⟨rfl, FIN.out⟩
set_option maxHeartbeats 1000000 in
set_option maxRecDepth 100000 in
theorem N_touch (n k keep : Int) (w : World) : Calls Try.prog 45 #[.pointer none, .int .i64 n, .int .i64 k, .int .i64 keep] w fun e w' => e = .returned (.bool false) ∧ Below w.heap.size w w' := by
  have HC := Lib.hid (N_at n k w)
  go_enter Try.func45, Try.ntmps45
  go_wp2_with fail
  refine HC.out.mono ?_
  rintro e W1 ⟨rfl, b1⟩
  have FIN := Lib.hid (b1.alloc b1.size (.cells #[.int .i64 0, .int .i64 0, .int .i64 0, .int .i64 0] 122))
  clear HC b1
  go_wp2_with fail
  go_ret
  exact ⟨rfl, FIN.out⟩
theorem N_keys (n : Int) (w : World) : Calls Try.prog 46 #[.pointer none, .int .i64 n] w fun e w' => e = .returned (.slice none 0 0) ∧ w = w' := by
  go_enter Try.func46, Try.ntmps46
  go_wp2_with fail
  go_ret
  exact ⟨rfl, rfl⟩
theorem N_next (n : Int) (w : World) : Calls Try.prog 50 #[.pointer none, .int .i64 n] w fun e w' => e = .returned (.int .i64 4611686018427387903) ∧ w = w' := by
  go_enter Try.func50, Try.ntmps50
  go_wp2_with fail
  go_ret
  exact ⟨rfl, rfl⟩
theorem N_len (n : Int) (w : World) : Calls Try.prog 43 #[.pointer none, .int .i64 n] w fun e w' => e = .returned (.int .i64 0) ∧ w = w' := by
  go_enter Try.func43, Try.ntmps43
  go_wp2_with fail
  go_ret
  exact ⟨rfl, rfl⟩
end Go.Proofs.Ytfoigflgglpobaa.V
/- A store that its caller made; ttl's calls whose answers the document fixes. No condition. -/
set_option linter.unusedVariables false
set_option linter.unusedSimpArgs false
namespace Go.Proofs.Ytfoigflgglpobaa.V
open Go.RowKit Go.Proofs.Ytfoigflgglpobaa.Aid Go.Proofs.Ytfoigflgglpobaa.Tr Go.Proofs.Ytfoigflgglpobaa.Kt Go.Proofs.Ytfoigflgglpobaa.Q
structure VSt (w0 W : World) (P : VP) (row : List It) (mo now M : Int) : Prop where
  q : VHas W P row mo now M
  b : Below w0.heap.size w0 W
  f : ∀ b, P.F b → w0.heap.size ≤ b
section
variable {w0 W W' : World} {P : VP} {row row' : List It} {mo now now' M M' : Int}
theorem VSt.call (h : VSt w0 W P row mo now M) (b : Below W.heap.size W W') : VSt w0 W' P row mo now M := ⟨h.q.below b, h.b.trans (b.mono h.b.size), h.f⟩
theorem VSt.alloc (h : VSt w0 W P row mo now M) (o : Obj) : VSt w0 (W.alloc o) P row mo now M := h.call ((Below.refl _ _).alloc (Nat.le_refl _) o)
theorem VSt.drewN (h : VSt w0 W P row mo now M) (n : Nat) : VSt w0 (W.drewN n) P row mo now M := ⟨h.q.drewN n, below_drewN h.b n, h.f⟩
theorem VSt.drew (h : VSt w0 W P row mo now M) : VSt w0 W.drew P row mo now M := h.drewN 1
theorem VSt.goes (h : VSt w0 W P row mo now M) (k : VHas W' P row' mo now' M') (o : Only P.F W W') : VSt w0 W' P row' mo now' M' := ⟨k, Only.under h.b o h.f h.b.size, h.f⟩
end
theorem i64s (n : Int) (h : 0 ≤ n ∧ n ≤ 10) : I64 n := by unfold I64; omega
theorem f1 : insV ⟨7, 70, ad (max (-4611686018427387903) (cl 10)) 5⟩ (delV (mkRoom (rowN [] (-4611686018427387903) 10) 2 7) 7) = [⟨7, 70, 15⟩] ∧ max (-4611686018427387903) (cl 10) = 10 ∧ max (-4611686018427387903) (cl 10) < ad (max (-4611686018427387903) (cl 10)) 5 := ⟨by kernel_rfl, by kernel_rfl, by decide⟩
theorem f2 : rowN [⟨7, 70, 15⟩] 10 14 = [⟨7, 70, 15⟩] ∧ max (10 : Int) (cl 14) = 14 ∧ hasV [⟨7, 70, 15⟩] 7 = true ∧ getV [⟨7, 70, 15⟩] 7 = ⟨7, 70, 15⟩ := ⟨by kernel_rfl, by kernel_rfl, by kernel_rfl, by kernel_rfl⟩
theorem f3 : rowN [⟨7, 70, 15⟩] 14 14 = [⟨7, 70, 15⟩] ∧ max (14 : Int) (cl 14) = 14 ∧ (if hasV [⟨7, 70, 15⟩] 7 then unt 14 15 else 0) = 1 := ⟨by kernel_rfl, by kernel_rfl, by kernel_rfl⟩
theorem f4 : rowN [⟨7, 70, 15⟩] 14 15 = [] ∧ max (14 : Int) (cl 15) = 15 ∧ hasV [] 7 = false ∧ getV [] 7 = ⟨0, 0, 0⟩ := ⟨by kernel_rfl, by kernel_rfl, by kernel_rfl, by kernel_rfl⟩
theorem f5 : insV ⟨1, 10, ad (max 15 (cl 20)) 9⟩ (delV (mkRoom (rowN [] 15 20) 2 1) 1) = [⟨1, 10, 29⟩] ∧ max (15 : Int) (cl 20) = 20 ∧ max (15 : Int) (cl 20) < ad (max 15 (cl 20)) 9 := ⟨by kernel_rfl, by kernel_rfl, by decide⟩
theorem f6 : insV ⟨2, 20, ad (max 20 (cl 20)) 5⟩ (delV (mkRoom (rowN [⟨1, 10, 29⟩] 20 20) 2 2) 2) = [⟨2, 20, 25⟩, ⟨1, 10, 29⟩] ∧ max (20 : Int) (cl 20) = 20 ∧ max (20 : Int) (cl 20) < ad (max 20 (cl 20)) 5 := ⟨by kernel_rfl, by kernel_rfl, by decide⟩
theorem f7 : insV ⟨3, 30, ad (max 20 (cl 20)) 7⟩ (delV (mkRoom (rowN [⟨2, 20, 25⟩, ⟨1, 10, 29⟩] 20 20) 2 3) 3) = [⟨3, 30, 27⟩, ⟨1, 10, 29⟩] ∧ max (20 : Int) (cl 20) < ad (max 20 (cl 20)) 7 := ⟨by kernel_rfl, by decide⟩
theorem f8 : rowN [⟨3, 30, 27⟩, ⟨1, 10, 29⟩] 20 20 = [⟨3, 30, 27⟩, ⟨1, 10, 29⟩] ∧ nums ([⟨3, 30, 27⟩, ⟨1, 10, 29⟩].map It.k) = [.int .i64 3, .int .i64 1] ∧ nextV [⟨3, 30, 27⟩, ⟨1, 10, 29⟩] = 27 := ⟨by kernel_rfl, by kernel_rfl, by kernel_rfl⟩
set_option maxHeartbeats 4000000 in
set_option maxRecDepth 100000 in
theorem vfixed_any (w : World) : Calls Try.prog 38 #[] w fun e w' => e = .returned (.bool true) ∧ Below w.heap.size w w' := by
  go_enter Try.func38, Try.ntmps38
  go_wp2_with fail
  refine (V_new 2 (by omega) (by omega) w).mono ?_
  rintro e W0 ⟨P, rfl, h0, f0, b0⟩
  have L0 := Lib.hid (show VSt w W0 P [] 2 (-4611686018427387903) 0 from ⟨h0, b0, f0⟩)
  clear h0 f0 b0
  have HC := Lib.hid (V_put L0.out.q 10 7 70 5 (i64s _ (by decide)) (by omega) (by omega) (by omega) f1.2.2)
  rw [f1.1, f1.2.1] at HC
  go_wp2_with fail
  refine HC.out.mono ?_
  rintro e W1 ⟨rfl, h1, o1⟩
  have L1 := Lib.hid (L0.out.goes h1 o1)
  clear L0 HC h1 o1
  have HC := Lib.hid (V_get L1.out.q 14 7 (i64s _ (by decide)))
  rw [f2.1, f2.2.1, f2.2.2.1, f2.2.2.2] at HC
  go_wp2_with fail
  refine HC.out.mono ?_
  rintro e W2 ⟨rfl, h1, o1⟩
  have L2 := Lib.hid (L1.out.goes h1 o1)
  clear L1 HC h1 o1
  have HC := Lib.hid (V_left L2.out.q 14 7 (i64s _ (by decide)))
  rw [f3.1, f3.2.1, f2.2.2.2, f3.2.2, f2.2.2.1] at HC
  go_wp2_with fail
  refine HC.out.mono ?_
  rintro e W3 ⟨rfl, h1, o1⟩
  have L3 := Lib.hid (L2.out.goes h1 o1)
  clear L2 HC h1 o1
  have HC := Lib.hid (V_get L3.out.q 15 7 (i64s _ (by decide)))
  rw [f4.1, f4.2.1, f4.2.2.1, f4.2.2.2] at HC
  go_wp2_with fail
  refine HC.out.mono ?_
  rintro e W4 ⟨rfl, h1, o1⟩
  have L4 := Lib.hid (L3.out.goes h1 o1)
  clear L3 HC h1 o1
  have HC := Lib.hid (V_put L4.out.q 20 1 10 9 (i64s _ (by decide)) (by omega) (by omega) (by omega) f5.2.2)
  rw [f5.1, f5.2.1] at HC
  go_wp2_with fail
  refine HC.out.mono ?_
  rintro e W5 ⟨rfl, h1, o1⟩
  have L5 := Lib.hid (L4.out.goes h1 o1)
  clear L4 HC h1 o1
  have HC := Lib.hid (V_put L5.out.q 20 2 20 5 (i64s _ (by decide)) (by omega) (by omega) (by omega) f6.2.2)
  rw [f6.1, f6.2.1] at HC
  go_wp2_with fail
  refine HC.out.mono ?_
  rintro e W6 ⟨rfl, h1, o1⟩
  have L6 := Lib.hid (L5.out.goes h1 o1)
  clear L5 HC h1 o1
  have HC := Lib.hid (V_put L6.out.q 20 3 30 7 (i64s _ (by decide)) (by omega) (by omega) (by omega) f7.2)
  rw [f7.1, f6.2.1] at HC
  go_wp2_with fail
  refine HC.out.mono ?_
  rintro e W7 ⟨rfl, h1, o1⟩
  have L7 := Lib.hid (L6.out.goes h1 o1)
  clear L6 HC h1 o1
  have HC := Lib.hid (V_keys L7.out.q (by omega) 20)
  rw [f8.1, f6.2.1, f8.2.1] at HC
  go_wp2_with fail
  refine HC.out.mono ?_
  rintro e W8 ⟨⟨v, rfl, ho⟩, h1, o1⟩
  obtain ⟨q, cap, rfl, hq⟩ := own_form ho (by decide)
  have k0 : W8.cell? ⟨q, 0, none⟩ = some (.int .i64 3) := own_cell (j := 0) ho rfl
  have k1 : W8.cell? ⟨q, 1, none⟩ = some (.int .i64 1) := own_cell (j := 1) ho rfl
  have L8 := Lib.hid (L7.out.goes h1 o1)
  clear L7 HC h1 o1 ho hq
  have HC := Lib.hid (V_next L8.out.q 20)
  rw [f8.1, f6.2.1, f8.2.2] at HC
  go_wp2_with fail
  refine HC.out.mono ?_
  rintro e W9 ⟨rfl, h1, o1⟩
  have L9 := Lib.hid (L8.out.goes h1 o1)
  clear L8 HC h1 o1 k0 k1
  go_wp2_with fail
  refine (V_put_bad P 20 1 1 0 (by omega) _).mono ?_
  rintro e W10 ⟨rfl, rfl⟩
  go_wp2_with fail
  refine (V_new_bad 0 (by omega) _).mono ?_
  rintro e W10 ⟨rfl, rfl⟩
  go_wp2_with fail
  refine (V_put_nil 1 1 1 1 _).mono ?_
  rintro e W10 ⟨rfl, rfl⟩
  go_wp2_with fail
  refine (N_next 1 _).mono ?_
  rintro e W10 ⟨rfl, rfl⟩
  go_wp2_with fail
  refine (N_len 1 _).mono ?_
  rintro e W10 ⟨rfl, rfl⟩
  go_wp2_with fail
  go_ret
  exact ⟨rfl, L9.out.b⟩
end Go.Proofs.Ytfoigflgglpobaa.V
/- Rows of the law's items: the cells of a row, and of an item in it. No program in sight. -/
set_option linter.unusedVariables false
set_option linter.unusedSimpArgs false
namespace Go.Proofs.Ytfoigflgglpobaa.V
open Go.RowKit Go.Proofs.Ytfoigflgglpobaa.Aid Go.Proofs.Ytfoigflgglpobaa.Tr
def It.list (a : It) : List Value := [.int .i64 a.k, .int .i64 a.v, .int .i64 a.e]
def ivc (l : List It) : List Value := l.flatMap It.list
theorem ivc_len (l : List It) : (ivc l).length = l.length * 3 := by
  induction l with
  | nil => rfl
  | cons a l ih => simp only [ivc, List.flatMap_cons, List.length_append, List.length_cons, It.list] at ih ⊢; simp only [List.length_nil]; omega
theorem ivc_app (l k : List It) : ivc (l ++ k) = ivc l ++ ivc k := by simp [ivc]
theorem ivc_ones (l : List It) : Ones (ivc l) := fun u hu => by
  obtain ⟨a, _, ha⟩ := List.mem_flatMap.1 hu
  simp only [It.list, List.mem_cons, List.not_mem_nil, or_false] at ha
  rcases ha with rfl | rfl | rfl <;> rfl
theorem iv_ones (a : It) : Ones a.list := fun u ha => by
  simp only [It.list, List.mem_cons, List.not_mem_nil, or_false] at ha
  rcases ha with rfl | rfl | rfl <;> rfl
theorem ivc_at : ∀ (l : List It) (j : Nat) (a : It), l[j]? = some a → (ivc l)[j * 3]? = some (.int .i64 a.k) ∧ (ivc l)[j * 3 + 1]? = some (.int .i64 a.v) ∧ (ivc l)[j * 3 + 2]? = some (.int .i64 a.e) := by
  intro l
  induction l with
  | nil => intro j e h; simp at h
  | cons b l ih =>
    intro j a h
    cases j with
    | zero =>
      simp only [List.getElem?_cons_zero, Option.some.injEq] at h
      subst h
      exact ⟨rfl, rfl, rfl⟩
    | succ j =>
      simp only [List.getElem?_cons_succ] at h
      obtain ⟨h1, h2, h3⟩ := ih j a h
      have e1 : ivc (b :: l) = b.list ++ ivc l := rfl
      have e2 : ∀ i, (ivc (b :: l))[i + 3]? = (ivc l)[i]? := fun i => by
        rw [e1, List.getElem?_append_right (by simp [It.list])]
        simp [It.list]
      refine ⟨?_, ?_, ?_⟩
      · rw [show (j + 1) * 3 = j * 3 + 3 by omega, e2]; exact h1
      · rw [show (j + 1) * 3 + 1 = j * 3 + 1 + 3 by omega, e2]; exact h2
      · rw [show (j + 1) * 3 + 2 = j * 3 + 2 + 3 by omega, e2]; exact h3
theorem ivc_take (l : List It) (k : Nat) : (ivc l).take (k * 3) = ivc (l.take k) := by
  induction l generalizing k with
  | nil => simp [ivc]
  | cons b l ih =>
    cases k with
    | zero => simp [ivc]
    | succ k =>
      have e1 : ivc (b :: l) = b.list ++ ivc l := rfl
      rw [e1, show (k + 1) * 3 = b.list.length + k * 3 by simp [It.list]; omega, List.take_length_add_append, ih]
      rfl
theorem ivc_drop (l : List It) (k : Nat) : (ivc l).drop (k * 3) = ivc (l.drop k) := by
  induction l generalizing k with
  | nil => simp [ivc]
  | cons b l ih =>
    cases k with
    | zero => simp [ivc]
    | succ k =>
      have e1 : ivc (b :: l) = b.list ++ ivc l := rfl
      rw [e1, show (k + 1) * 3 = b.list.length + k * 3 by simp [It.list]; omega, List.drop_length_add_append, ih]
      rfl
theorem infoItm : (Try.prog.info? 95).map (fun i => (i.zero.map (·.cells.size), i.size, i.bytes)) = some (some 3, 3, 24) := by kernel_rfl
theorem infoItm' : ∃ i z, Try.prog.info? 95 = some i ∧ i.zero = some z ∧ z.cells.size = 3 ∧ i.size = 3 ∧ i.bytes = 24 := by
  have h := infoItm
  cases e : Try.prog.info? 95 with
  | none => rw [e] at h; cases h
  | some i =>
    rw [e] at h
    simp only [Option.map_some, Option.some.injEq, Prod.mk.injEq] at h
    obtain ⟨h1, h2, h3⟩ := h
    cases ez : i.zero with
    | none => rw [ez] at h1; simp at h1
    | some z =>
      rw [ez] at h1
      simp only [Option.map_some, Option.some.injEq] at h1
      exact ⟨i, z, rfl, ez, h1, h2, h3⟩
/-- a slice that reads these items; where it lies in its block does not matter -/
def IRow (w : World) (base : Nat) (v : Value) (l : List It) : Prop :=
  ∃ A cap, v = .slice A l.length cap ∧ l.length ≤ cap ∧ ((A = none ∧ l = [] ∧ cap = 0) ∨ ∃ g k, A = some ⟨g, k, none⟩ ∧ base ≤ g ∧ g < w.heap.size ∧ ∀ j u, (ivc l)[j]? = some u → w.cell? ⟨g, k + j, none⟩ = some u)
section
variable {w w' : World} {base : Nat} {v : Value} {l : List It}
theorem irl_own (h : w.ownsRow base 95 3 v l.length (ivc l)) : IRow w base v l := by
  have h0 := h
  obtain ⟨hl, ⟨rfl, h1⟩ | ⟨g, cap, cur, rfl, h1, h2, h3, h4, h5, h6⟩⟩ := h
  · have : l = [] := List.length_eq_zero_iff.1 h1
    subst this
    exact ⟨none, 0, rfl, Nat.le_refl _, .inl ⟨rfl, rfl, rfl⟩⟩
  · refine ⟨_, cap, rfl, h3, .inr ⟨g, 0, rfl, h1, (own_block h0 rfl).2, fun j u hu => ?_⟩⟩
    rw [Nat.zero_add]
    exact own_cell h0 hu
theorem irl_nil (w : World) (base : Nat) : IRow w base (.slice none 0 0) [] := ⟨none, 0, rfl, Nat.le_refl _, .inl ⟨rfl, rfl, rfl⟩⟩
theorem irl_block (h : IRow w base v l) {b : Nat} (hb : v.ownBlock = some b) : base ≤ b ∧ b < w.heap.size := by
  obtain ⟨A, cap, rfl, _, ⟨rfl, _, _⟩ | ⟨g, k, rfl, h1, h2, _⟩⟩ := h
  · cases hb
  · injection hb with hb; subst hb; exact ⟨h1, h2⟩
theorem irl_same (h : IRow w base v l) (k : ∀ b, v.ownBlock = some b → w'.heap[b]? = w.heap[b]?) : IRow w' base v l := by
  obtain ⟨A, cap, rfl, h0, ⟨rfl, h1, h2⟩ | ⟨g, o, rfl, h1, h2, h3⟩⟩ := h
  · exact ⟨none, cap, rfl, h0, .inl ⟨rfl, h1, h2⟩⟩
  · have e := k g rfl
    refine ⟨_, cap, rfl, h0, .inr ⟨g, o, rfl, h1, ?_, fun j u hu => ?_⟩⟩
    · rw [Array.getElem?_eq_getElem h2] at e
      exact (Array.getElem?_eq_some_iff.1 e).1
    · rw [← h3 j u hu]; exact World.cell?_of_block e
theorem irl_below (h : IRow w base v l) (o : Below w.heap.size w w') : IRow w' base v l := irl_same h fun b hb => o.block b (irl_block h hb).2
theorem irl_alloc (h : IRow w base v l) (o : Obj) : IRow (w.alloc o) base v l := irl_below h ((Below.refl _ _).alloc (Nat.le_refl _) o)
theorem irl_drewN (h : IRow w base v l) (k : Nat) : IRow (w.drewN k) base v l := irl_same h fun _ _ => rfl
theorem irl_only {S : Nat → Prop} (h : IRow w base v l) (o : Only S w w') (hs : ∀ b, base ≤ b → ¬ S b) : IRow w' base v l := irl_same h fun b hb => o.block b (irl_block h hb).2 (hs b (irl_block h hb).1)
theorem irl_parts (h : IRow w base v l) : ∃ A cap, v = .slice A l.length cap ∧ ∀ j, j < l.length → ∃ q k, A = some ⟨q, k, none⟩ := by
  obtain ⟨A, cap, rfl, _, ⟨rfl, rfl, _⟩ | ⟨g, k, rfl, _⟩⟩ := h
  · exact ⟨none, cap, rfl, fun j hj => absurd hj (Nat.not_lt_zero _)⟩
  · exact ⟨_, cap, rfl, fun j hj => ⟨g, k, rfl⟩⟩
theorem irl_cell {q k n cap : Nat} (h : IRow w base (.slice (some ⟨q, k, none⟩) n cap) l) {j : Nat} {u : Value} (hu : (ivc l)[j]? = some u) : w.cell? ⟨q, k + j, none⟩ = some u := by
  obtain ⟨A, cap', e, _, ⟨rfl, rfl, _⟩ | ⟨g, o, rfl, _, _, h3⟩⟩ := h
  · cases hu
  · injection e with e _ _
    injection e with e
    injection e with e1 e2 _
    subst e1 e2
    exact h3 j u hu
/-- the cells of an item in it -/
theorem irl_it {q k n cap : Nat} (h : IRow w base (.slice (some ⟨q, k, none⟩) n cap) l) {j : Nat} {a : It} (hj : l[j]? = some a) :
    w.cell? ⟨q, k + j * 3, none⟩ = some (.int .i64 a.k) ∧ w.cell? ⟨q, k + j * 3 + 1, none⟩ = some (.int .i64 a.v) ∧ w.cell? ⟨q, k + j * 3 + 2, none⟩ = some (.int .i64 a.e) := by
  obtain ⟨f0, f1, f2⟩ := ivc_at l j a hj
  exact ⟨irl_cell h f0, irl_cell h f1, irl_cell h f2⟩
theorem irl_cap {A : Option Addr} {n cap : Nat} (h : IRow w base (.slice A n cap) l) : n = l.length ∧ l.length ≤ cap := by
  obtain ⟨A', cap', e, h1, _⟩ := h
  injection e with e1 e2 e3
  subst e1 e2 e3
  exact ⟨rfl, h1⟩
theorem irl_mono {base' : Nat} (h : IRow w base v l) (hb : base' ≤ base) : IRow w base' v l := by
  obtain ⟨A, cap, rfl, h0, h1 | ⟨g, o, rfl, h1, h2, h3⟩⟩ := h
  · exact ⟨A, cap, rfl, h0, .inl h1⟩
  · exact ⟨_, cap, rfl, h0, .inr ⟨g, o, rfl, Nat.le_trans hb h1, h2, h3⟩⟩
/-- l[:k], as the model writes it -/
theorem irl_to {A : Option Addr} {n cap k : Nat} (h : IRow w base (.slice A n cap) l) (hk : k ≤ l.length) : IsSrc w 3 (.slice A k cap) k ((ivc l).take (k * 3)) := by
  have hl := ivc_len l
  obtain ⟨A', cap', e, h0, ⟨rfl, rfl, rfl⟩ | ⟨g, o, rfl, _, _, h3⟩⟩ := h
  · injection e with e1 e2 e3
    subst e1 e2 e3
    obtain rfl : k = 0 := by simpa using hk
    exact .inl ⟨rfl, rfl, rfl⟩
  · injection e with e1 e2 e3
    subst e1 e2 e3
    refine .inr ⟨_, _, rfl, by rw [List.length_take]; omega, fun j u hu => ?_⟩
    rw [add0]
    rw [List.getElem?_take] at hu
    split at hu
    · exact h3 j u hu
    · cases hu
/-- l[k:], as the model writes it -/
theorem irl_from {A : Option Addr} {n cap k : Nat} (h : IRow w base (.slice A n cap) l) (hk : k ≤ l.length) : IsSrc w 3 (.slice (if cap = k then A else Option.map (fun x => x.add (k * 3)) A) (n - k) (cap - k)) (n - k) ((ivc l).drop (k * 3)) := by
  have hl := ivc_len l
  obtain ⟨A', cap', e, h0, ⟨rfl, rfl, rfl⟩ | ⟨g, o, rfl, _, _, h3⟩⟩ := h
  · injection e with e1 e2 e3
    subst e1 e2 e3
    obtain rfl : k = 0 := by simpa using hk
    exact .inl ⟨by simp, rfl, rfl⟩
  · injection e with e1 e2 e3
    subst e1 e2 e3
    by_cases hc : cap = k
    · rw [if_pos hc]
      refine .inr ⟨_, _, rfl, by rw [List.length_drop, hl]; omega, fun j u hu => ?_⟩
      rw [List.getElem?_drop, List.getElem?_eq_none (by omega)] at hu
      cases hu
    · rw [if_neg hc]
      refine .inr ⟨(⟨g, o, none⟩ : Addr).add (k * 3), _, rfl, by rw [List.length_drop, hl]; omega, fun j u hu => ?_⟩
      rw [add0, add0, Nat.add_assoc]
      rw [List.getElem?_drop] at hu
      exact h3 _ u hu
/-- the row without its first ones -/
theorem irl_drop {A : Option Addr} {n cap k : Nat} (h : IRow w base (.slice A n cap) l) (hk : k ≤ l.length) : IRow w base (.slice (if cap = k then A else Option.map (fun x => x.add (k * 3)) A) (n - k) (cap - k)) (l.drop k) := by
  have hl := ivc_len l
  obtain ⟨A', cap', e, h0, ⟨rfl, rfl, rfl⟩ | ⟨g, o, rfl, h1, h2, h3⟩⟩ := h
  · injection e with e1 e2 e3
    subst e1 e2 e3
    obtain rfl : k = 0 := by simpa using hk
    exact ⟨none, 0, by simp, Nat.le_refl _, .inl ⟨rfl, rfl, rfl⟩⟩
  · injection e with e1 e2 e3
    subst e1 e2 e3
    refine ⟨_, cap - k, by rw [List.length_drop], by rw [List.length_drop]; omega, .inr ?_⟩
    by_cases hc : cap = k
    · rw [if_pos hc]
      refine ⟨g, o, rfl, h1, h2, fun j u hu => ?_⟩
      rw [← ivc_drop, List.getElem?_drop, List.getElem?_eq_none (by omega)] at hu
      cases hu
    · rw [if_neg hc]
      refine ⟨g, o + k * 3, by show some ((⟨g, o, none⟩ : Addr).add (k * 3)) = _; rw [add0], h1, h2, fun j u hu => ?_⟩
      rw [Nat.add_assoc]
      rw [← ivc_drop, List.getElem?_drop] at hu
      exact h3 _ u hu
end
end Go.Proofs.Ytfoigflgglpobaa.V
