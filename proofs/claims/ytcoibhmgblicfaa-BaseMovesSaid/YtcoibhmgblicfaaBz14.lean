/- Lemmas and contracts for RowBaseMoves, merged by program out of Bi, Ktm, Ktr. No condition. -/
import Derived.Test.YtcoibhmgblicfaaBz12
import Derived.Test.YtcoibhmgblicfaaBz6
import Derived.Deep.RegionLaw
set_option linter.unusedVariables false
set_option linter.unusedSimpArgs false
/- Base's All. No condition but that memory holds a base. -/
set_option linter.unusedVariables false
set_option linter.unusedSimpArgs false
namespace Go.Proofs.Ytcoibhmgblicfaa.Ba
open Go.RowKit Go.Proofs.Ytcoibhmgblicfaa.Aid Go.Proofs.Ytcoibhmgblicfaa.Tr Go.Proofs.Ytcoibhmgblicfaa.Kt Go.Proofs.Ytcoibhmgblicfaa.Q
/-- the rows of the first queues, one behind another -/
def rowsU (rows : Nat → List Tm) : Nat → List Tm
  | 0 => []
  | i + 1 => rowsU rows i ++ rows i
theorem rowsU_len (rows : Nat → List Tm) : ∀ i, (rowsU rows i).length = lenU rows i
  | 0 => rfl
  | i + 1 => by show (rowsU rows i ++ rows i).length = lenU rows i + _; rw [List.length_append, rowsU_len]
/-- a growing row: its box at g, its own block behind it -/
structure Grows (W : World) (g : Nat) (v : Value) (l : List Tm) : Prop where
  b : Blk W g 27 #[v]
  o : W.ownsRow (g + 1) 29 5 v l.length (tmc l)
theorem Grows.below {W W' : World} {g : Nat} {v : Value} {l : List Tm} (h : Grows W g v l) (k : Below W.heap.size W W') : Grows W' g v l := ⟨h.b.below k h.b.lt, own_below h.o k⟩
theorem Grows.drew {W : World} {g : Nat} {v : Value} {l : List Tm} (h : Grows W g v l) : Grows W.drew g v l := ⟨h.b.drew, own_drewN h.o 1⟩
theorem Grows.alloc {W : World} {g : Nat} {v : Value} {l : List Tm} (h : Grows W g v l) (x : Obj) : Grows (W.alloc x) g v l := h.below ((Below.refl _ _).alloc (Nat.le_refl _) x)
theorem Grows.only {W W' : World} {S : Nat → Prop} {g : Nat} {v : Value} {l : List Tm} (h : Grows W g v l) (o : Only S W W') (hs : ∀ x, g ≤ x → ¬ S x) : Grows W' g v l :=
  ⟨o.blk h.b (hs g (Nat.le_refl _)), own_same h.o fun b hb => o.block b (own_block h.o hb).2 (hs b (by have := (own_block h.o hb).1; omega))⟩
theorem Grows.put {W W' : World} {g : Nat} {v v' : Value} {l l' : List Tm} (h : Grows W g v l) (ho : W'.ownsRow (g + 1) 29 5 v' l'.length (tmc l')) (hg : W.grownBy W' v.ownBlock) : Grows (W'.setCell ⟨g, 0, none⟩ v') g v' l' := by
  have hv : v.ownBlock ≠ some g := fun e => by have := (own_block h.o e).1; omega
  have b1 := (h.b.grown hg (fun e => hv e.symm)).set_ 0 v'
  refine ⟨b1, own_same ho fun b hb => Below.heap_setCell _ _ _ b fun e => ?_⟩
  have := (own_block ho hb).1
  rw [e] at this
  simp at this
  omega
theorem Grows.grown {W W' : World} {g : Nat} {v : Value} {l : List Tm} (h : Grows W g v l) (hg : W.grownBy W' v.ownBlock) : Blk W' g 27 #[v] :=
  h.b.grown hg fun e => by have := (own_block h.o e.symm).1; omega
theorem own_parts {w : World} {base n : Nat} {v : Value} {e : TypeId} {size : Nat} {xs : List Value} (h : w.ownsRow base e size v n xs) : ∃ A cap, v = .slice A n cap := by
  obtain ⟨hl, ⟨rfl, h1⟩ | ⟨g, cap, cur, rfl, _⟩⟩ := h
  · exact ⟨none, 0, by rw [h1]⟩
  · exact ⟨_, _, rfl⟩
set_option maxHeartbeats 2000000 in
set_option maxRecDepth 100000 in
theorem all1_any (w : World) {P : QP} {row l : List Tm} {M : Int} (h : QHas w P row M) (i k : Int) (g : Nat) (v : Value) (hg : Grows w g v l) (hl : l.length ≤ 1000) :
    Calls Try.prog 31 #[.int .i64 i, .int .i64 k, P.v, .pointer (some ⟨g, 0, none⟩)] w fun e w' => e = .returned (.bool true) ∧ (∃ v', Grows w' g v' (l ++ row)) ∧ Below g w w' := by
  have hrl := h.len
  have C := Lib.hid (fun W (H : QHas W P row M) => QHas_all H)
  have H := Lib.hid h.drew
  have HG := Lib.hid hg
  have c0 := hg.b.drew.cell 0
  have z0 := hg.b.drew.frozen 0
  obtain ⟨i0, y0, hi0, hz0, hz1, hz2, hz3⟩ := infoTm'
  clear hg h
  go_enter Try.func31, Try.ntmps31
  go_upto_region 1 with fail
  go_region_law (first
    | (go_simp; refine (C.out _ H.out).mono ?_; rintro e W1 ⟨v1, rfl, o1, b1⟩; have G1 := HG.out.drew.below b1; have c1 := G1.b.cell 0; have z1 := G1.b.frozen 0)
    | (refine step_append_any _ (by rfl) _ _ _ (by rfl) (g + 1) 29 i0 y0 5 40 Try.underlying27 hi0 hz0 hz2 hz3 hz1 (by decide) v l.length (tmc l) (by rfl) (by with_reducible exact G1.o) v1 row.length (tmc row) (by rfl) (by with_reducible exact src_own o1) (tmc_ones _) (by unfold maxLen; omega) (by omega) (by have := G1.b.lt; omega) ?_; intro v2 w2 ho2 hg2 hb2; obtain ⟨A2, p2, rfl⟩ := own_parts ho2; have G2 := G1.grown hg2; have c2 := G2.cell 0; have z2 := G2.frozen 0))
  all_goals
    have e1 : l.length + row.length = (l ++ row).length := by rw [List.length_append]
    have G3 := G1.put (l' := l ++ row) (v' := .slice A2 (l.length + row.length) p2) (by rw [← e1, tmc_app]; exact ho2) hg2
    have B3 : Below g w (w2.setCell ⟨g, 0, none⟩ (.slice A2 (l.length + row.length) p2)) := by
      have k1 : Below g w w.drew := below_drewN (Below.refl g w) 1
      have hgl : g ≤ W1.heap.size := by have := G1.b.lt; omega
      have k2 := k1.trans (b1.mono (Nat.le_of_lt HG.out.drew.b.lt))
      have k3 := k2.grown hg2 hgl (fun b hb => by have := (own_block G1.o hb).1; omega)
      exact k3.setCell (p := ⟨g, 0, none⟩) (Nat.le_refl _) _
    have FIN := Lib.hid (And.intro G3 B3)
    clear G3 B3 G1 G2 c0 c1 c2 z0 z1 z2 ho2 hg2 hb2 o1 b1 HG H
    go_wp2_with fail
    go_ret
    exact ⟨rfl, ⟨_, FIN.out.1⟩, FIN.out.2⟩
set_option maxHeartbeats 1000000 in
set_option maxRecDepth 100000 in
theorem all_any (w : World) {b : Nat} {P : Nat → QP} {rows : Nat → List Tm} {M : Int} (h : BHas w b P rows M) :
    Calls Try.prog 13 #[.pointer (some ⟨b, 0, none⟩)] w fun e w' => ∃ v, e = .returned v ∧ w'.ownsRow (w.heap.size + 1) 29 5 v (rowsU rows 6).length (tmc (rowsU rows 6)) ∧ Below w.heap.size w w' := by
  have b2 := Blk.new w 27 #[.slice none 0 0]
  have B2 := (Below.refl w.heap.size w).alloc (Nat.le_refl _) (.cells #[.slice none 0 0] 27)
  have h2 := h.below B2
  have EA := each_any b P 31 #[.pointer (some ⟨w.heap.size, 0, none⟩)]
    (fun i W => BHas W b P rows M ∧ Below w.heap.size w W ∧ ∃ v, Grows W w.heap.size v (rowsU rows i))
    (fun W => False)
    (w.alloc (.cells #[.slice none 0 0] 27))
    (Go.Proofs.enters_of Try.func31 (by kernel_rfl) rfl)
    (fun i W hJ => hJ.1.bb)
    (by
      rintro i hi W ⟨j1, j2, v, j3⟩
      have hle := lenU_le h i (by omega)
      rw [← rowsU_len] at hle
      refine (all1_any W (j1.q i hi) _ _ _ v j3 (by omega)).mono ?_
      rintro e W' ⟨rfl, ⟨v', k1⟩, k2⟩
      exact .inl ⟨rfl, j1.same fun x hx => k2.block x (h.foot_lt hx), j2.trans k2, v', k1⟩)
    ⟨h2, B2, _, b2, own_zero _ _ _ _⟩
  have EH := Lib.hid EA
  clear EA h2 B2 b2 h
  go_enter Try.func13, Try.ntmps13
  go_wp2_with fail
  refine EH.out.mono ?_
  rintro e W3 ⟨rfl, ⟨_, k1, v, k2⟩ | k1⟩
  · have c0 := k2.b.cell 0
    have o1 := k2.o
    obtain ⟨A1, p1, rfl⟩ := own_parts o1
    have FIN := Lib.hid (And.intro k1 o1)
    clear EH k1 k2 o1
    go_wp2_with fail
    go_ret
    exact ⟨_, rfl, FIN.out.2, FIN.out.1⟩
  · exact absurd k1 id
end Go.Proofs.Ytcoibhmgblicfaa.Ba
/- The contracts of ktime.Mul and of the reference's Mul: both are the clamped product, for any numbers that an int holds. No other condition. -/
set_option linter.unusedVariables false
set_option linter.unusedSimpArgs false
namespace Go.Proofs.Ytcoibhmgblicfaa.Kt
open Go.RowKit Go.Proofs.Ytcoibhmgblicfaa.Aid
theorem and_low (a : Int) (h1 : 0 ≤ a) (h2 : a < 18446744073709551616) : Go.bits .and .u64 a 4294967295 = a % 4294967296 := by
  rw [u64_and a 4294967295 h1 h2 (by omega) (by omega)]
  have e : (4294967295 : Int).toNat = 2 ^ 32 - 1 := by decide
  rw [e, Nat.and_two_pow_sub_one_eq_mod]
  omega
theorem mul_bd {a b : Int} (h1 : 0 ≤ a) (h2 : a ≤ 4294967295) (h3 : 0 ≤ b) (h4 : b ≤ 4294967295) : 0 ≤ a * b ∧ a * b ≤ 18446744065119617025 := by
  refine ⟨Int.mul_nonneg h1 h3, ?_⟩
  have := Int.mul_le_mul h2 h4 h3 (by omega)
  omega
theorem mul_parts (ah al bh bl : Int) : (ah * 4294967296 + al) * (bh * 4294967296 + bl) = (ah * bh) * 18446744073709551616 + ((ah * bl) + (al * bh)) * 4294967296 + al * bl := by
  have e : (18446744073709551616 : Int) = 4294967296 * 4294967296 := by decide
  rw [e]
  generalize (4294967296 : Int) = K
  simp only [Int.add_mul, Int.mul_add]
  have h1 : ah * K * (bh * K) = ah * bh * (K * K) := by
    rw [Int.mul_assoc, Int.mul_assoc]; congr 1; rw [← Int.mul_assoc, Int.mul_comm K bh, Int.mul_assoc]
  have h2 : ah * K * bl = ah * bl * K := by rw [Int.mul_assoc, Int.mul_comm K bl, ← Int.mul_assoc]
  have h3 : al * (bh * K) = al * bh * K := by rw [← Int.mul_assoc]
  rw [h1, h2, h3]
  omega
/-- what the library's text reckons -/
def m64 (a0 a1 : Int) : Int × Int := (IntKind.u64.wrap ((IntKind.u64.wrap ((IntKind.u64.wrap ((a0 / 4294967296) * (a1 / 4294967296))) + ((IntKind.u64.wrap ((IntKind.u64.wrap ((a0 / 4294967296) * (Go.bits .and .u64 a1 4294967295))) + ((IntKind.u64.wrap ((Go.bits .and .u64 a0 4294967295) * (Go.bits .and .u64 a1 4294967295))) / 4294967296))) / 4294967296))) + ((IntKind.u64.wrap ((Go.bits .and .u64 (IntKind.u64.wrap ((IntKind.u64.wrap ((a0 / 4294967296) * (Go.bits .and .u64 a1 4294967295))) + ((IntKind.u64.wrap ((Go.bits .and .u64 a0 4294967295) * (Go.bits .and .u64 a1 4294967295))) / 4294967296))) 4294967295) + (IntKind.u64.wrap ((Go.bits .and .u64 a0 4294967295) * (a1 / 4294967296))))) / 4294967296)), IntKind.u64.wrap (a0 * a1))
theorem m64_eq (a b : Int) (a0 : 0 ≤ a) (a1 : a < 18446744073709551616) (b0 : 0 ≤ b) (b1 : b < 18446744073709551616) :
    m64 a b = (a * b / 18446744073709551616, a * b % 18446744073709551616) := by
  unfold m64
  simp only [IntKind.wrap_u64]
  rw [and_low a a0 a1, and_low b b0 b1]
  have hal : 0 ≤ a % 4294967296 ∧ a % 4294967296 ≤ 4294967295 := by omega
  have hbl : 0 ≤ b % 4294967296 ∧ b % 4294967296 ≤ 4294967295 := by omega
  have hah : 0 ≤ a / 4294967296 ∧ a / 4294967296 ≤ 4294967295 := by omega
  have hbh : 0 ≤ b / 4294967296 ∧ b / 4294967296 ≤ 4294967295 := by omega
  have hab := mul_parts (a / 4294967296) (a % 4294967296) (b / 4294967296) (b % 4294967296)
  rw [show a / 4294967296 * 4294967296 + a % 4294967296 = a by omega, show b / 4294967296 * 4294967296 + b % 4294967296 = b by omega] at hab
  have p1 := mul_bd hah.1 hah.2 hbh.1 hbh.2
  have p2 := mul_bd hah.1 hah.2 hbl.1 hbl.2
  have p3 := mul_bd hal.1 hal.2 hbl.1 hbl.2
  have p4 := mul_bd hal.1 hal.2 hbh.1 hbh.2
  rw [hab]
  clear hab
  generalize a / 4294967296 * (b / 4294967296) = x1 at *
  generalize a / 4294967296 * (b % 4294967296) = x2 at *
  generalize a % 4294967296 * (b % 4294967296) = x3 at *
  generalize a % 4294967296 * (b / 4294967296) = x4 at *
  rw [and_low _ (by omega) (by omega)]
  refine Prod.ext ?_ ?_ <;> simp only <;> omega
def siz (x : Int) : Int := if x < 0 then -x else x
def hi64 (p : Int) : Int := p / 18446744073709551616
def lo64 (p : Int) : Int := p % 18446744073709551616
theorem lo64_bd (p : Int) : 0 ≤ lo64 p ∧ lo64 p ≤ 18446744073709551615 := by unfold lo64; omega
/-- the product -/
def mul (a n : Int) : Int := cl (cl a * n)
theorem siz_bd (x : Int) (h0 : -9223372036854775808 ≤ x) (h1 : x ≤ 9223372036854775807) : 0 ≤ siz x ∧ siz x < 18446744073709551616 := by unfold siz; omega
theorem siz_mul (x n : Int) : x * n = if (decide (x < 0) != decide (n < 0)) = true then -(siz x * siz n) else siz x * siz n := by
  unfold siz
  by_cases g1 : x < 0 <;> by_cases g2 : n < 0 <;> simp [g1, g2, Int.neg_mul, Int.mul_neg]
theorem siz_mul0 (x n : Int) : 0 ≤ siz x * siz n := Int.mul_nonneg (by unfold siz; omega) (by unfold siz; omega)
theorem mul_fin (a n : Int) (t : Int) (h : t = if hi64 (siz (cl a) * siz n) = 0 ∧ lo64 (siz (cl a) * siz n) < 4611686018427387903 then lo64 (siz (cl a) * siz n) else 4611686018427387903) :
    mul a n = if (decide (cl a < 0) != decide (n < 0)) = true then -t else t := by
  unfold mul
  rw [siz_mul (cl a) n]
  have h0 := siz_mul0 (cl a) n
  generalize siz (cl a) * siz n = p at *
  have ht : t = if p < 4611686018427387903 then p else 4611686018427387903 := by
    rw [h]; unfold hi64 lo64
    by_cases g : p < 4611686018427387903
    · rw [if_pos g, if_pos (by omega)]; omega
    · rw [if_neg g, if_neg (by omega)]
  split
  · unfold cl; omega
  · unfold cl; omega
end Go.Proofs.Ytcoibhmgblicfaa.Kt
/- The contracts of the rest of ktime, and of its reference's sums, differences and products: what each returns for any numbers that an int holds; ktime.First's for any row of at most 200 ints. No other condition. -/
set_option linter.unusedVariables false
set_option linter.unusedSimpArgs false
namespace Go.Proofs.Ytcoibhmgblicfaa.Kt
open Go.RowKit Go.Proofs.Ytcoibhmgblicfaa.Aid
attribute [local go_sem] max2_int min2_int max_two min_two
set_option maxHeartbeats 400000 in
theorem sub_any (a b : Int) (w : World) : Calls Try.prog 39 #[.int .i64 a, .int .i64 b] w fun e w' => e = .returned (.int .i64 (sb a b)) ∧ w = w' := by
  have h1 := cl_bd a
  have h2 := cl_bd b
  by_cases h : 4611686018427387903 ≤ a
  · have hn : nev a = true := decide_eq_true h
    go_enter Try.func39, Try.ntmps39
    go_wp2_with (go_at_call 45; refine (never_any _ _).mono ?_; rintro e w' ⟨rfl, rfl⟩)
    go_ret
    exact ⟨ret_int (by unfold sb; omega), rfl⟩
  · have hn : nev a = false := decide_eq_false h
    go_enter Try.func39, Try.ntmps39
    go_wp2_with (first
      | (go_at_call 45; refine (never_any _ _).mono ?_; rintro e w' ⟨rfl, rfl⟩)
      | (go_at_call 42; refine (clamp_any _ _).mono ?_; rintro e w' ⟨rfl, rfl⟩))
    go_ret
    exact ⟨ret_int (by unfold sb; omega), rfl⟩
def mnc (t x : Int) : Int := if cl x < t then cl x else t
theorem mnc_bd {t x : Int} (h : -4611686018427387903 ≤ t ∧ t ≤ 4611686018427387903) : -4611686018427387903 ≤ mnc t x ∧ mnc t x ≤ 4611686018427387903 := by
  have := cl_bd x
  unfold mnc; omega
def firstOf (l : List Int) : Int := l.foldl mnc 4611686018427387903
theorem fold_bd (l : List Int) : ∀ t, -4611686018427387903 ≤ t ∧ t ≤ 4611686018427387903 → -4611686018427387903 ≤ l.foldl mnc t ∧ l.foldl mnc t ≤ 4611686018427387903 := by
  induction l with
  | nil => intro t h; exact h
  | cons x l ih => intro t h; exact ih _ (mnc_bd h)
theorem firstOf_bd (l : List Int) : -4611686018427387903 ≤ firstOf l ∧ firstOf l ≤ 4611686018427387903 := fold_bd l _ (by omega)
theorem firstOf_snoc (l : List Int) (k : Nat) (h : k < l.length) : firstOf (l.take (k + 1)) = mnc (firstOf (l.take k)) (l.getD k 0) := by
  unfold firstOf
  rw [List.take_succ_eq_append_getElem h, List.foldl_append]
  simp [List.getD, h]
set_option maxHeartbeats 400000 in
theorem first_none (A : Option Addr) (cap : Nat) (w : World) : Calls Try.prog 38 #[.slice A 0 cap] w fun e w' => e = .returned (.int .i64 4611686018427387903) ∧ w = w' := by
  go_enter Try.func38, Try.ntmps38
  go_wp2
  go_loop [3, 8] (fun t i => t = .int .i64 4611686018427387903 ∧ i = .int .i64 0) (fun _ _ => 0)
  case atStart => exact ⟨rfl, rfl⟩
  case round =>
    obtain ⟨rfl, rfl⟩ := hrel
    go_wp2
    go_ret
    exact ⟨rfl, rfl⟩
set_option maxHeartbeats 400000 in
theorem first_any (x : Addr) (zs : List Int) (n cap : Nat) (w : World) (hn : zs.length = n) (hm : n ≤ 4611686018427387903) (hcell : ∀ k, k < n → w.cell? (x.add k) = some (.int .i64 (zs.getD k 0))) :
    Calls Try.prog 38 #[.slice (some x) n cap] w fun e w' => e = .returned (.int .i64 (firstOf zs)) ∧ w = w' := by
  have HC := Lib.hid hcell
  have HN := Lib.hid hn
  clear hcell hn
  go_enter Try.func38, Try.ntmps38
  go_wp2
  go_loop [3, 8] (fun t i => ∃ k : Nat, k ≤ n ∧ i = .int .i64 k ∧ t = .int .i64 (firstOf (zs.take k))) (fun _ i => n - (intOf i).toNat)
  case atStart => exact ⟨0, Nat.zero_le _, rfl, rfl⟩
  case round =>
    obtain ⟨k, hk, rfl, rfl⟩ := hrel
    have hb := firstOf_bd (zs.take k)
    by_cases hlt : k < n
    · have hc := HC.out k hlt
      have hsn := Lib.hid (firstOf_snoc zs k (by rw [HN.out]; exact hlt))
      obtain ⟨z, hz⟩ : ∃ z, zs.getD k 0 = z := ⟨_, rfl⟩
      rw [hz] at hc hsn
      clear hz
      have hzb := cl_bd z
      go_wp2_with (go_at_call 42; refine (clamp_any _ _).mono ?_; rintro e w' ⟨rfl, rfl⟩)
      all_goals
        go_round
        case rel => exact ⟨k + 1, by omega, by go_num, by rw [hsn.out]; exact congrArg (Value.int .i64) (by unfold mnc; omega)⟩
        case measure => simp [intOf]; omega
    · go_wp2
      go_ret
      exact ⟨ret_int (by rw [List.take_of_length_le (by have := HN.out; omega)]), rfl⟩
set_option maxHeartbeats 400000 in
theorem rsub_any (a b : Int) (w : World) : Calls Try.prog 16 #[.int .i64 a, .int .i64 b] w fun e w' => e = .returned (.int .i64 (sb a b)) ∧ w = w' := by
  have h1 := cl_bd a
  have h2 := cl_bd b
  go_enter Try.func16, Try.ntmps16
  go_wp2_with (go_at_call 25; refine (rclamp_any _ _).mono ?_; rintro e w' ⟨rfl, rfl⟩)
  all_goals
    go_ret
    exact ⟨ret_int (by unfold sb; omega), rfl⟩
def MulRel (R x m s : Int) : Prop := -4611686018427387903 ≤ x ∧ x ≤ 0 ∧ 0 ≤ m ∧ m ≤ 9223372036854775808 ∧ -4611686018427387903 ≤ s ∧ s ≤ 0 ∧ cl (s + x * m) = R
theorem MulRel.step {R x m s : Int} (h : MulRel R x m s) (hm : m ≠ 0) : MulRel R (cl (x + x)) (m / 2) (if m % 2 = 0 then s else cl (s + x)) := by
  obtain ⟨x0, x1, m0, m1, s0, s1, h⟩ := h
  have c1 := cl_bd (x + x)
  have c2 := cl_bd (s + x)
  have c3 : cl (x + x) ≤ 0 := by unfold cl; omega
  have c4 : cl (s + x) ≤ 0 := by unfold cl; omega
  have hbig : (m / 2 = 0 ∧ x * (m / 2) = 0) ∨ (x * (m / 2) ≤ x ∧ (-4611686018427387903) * (m / 2) ≤ -4611686018427387903) := by
    by_cases g : m / 2 = 0
    · exact .inl ⟨g, by rw [g, Int.mul_zero]⟩
    · refine .inr ⟨?_, by omega⟩
      have := Int.mul_le_mul_of_nonpos_left (a := x) (b := m / 2) (c := 1) x1 (by omega)
      omega
  have hneg : x * (m / 2) ≤ 0 := Int.mul_nonpos_of_nonpos_of_nonneg x1 (by omega)
  have hprod : x * m = 2 * (x * (m / 2)) + x * (m % 2) := by
    have e : m = 2 * (m / 2) + m % 2 := by omega
    refine (congrArg (x * ·) e).trans ?_
    show x * (2 * (m / 2) + m % 2) = _
    rw [Int.mul_add, ← Int.mul_assoc, Int.mul_comm x 2, Int.mul_assoc]
  have hcl : cl (x + x) * (m / 2) = if x + x < -4611686018427387903 then -4611686018427387903 * (m / 2) else 2 * (x * (m / 2)) := by
    unfold cl
    rw [if_neg (by omega)]
    split
    · rfl
    · rw [Int.add_mul]; omega
  refine ⟨c1.1, c3, by omega, by omega, by split <;> omega, by split <;> omega, ?_⟩
  rw [← h, hcl, hprod]
  have h01 : m % 2 = 0 ∨ m % 2 = 1 := by omega
  rcases h01 with hr | hr
  · rw [if_pos hr, hr]
    generalize x * (m / 2) = y at *
    by_cases g : x + x < -4611686018427387903
    · rw [if_pos g]; unfold cl; omega
    · rw [if_neg g]; unfold cl; omega
  · rw [if_neg (by omega), hr]
    have e4 : cl (s + x) = if s + x < -4611686018427387903 then -4611686018427387903 else s + x := by unfold cl; omega
    rw [e4]
    generalize x * (m / 2) = y at *
    by_cases g : x + x < -4611686018427387903 <;> by_cases g2 : s + x < -4611686018427387903
    · rw [if_pos g, if_pos g2]; unfold cl; omega
    · rw [if_pos g, if_neg g2]; unfold cl; omega
    · rw [if_neg g, if_pos g2]; unfold cl; omega
    · rw [if_neg g, if_neg g2]; unfold cl; omega
theorem MulRel.zero {R x s : Int} (h : MulRel R x 0 s) : s = R := by
  obtain ⟨x0, x1, m0, m1, s0, s1, h⟩ := h
  rw [← h]; unfold cl; omega
theorem MulRel.bd {R x m s : Int} (h : MulRel R x m s) : -4611686018427387903 ≤ x ∧ x ≤ 0 ∧ 0 ≤ m ∧ m ≤ 9223372036854775808 ∧ -4611686018427387903 ≤ s ∧ s ≤ 0 := ⟨h.1, h.2.1, h.2.2.1, h.2.2.2.1, h.2.2.2.2.1, h.2.2.2.2.2.1⟩
theorem neg_tdiv2 (m : Int) (h : 0 ≤ m) : Int.tdiv (-m) 2 = -(m / 2) := by
  rw [Int.neg_tdiv, Int.tdiv_eq_ediv_of_nonneg h]
theorem neg_tmod2 (m : Int) (h : 0 ≤ m) : Int.tmod (-m) 2 = -(m % 2) := by
  rw [Int.neg_tmod, Int.tmod_eq_emod_of_nonneg h]
end Go.Proofs.Ytcoibhmgblicfaa.Kt
