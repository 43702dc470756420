/- The walk of the statement KtimeFirst: for any row of ints it returns true. No condition. -/
import Derived.Test.YthginjllhlfadaaKlaw
set_option linter.unusedVariables false
set_option linter.unusedSimpArgs false
namespace Go.Proofs.Ythginjllhlfadaa.Kt
open Go.RowKit Go.Proofs.Ythginjllhlfadaa.Aid
theorem fold_le (l : List Int) : ∀ t, l.foldl mnc t ≤ t ∧ ∀ x ∈ l, l.foldl mnc t ≤ cl x := by
  induction l with
  | nil => intro t; simp
  | cons y l ih =>
    intro t
    have h := ih (mnc t y)
    have hm : mnc t y ≤ t ∧ mnc t y ≤ cl y := by unfold mnc; omega
    rw [List.foldl_cons]
    refine ⟨by omega, fun x hx => ?_⟩
    rcases List.mem_cons.1 hx with rfl | hx
    · omega
    · exact h.2 x hx
theorem fold_mem (l : List Int) : ∀ t, l.foldl mnc t = t ∨ ∃ x ∈ l, cl x = l.foldl mnc t := by
  induction l with
  | nil => intro t; simp
  | cons y l ih =>
    intro t
    rw [List.foldl_cons]
    rcases ih (mnc t y) with h | ⟨x, hx, h⟩
    · by_cases g : t ≤ cl y
      · left; rw [h]; unfold mnc; omega
      · right; exact ⟨y, List.mem_cons_self, by rw [h]; unfold mnc; omega⟩
    · exact .inr ⟨x, List.mem_cons_of_mem _ hx, h⟩
/-- is the first one found yet -/
def there (zs : List Int) (k : Nat) : Bool := (firstOf zs == 4611686018427387903) || (zs.take k).any fun x => cl x == firstOf zs
theorem there_zero (zs : List Int) : there zs 0 = (firstOf zs == 4611686018427387903) := by simp [there]
theorem there_succ (zs : List Int) (k : Nat) (h : k < zs.length) : there zs (k + 1) = (there zs k || (cl (zs.getD k 0) == firstOf zs)) := by
  unfold there
  rw [List.take_succ_eq_append_getElem h, List.any_append]
  simp [List.getD, h, Bool.or_assoc]
theorem there_all (zs : List Int) (n : Nat) (h : zs.length = n) : there zs n = true := by
  unfold there
  rw [List.take_of_length_le (by omega)]
  rcases fold_mem zs 4611686018427387903 with h | ⟨x, hx, h⟩
  · have : firstOf zs = 4611686018427387903 := h
    simp [this]
  · have : cl x = firstOf zs := h
    simp only [Bool.or_eq_true, List.any_eq_true, beq_iff_eq]
    exact .inr ⟨x, hx, this⟩
theorem first_lb (zs : List Int) (k : Nat) (h : k < zs.length) : firstOf zs ≤ cl (zs.getD k 0) := by
  refine (fold_le zs 4611686018427387903).2 _ ?_
  simp [List.getD, h]
set_option maxHeartbeats 1000000 in
set_option maxRecDepth 100000 in
theorem flaw_none (A : Option Addr) (cap : Nat) (w : World) : Calls Try.prog 9 #[.slice A 0 cap] w fun e w' => e = .returned (.bool true) ∧ Below w.heap.size w w' := by
  go_enter Try.func9, Try.ntmps9
  go_wp2_with (first
    | (go_at_call 28; refine (fixed_any _).mono ?_; rintro e w1 ⟨rfl, hb1⟩)
    | (go_at_call 39; refine (first_none A _ _).mono ?_; rintro e w' ⟨rfl, rfl⟩))
  go_loop [4, 18] (fun b i => b = .bool true ∧ i = .int .i64 0) (fun _ _ => 0)
  case atStart => exact ⟨rfl, rfl⟩
  case round =>
    obtain ⟨rfl, rfl⟩ := hrel
    go_wp2
    go_ret
    exact ⟨rfl, hb1⟩
set_option maxHeartbeats 2000000 in
set_option maxRecDepth 100000 in
theorem flaw_some (x : Addr) (zs : List Int) (n cap : Nat) (w : World) (hx : x.block < w.heap.size) (hn : zs.length = n) (hm : n ≤ maxLen) (hcell : ∀ k, k < n → w.cell? (x.add k) = some (.int .i64 (zs.getD k 0))) :
    Calls Try.prog 9 #[.slice (some x) n cap] w fun e w' => e = .returned (.bool true) ∧ Below w.heap.size w w' := by
  unfold maxLen at hm
  have HC := Lib.hid hcell
  have HN := Lib.hid hn
  have hfb := firstOf_bd zs
  clear hcell hn
  by_cases hbig : 200 < n
  · go_enter Try.func9, Try.ntmps9
    go_wp2_with (go_at_call 28; refine (fixed_any _).mono ?_; rintro e w1 ⟨rfl, hb1⟩)
    go_ret
    exact ⟨rfl, hb1⟩
  have HF : Hid (∀ w1, Below w.heap.size w w1 → ∀ k, k < n → w1.cell? (x.add k) = some (.int .i64 (zs.getD k 0))) := Lib.hid fun w1 hb k hk => (hb.cell (p := x.add k) (by unfold Addr.add; split <;> exact hx)).trans (HC.out k hk)
  clear HC
  have h0 := Lib.hid (there_zero zs)
  go_enter Try.func9, Try.ntmps9
  go_wp2_with (first
    | (go_at_call 28; refine (fixed_any _).mono ?_; rintro e w1 ⟨rfl, hb1⟩)
    | (go_at_call 39; refine (first_any x zs n _ _ HN.out (by omega) (HF.out _ hb1)).mono ?_; rintro e w' ⟨rfl, rfl⟩))
  go_loop [4, 18] (fun b i => ∃ k : Nat, k ≤ n ∧ i = .int .i64 k ∧ b = .bool (there zs k)) (fun _ i => n - (intOf i).toNat)
  case atStart => exact ⟨0, Nat.zero_le _, rfl, by rw [h0.out]⟩
  case round =>
    obtain ⟨k, hk, rfl, rfl⟩ := hrel
    by_cases hlt : k < n
    · have hc := HF.out _ hb1 k hlt
      have hlb := first_lb zs k (by rw [HN.out]; exact hlt)
      have hs := Lib.hid (there_succ zs k (by rw [HN.out]; exact hlt))
      obtain ⟨z, hz⟩ : ∃ z, zs.getD k 0 = z := ⟨_, rfl⟩
      rw [hz] at hc hlb hs
      clear hz
      have hzb := cl_bd z
      cases ht : there zs k
      · rw [ht] at hs
        go_wp2_with (go_at_call 19; refine (rclamp_any _ _).mono ?_; rintro e w' ⟨rfl, rfl⟩)
        go_round
        case rel => exact ⟨k + 1, by omega, by go_num, by rw [hs.out]; simp⟩
        case measure => simp [intOf]; omega
      · rw [ht] at hs
        go_wp2_with (go_at_call 19; refine (rclamp_any _ _).mono ?_; rintro e w' ⟨rfl, rfl⟩)
        go_round
        case rel => exact ⟨k + 1, by omega, by go_num, by rw [hs.out]; simp⟩
        case measure => simp [intOf]; omega
    · obtain rfl : k = n := by omega
      have ha := there_all zs k HN.out
      go_wp2
      go_ret
      exact ⟨rfl, hb1⟩
theorem flaw_any (A : Option Addr) (n cap : Nat) (w : World) (h : n = 0 ∨ ∃ x, ∃ zs : List Int, A = some x ∧ x.block < w.heap.size ∧ zs.length = n ∧ n ≤ maxLen ∧ (∀ k, k < n → w.cell? (x.add k) = some (.int .i64 (zs.getD k 0))) ∧ ∀ m ∈ zs, (Lit.int .i64 m).wf = true) :
    Calls Try.prog 9 #[.slice A n cap] w fun e w' => e = .returned (.bool true) ∧ Below w.heap.size w w' := by
  rcases h with rfl | ⟨x, zs, rfl, hx, hn, hm, hc, _⟩
  · exact flaw_none A cap w
  · exact flaw_some x zs n cap w hx hn hm hc
end Go.Proofs.Ythginjllhlfadaa.Kt
