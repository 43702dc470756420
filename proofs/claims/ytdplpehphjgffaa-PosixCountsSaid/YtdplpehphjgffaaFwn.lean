/- The contracts of forward's Next and Over: for any numbers. No condition. -/
import Derived.Test.YtdplpehphjgffaaFwd
set_option linter.unusedVariables false
set_option linter.unusedSimpArgs false
namespace Go.Proofs.Ytdplpehphjgffaa.Fw
open Go.RowKit Go.Proofs.Ytdplpehphjgffaa.Aid Go.Proofs.Ytdplpehphjgffaa.Kt
attribute [local go_sem] max2_int min2_int max_two min_two
set_option maxHeartbeats 1000000 in
theorem Next_any (a p now : Int) (w : World) : Calls Try.prog 81 #[.int .i64 a, .int .i64 p, .int .i64 now] w fun e w' => e = .returned (.tuple #[.int .i64 (nthv (cl a) (per p) (cnt (cl a) (per p) now)), .int .i64 (cnt (cl a) (per p) now)]) ∧ Below w.heap.size w w' := by
  have hc := cnt_bd (cl a) (per p) now (cl_bd a) (per_bd p)
  have hF := cl_bd a
  have hP := per_bd p
  obtain ⟨F, eF⟩ : ∃ F, cl a = F := ⟨_, rfl⟩
  obtain ⟨P, eP⟩ : ∃ P, per p = P := ⟨_, rfl⟩
  rw [eF] at hc hF ⊢
  rw [eP] at hc hP ⊢
  obtain ⟨n, hn⟩ : ∃ n, cnt F P now = n := ⟨_, rfl⟩
  rw [hn] at hc ⊢
  have HN := Lib.hid hn
  have HF := Lib.hid hF
  have HP := Lib.hid hP
  have EF := Lib.hid eF
  have EP := Lib.hid eP
  clear hn hF hP eF eP
  go_enter Try.func81, Try.ntmps81
  go_wp2_with fail
  refine (of_any _ _ _).mono ?_
  rintro e w1 ⟨rfl, b1⟩
  rw [EF.out, EP.out]
  have hb := Blk.new w1 124 #[.int .i64 F, .int .i64 P]
  have B1 := b1.alloc b1.size (.cells #[.int .i64 F, .int .i64 P] 124)
  go_upto_region 2 with fail
  generalize w1.alloc (.cells #[.int .i64 F, .int .i64 P] 124) = W1 at hb B1 ⊢
  generalize w1.heap.size = S at hb ⊢
  have q0 : W1.cell? ⟨S, 0, none⟩ = some (.int .i64 F) := hb.cell 0
  have q1 : W1.cell? ⟨S, 1, none⟩ = some (.int .i64 P) := hb.cell 1
  go_wp2_with fail
  refine (count_any F P now _ HF.out HP.out).mono ?_
  rintro e w2 ⟨rfl, b2⟩
  rw [HN.out]
  have hb2 := hb.below b2 hb.lt
  have B2 := B1.trans (b2.mono B1.size)
  clear q0 q1
  have q0 : w2.cell? ⟨S, 0, none⟩ = some (.int .i64 F) := hb2.cell 0
  have q1 : w2.cell? ⟨S, 1, none⟩ = some (.int .i64 P) := hb2.cell 1
  go_wp2_with fail
  refine (nth_any F P n _ HF.out HP.out (by omega)).mono ?_
  rintro e w3 ⟨rfl, b3⟩
  have B3 := B2.trans (b3.mono B2.size)
  go_wp2_with fail
  go_ret2
  exact ⟨rfl, B3⟩
set_option maxHeartbeats 400000 in
theorem Over_any (n : Int) (w : World) : Calls Try.prog 82 #[.int .i64 n] w fun e w' => e = .returned (.int .i64 (ovr n)) ∧ w = w' := by
  go_enter Try.func82, Try.ntmps82
  go_wp2
  all_goals
    go_ret
    exact ⟨ret_int (by unfold ovr; omega), rfl⟩
end Go.Proofs.Ytdplpehphjgffaa.Fw
