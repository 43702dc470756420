/- The walk of the statement BackoffWaits, at plans that may not be, and at great numbers. No condition. -/
import Derived.Test.YtdplpehphjgffaaBki
set_option linter.unusedVariables false
set_option linter.unusedSimpArgs false
namespace Go.Proofs.Ytdplpehphjgffaa.Bk
open Go.RowKit Go.Proofs.Ytdplpehphjgffaa.Aid Go.Proofs.Ytdplpehphjgffaa.Kt
attribute [local go_sem] max2_int min2_int max_two min_two
theorem spr_none (d : Int) : spr 0 d = 0 := by unfold spr; simp
set_option maxHeartbeats 4000000 in
set_option maxRecDepth 100000 in
theorem waits_no (p : Pl) (no : ¬ p.ok) (n within d : Int) (hd : 0 ≤ d ∧ d ≤ 18446744073709551615) (w : World) :
    Calls Try.prog 4 #[.agg #[.int .i64 p.first, .int .i64 p.factor, .int .i64 p.great], .int .i64 n, .int .i64 within, .int .u64 d] w fun e w' => e = .returned (.bool true) ∧ Below w.heap.size w w' := by
  have HO := Lib.hid no
  clear no
  have HS : Hid (∀ w, Calls Try.prog 17 #[.agg #[.int .i64 p.first, .int .i64 p.factor, .int .i64 p.great], .int .i64 n, .int .u64 d] w fun e w' => e = .returned (.int .i64 0) ∧ Below w.heap.size w w') := Lib.hid fun w => by
    have := spread_of 0 n d (by omega) hd p w (wait_no n p HO.out)
    rwa [spr_none] at this
  obtain ⟨P, hP⟩ : ∃ P, P = w.heap.size := ⟨_, rfl⟩
  have HE := Env.start p w
  rw [← hP] at HE
  have HP := Lib.hid hP
  go_enter Try.func4, Try.ntmps4
  go_wp2_with fail
  rw [← hP]
  clear hP
  refine (fixed_any _).mono ?_
  rintro e w1 ⟨rfl, b1⟩
  have H1 := HE.call b1
  clear HE b1
  go_upto_region 3 with fail
  go_cut [22] (fun s22 wx => s22 = .bool false ∧ Env p P P w wx)
  case first =>
    have Hd := H1.drew
    obtain ⟨q0, q1, q2⟩ := H1.cells
    go_region_with (first | (go_at_call 14; refine (right_no p HO.out _).mono ?_; rintro e W1 ⟨rfl, b1⟩; have E1 := Env.call (by assumption) b1; obtain ⟨x0, x1, x2⟩ := E1.cells) | (go_at_call 12; refine (lright_no p HO.out _).mono ?_; rintro e W1 ⟨rfl, b1⟩; have E1 := Env.call (by assumption) b1; obtain ⟨x0, x1, x2⟩ := E1.cells))
    all_goals
      go_wp2_with fail
      go_meet
      exact ⟨rfl, by assumption⟩
  case rest =>
    obtain ⟨rfl, H2⟩ := hcut
    clear H1
    obtain ⟨q0, q1, q2⟩ := H2.cells
    go_wp2_with fail
    refine (lright_no p HO.out _).mono ?_
    rintro e w3 ⟨rfl, b3⟩
    have H3 := H2.call b3
    clear H2 b3 q0 q1 q2
    obtain ⟨q0, q1, q2⟩ := H3.cells
    go_upto_region 6 with fail
    go_cut [8] (fun s8 wx => s8 = .bool true ∧ Env p P P w wx)
    case first =>
      have Hd := H3.drew
      go_region_with (first
        | (go_at_call 13; refine (wait_no _ p HO.out _).mono ?_; rintro e W1 ⟨rfl, b1⟩; have E1 := Env.call (by assumption) b1; obtain ⟨x0, x1, x2⟩ := E1.cells)
        | (go_at_call 15; refine (total_no _ p HO.out _).mono ?_; rintro e W1 ⟨rfl, b1⟩; have E1 := Env.call (by assumption) b1; obtain ⟨x0, x1, x2⟩ := E1.cells)
        | (go_at_call 16; refine (tries_no _ p HO.out _).mono ?_; rintro e W1 ⟨rfl, b1⟩; have E1 := Env.call (by assumption) b1; obtain ⟨x0, x1, x2⟩ := E1.cells)
        | (go_at_call 17; refine (HS.out _).mono ?_; rintro e W1 ⟨rfl, b1⟩; have E1 := Env.call (by assumption) b1; obtain ⟨x0, x1, x2⟩ := E1.cells))
      all_goals
        go_wp2_with fail
        go_meet
        exact ⟨rfl, by assumption⟩
    case rest =>
      obtain ⟨rfl, H4⟩ := hcut
      go_wp2_with fail
      go_ret
      have b := H4.b
      rw [HP.out] at b
      exact ⟨rfl, b⟩
set_option maxHeartbeats 4000000 in
set_option maxRecDepth 100000 in
theorem waits_big (p : Pl) (ok : p.ok) (n within d : Int) (hn : 2000 < n) (w : World) :
    Calls Try.prog 4 #[.agg #[.int .i64 p.first, .int .i64 p.factor, .int .i64 p.great], .int .i64 n, .int .i64 within, .int .u64 d] w fun e w' => e = .returned (.bool true) ∧ Below w.heap.size w w' := by
  have HO := Lib.hid ok
  clear ok
  obtain ⟨P, hP⟩ : ∃ P, P = w.heap.size := ⟨_, rfl⟩
  have HE := Env.start p w
  rw [← hP] at HE
  have HP := Lib.hid hP
  go_enter Try.func4, Try.ntmps4
  go_wp2_with fail
  rw [← hP]
  clear hP
  refine (fixed_any _).mono ?_
  rintro e w1 ⟨rfl, b1⟩
  have H1 := HE.call b1
  clear HE b1
  go_upto_region 3 with fail
  go_cut [22] (fun s22 wx => s22 = .bool false ∧ Env p P P w wx)
  case first =>
    have Hd := H1.drew
    obtain ⟨q0, q1, q2⟩ := H1.cells
    go_region_with (first | (go_at_call 14; refine (right_yes p HO.out _).mono ?_; rintro e W1 ⟨rfl, b1⟩; have E1 := Env.call (by assumption) b1; obtain ⟨x0, x1, x2⟩ := E1.cells) | (go_at_call 12; refine (lright_yes p HO.out _).mono ?_; rintro e W1 ⟨rfl, b1⟩; have E1 := Env.call (by assumption) b1; obtain ⟨x0, x1, x2⟩ := E1.cells))
    all_goals
      go_wp2_with fail
      go_meet
      exact ⟨rfl, by assumption⟩
  case rest =>
    obtain ⟨rfl, H2⟩ := hcut
    clear H1
    obtain ⟨q0, q1, q2⟩ := H2.cells
    go_wp2_with fail
    refine (lright_yes p HO.out _).mono ?_
    rintro e w3 ⟨rfl, b3⟩
    have H3 := H2.call b3
    go_wp2_with fail
    go_ret
    have b := H3.b
    rw [HP.out] at b
    exact ⟨rfl, b⟩
theorem waits_any (cs : Array Value) (h : Leaf.Fits [.int .i64, .int .i64, .int .i64] cs.toList) (n : Int) (hn : -9223372036854775808 ≤ n ∧ n ≤ 9223372036854775807) (within : Int) (hw : -9223372036854775808 ≤ within ∧ within ≤ 9223372036854775807) (d : Int) (hd : 0 ≤ d ∧ d ≤ 18446744073709551615) (w : World) :
    Calls Try.prog 4 #[.agg cs, .int .i64 n, .int .i64 within, .int .u64 d] w fun e w' => e = .returned (.bool true) ∧ Below w.heap.size w w' := by
  obtain ⟨p, rfl, hwf⟩ := open_pl h
  by_cases ok : p.ok
  · by_cases hb : 2000 < n
    · exact waits_big p ok n within d hb w
    · exact waits_ok p ok n ⟨hn.1, by omega⟩ within hw d hd w
  · exact waits_no p ok n within d hd w
end Go.Proofs.Ytdplpehphjgffaa.Bk
