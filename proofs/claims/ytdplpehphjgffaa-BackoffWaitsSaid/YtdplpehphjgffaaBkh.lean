/- The walk of the statement BackoffRises: for any plan and number it returns true. No condition. -/
import Derived.Test.YtdplpehphjgffaaBkf
import Derived.IntWalk
import Derived.Test.YtdplpehphjgffaaLeaf
set_option linter.unusedVariables false
set_option linter.unusedSimpArgs false
namespace Go.Proofs.Ytdplpehphjgffaa.Bk
open Go.RowKit Go.Proofs.Ytdplpehphjgffaa.Aid Go.Proofs.Ytdplpehphjgffaa.Kt
attribute [local go_sem] max2_int min2_int max_two min_two
/-- the plan lies in its block, and what was there before is as it was -/
structure Env (p : Pl) (P B : Nat) (w0 W : World) : Prop where
  h : Blk W P 23 p.cells
  b : Below B w0 W
  l : B ≤ P
theorem Env.drew {p : Pl} {P B : Nat} {w0 W : World} (h : Env p P B w0 W) : Env p P B w0 W.drew := ⟨h.h.drew, below_drewN h.b 1, h.l⟩
theorem Env.drewN {p : Pl} {P B : Nat} {w0 W : World} (h : Env p P B w0 W) (n : Nat) : Env p P B w0 (W.drewN n) := ⟨h.h.drewN n, below_drewN h.b n, h.l⟩
theorem Env.call {p : Pl} {P B : Nat} {w0 W W' : World} (h : Env p P B w0 W) (b : Below W.heap.size W W') : Env p P B w0 W' := ⟨h.h.below b h.h.lt, h.b.trans (b.mono (Nat.le_trans h.l (Nat.le_of_lt h.h.lt))), h.l⟩
theorem Env.cells {p : Pl} {P B : Nat} {w0 W : World} (h : Env p P B w0 W) : W.cell? ⟨P, 0, none⟩ = some (.int .i64 p.first) ∧ W.cell? ⟨P, 1, none⟩ = some (.int .i64 p.factor) ∧ W.cell? ⟨P, 2, none⟩ = some (.int .i64 p.great) := ⟨h.h.cell 0, h.h.cell 1, h.h.cell 2⟩
theorem Env.start (p : Pl) (w : World) : Env p w.heap.size w.heap.size w (w.alloc (.cells p.cells 23)) := ⟨Blk.new _ _ _, (Below.refl _ _).alloc (Nat.le_refl _) _, Nat.le_refl _⟩
set_option maxHeartbeats 2000000 in
set_option maxRecDepth 100000 in
theorem rises_ok (p : Pl) (ok : p.ok) (n : Int) (hn : 0 ≤ n ∧ n ≤ 65535) (w : World) :
    Calls Try.prog 3 #[.agg #[.int .i64 p.first, .int .i64 p.factor, .int .i64 p.great], .int .u16 n] w fun e w' => e = .returned (.bool true) ∧ Below w.heap.size w w' := by
  have HO := Lib.hid ok
  have g0 := wt_ge p ok n.toNat
  have g1 := wt_mono p ok n.toNat
  have g2 := (wt_bd p ok (n.toNat + 1)).2
  have e1 : wait p n = wt p n.toNat := by unfold wait; rw [if_neg (by omega)]
  have e2 : wait p (n + 1) = wt p (n.toNat + 1) := by unfold wait; rw [if_neg (by omega)]; congr 1; omega
  rw [← e1] at g0 g1
  rw [← e2] at g1 g2
  clear e1 e2 ok
  obtain ⟨P, hP⟩ : ∃ P, P = w.heap.size := ⟨_, rfl⟩
  have HE := Env.start p w
  rw [← hP] at HE
  have HP := Lib.hid hP
  go_enter Try.func3, Try.ntmps3
  go_wp2_with fail
  rw [← hP]
  clear hP
  refine (fixed_any _).mono ?_
  rintro e w1 ⟨rfl, b1⟩
  have H1 := HE.call b1
  clear HE b1
  obtain ⟨q0, q1, q2⟩ := H1.cells
  go_wp2_with fail
  refine (lright_yes p HO.out _).mono ?_
  rintro e w2 ⟨rfl, b2⟩
  have H2 := (H1.call b2)
  clear H1 b2 q0 q1 q2
  obtain ⟨q0, q1, q2⟩ := H2.cells
  go_upto_region 5 with fail
  have hnb : -9223372036854775808 ≤ n ∧ n ≤ 9223372036854775807 := by omega
  have hnb1 : -9223372036854775808 ≤ n + 1 ∧ n + 1 ≤ 9223372036854775807 := by omega
  go_cut [5, 6] (fun s5 s6 wx => s5 = .int .i64 (wait p n) ∧ s6 = .int .i64 (wait p (n + 1)) ∧ Env p P P w wx)
  case first =>
    have Hd := H2.drew
    have e0 : IntKind.i64.wrap n = n := IntWalk.i64_in _ (by omega)
    have e1 : IntKind.i64.wrap (n + 1) = n + 1 := IntWalk.i64_in _ (by omega)
    go_region_with (first | (go_at_call 13; refine (wait_ok _ (by assumption) p HO.out _).mono ?_; rintro e W1 ⟨rfl, b1⟩; have E1 := Env.call (by assumption) b1; obtain ⟨x0, x1, x2⟩ := E1.cells))
    all_goals
      go_wp2_with fail
      go_meet
      exact ⟨rfl, rfl, by assumption⟩
  case rest =>
    obtain ⟨rfl, rfl, H3⟩ := hcut
    clear H2 q0 q1 q2
    obtain ⟨q0, q1, q2⟩ := H3.cells
    go_wp2_with fail
    go_ret
    have b := H3.b
    rw [HP.out] at b
    exact ⟨rfl, b⟩
theorem rises_no (p : Pl) (no : ¬ p.ok) (n : Int) (w : World) :
    Calls Try.prog 3 #[.agg #[.int .i64 p.first, .int .i64 p.factor, .int .i64 p.great], .int .u16 n] w fun e w' => e = .returned (.bool true) ∧ Below w.heap.size w w' := by
  have HO := Lib.hid no
  clear no
  obtain ⟨P, hP⟩ : ∃ P, P = w.heap.size := ⟨_, rfl⟩
  have HE := Env.start p w
  rw [← hP] at HE
  have HP := Lib.hid hP
  go_enter Try.func3, Try.ntmps3
  go_wp2_with fail
  rw [← hP]
  clear hP
  refine (fixed_any _).mono ?_
  rintro e w1 ⟨rfl, b1⟩
  have H1 := HE.call b1
  clear HE b1
  obtain ⟨q0, q1, q2⟩ := H1.cells
  go_wp2_with fail
  refine (lright_no p HO.out _).mono ?_
  rintro e w2 ⟨rfl, b2⟩
  have H2 := (H1.call b2)
  go_wp2_with fail
  go_ret
  have b := H2.b
  rw [HP.out] at b
  exact ⟨rfl, b⟩
theorem open_pl {cs : Array Value} (h : Leaf.Fits [.int .i64, .int .i64, .int .i64] cs.toList) : ∃ p : Pl, cs = #[.int .i64 p.first, .int .i64 p.factor, .int .i64 p.great] ∧ p.wf := by
  obtain ⟨a, r, e1, w1, h1⟩ := Leaf.Fits.int h
  obtain ⟨b, r2, rfl, w2, h2⟩ := Leaf.Fits.int h1
  obtain ⟨c, r3, rfl, w3, h3⟩ := Leaf.Fits.int h2
  obtain rfl := Leaf.Fits.done h3
  refine ⟨⟨a, b, c⟩, ?_, bounds_i64 w1, bounds_i64 w2, bounds_i64 w3⟩
  cases cs; simp_all
theorem rises_any (cs : Array Value) (h : Leaf.Fits [.int .i64, .int .i64, .int .i64] cs.toList) (n : Int) (hn : 0 ≤ n ∧ n ≤ 65535) (w : World) :
    Calls Try.prog 3 #[.agg cs, .int .u16 n] w fun e w' => e = .returned (.bool true) ∧ Below w.heap.size w w' := by
  obtain ⟨p, rfl, hw⟩ := open_pl h
  by_cases ok : p.ok
  · exact rises_ok p ok n hn w
  · exact rises_no p ok n w
end Go.Proofs.Ytdplpehphjgffaa.Bk
