/- fixed: sleep's calls whose answers the document fixes. No condition. -/
import Derived.Test.YtdplpehphjgffaaSlc
set_option linter.unusedVariables false
set_option linter.unusedSimpArgs false
namespace Go.Proofs.Ytdplpehphjgffaa.Sl
open Go.RowKit Go.Proofs.Ytdplpehphjgffaa.Aid Go.Proofs.Ytdplpehphjgffaa.Kt Go.Proofs.Ytdplpehphjgffaa.Sp
attribute [local go_sem] max2_int min2_int max_two min_two
theorem new_vals : (newS 1 1 0 5 10 99 10 false) = ⟨1, 0, 15, true⟩ := by
  have : ad (tm 0 5) 10 = 15 := by decide +kernel
  simp [newS, byC, atC, this]
theorem stop_vals : tf (unt 12 15) / 1000000000 = 0 ∧ tf (unt 12 15) % 1000000000 = 3 := by decide +kernel
theorem rt0 : Rt 0 0 := ⟨by decide, by decide, by decide⟩
theorem rt5 : Rt 0 5 := ⟨by decide, by decide, by decide⟩
def L1 (i : Nat) : Slp := if i = 1 then ⟨1, 0, 15, true⟩ else ⟨0, 0, 0, false⟩
def A1 (i : Nat) : Bool := if i = 1 then true else false
theorem start_L1 (g : Nat) (w : World) (h : IsSl w g (fun _ => ⟨0, 0, 0, false⟩) (fun _ => false)) :
    Calls Try.prog 42 #[.pointer (some ⟨g, 0, none⟩), .int .i64 1, .int .i64 1, .agg #[.int .i64 0, .int .i64 5], .bool false, .agg #[.int .i64 10, .int .i64 99, .int .i64 10]] w fun e w' => e = .returned (.tuple #[.agg #[.int .i64 1, .int .i64 0, .int .i64 15, .bool true], .int .i64 0]) ∧ IsSl w' g L1 A1 ∧ w.grownBy w' (some g) := by
  refine (start_ok g _ _ 1 (by omega) 1 0 5 10 99 10 false (by omega) rt5 (by omega) _ h rfl).mono fun e w' ⟨he, hs, hg⟩ => ?_
  rw [show newS ((1 : Nat) : Int) 1 0 5 10 99 10 false = ⟨1, 0, 15, true⟩ from new_vals] at he hs
  exact ⟨he, hs, hg⟩
theorem stop_L1 (g : Nat) (w : World) (h : IsSl w g L1 A1) :
    Calls Try.prog 43 #[.pointer (some ⟨g, 0, none⟩), .int .i64 1, .agg #[.int .i64 12, .int .i64 0, .int .i64 12]] w fun e w' => e = .returned (.tuple #[.agg #[.int .i64 0, .int .i64 3], .int .i64 4]) ∧ IsSl w' g L1 (fun i => if i = 1 then false else A1 i) ∧ w.grownBy w' (some g) := by
  refine (stop_rel0 g _ _ 1 (by omega) 12 0 12 _ h rfl rfl rfl).mono fun e w' ⟨he, hs, hg⟩ => ?_
  rw [show (L1 1).till = 15 from rfl, stop_vals.1, stop_vals.2] at he
  exact ⟨he, hs, hg⟩
set_option maxHeartbeats 4000000 in
set_option maxRecDepth 100000 in
theorem fixed_any (w : World) : Calls Try.prog 40 #[] w fun e w' => e = .returned (.bool true) ∧ Below w.heap.size w w' := by
  go_enter Try.func40, Try.ntmps40
  go_wp2_with fail
  refine (new_any _).mono ?_
  rintro e w1 ⟨g, rfl, hg, h1, b1⟩
  have HG := Lib.hid hg
  clear hg
  go_wp2_with fail
  refine (start_L1 g _ h1).mono ?_
  rintro e w2 ⟨rfl, h2, g2⟩
  have B2 := below_grown b1 g2 HG.out
  clear h1 b1 g2
  have hx := Blk.new w2 65 #[.int .i64 1, .int .i64 0, .int .i64 15, .bool true]
  have h2a := h2.alloc (.cells #[.int .i64 1, .int .i64 0, .int .i64 15, .bool true] 65)
  have B2a := B2.alloc B2.size (.cells #[.int .i64 1, .int .i64 0, .int .i64 15, .bool true] 65)
  have HX : Hid (g < w2.heap.size) := Lib.hid h2.lt
  clear h2 B2
  go_wp2_with fail
  generalize w2.alloc (.cells #[.int .i64 1, .int .i64 0, .int .i64 15, .bool true] 65) = W2 at hx h2a B2a ⊢
  generalize w2.heap.size = X at hx HX ⊢
  refine (wake_not0 g _ _ 1 (by omega) 14 999 14 _ h2a rfl rfl (.inr ⟨by decide, by decide⟩)).mono ?_
  rintro e w3 ⟨rfl, b3⟩
  have h3 := h2a.below b3 h2a.lt
  have hx3 := hx.below b3 hx.lt
  have B3 := B2a.trans (b3.mono B2a.size)
  clear h2a hx b3 B2a
  go_wp2_with fail
  refine (stop_L1 g _ h3).mono ?_
  rintro e w4 ⟨rfl, h4, g4⟩
  have hx4 := hx3.grown g4 (by intro he; injection he with he; have := HX.out; omega)
  have B4 := below_grown B3 g4 HG.out
  clear h3 hx3 B3 g4
  have hy := Blk.new w4 60 #[.int .i64 0, .int .i64 3]
  have h4a := h4.alloc (.cells #[.int .i64 0, .int .i64 3] 60)
  have hx4a := hx4.alloc (.cells #[.int .i64 0, .int .i64 3] 60)
  have B4a := B4.alloc B4.size (.cells #[.int .i64 0, .int .i64 3] 60)
  clear h4 hx4 B4
  go_wp2_with fail
  generalize w4.alloc (.cells #[.int .i64 0, .int .i64 3] 60) = W4 at hy h4a hx4a B4a ⊢
  generalize w4.heap.size = Y at hy ⊢
  refine (start_bad g 32 0 0 0 0 0 0 false (by omega) (.inr (.inr (.inl ⟨rt0, by omega, by omega⟩))) _).mono ?_
  rintro e w5 ⟨rfl, b5⟩
  have h5 := h4a.below b5 h4a.lt
  have hx5 := hx4a.below b5 hx4a.lt
  have hy5 := hy.below b5 hy.lt
  have B5 := B4a.trans (b5.mono B4a.size)
  clear h4a hx4a hy b5 B4a
  have h5a := h5.alloc (.cells #[.int .i64 0, .int .i64 0, .int .i64 0, .bool false] 65)
  have hx5a := hx5.alloc (.cells #[.int .i64 0, .int .i64 0, .int .i64 0, .bool false] 65)
  have hy5a := hy5.alloc (.cells #[.int .i64 0, .int .i64 0, .int .i64 0, .bool false] 65)
  have B5a := B5.alloc B5.size (.cells #[.int .i64 0, .int .i64 0, .int .i64 0, .bool false] 65)
  clear h5 hx5 hy5 B5
  go_wp2_with fail
  generalize w5.alloc (.cells #[.int .i64 0, .int .i64 0, .int .i64 0, .bool false] 65) = W5 at h5a hx5a hy5a B5a ⊢
  refine (start_nil 1 0 0 0 0 0 0 false (by omega) _).mono ?_
  rintro e w6 ⟨rfl, b6⟩
  have h6 := h5a.below b6 h5a.lt
  have hx6 := hx5a.below b6 hx5a.lt
  have hy6 := hy5a.below b6 hy5a.lt
  have B6 := B5a.trans (b6.mono B5a.size)
  clear h5a hx5a hy5a b6 B5a
  have h6a := h6.alloc (.cells #[.int .i64 0, .int .i64 0, .int .i64 0, .bool false] 65)
  have hx6a := hx6.alloc (.cells #[.int .i64 0, .int .i64 0, .int .i64 0, .bool false] 65)
  have hy6a := hy6.alloc (.cells #[.int .i64 0, .int .i64 0, .int .i64 0, .bool false] 65)
  have B6a := B6.alloc B6.size (.cells #[.int .i64 0, .int .i64 0, .int .i64 0, .bool false] 65)
  clear h6 hx6 hy6 B6
  go_upto_region 8 with fail
  generalize w6.alloc (.cells #[.int .i64 0, .int .i64 0, .int .i64 0, .bool false] 65) = W6 at h6a hx6a hy6a B6a ⊢
  obtain ⟨y0, y1, y2, y3⟩ := res4 hx6a
  obtain ⟨z0, z1⟩ := res2 hy6a
  go_wp2_with fail
  refine (all_nil _).mono ?_
  rintro e w7 ⟨rfl, b7⟩
  have h7 := h6a.below b7 h6a.lt
  have B7 := B6a.trans (b7.mono B6a.size)
  go_wp2_with fail
  refine (wake_none g _ _ 1 (by omega) 0 0 0 _ h7 rfl).mono ?_
  rintro e w8 ⟨rfl, b8⟩
  have B8 := B7.trans (b8.mono B7.size)
  go_wp2_with fail
  go_ret
  exact ⟨rfl, B8⟩
end Go.Proofs.Ytdplpehphjgffaa.Sl
