/- The contracts of posix's New, Create, setting. No condition but that a timer's number is one. -/
import Derived.Test.YtdplpehphjgffaaPx
set_option linter.unusedVariables false
set_option linter.unusedSimpArgs false
namespace Go.Proofs.Ytdplpehphjgffaa.Px
open Go.RowKit Go.Proofs.Ytdplpehphjgffaa.Aid Go.Proofs.Ytdplpehphjgffaa.Kt Go.Proofs.Ytdplpehphjgffaa.Sp
attribute [local go_sem] max2_int min2_int max_two min_two
theorem IsTb.new (w : World) (cs : Array Value) (h : cs = Array.replicate 64 (.pointer none)) : IsTb (w.alloc (.cells cs 111)) w.heap.size (fun _ => none) := by
  subst h
  exact ⟨⟨_, Blk.new w _ _, by simp, fun i hi => by simp [hi, Tm.ptr]⟩, fun i x _ h => (by cases h), fun i j x y _ _ h => (by cases h)⟩
set_option maxHeartbeats 2000000 in
set_option maxRecDepth 100000 in
theorem new_any (w : World) :
    Calls Try.prog 46 #[] w fun e w' => ∃ g, e = .returned (.pointer (some ⟨g, 0, none⟩)) ∧ w.heap.size ≤ g ∧ IsTb w' g (fun _ => none) ∧ Below w.heap.size w w' := by
  go_enter Try.func46, Try.ntmps46
  go_wp2_with fail
  go_ret
  exact ⟨_, rfl, Nat.le_refl _, IsTb.new w _ (by rfl), (Below.refl _ _).alloc (Nat.le_refl _) _⟩
theorem create_nil (c s : Int) (w : World) :
    Calls Try.prog 47 #[.pointer none, .int .i64 c, .int .i64 s] w fun e w' => e = .returned (.tuple #[.int .i64 0, .int .i64 1]) ∧ w = w' := by
  go_enter Try.func47, Try.ntmps47
  go_wp2_with fail
  go_ret2
  exact ⟨rfl, rfl⟩
/-- a new timer -/
def fresh (b c : Nat) (s : Int) : Tm := ⟨b, c, s, false, 0, 0, 0⟩
def CRel (j : Nat) (w : World) (m : Nat) (s29 : Value) (wr : World) : Prop := ∃ i : Nat, m = j - i ∧ i ≤ j ∧ s29 = .int .i64 i ∧ wr = w
theorem IsTb.put {w w' : World} {g : Nat} {t : Nat → Option Tm} (h : IsTb w g t) {j : Nat} (hj : j < 64) (hn : t j = none) {x : Tm} (hb : w.heap.size ≤ x.b) (ok : x.ok) (b : Blk w' x.b 113 x.cells)
    (hg : ∃ cs, Blk w' g 111 cs ∧ cs.size = 64 ∧ ∀ i, i < 64 → cs[i]? = some (Tm.ptr (upd t j (some x) i))) (k : ∀ b, b < w.heap.size → b ≠ g → w'.heap[b]? = w.heap[b]?) : IsTb w' g (upd t j (some x)) := by
  refine ⟨hg, fun i y hi hy => ?_, fun i l y z hi hl hy hz e => ?_⟩
  · unfold upd at hy
    by_cases e : i = j
    · rw [if_pos e] at hy; injection hy with hy; subst hy
      exact ⟨b, by have := h.lt; omega, ok⟩
    · rw [if_neg e] at hy
      obtain ⟨h1, h2, h3⟩ := h.tm i y hi hy
      exact ⟨(k y.b h1.lt h2).trans h1, h2, h3⟩
  · unfold upd at hy hz
    by_cases e1 : i = j
    · by_cases e2 : l = j
      · omega
      · rw [if_pos e1] at hy; rw [if_neg e2] at hz
        injection hy with hy; subst hy
        have := (h.tm l z hl hz).1.lt
        omega
    · by_cases e2 : l = j
      · rw [if_neg e1] at hy; rw [if_pos e2] at hz
        injection hz with hz; subst hz
        have := (h.tm i y hi hy).1.lt
        omega
      · rw [if_neg e1] at hy; rw [if_neg e2] at hz
        exact h.ne i l y z hi hl hy hz e
set_option maxHeartbeats 4000000 in
set_option maxRecDepth 100000 in
theorem create_ok (g : Nat) (t : Nat → Option Tm) (w : World) (h : IsTb w g t) (c : Nat) (hc : c < 3) (s : Int) (hs : 1 ≤ s ∧ s ≤ 63) (j : Nat) (hj : j < 64) (hn : t j = none) (hf : ∀ i, i < j → ∃ x, t i = some x) :
    Calls Try.prog 47 #[.pointer (some ⟨g, 0, none⟩), .int .i64 c, .int .i64 s] w fun e w' => ∃ b, e = .returned (.tuple #[.int .i64 j, .int .i64 0]) ∧ w.heap.size ≤ b ∧ IsTb w' g (upd t j (some (fresh b c s))) ∧ Only (Foot g t) w w' := by
  obtain ⟨cs, hb, hsz, hcs⟩ := h.b
  have hix : ∀ i : Nat, i < 64 → ∀ W, (Instr.index 109 (.agg cs) (.int .i64 i)).run Try.prog W = .ok (Tm.ptr (t i)) W := fun i hi W => idx64 cs i _ hi (hcs i hi) W
  have HX := Lib.hid hix
  have HC := Lib.hid hcs
  have HB : w.heap[g]? = some (.cells cs 111 (0, 0)) := hb
  have HH := Lib.hid h
  have HN := Lib.hid hn
  have HF := Lib.hid hf
  have hsz2 := Lib.hid hsz
  clear hix hcs h hn hf hsz
  go_enter Try.func47, Try.ntmps47
  go_wp2_with fail
  refine (is_yes c (by omega) _).mono ?_
  rintro e w1 ⟨rfl, rfl⟩
  go_wp2_with (refine wpList_load_row rfl 109 _ rfl g rfl 111 _ (0, 0) _ HB Try.underlying109 rfl (by rw [infoArr, hsz2.out]) ?_)
  go_loopg [29] j (fun m s29 wr => CRel j w m s29 wr)
  case atStart => exact ⟨0, by omega, by omega, rfl, rfl⟩
  case round =>
    obtain ⟨i, hm, hi, rfl, hw⟩ := hrel
    subst hw
    have HM := Lib.hid hm
    clear hm
    by_cases hlt : i < j
    · obtain ⟨x, hx⟩ := HF.out i hlt
      have hi64 : i < 64 := by omega
      have q0 : ∀ W, (Instr.index 109 (.agg cs) (.int .i64 i)).run Try.prog W = .ok (.pointer (some ⟨x.b, 0, none⟩)) W := fun W => by rw [HX.out i hi64 W, hx]; rfl
      clear hx
      go_wp2_with fail
      go_roundg (j - (i + 1))
      case measure => have := HM.out; omega
      case rel => exact ⟨i + 1, by omega, by omega, by go_num, rfl⟩
    · have hij : i = j := by omega
      subst hij
      have q0 : ∀ W, (Instr.index 109 (.agg cs) (.int .i64 i)).run Try.prog W = .ok (.pointer none) W := fun W => by rw [HX.out i hj W, HN.out]; rfl
      have q1 : wr.cell? ⟨g, i, none⟩ = some (.pointer none) := by have := HH.out.cell i hj; rwa [HN.out] at this
      have f0 := Blk.frozen HB
      have hgl := HH.out.lt
      go_wp2_with fail
      go_ret2
      have hbs := hb.set_ i (.pointer (some ⟨wr.heap.size, 0, none⟩))
      have hne : g ≠ wr.heap.size := by omega
      have hsz : (wr.setCell ⟨g, i, none⟩ (.pointer (some ⟨wr.heap.size, 0, none⟩))).heap.size = wr.heap.size := by simp
      refine ⟨wr.heap.size, rfl, Nat.le_refl _, HH.out.put hj HN.out (x := fresh wr.heap.size c s) (Nat.le_refl _) ⟨hc, by simp [fresh], by simp [fresh]⟩ ?_ ⟨_, hbs.alloc _, by simp [hsz2.out], fun k hk => ?_⟩ (fun b hb' hg' => ?_), ?_⟩
      · have := Blk.new (wr.setCell ⟨g, i, none⟩ (.pointer (some ⟨wr.heap.size, 0, none⟩))) 113 (fresh wr.heap.size c s).cells
        rw [hsz] at this
        exact this
      · rw [Array.getElem?_setIfInBounds]
        unfold upd
        by_cases e : k = i
        · subst e
          rw [if_pos rfl, if_pos rfl, if_pos (by rw [hsz2.out]; exact hk)]
          rfl
        · rw [if_neg (fun h => e h.symm), if_neg e]; exact HC.out k hk
      · rw [Below.heap_alloc _ _ b (by rw [hsz]; exact hb')]
        exact Below.heap_setCell wr _ _ b hg'
      · exact ((Only.refl _ wr).setCell (.inl (.inl rfl)) _).alloc _
end Go.Proofs.Ytdplpehphjgffaa.Px
