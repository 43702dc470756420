/- The contract of posix's Collect. No condition. -/
import Derived.Test.YtdplpehphjgffaaPxe
set_option linter.unusedVariables false
set_option linter.unusedSimpArgs false
namespace Go.Proofs.Ytdplpehphjgffaa.Px
open Go.RowKit Go.Proofs.Ytdplpehphjgffaa.Aid Go.Proofs.Ytdplpehphjgffaa.Kt Go.Proofs.Ytdplpehphjgffaa.Sp Go.Proofs.Ytdplpehphjgffaa.Fw
/-- a timer behind a collecting, by the clocks' times -/
def Tm.aft (x : Tm) (x0 x1 x2 : Int) : Tm := if x.comes (at3 x0 x1 x2 x.clock) then x.went (at3 x0 x1 x2 x.clock) else x
/-- the timers, those below k collected -/
def colT (t : Nat → Option Tm) (x0 x1 x2 : Int) (k i : Nat) : Option Tm := if i < k then (t i).map fun x => x.aft x0 x1 x2 else t i
/-- the events of those below k -/
def colN (t : Nat → Option Tm) (x0 x1 x2 : Int) : Nat → Nat
  | 0 => 0
  | k + 1 => match t k with
    | some x => if x.comes (at3 x0 x1 x2 x.clock) then colN t x0 x1 x2 k + 1 else colN t x0 x1 x2 k
    | none => colN t x0 x1 x2 k
def colE (t : Nat → Option Tm) (x0 x1 x2 : Int) : Nat → List Value
  | 0 => []
  | k + 1 => match t k with
    | some x => if x.comes (at3 x0 x1 x2 x.clock) then colE t x0 x1 x2 k ++ [.int .i64 k, .int .i64 x.signal, .int .i64 (x.went (at3 x0 x1 x2 x.clock)).over] else colE t x0 x1 x2 k
    | none => colE t x0 x1 x2 k
theorem colN_bd (t : Nat → Option Tm) (x0 x1 x2 : Int) (k : Nat) : colN t x0 x1 x2 k ≤ k := by
  induction k with
  | zero => exact Nat.le_refl _
  | succ k ih => unfold colN; split; split <;> omega; omega
theorem col_none {t : Nat → Option Tm} {x0 x1 x2 : Int} {k : Nat} (h : t k = none) : colN t x0 x1 x2 (k + 1) = colN t x0 x1 x2 k ∧ colE t x0 x1 x2 (k + 1) = colE t x0 x1 x2 k := by
  constructor
  · show (match t k with | some x => _ | none => _) = _
    rw [h]
  · show (match t k with | some x => _ | none => _) = _
    rw [h]
theorem col_no {t : Nat → Option Tm} {x0 x1 x2 : Int} {k : Nat} {x : Tm} (h : t k = some x) (hc : x.comes (at3 x0 x1 x2 x.clock) = false) : colN t x0 x1 x2 (k + 1) = colN t x0 x1 x2 k ∧ colE t x0 x1 x2 (k + 1) = colE t x0 x1 x2 k := by
  constructor
  · conv => lhs; unfold colN
    rw [h]; simp only [hc]; rfl
  · conv => lhs; unfold colE
    rw [h]; simp only [hc]; rfl
theorem col_yes {t : Nat → Option Tm} {x0 x1 x2 : Int} {k : Nat} {x : Tm} (h : t k = some x) (hc : x.comes (at3 x0 x1 x2 x.clock) = true) : colN t x0 x1 x2 (k + 1) = colN t x0 x1 x2 k + 1 ∧ colE t x0 x1 x2 (k + 1) = colE t x0 x1 x2 k ++ [.int .i64 k, .int .i64 x.signal, .int .i64 (x.went (at3 x0 x1 x2 x.clock)).over] := by
  constructor
  · conv => lhs; unfold colN
    rw [h]; simp only [hc, if_true]
  · conv => lhs; unfold colE
    rw [h]; simp only [hc, if_true]
theorem Tm.aft_b (x : Tm) (x0 x1 x2 : Int) : (x.aft x0 x1 x2).b = x.b := by unfold Tm.aft; split <;> rfl
theorem Tm.aft_c (x : Tm) (x0 x1 x2 : Int) : (x.aft x0 x1 x2).clock = x.clock := by unfold Tm.aft; split <;> rfl
theorem Tm.ok.aft {x : Tm} (h : x.ok) (x0 x1 x2 : Int) : (x.aft x0 x1 x2).ok := by unfold Tm.aft; split; exact h.went _; exact h
theorem colT_none {t : Nat → Option Tm} {x0 x1 x2 : Int} {k : Nat} (h : t k = none) : colT t x0 x1 x2 (k + 1) = colT t x0 x1 x2 k := by
  funext i; unfold colT
  by_cases e : i = k
  · subst e; rw [if_pos (by omega), if_neg (by omega), h]; rfl
  · by_cases h2 : i < k
    · rw [if_pos (by omega), if_pos h2]
    · rw [if_neg (by omega), if_neg h2]
theorem colT_some {t : Nat → Option Tm} {x0 x1 x2 : Int} {k : Nat} {x : Tm} (h : t k = some x) : colT t x0 x1 x2 (k + 1) = upd (colT t x0 x1 x2 k) k (some (x.aft x0 x1 x2)) := by
  funext i
  show colT t x0 x1 x2 (k + 1) i = if i = k then some (x.aft x0 x1 x2) else colT t x0 x1 x2 k i
  unfold colT
  by_cases e : i = k
  · subst e; rw [if_pos (by omega), if_pos rfl, h]; rfl
  · rw [if_neg e]
    by_cases h2 : i < k
    · rw [if_pos (by omega), if_pos h2]
    · rw [if_neg (by omega), if_neg h2]
theorem colT_at (t : Nat → Option Tm) (x0 x1 x2 : Int) (k : Nat) : colT t x0 x1 x2 k k = t k := by unfold colT; rw [if_neg (by omega)]
theorem colT_foot {t : Nat → Option Tm} {x0 x1 x2 : Int} {k g b : Nat} (h : Foot g (colT t x0 x1 x2 k) b) : Foot g t b := by
  rcases h with h | ⟨i, x, hi, hx, hb⟩
  · exact .inl h
  · unfold colT at hx
    split at hx
    · obtain ⟨y, hy, rfl⟩ := Option.map_eq_some_iff.1 hx
      exact .inr ⟨i, y, hi, hy, by rw [← hb, Tm.aft_b]⟩
    · exact .inr ⟨i, x, hi, hx, hb⟩
theorem infoEv : (Try.prog.info? 85).map (fun i => (i.zero, i.size, i.bytes)) = some (some (.agg #[.int .i64 0, .int .i64 0, .int .i64 0]), 3, 24) := by kernel_rfl
def KRel (t : Nat → Option Tm) (x0 x1 x2 : Int) (g T : Nat) (w : World) (m : Nat) (s5 s14 : Value) (wr : World) : Prop :=
  ∃ i : Nat, m = 64 - i ∧ i ≤ 64 ∧ s14 = .int .i64 i ∧ wr.ownsRow (w.heap.size + 1) 85 3 s5 (colN t x0 x1 x2 i) (colE t x0 x1 x2 i) ∧ IsTb wr g (colT t x0 x1 x2 i) ∧ Blk wr T 68 #[.int .i64 x0, .int .i64 x1, .int .i64 x2] ∧ Only (Foot g t) w wr
/-- what Collect gives -/
def Coll (t : Nat → Option Tm) (x0 x1 x2 : Int) (g : Nat) (w : World) (e : Ending) (w' : World) : Prop :=
  ∃ v, e = .returned v ∧ w'.ownsRow w.heap.size 85 3 v (colN t x0 x1 x2 64) (colE t x0 x1 x2 64) ∧ IsTb w' g (colT t x0 x1 x2 64) ∧ Only (Foot g t) w w'
set_option maxHeartbeats 2000000 in
set_option maxRecDepth 100000 in
theorem Collect_any (g : Nat) (t : Nat → Option Tm) (w : World) (h : IsTb w g t) (x0 x1 x2 : Int) :
    Calls Try.prog 49 #[.pointer (some ⟨g, 0, none⟩), .agg #[.int .i64 x0, .int .i64 x1, .int .i64 x2]] w (Coll t x0 x1 x2 g w) := by
  have hfl : ∀ b, Foot g t b → b < w.heap.size := fun b hb => h.foot_lt hb
  have HFL := Lib.hid hfl
  have ht := Blk.new w 68 #[.int .i64 x0, .int .i64 x1, .int .i64 x2]
  have h1 := h.alloc (.cells #[.int .i64 x0, .int .i64 x1, .int .i64 x2] 68)
  have O1 : Only (Foot g t) w (w.alloc (.cells #[.int .i64 x0, .int .i64 x1, .int .i64 x2] 68)) := (Only.refl _ w).alloc _
  have hw1 : w.heap.size + 1 ≤ (w.alloc (.cells #[.int .i64 x0, .int .i64 x1, .int .i64 x2] 68)).heap.size := by simp
  obtain ⟨cs, hb, hsz, hcs⟩ := h1.b
  have hix : ∀ i : Nat, i < 64 → ∀ W, (Instr.index 109 (.agg cs) (.int .i64 i)).run Try.prog W = .ok (Tm.ptr (t i)) W := fun i hi W => idx64 cs i _ hi (hcs i hi) W
  have HX := Lib.hid hix
  have hsz2 := Lib.hid hsz
  clear hfl hix hcs hsz h
  go_enter Try.func49, Try.ntmps49
  go_upto_region 1 with fail
  generalize w.alloc (.cells #[.int .i64 x0, .int .i64 x1, .int .i64 x2] 68) = W at hb ht h1 O1 hw1 ⊢
  have HW1 := Lib.hid hw1
  clear hw1
  have HB : W.heap[g]? = some (.cells cs 111 (0, 0)) := hb
  go_wp2_with (refine wpList_load_row rfl 109 _ rfl g rfl 111 _ (0, 0) _ HB Try.underlying109 rfl (by rw [infoArr, hsz2.out]) ?_)
  have h0 : colT t x0 x1 x2 0 = t := by funext i; unfold colT; rw [if_neg (by omega)]
  go_loopg [5, 14] 64 (fun m s5 s14 wr => KRel t x0 x1 x2 g w.heap.size w m s5 s14 wr)
  case atStart => exact ⟨0, by omega, by omega, rfl, World.ownsRow_nil _ _ _ _, by rw [h0]; exact h1, ht, O1⟩
  case round =>
    obtain ⟨i, hm, hi, rfl, hown, h2, ht2, O2⟩ := hrel
    have HM := Lib.hid hm
    clear hm h0 h1 ht O1 HB hb
    have hcb := colN_bd t x0 x1 x2 i
    by_cases hlt : i < 64
    · cases hx : t i with
      | none =>
        have q0 : ∀ W, (Instr.index 109 (.agg cs) (.int .i64 i)).run Try.prog W = .ok (.pointer none) W := fun W => by rw [HX.out i hlt W, hx]; rfl
        have HN := Lib.hid hx
        clear hx
        go_wp2_with fail
        go_roundg (64 - (i + 1))
        case measure => have := HM.out; omega
        case rel => exact ⟨i + 1, rfl, by omega, by go_num, by rw [(col_none HN.out).1, (col_none HN.out).2]; exact hown, by rw [colT_none HN.out]; exact h2, ht2, O2⟩
      | some x =>
        have q0 : ∀ W, (Instr.index 109 (.agg cs) (.int .i64 i)).run Try.prog W = .ok (.pointer (some ⟨x.b, 0, none⟩)) W := fun W => by rw [HX.out i hlt W, hx]; rfl
        have hci : colT t x0 x1 x2 i i = some x := by rw [colT_at]; exact hx
        have HN := Lib.hid hx
        have HCI := Lib.hid hci
        obtain ⟨hxb, hxg, hxo⟩ := h2.tm i x hlt hci
        have hxl : x.b < w.heap.size := HFL.out _ (.inr ⟨i, x, hlt, hx, rfl⟩)
        have HXL := Lib.hid hxl
        have hcc := hxo.c
        clear hx hci hxl
        have c0 : wr.cell? ⟨x.b, 0, none⟩ = some (.int .i64 x.clock) := hxb.cell 0
        have t0 := at3_cell ht2 x.clock hcc
        go_wp2_with fail
        refine (collect_any x (at3 x0 x1 x2 x.clock) _ hxo hxb).mono ?_
        rintro e w3 ⟨rfl, hw3, g3⟩
        clear c0 t0 q0
        have hwb : Blk w3 x.b 113 (x.aft x0 x1 x2).cells := hw3
        have h3 := h2.turn hlt HCI.out (Tm.aft_b x x0 x1 x2) (hxo.aft x0 x1 x2) hwb g3
        rw [← colT_some HN.out] at h3
        have ht3 := ht2.grown g3 (by intro he; injection he with he; have := HXL.out; omega)
        have O3 := O2.grown g3 (.inl (.inr ⟨i, x, hlt, HN.out, rfl⟩))
        have hown3 : w3.ownsRow (w.heap.size + 1) 85 3 _ (colN t x0 x1 x2 i) (colE t x0 x1 x2 i) := own_same hown fun b hb => g3.block b (own_block hown hb).2 (by
          intro he; injection he with he; have := (own_block hown hb).1; have := HXL.out; omega)
        clear hw3 h2 ht2 O2 hown g3 hxb
        cases hcm : x.comes (at3 x0 x1 x2 x.clock)
        · have HCM := Lib.hid hcm
          clear hcm
          go_wp2_with fail
          go_roundg (64 - (i + 1))
          case measure => have := HM.out; omega
          case rel => exact ⟨i + 1, rfl, by omega, by go_num, by rw [(col_no HN.out HCM.out).1, (col_no HN.out HCM.out).2]; exact hown3, h3, ht3, O3⟩
        · have HCM := Lib.hid hcm
          clear hcm
          have ex : x.aft x0 x1 x2 = x.went (at3 x0 x1 x2 x.clock) := by unfold Tm.aft; rw [HCM.out, if_pos rfl]
          obtain ⟨ov, hov⟩ : ∃ ov, (x.went (at3 x0 x1 x2 x.clock)).over = ov := ⟨_, rfl⟩
          have HOV := Lib.hid hov
          have c1 : w3.cell? ⟨x.b, 1, none⟩ = some (.int .i64 x.signal) := by have := hwb.cell 1; rw [ex] at this; exact this
          have c5 : w3.cell? ⟨x.b, 5, none⟩ = some (.int .i64 ov) := by have := hwb.cell 5; rw [ex] at this; rw [← hov]; exact this
          have kp : ∀ W w' : World, W.heap = (w3.alloc (.cells #[.int .i64 (i : Int), .int .i64 x.signal, .int .i64 ov] 85)).heap → W.grownBy w' u5.ownBlock → w'.cell? ⟨x.b, 1, none⟩ = some (.int .i64 x.signal) ∧ w'.cell? ⟨x.b, 5, none⟩ = some (.int .i64 ov) := fun W w' hW hg => by
            have hA := hwb.alloc (.cells #[.int .i64 (i : Int), .int .i64 x.signal, .int .i64 ov] 85)
            have hA2 : Blk W x.b 113 (x.aft x0 x1 x2).cells := by unfold Blk at hA ⊢; rw [hW]; exact hA
            have hB := hA2.grown hg (by intro he; have := own_block hown3 he.symm; have := HXL.out; omega)
            rw [ex] at hB
            exact ⟨hB.cell 1, by have := hB.cell 5; rw [← hov]; exact this⟩
          have KP := Lib.hid kp
          clear hov ex kp
          go_upto_region 8 with fail
          obtain ⟨i0, hinf, hz0, hz1, hz2⟩ := info_parts infoEv
          have hb3 : w.heap.size + 1 ≤ w3.heap.size := by have := HW1.out; have := O3.size; have := ht3.lt; omega
          go_region_held3 (fun w' => w'.cell? ⟨x.b, 1, none⟩ = some (.int .i64 x.signal) ∧ w'.cell? ⟨x.b, 5, none⟩ = some (.int .i64 ov)) (first | go_keep | exact KP.out _ _ (by rfl) hgrow)
            ((refine step_append_lies _ (by rfl) _ _ _ (by rfl) (w.heap.size + 1) 85 i0 _ 3 24 Try.underlying82 hinf hz0 hz1 hz2 (by rfl) (by decide) _ _ _ (by rfl) (by exact own_alloc hown3 _) ⟨w3.heap.size, 0, none⟩ 1 1 [.int .i64 (i : Int), .int .i64 x.signal, .int .i64 ov] (by rfl) (by rfl) (by exact World.news_of_block (heap_alloc_new w3 _)) (by simp [Value.oneCell']) (by decide) (by unfold maxLen; omega) (by omega) (by simp; omega) (w3.heap.size + 1) (by simp) ?_; intro gg cap w4 hown4 hgrow hat hlt4))
          all_goals
            go_wp2_with fail
            have hgr : (w3.alloc (.cells #[.int .i64 (i : Int), .int .i64 x.signal, .int .i64 ov] 85)).grownBy w4 u5.ownBlock := ⟨hgrow.os, hgrow.tape, hgrow.output, hgrow.size, hgrow.block⟩
            clear hgrow
            have h4 := h3.same (w' := w4) fun b hb => by
              have hbl := colT_foot hb
              have hlt := HFL.out b hbl
              exact (hgr.block b (by simp; omega) (by intro he; have := own_block hown3 he.symm; omega)).trans (Below.heap_alloc w3 _ b (by omega))
            have ht4 : Blk w4 w.heap.size 68 #[.int .i64 x0, .int .i64 x1, .int .i64 x2] := (ht3.alloc _).grown hgr (by intro he; have := own_block hown3 he.symm; omega)
            have O4 : Only (Foot g t) w w4 := ⟨hgr.os.trans O3.os, hgr.tape.trans O3.tape, hgr.output.trans O3.output, by have := hgr.size; simp at this; have := O3.size; omega, fun b hb hn => (hgr.block b (by simp; omega) (by intro he; have := own_block hown3 he.symm; omega)).trans ((Below.heap_alloc w3 _ b (by omega)).trans (O3.block b hb hn))⟩
            go_roundg (64 - (i + 1))
            case measure => have := HM.out; omega
            case rel => exact ⟨i + 1, rfl, by omega, by go_num, by rw [(col_yes HN.out HCM.out).1, (col_yes HN.out HCM.out).2, HOV.out]; exact hown4, h4, ht4, O4⟩
    · have hie : i = 64 := by omega
      subst hie
      go_wp2_with fail
      go_ret
      exact ⟨_, rfl, own_mono hown (by omega), h2, O2⟩
end Go.Proofs.Ytdplpehphjgffaa.Px
