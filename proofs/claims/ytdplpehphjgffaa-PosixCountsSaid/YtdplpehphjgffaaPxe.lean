/- The contract of posix's collect, and of Next and Len. No condition but that a timer's number is one. -/
import Derived.Test.YtdplpehphjgffaaPxd
import Derived.Test.YtdplpehphjgffaaFwn
set_option linter.unusedVariables false
set_option linter.unusedSimpArgs false
namespace Go.Proofs.Ytdplpehphjgffaa.Px
open Go.RowKit Go.Proofs.Ytdplpehphjgffaa.Aid Go.Proofs.Ytdplpehphjgffaa.Kt Go.Proofs.Ytdplpehphjgffaa.Sp Go.Proofs.Ytdplpehphjgffaa.Fw
attribute [local go_sem] max2_int min2_int max_two min_two
/-- how many times of a timer went by -/
def Tm.gone (x : Tm) (now : Int) : Int := cnt x.next x.interval now
def Tm.comes (x : Tm) (now : Int) : Bool := x.armed && !(x.gone now == 0)
/-- a timer that came -/
def Tm.went (x : Tm) (now : Int) : Tm := { x with armed := decide (0 < x.interval), next := nthv x.next x.interval (x.gone now), over := ovr (x.gone now - 1) }
theorem Tm.ok.cl {x : Tm} (h : x.ok) : Kt.cl x.next = x.next ∧ per x.interval = x.interval := by
  have h1 := h.n
  have h2 := h.i
  refine ⟨cl_in h1.1 h1.2, ?_⟩
  unfold per Kt.cl; omega
theorem Tm.ok.went {x : Tm} (h : x.ok) (now : Int) : (x.went now).ok := ⟨h.c, nthv_bd _ _ _ h.n h.i.1, h.i⟩
/-- the timer behind a collecting -/
def Went (x : Tm) (now : Int) (W : World) : Prop := Blk W x.b 113 (if x.comes now then x.went now else x).cells
theorem Went.no {x : Tm} {now : Int} {W : World} (h : Blk W x.b 113 x.cells) (e : x.comes now = false) : Went x now W := by unfold Went; rw [e]; exact h
theorem Went.yes {x : Tm} {now : Int} {W : World} (h : Blk W x.b 113 (x.went now).cells) (e : x.comes now = true) : Went x now W := by unfold Went; rw [e, if_pos rfl]; exact h
theorem blk_went {W : World} {b : Nat} {x : Tm} (h : Blk W b 113 x.cells) (o n : Int) (a : Bool) :
    Blk (((W.setCell ⟨b, 5, none⟩ (.int .i64 o)).setCell ⟨b, 3, none⟩ (.int .i64 n)).setCell ⟨b, 2, none⟩ (.bool a)) b 113 ({ x with armed := a, next := n, over := o } : Tm).cells := by
  simpa [Tm.cells] using ((h.set_ 5 (.int .i64 o)).set_ 3 (.int .i64 n)).set_ 2 (.bool a)
theorem grown_went (w W : World) (b : Nat) (h : w.grownBy W (some b)) (o n : Int) (a : Bool) : w.grownBy (((W.setCell ⟨b, 5, none⟩ (.int .i64 o)).setCell ⟨b, 3, none⟩ (.int .i64 n)).setCell ⟨b, 2, none⟩ (.bool a)) (some b) :=
  only_setCell (only_setCell (only_setCell h (.inl rfl) _) (.inl rfl) _) (.inl rfl) _
set_option maxHeartbeats 2000000 in
set_option maxRecDepth 100000 in
theorem collect_any (x : Tm) (now : Int) (w : World) (ok : x.ok) (h : Blk w x.b 113 x.cells) :
    Calls Try.prog 76 #[.pointer (some ⟨x.b, 0, none⟩), .int .i64 now] w fun e w' => e = .returned (.bool (x.comes now)) ∧ Went x now w' ∧ w.grownBy w' (some x.b) := by
  have hcl := ok.cl
  obtain ⟨n, hn⟩ : ∃ n, x.gone now = n := ⟨_, rfl⟩
  obtain ⟨nx, hnx⟩ : ∃ nx, nthv x.next x.interval n = nx := ⟨_, rfl⟩
  have hcb : 0 ≤ n ∧ n ≤ 9223372036854775806 := by rw [← hn]; exact cnt_bd _ _ _ ok.n ok.i
  have HF : Hid (∀ w, Calls Try.prog 81 #[.int .i64 x.next, .int .i64 x.interval, .int .i64 now] w fun e w' => e = .returned (.tuple #[.int .i64 nx, .int .i64 n]) ∧ Below w.heap.size w w') := Lib.hid fun w => by
    have := Next_any x.next x.interval now w
    rw [hcl.1, hcl.2, show cnt x.next x.interval now = n from hn, hnx] at this
    exact this
  have hwent : x.went now = { x with armed := decide (0 < x.interval), next := nx, over := ovr (n - 1) } := by unfold Tm.went; rw [hn, hnx]
  have hcm : x.comes now = (x.armed && !(n == 0)) := by unfold Tm.comes; rw [hn]
  have HR := Lib.hid hcm
  have HW := Lib.hid hwent
  have hib := ok.i
  clear hwent hcm hn hnx hcl
  obtain ⟨c0, c1, c2, c3, c4, c5⟩ := Tm.cc h
  go_enter Try.func76, Try.ntmps76
  go_upto_region 1 with fail
  go_cut [5, 6] (fun s5 s6 wx => s5 = .int .i64 nx ∧ s6 = .int .i64 n ∧ Blk wx x.b 113 x.cells ∧ w.grownBy wx (some x.b))
  case first =>
    have hd := h.drew
    go_region_with (first | (go_at_call 81; refine (HF.out _).mono ?_; rintro e W1 ⟨rfl, b1⟩))
    all_goals
      go_wp2_with fail
      go_meet
      exact ⟨rfl, rfl, hd.below b1 hd.lt, grown_below (only_drew (World.grownBy.refl w (some x.b))) b1⟩
  case rest =>
    obtain ⟨rfl, rfl, h2, g2⟩ := hcut
    clear h c0 c1 c2 c3 c4 c5
    obtain ⟨c0, c1, c2, c3, c4, c5⟩ := Tm.cc h2
    cases ha : x.armed
    · rw [ha] at c2
      have HA := Lib.hid ha
      clear ha
      go_wp2_with fail
      go_ret
      have er : x.comes now = false := by rw [HR.out, HA.out]; rfl
      exact ⟨ret_bool er.symm, Went.no h2 er, g2⟩
    · rw [ha] at c2
      have HA := Lib.hid ha
      clear ha
      cases hz : (n == 0)
      · have HZ := Lib.hid hz
        have f0 := h2.frozen
        have hnz : n ≠ 0 := by simpa using hz
        have hn1 : 1 ≤ n := by omega
        clear hnz
        go_wp2_with fail
        refine (Over_any _ _).mono ?_
        rintro e w3 ⟨rfl, rfl⟩
        go_wp2_with fail
        go_ret
        have er : x.comes now = true := by rw [HR.out, HA.out, HZ.out]; rfl
        exact ⟨ret_bool er.symm, Went.yes (by rw [HW.out]; exact blk_went h2 _ _ _) er, grown_went w wc x.b g2 _ _ _⟩
      · have HZ := Lib.hid hz
        go_wp2_with fail
        go_ret
        have er : x.comes now = false := by rw [HR.out, HA.out, HZ.out]; rfl
        exact ⟨ret_bool er.symm, Went.no h2 er, g2⟩
/-- the least next time of a clock's timers, of those below a number -/
def nextOf (t : Nat → Option Tm) (c : Int) : Nat → Int
  | 0 => 4611686018427387903
  | k + 1 => match t k with
    | some x => if x.armed && ((x.clock : Int) == c) then mnc (nextOf t c k) x.next else nextOf t c k
    | none => nextOf t c k
theorem nextOf_bd (t : Nat → Option Tm) (c : Int) (k : Nat) : -4611686018427387903 ≤ nextOf t c k ∧ nextOf t c k ≤ 4611686018427387903 := by
  induction k with
  | zero => unfold nextOf; omega
  | succ k ih =>
    unfold nextOf
    split
    · split
      · exact mnc_bd ih
      · exact ih
    · exact ih
theorem first_two (a b : Int) (ha : -4611686018427387903 ≤ a ∧ a ≤ 4611686018427387903) : firstOf [a, b] = mnc a b := by
  have e : mnc 4611686018427387903 a = a := by unfold mnc; rw [cl_in ha.1 ha.2]; split <;> omega
  simp [firstOf, e]
def XRel (t : Nat → Option Tm) (c : Int) (g : Nat) (w : World) (m : Nat) (s5 s8 : Value) (wr : World) : Prop :=
  ∃ i : Nat, m = 64 - i ∧ i ≤ 64 ∧ s8 = .int .i64 i ∧ s5 = .int .i64 (nextOf t c i) ∧ IsTb wr g t ∧ Below w.heap.size w wr
set_option maxHeartbeats 4000000 in
set_option maxRecDepth 100000 in
theorem next_any (g : Nat) (t : Nat → Option Tm) (w : World) (h : IsTb w g t) (c : Int) :
    Calls Try.prog 51 #[.pointer (some ⟨g, 0, none⟩), .int .i64 c] w fun e w' => e = .returned (.int .i64 (nextOf t c 64)) ∧ Below w.heap.size w w' := by
  go_enter Try.func51, Try.ntmps51
  go_wp2_with fail
  go_loopg [5, 8] 64 (fun m s5 s8 wr => XRel t c g w m s5 s8 wr)
  case atStart => exact ⟨0, by omega, by omega, rfl, rfl, h, Below.refl _ _⟩
  case round =>
    obtain ⟨i, hm, hi, rfl, rfl, h2, hb⟩ := hrel
    have HM := Lib.hid hm
    clear hm h
    have hnb := nextOf_bd t c i
    by_cases hlt : i < 64
    · obtain ⟨N, hN⟩ : ∃ N, nextOf t c i = N := ⟨_, rfl⟩
      have ens : nextOf t c (i + 1) = match t i with
        | some x => if x.armed && ((x.clock : Int) == c) then mnc (nextOf t c i) x.next else nextOf t c i
        | none => nextOf t c i := rfl
      rw [hN] at ens hnb ⊢
      have HE := Lib.hid ens
      clear ens hN
      go_wp2_with fail
      refine (at_any g t _ h2 i hlt).mono ?_
      rintro e w1 ⟨rfl, rfl⟩
      cases hx : t i with
      | none =>
        have HX := Lib.hid hx
        clear hx
        have e1 : Tm.ptr none = .pointer none := rfl
        rw [e1]
        clear e1
        go_wp2_with fail
        go_roundg (64 - (i + 1))
        case measure => have := HM.out; omega
        case rel => exact ⟨i + 1, rfl, by omega, by go_num, by rw [HE.out, HX.out], h2, hb⟩
      | some x =>
        obtain ⟨hxb, _, hxo⟩ := h2.tm i x hlt hx
        have HX := Lib.hid hx
        clear hx
        have e1 : Tm.ptr (some x) = .pointer (some ⟨x.b, 0, none⟩) := rfl
        rw [e1]
        clear e1
        obtain ⟨c0, c1, c2, c3, c4, c5⟩ := Tm.cc hxb
        cases ha : x.armed
        · rw [ha] at c2
          have HA := Lib.hid ha
          clear ha
          go_wp2_with fail
          go_roundg (64 - (i + 1))
          case measure => have := HM.out; omega
          case rel => exact ⟨i + 1, rfl, by omega, by go_num, by rw [HE.out, HX.out]; simp [HA.out], h2, hb⟩
        · rw [ha] at c2
          have HA := Lib.hid ha
          clear ha
          cases hc : ((x.clock : Int) == c)
          · go_wp2_with fail
            go_roundg (64 - (i + 1))
            case measure => have := HM.out; omega
            case rel => exact ⟨i + 1, rfl, by omega, by go_num, by rw [HE.out, HX.out]; simp [HA.out, hc], h2, hb⟩
          · have hF : ∀ W : World, W.cell? ⟨wr.heap.size, 0, none⟩ = some (.int .i64 N) → W.cell? ⟨wr.heap.size, 1, none⟩ = some (.int .i64 x.next) → Calls Try.prog 77 #[.slice (some ⟨wr.heap.size, 0, none⟩) 2 2] W fun e w' => e = .returned (.int .i64 (mnc N x.next)) ∧ W = w' := fun W k0 k1 => by
              have := first_any ⟨wr.heap.size, 0, none⟩ [N, x.next] 2 2 W rfl (by omega) (fun k hk => by
                have h01 : k = 0 ∨ k = 1 := by omega
                rcases h01 with rfl | rfl
                · exact k0
                · exact k1)
              rwa [first_two N x.next hnb] at this
            have HF := Lib.hid hF
            clear hF
            go_wp2_with fail
            have hal := Blk.new wr 3 #[.int .i64 N, .int .i64 x.next]
            refine (HF.out _ (hal.cell 0) (hal.cell 1)).mono ?_
            rintro e w2 ⟨rfl, rfl⟩
            go_wp2_with fail
            go_roundg (64 - (i + 1))
            case measure => have := HM.out; omega
            case rel => exact ⟨i + 1, rfl, by omega, by go_num, by rw [HE.out, HX.out]; simp [HA.out, hc], h2.alloc _, hb.alloc hb.size _⟩
    · have hie : i = 64 := by omega
      subst hie
      go_wp2_with fail
      go_ret
      exact ⟨rfl, hb⟩
def cntOf (t : Nat → Option Tm) : Nat → Nat
  | 0 => 0
  | k + 1 => match t k with
    | some _ => cntOf t k + 1
    | none => cntOf t k
theorem cntOf_bd (t : Nat → Option Tm) (k : Nat) : cntOf t k ≤ k := by
  induction k with
  | zero => exact Nat.le_refl _
  | succ k ih => unfold cntOf; split <;> omega
def LRel (t : Nat → Option Tm) (g : Nat) (w : World) (m : Nat) (s3 s5 : Value) (wr : World) : Prop :=
  ∃ i : Nat, m = 64 - i ∧ i ≤ 64 ∧ s5 = .int .i64 i ∧ s3 = .int .i64 (cntOf t i) ∧ wr = w
set_option maxHeartbeats 2000000 in
set_option maxRecDepth 100000 in
theorem len_any (g : Nat) (t : Nat → Option Tm) (w : World) (h : IsTb w g t) :
    Calls Try.prog 52 #[.pointer (some ⟨g, 0, none⟩)] w fun e w' => e = .returned (.int .i64 (cntOf t 64)) ∧ w = w' := by
  go_enter Try.func52, Try.ntmps52
  go_wp2_with fail
  go_loopg [3, 5] 64 (fun m s3 s5 wr => LRel t g w m s3 s5 wr)
  case atStart => exact ⟨0, by omega, by omega, rfl, rfl, rfl⟩
  case round =>
    obtain ⟨i, hm, hi, rfl, rfl, hw⟩ := hrel
    subst hw
    have HM := Lib.hid hm
    clear hm
    have hnb := cntOf_bd t i
    by_cases hlt : i < 64
    · have ens : cntOf t (i + 1) = match t i with
        | some _ => cntOf t i + 1
        | none => cntOf t i := rfl
      have HE := Lib.hid ens
      clear ens
      go_wp2_with fail
      refine (at_any g t _ h i hlt).mono ?_
      rintro e w1 ⟨rfl, rfl⟩
      cases hx : t i with
      | none =>
        have HX := Lib.hid hx
        clear hx
        have e1 : Tm.ptr none = .pointer none := rfl
        rw [e1]
        clear e1
        go_wp2_with fail
        go_roundg (64 - (i + 1))
        case measure => have := HM.out; omega
        case rel => exact ⟨i + 1, rfl, by omega, by go_num, by rw [HE.out, HX.out], rfl⟩
      | some x =>
        have HX := Lib.hid hx
        clear hx
        have e1 : Tm.ptr (some x) = .pointer (some ⟨x.b, 0, none⟩) := rfl
        rw [e1]
        clear e1
        go_wp2_with fail
        go_roundg (64 - (i + 1))
        case measure => have := HM.out; omega
        case rel => exact ⟨i + 1, rfl, by omega, by go_num, by rw [HE.out, HX.out]; go_num, rfl⟩
    · have hie : i = 64 := by omega
      subst hie
      go_wp2_with fail
      go_ret
      exact ⟨rfl, rfl⟩
end Go.Proofs.Ytdplpehphjgffaa.Px
