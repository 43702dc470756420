/- The walk of the statement ClockGoes: for any acts it returns true. No condition. -/
import Derived.Test.YtdplpehphjgffaaCka
set_option linter.unusedVariables false
set_option linter.unusedSimpArgs false
namespace Go.Proofs.Ytdplpehphjgffaa.Ck
open Go.RowKit Go.Proofs.Ytdplpehphjgffaa.Aid Go.Proofs.Ytdplpehphjgffaa.Kt
/-- an act: its kind, and a number -/
structure Deed where
  kind : Int
  n : Int
def DeedAt (w : World) (x : Addr) (a : Deed) : Prop := w.cell? x = some (.int .u8 a.kind) ∧ w.cell? ⟨x.block, x.off + 1, none⟩ = some (.int .i64 a.n)
/-- the acts that came in, as they read whenever nothing old has changed -/
def Deeds (w : World) (A : Option Addr) (n : Nat) : Prop := ∀ k, k < n → ∃ x, A = some x ∧ ∃ a : Deed, (0 ≤ a.kind ∧ a.kind ≤ 255) ∧ (-9223372036854775808 ≤ a.n ∧ a.n ≤ 9223372036854775807) ∧ ∀ w', Below w.heap.size w w' → DeedAt w' (x.add (k * 2)) a
theorem deeds_of {w : World} {A : Option Addr} {n : Nat} (h : Leaf.Row w [.int .u8, .int .i64] A n) : Deeds w A n := by
  intro k hk
  rcases h with rfl | ⟨x, E, rfl, hx, _, hE⟩
  · omega
  obtain ⟨hf, hc⟩ := hE k hk
  obtain ⟨k0, r0, e0, w0, f0⟩ := hf.int
  obtain ⟨k1, r1, rfl, w1, f1⟩ := f0.int
  obtain rfl := f1.done
  refine ⟨x, rfl, ⟨k0, k1⟩, bounds_u8 w0, bounds_i64 w1, fun w' hb => ?_⟩
  have c := fun j hj v hv => Leaf.cell_of (c := 2) (j := j) (v := v) hc hj hv
  have key : ∀ q : Addr, q.block = x.block → w'.cell? q = w.cell? q := fun q hq => hb.cell (by rw [hq]; exact hx)
  refine ⟨(key _ (add_block _ _)).trans (c 0 (by decide) _ (by rw [e0]; rfl)), (key ⟨(x.add (k * 2)).block, (x.add (k * 2)).off + 1, none⟩ (add_block _ _)).trans (c 1 (by decide) _ (by rw [e0]; rfl))⟩
theorem len_of {w : World} {A : Option Addr} {n : Nat} {ls : List Leaf.Lf} (h : Leaf.Row w ls A n) : n ≤ maxLen := by
  rcases h with rfl | ⟨_, _, _, _, h, _⟩
  · exact Nat.zero_le _
  · exact h
def GRel (n G : Nat) (w : World) (m : Nat) (s4 s5 i : Value) (wr : World) : Prop :=
  ∃ (k : Nat) (c : Ck), k ≤ n ∧ m = n - k ∧ i = .int .i64 k ∧ s4 = .int .i64 c.mono ∧ s5 = .int .i64 (c.mono + c.o2) ∧ c.ok ∧ c.gen ≤ k ∧ IsCk wr G c ∧ Below w.heap.size w wr
set_option maxHeartbeats 4000000 in
set_option maxRecDepth 100000 in
theorem goes_some (A : Option Addr) (n cap : Nat) (w : World) (hn : n ≤ 200) (hd : Deeds w A n) :
    Calls Try.prog 7 #[.slice A n cap] w fun e w' => e = .returned (.bool true) ∧ Below w.heap.size w w' := by
  have HD := Lib.hid hd
  clear hd
  go_enter Try.func7, Try.ntmps7
  go_wp2_with fail
  refine (fixed_any _).mono ?_
  rintro e w0 ⟨rfl, b0⟩
  go_wp2_with fail
  refine (new_any _).mono ?_
  rintro e w1 ⟨rfl, h1, b1, z1⟩
  have B1 : Below w.heap.size w w1 := b0.trans (b1.mono b0.size)
  have HZ := Lib.hid b0.size
  generalize w0.heap.size = G at h1 HZ ⊢
  clear b0 b1 z1
  go_wp2_with fail
  go_loopg [4, 5, 23] n (fun m s4 s5 i wr => GRel n G w m s4 s5 i wr)
  case atStart => exact ⟨0, ⟨0, 0, 0, 0, 0, false, 0, 0⟩, Nat.zero_le _, rfl, rfl, rfl, rfl, ok_new, by simp, h1, B1⟩
  case round =>
    obtain ⟨k, c, hk, hm, rfl, rfl, rfl, ok, hg, hc, hb⟩ := hrel
    have HM := Lib.hid hm
    have HO := Lib.hid ok
    have hm0 := ok.m
    have hn0 := ok.n
    have ho2 : 0 ≤ c.o2 ∧ c.o2 ≤ 1152921504606846976 := by have := ok.b; have h2 := this.2; have := ok.s; split at h2 <;> omega
    clear hm ok
    by_cases hlt : k < n
    · obtain ⟨x, rfl, a, hak, han, hat⟩ := HD.out k hlt
      obtain ⟨q0, q1⟩ := hat _ hb
      clear hat
      go_upto_region 10 with fail
      have hba := Blk.new wr 50 #[.int .u8 a.kind, .int .i64 a.n]
      have hda : IsCk (wr.alloc (.cells #[.int .u8 a.kind, .int .i64 a.n] 50)) G c := Blk.alloc hc _
      have hbb : Below w.heap.size w (wr.alloc (.cells #[.int .u8 a.kind, .int .i64 a.n] 50)) := hb.alloc hb.size _
      have hGA : G ≠ wr.heap.size := by have := Blk.lt hc; omega
      clear q0 q1 hc hb
      generalize wr.alloc (.cells #[.int .u8 a.kind, .int .i64 a.n] 50) = wa at hba hda hbb ⊢
      generalize wr.heap.size = L at hba hGA ⊢
      have q0 : wa.cell? ⟨L, 0, none⟩ = some (.int .u8 a.kind) := hba.cell 0
      have q1 : wa.cell? ⟨L, 1, none⟩ = some (.int .i64 a.n) := hba.cell 1
      go_upto_block 2 with fail
      have h5 : a.kind % 5 = 0 ∨ a.kind % 5 = 1 ∨ a.kind % 5 = 2 ∨ a.kind % 5 = 3 ∨ a.kind % 5 = 4 := by omega
      have hkq : a.kind % 5 = a.kind % 5 := rfl
      generalize hq : a.kind % 5 = q at h5 ⊢
      have HQ := Lib.hid hq
      have H5 := Lib.hid h5
      clear hq h5 hkq
      go_cut [2] (fun s2 wx => s2 = u2 ∧ IsCk wx G (c.act q a.n) ∧ Blk wx L 50 #[.int .u8 a.kind, .int .i64 a.n] ∧ Below w.heap.size w wx)
      case first =>
        have fin : ∀ w3 : World, wa.grownBy w3 (some G) → Blk w3 L 50 #[.int .u8 a.kind, .int .i64 a.n] ∧ Below w.heap.size w w3 := fun w3 g3 => ⟨hba.grown g3 (by intro he; injection he with he; exact hGA he.symm), below_grown hbb g3 HZ.out⟩
        have FIN := Lib.hid fin
        clear fin
        rcases H5.out with rfl | rfl | rfl | rfl | rfl
        all_goals
          go_wp2_with (first
            | (go_at_call 27; refine (do_advance G c _ hda HO.out a.n).mono ?_; rintro e w3 ⟨rfl, h3, g3⟩)
            | (go_at_call 28; refine (do_set G c _ hda HO.out a.n).mono ?_; rintro e w3 ⟨rfl, h3, g3⟩)
            | (go_at_call 29; refine (do_adjust G c _ hda HO.out a.n).mono ?_; rintro e w3 ⟨rfl, h3, g3⟩)
            | (go_at_call 30; refine (do_suspend G c _ hda HO.out a.n).mono ?_; rintro e w3 ⟨rfl, h3, g3⟩)
            | (go_at_call 31; refine (do_resume G c _ hda HO.out a.n).mono ?_; rintro e w3 ⟨rfl, h3, g3⟩))
          go_meet
          exact ⟨rfl, h3, FIN.out _ g3⟩
      case rest =>
        obtain ⟨rfl, h3, hba3, b3⟩ := hcut
        have hgo := Ck.act_goes HO.out q a.n
        have hok := Ck.act_ok HO.out (by omega) q a.n
        generalize c.act q a.n = d at h3 hgo hok
        obtain ⟨g1, g2, g3, g4⟩ := hgo
        have HOD := Lib.hid hok
        have hr := hok.r
        have hb2 := hok.b.1
        have dm := hok.m
        have dn := hok.n
        have do2 : d.o2 ≤ 1152921504606846976 := by have := hok.b; have h2 := this.2; have := hok.s; split at h2 <;> omega
        have do1 : 0 ≤ d.mono + d.o1 := hr.1
        clear hok hr
        have q0 : wc.cell? ⟨L, 0, none⟩ = some (.int .u8 a.kind) := hba3.cell 0
        have eo0 : d.off 0 = 0 := HOD.out.z
        have eo1 : d.off 1 = d.o1 := rfl
        have eo2 : d.off 2 = d.o2 := rfl
        have HR : Hid (GRel n G w (n - k - 1) (.int .i64 d.mono) (.int .i64 (d.mono + d.o2)) (.int .i64 (↑(k + 1) : Int)) wc) := Lib.hid ⟨k + 1, d, by omega, by omega, rfl, rfl, rfl, HOD.out, by omega, h3, b3⟩
        have HG4 := Lib.hid g4
        clear g4
        have hend : ∀ j, GRel n G w (n - k - 1) (.int .i64 d.mono) (.int .i64 (d.mono + d.o2)) (.int .i64 (↑(k + 1) : Int)) (wc.drewN j) := fun j => by
          obtain ⟨k', c', r1, r2, r3, r4, r5, r6, r7, r8, r9⟩ := HR.out
          exact ⟨k', c', r1, r2, r3, r4, r5, r6, r7, Blk.drewN r8 j, below_drewN r9 j⟩
        have HE := Lib.hid hend
        clear hend
        by_cases hq : q = 1 ∨ q = 2
        · obtain ⟨e1, e2⟩ := HG4.out hq
          have k1 : (d.mono != c.mono) = false := by simp [e1]
          have k2 : (d.mono + d.o2 != c.mono + c.o2) = false := by simp [e1, e2]
          clear e1 e2
          rcases hq with hq | hq
          all_goals
            have k3 : a.kind % 5 = q := HQ.out
            rw [hq] at k3
            clear hq
            go_wp2_with fail
            refine (now_some G d 0 _ h3 HOD.out (by omega)).mono ?_
            rintro e w4 ⟨rfl, n4, rfl⟩
            go_wp2_with fail
            refine (now_some G d 2 _ (Blk.drewN h3 _) HOD.out (by omega)).mono ?_
            rintro e w5 ⟨rfl, n5, rfl⟩
            go_wp2_with fail
            refine (now_some G d 1 _ (Blk.drewN h3 _) HOD.out (by omega)).mono ?_
            rintro e w6 ⟨rfl, n6, rfl⟩
            go_wp2_with fail
            go_roundg (n - k - 1)
            case measure => have := HM.out; omega
            case rel => exact HE.out _
        · have hx : q = 0 ∨ q = 3 ∨ q = 4 := by have := H5.out; omega
          rcases hx with hx | hx | hx
          all_goals
            have k3 : a.kind % 5 = q := HQ.out
            rw [hx] at k3
            clear hx hq
            go_wp2_with fail
            refine (now_some G d 0 _ h3 HOD.out (by omega)).mono ?_
            rintro e w4 ⟨rfl, n4, rfl⟩
            go_wp2_with fail
            refine (now_some G d 2 _ (Blk.drewN h3 _) HOD.out (by omega)).mono ?_
            rintro e w5 ⟨rfl, n5, rfl⟩
            go_wp2_with fail
            refine (now_some G d 1 _ (Blk.drewN h3 _) HOD.out (by omega)).mono ?_
            rintro e w6 ⟨rfl, n6, rfl⟩
            go_wp2_with fail
            go_roundg (n - k - 1)
            case measure => have := HM.out; omega
            case rel => exact HE.out _
    · have := HM.out
      obtain rfl : k = n := by omega
      go_wp2_with fail
      go_ret
      exact ⟨rfl, hb⟩
set_option maxHeartbeats 2000000 in
set_option maxRecDepth 100000 in
theorem goes_big (A : Option Addr) (n cap : Nat) (w : World) (hn : 200 < n) (hm : n ≤ maxLen) :
    Calls Try.prog 7 #[.slice A n cap] w fun e w' => e = .returned (.bool true) ∧ Below w.heap.size w w' := by
  unfold maxLen at hm
  go_enter Try.func7, Try.ntmps7
  go_wp2_with fail
  refine (fixed_any _).mono ?_
  rintro e w0 ⟨rfl, b0⟩
  go_wp2_with fail
  go_ret
  exact ⟨rfl, b0⟩
theorem goes_any (A : Option Addr) (n cap : Nat) (w : World) (hr : Leaf.Row w [.int .u8, .int .i64] A n) :
    Calls Try.prog 7 #[.slice A n cap] w fun e w' => e = .returned (.bool true) ∧ Below w.heap.size w w' := by
  by_cases hn : 200 < n
  · exact goes_big A n cap w hn (len_of hr)
  · exact goes_some A n cap w (by omega) (deeds_of hr)
end Go.Proofs.Ytdplpehphjgffaa.Ck
