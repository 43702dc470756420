/- Lemmas and contracts for RowBaseMoves, merged by program out of Qs. No condition. -/
import Derived.Test.YtcoibhmgblicfaaBz10
import Derived.Deep.RegionLaw
import Derived.StillTailTactics
set_option linter.unusedVariables false
set_option linter.unusedSimpArgs false
/- The contract of queue's All. No condition but that memory holds a queue. -/
set_option linter.unusedVariables false
set_option linter.unusedSimpArgs false
namespace Go.Proofs.Ytcoibhmgblicfaa.Q
open Go.RowKit Go.Proofs.Ytcoibhmgblicfaa.Aid Go.Proofs.Ytcoibhmgblicfaa.Tr Go.Proofs.Ytcoibhmgblicfaa.Kt
def ARel (w0 : World) (q g gl m1 m2 : Nat) (s : TS) (T : Sh) (fl : List Nat) (tm : Nat → Tm) (A B : Value → Option Value) (m : Nat) (s3 s4 s5 : Value) (W : World) : Prop :=
  ∃ done rest HB, T.ino = done ++ rest ∧ m = rest.length ∧ W.ownsRow w0.heap.size 29 5 s3 done.length (tmc (done.map tm)) ∧ s4 = .pointer (some ⟨HB, 0, none⟩) ∧ s5 = .bool (decide (rest ≠ [])) ∧ Blk W HB 69 (two_ (hd rest : Nat) (hturn s (hd rest))) ∧ w0.heap.size ≤ HB ∧ (∀ b, s3.ownBlock = some b → b ≠ HB) ∧ QIs W q g gl m1 m2 s T fl tm A B ∧ Below w0.heap.size w0 W
theorem own_zero (w : World) (base : Nat) (e : TypeId) (size : Nat) : w.ownsRow base e size (.slice none 0 0) 0 [] := ⟨by simp, .inl ⟨rfl, rfl⟩⟩
theorem qf_lt {w0 W : World} {q g gl m1 m2 : Nat} {s : TS} {T : Sh} {fl : List Nat} {tm : Nat → Tm} {A B : Value → Option Value} (h : QIs w0 q g gl m1 m2 s T fl tm A B) {b : Nat} (hb : w0.heap.size ≤ b) : ¬ QF q g gl m1 m2 b := fun e => by have := h.foot_lt e; omega
set_option maxHeartbeats 2000000 in
set_option maxRecDepth 100000 in
theorem QAll_any (q g gl m1 m2 : Nat) (s : TS) (T : Sh) (fl : List Nat) (tm : Nat → Tm) (A B : Value → Option Value) (w : World) (h : QIs w q g gl m1 m2 s T fl tm A B) :
    Calls Try.prog 32 #[.pointer (some ⟨q, 0, none⟩)] w fun e w' => ∃ v, e = .returned v ∧ w'.ownsRow w.heap.size 29 5 v T.ino.length (tmc (T.ino.map tm)) ∧ Below w.heap.size w w' := by
  obtain ⟨q0, q1, q2⟩ := h.hc
  have CF := First_row w h.t
  obtain ⟨p0, hp0⟩ : ∃ p, ((hd T.ino : Nat) : Int) = p := ⟨_, rfl⟩
  obtain ⟨p1, hp1⟩ : ∃ p, hturn s (hd T.ino) = p := ⟨_, rfl⟩
  have hnd0 : hnd s (hd T.ino) = .agg #[.int .i64 p0, .int .i64 p1] := by rw [← hp0, ← hp1]; rfl
  obtain ⟨ok, hok⟩ : ∃ q, decide (T.ino ≠ []) = q := ⟨_, rfl⟩
  rw [hnd0, hok] at CF
  have HP := Lib.hid (And.intro hp0 (And.intro hp1 hok))
  have HCF := Lib.hid CF
  have H := Lib.hid h
  have HNF := Lib.hid (fun (b : Nat) (hb : w.heap.size ≤ b) => qf_lt (W := w) h hb)
  have HLE := Lib.hid (show T.ino.length ≤ 64 from by
    have h1 := h.t.cnt
    have h2 := h.t.m.sz
    have h3 := h.t.cap
    have h4 := h.most
    omega)
  clear CF hnd0 hp0 hp1 hok h
  go_enter Try.func32, Try.ntmps32
  go_wp2_with fail
  refine HCF.out.mono ?_
  rintro e W3 ⟨rfl, b3⟩
  clear q0 q1 q2
  have Q3 := (H.out.below b3).alloc (.cells #[.int .i64 p0, .int .i64 p1] 69)
  have B3 := b3.alloc b3.size (.cells #[.int .i64 p0, .int .i64 p1] 69)
  have h3 := Blk.new W3 69 (two_ p0 p1)
  have s3 := b3.size
  unfold two_ at h3
  clear HCF b3
  go_upto_region 5 with fail
  generalize W3.alloc (.cells #[.int .i64 p0, .int .i64 p1] 69) = W4 at Q3 B3 h3 ⊢
  generalize W3.heap.size = HB at h3 s3 ⊢
  have S := Lib.hid (show ARel w q g gl m1 m2 s T fl tm A B T.ino.length (.slice none 0 0) (.pointer (some ⟨HB, 0, none⟩)) (.bool ok) W4 from
    ⟨[], T.ino, HB, rfl, rfl, own_zero _ _ _ _, rfl, by rw [HP.out.2.2], by rw [HP.out.1, HP.out.2.1]; exact h3, s3, fun b hb => (by cases hb), Q3, B3⟩)
  clear Q3 B3 h3 s3
  go_loopg [3, 4, 5] T.ino.length (fun m s3 s4 s5 wr => ARel w q g gl m1 m2 s T fl tm A B m s3 s4 s5 wr)
  case atStart => exact S.out
  case round =>
    obtain ⟨done, rest, HB2, hpo, rfl, ho, rfl, rfl, hbx, hHB, hne, HQ, HBl⟩ := hrel
    clear S HP
    cases rest with
    | nil =>
      rw [show decide (([] : List Nat) ≠ []) = false from rfl]
      have hd0 : T.ino = done := by rw [hpo, List.append_nil]
      rw [← hd0] at ho
      have HH := Lib.hid (And.intro ho HBl)
      clear ho hbx hHB hne HQ HBl hpo hd0
      go_wp2_with fail
      go_ret
      exact ⟨_, rfl, HH.out.1, HH.out.2⟩
    | cons x rest =>
      rw [show decide (x :: rest ≠ []) = true from rfl]
      have hxT : x ∈ T.ino := by rw [hpo]; simp
      have hx0 := HQ.t.rd.ne0 hxT
      have e1 : hd (x :: rest) = x := rfl
      have e2 : hturn s x = (s.f x).turn := by unfold hturn; rw [if_neg hx0]
      rw [e1, e2] at hbx
      have C2 := fun W hW => Next_row (w := W) (g := g) (gl := gl) (s := s) (T := T) (fl := fl) hW hpo
      have hn0 : hnd s (hd rest) = .agg #[.int .i64 (hd rest : Nat), .int .i64 (hturn s (hd rest))] := rfl
      simp only [hn0] at C2
      obtain ⟨q0, q1, q2⟩ := HQ.drew.hc
      obtain ⟨l1, l2⟩ := HQ.drew.look hxT
      have fe := field_ent (tm x) x (s.f x).turn
      obtain ⟨tx, htx⟩ : ∃ t, (s.f x).turn = t := ⟨_, rfl⟩
      rw [htx] at hbx l1 l2 fe
      simp only [htx] at C2
      obtain ⟨r0, hr0⟩ : ∃ q, ((hd rest : Nat) : Int) = q := ⟨_, rfl⟩
      obtain ⟨r1, hr1⟩ : ∃ q, hturn s (hd rest) = q := ⟨_, rfl⟩
      obtain ⟨ok2, hok2⟩ : ∃ q, decide (rest ≠ []) = q := ⟨_, rfl⟩
      simp only [hr0, hr1, hok2] at C2
      have HC2 := Lib.hid C2
      have HR := Lib.hid (And.intro hr0 (And.intro hr1 (And.intro hok2 hpo)))
      have hlp : done.length + (rest.length + 1) = T.ino.length := by rw [hpo, List.length_append]; rfl
      have hll := HLE.out
      obtain ⟨h0, h1⟩ := two_cells hbx.drew
      have ho1 : ((wr.alloc (.cells #[.int .i64 (tm x).id, .int .i64 (tm x).clock, .int .i64 (tm x).soft, .int .i64 (tm x).hard, .bool (tm x).lazy] 29)).drew).ownsRow w.heap.size 29 5 u3 done.length (tmc (done.map tm)) := own_drewN (own_alloc ho _) 1
      have hy1 : Blk ((wr.alloc (.cells #[.int .i64 (tm x).id, .int .i64 (tm x).clock, .int .i64 (tm x).soft, .int .i64 (tm x).hard, .bool (tm x).lazy] 29)).drew) wr.heap.size 29 #[.int .i64 (tm x).id, .int .i64 (tm x).clock, .int .i64 (tm x).soft, .int .i64 (tm x).hard, .bool (tm x).lazy] := (Blk.new wr _ _).drew
      have HW := Lib.hid (And.intro HQ (And.intro HBl (And.intro hbx ho)))
      obtain ⟨i0, z0, hi0, hz0, hz1, hz2, hz3⟩ := infoTm'
      have hbs := HBl.size
      unfold ent at l2
      clear C2 hn0 htx HQ hbx hpo e1 e2 hxT hx0 hr0 hr1 hok2 HBl ho
      go_upto_region 7 with fail
      go_region_law (refine step_append_any _ (by rfl) _ _ _ (by rfl) w.heap.size 29 i0 z0 5 40 Try.underlying27 hi0 hz0 hz2 hz3 hz1 (by decide) u3 done.length (tmc (done.map tm)) (by rfl) (by with_reducible exact ho1) (Value.slice (some ⟨wr.heap.size, 0, none⟩) 1 1) 1 (Tm.list (tm x)) (by rfl) (by exact src_block hy1 rfl 1) (tm_ones _) (by unfold maxLen; omega) (by omega) (by simp; omega) ?_; intro v2 w2 ho2 hg2 hb2)
      all_goals
        have bb := HW.out
        have b2 : Below w.heap.size w w2 := (below_drewN (bb.2.1.alloc hbs _) 1).grown hg2 (by simp; omega) (fun b hb => (own_block ho1 hb).1)
        have Q2 : QIs w2 q g gl m1 m2 s T fl tm A B := H.out.same fun b hb => b2.block b (H.out.foot_lt hb)
        have x2 : Blk w2 HB2 69 (two_ x tx) := ((bb.2.2.1.alloc (.cells #[.int .i64 (tm x).id, .int .i64 (tm x).clock, .int .i64 (tm x).soft, .int .i64 (tm x).hard, .bool (tm x).lazy] 29)).drew).grown hg2 (fun e => hne HB2 e.symm rfl)
        have s2 := b2.size
        have o2 := own_alloc ho2 (.cells #[.int .i64 x, .int .i64 tx] 69)
        have l2' := fun b hb => (own_block (b := b) ho2 hb).2
        have Q5 := (Q2.alloc (.cells #[.int .i64 x, .int .i64 tx] 69)).drew
        have B5 := b2.alloc b2.size (.cells #[.int .i64 x, .int .i64 tx] 69)
        have x5 := (Blk.new w2 69 (two_ x tx)).drew
        unfold two_ at x5
        clear h0 h1 q0 q1 q2 l1 l2 ho1 hy1 HW bb hbs hb2 hg2 b2 Q2 ho2 hne hHB
        obtain ⟨h0, h1⟩ := two_cells x2
        clear x2
        go_upto_region 6 with fail
        clear h0 h1
        generalize w2.alloc (.cells #[.int .i64 x, .int .i64 tx] 69) = W5 at o2 Q5 B5 x5 ⊢
        generalize w2.heap.size = HB5 at l2' x5 s2 ⊢
        obtain ⟨q0, q1, q2⟩ := Q5.hc
        have h0 : W5.drew.cell? ⟨HB5, 0, none⟩ = some (.int .i64 x) := x5.cell 0
        have h1 : W5.drew.cell? ⟨HB5, 1, none⟩ = some (.int .i64 tx) := x5.cell 1
        have HW := Lib.hid (And.intro Q5 (And.intro B5 (And.intro x5 o2)))
        clear Q5 B5 x5 o2 q1 q2
        go_region_with (go_at_call 46; refine (HC2.out _ (by with_reducible exact HW.out.1.t)).mono ?_; rintro e W6 ⟨rfl, b6⟩; have x6 := HW.out.2.2.1.below b6 HW.out.2.2.1.lt; have y0 : W6.cell? ⟨HB5, 0, none⟩ = some (.int .i64 x) := x6.cell 0; have y1 : W6.cell? ⟨HB5, 1, none⟩ = some (.int .i64 tx) := x6.cell 1; have f6 := x6.frozen; clear x6)
        all_goals
          have hs6 : w.heap.size ≤ HB5 := by omega
          have B5 := below_drewN HW.out.2.1 1
          have x6 := two_set (HW.out.2.2.1.below b6 HW.out.2.2.1.lt) r0 r1
          have Q6 := ((HW.out.1.below b6).far (p := ⟨HB5, 0, none⟩) (HNF.out HB5 hs6) (.int .i64 r0)).far (p := ⟨HB5, 1, none⟩) (HNF.out HB5 hs6) (.int .i64 r1)
          have B6 := ((B5.trans (b6.mono B5.size)).setCell (p := ⟨HB5, 0, none⟩) hs6 (.int .i64 r0)).setCell (p := ⟨HB5, 1, none⟩) hs6 (.int .i64 r1)
          have hv2 : ∀ b, v2.ownBlock = some b → b ≠ HB5 := fun b hb e => by have := l2' b hb; omega
          have o6 := own_same (own_below (own_drewN HW.out.2.2.2 1) b6) (w' := (W6.setCell ⟨HB5, 0, none⟩ (.int .i64 r0)).setCell ⟨HB5, 1, none⟩ (.int .i64 r1)) fun b hb => set2_far (hv2 b hb)
          have et : tmc (List.map tm (done ++ [x])) = tmc (List.map tm done) ++ Tm.list (tm x) := by simp [tmc]
          have el : (done ++ [x]).length = done.length + 1 := by simp
          have HZ := Lib.hid (And.intro x6 (And.intro Q6 (And.intro B6 (And.intro o6 (And.intro et el)))))
          clear y0 y1 f6 h0 h1 q0 x6 Q6 B6 B5 o6 et el HW b6 HC2
          go_wp2_with fail
          go_roundg rest.length
          case measure => simp
          case rel => exact ⟨done ++ [x], rest, HB5, by rw [HR.out.2.2.2]; simp, rfl, by rw [HZ.out.2.2.2.2.1, HZ.out.2.2.2.2.2]; exact HZ.out.2.2.2.1, rfl, by rw [HR.out.2.2.1], by rw [HR.out.1, HR.out.2.1]; exact HZ.out.1, hs6, hv2, HZ.out.2.1, HZ.out.2.2.1⟩
theorem QHas_all {w : World} {P : QP} {row : List Tm} {M : Int} (h : QHas w P row M) : Calls Try.prog 32 #[P.v] w fun e w' => ∃ v, e = .returned v ∧ w'.ownsRow w.heap.size 29 5 v row.length (tmc row) ∧ Below w.heap.size w w' := by
  obtain ⟨s, T, fl, tm, A, B, h, rfl, _⟩ := h
  rw [List.length_map]
  exact QAll_any _ _ _ _ _ s T fl tm A B w h
end Go.Proofs.Ytcoibhmgblicfaa.Q
