/- The contract of tree's Keys. No condition but that memory holds a tree. -/
import Derived.Test.YtfoigflgglpobaaTrn
set_option linter.unusedVariables false
set_option linter.unusedSimpArgs false
namespace Go.Proofs.Ytfoigflgglpobaa.Tr
open Go.RowKit Go.Proofs.Ytfoigflgglpobaa.Aid
theorem infoKey : (Try.prog.info? 27).map (fun i => (i.zero.map (·.cells.size), i.size, i.bytes)) = some (some 2, 2, 16) := by kernel_rfl
theorem infoKey' : ∃ i z, Try.prog.info? 27 = some i ∧ i.zero = some z ∧ z.cells.size = 2 ∧ i.size = 2 ∧ i.bytes = 16 := by
  have h := infoKey
  cases e : Try.prog.info? 27 with
  | none => rw [e] at h; cases h
  | some i =>
    rw [e] at h
    simp only [Option.map_some, Option.some.injEq, Prod.mk.injEq] at h
    cases e2 : i.zero with
    | none => rw [e2] at h; simp at h
    | some z => rw [e2] at h; simp only [Option.map_some, Option.some.injEq] at h; exact ⟨i, z, rfl, e2, h.1, h.2.1, h.2.2⟩
def KSRel (s : TS) (T : Sh) (w : World) (m : Nat) (s3 s4 : Value) (wr : World) : Prop :=
  ∃ pre post, T.ino = pre ++ post ∧ post.length ≤ m ∧ s4 = .int .i64 ((post.head?.getD 0 : Nat) : Int) ∧ wr.ownsRow w.heap.size 27 2 s3 pre.length (keysOf s.f pre) ∧ Below w.heap.size w wr
set_option maxHeartbeats 1000000 in
set_option maxRecDepth 100000 in
theorem Keys_any (g gl : Nat) (s : TS) (T : Sh) (w : World) (h : Rd w g gl s T) (hlen : T.ino.length ≤ 100000) :
    Calls Try.prog 22 #[.pointer (some ⟨g, 0, none⟩)] w fun e w' => ∃ v, e = .returned v ∧ w'.ownsRow w.heap.size 27 2 v T.ino.length (keysOf s.f T.ino) ∧ Below w.heap.size w w' := by
  have H := Lib.hid h
  have HLN := Lib.hid hlen
  have HM := Lib.hid (most_any g gl s w h.m T 0 h.rep h.lt)
  rw [← h.root] at HM
  have hfst := fst_ino T h.rep
  rw [hfst] at HM
  have S := Lib.hid (show KSRel s T w T.ino.length (.slice none 0 0) (.int .i64 ((T.ino.head?.getD 0 : Nat) : Int)) w from ⟨[], T.ino, rfl, Nat.le_refl _, rfl, World.ownsRow_nil _ _ _ _, Below.refl _ _⟩)
  have q1 := h.m.hc.2.1
  generalize T.ino.head?.getD 0 = F at HM S
  clear h hlen hfst
  go_enter Try.func22, Try.ntmps22
  go_wp2_with fail
  refine HM.out.mono ?_
  rintro e w1 ⟨rfl, rfl⟩
  go_wp2_with fail
  go_loopg [3, 4] T.ino.length (fun m s3 s4 wr => KSRel s T w m s3 s4 wr)
  case atStart => exact S.out
  case round =>
    obtain ⟨pre, post, hT, hm, rfl, hown, hB⟩ := hrel
    have HT := Lib.hid hT
    have HMM := Lib.hid hm
    have HO := Lib.hid hown
    have HB := Lib.hid hB
    clear hT hm hB hown q1 S HM
    cases post with
    | nil =>
      have e0 : ((([] : List Nat).head?.getD 0 : Nat) : Int) = 0 := rfl
      rw [e0]
      go_wp2_with fail
      go_ret
      have e1 : T.ino = pre := by rw [HT.out]; simp
      rw [e1]
      exact ⟨_, rfl, HO.out, HB.out⟩
    | cons x rest =>
      have e0 : (((x :: rest).head?.getD 0 : Nat) : Int) = (x : Int) := rfl
      rw [e0]
      have R := H.out.below HB.out
      have hxm : x ∈ T.ino := by rw [HT.out]; simp
      have hx := R.lt x hxm
      have c0 : ¬ ((x : Nat) : Int) = 0 := by have := R.ne0 hxm; omega
      have q0 := R.m.hc.1
      have hs := R.m.sz
      obtain ⟨kt, hkt⟩ : ∃ k, (s.f x).t = k := ⟨_, rfl⟩
      obtain ⟨ks, hks⟩ : ∃ k, (s.f x).s = k := ⟨_, rfl⟩
      have k0 : wr.cell? ⟨gl, x * 8, none⟩ = some (.int .i64 kt) := by rw [← hkt]; exact R.m.n.cell x hx 0 (by omega)
      have k1 : wr.cell? ⟨gl, x * 8 + 1, none⟩ = some (.int .i64 ks) := by rw [← hks]; exact R.m.n.cell x hx 1 (by omega)
      have HK := Lib.hid (And.intro hkt hks)
      obtain ⟨i0, z0, hi, hz0, hz1, hz2, hz3⟩ := infoKey'
      have hpl : pre.length + 1 ≤ 100000 := by have h1 := HLN.out; rw [HT.out] at h1; simp only [List.length_append, List.length_cons] at h1; omega
      have HR := Lib.hid R
      clear hkt hks R hxm
      go_wp2_with (at_builtin; refine wpList_append_lies _ rfl _ _ 22 rfl w.heap.size 27 i0 z0 2 16 Try.underlying22 hi hz0 hz2 hz3 hz1 (by decide) _ _ _ rfl (own_alloc HO.out _) ⟨wr.heap.size, 0, none⟩ 1 1 [.int .i64 kt, .int .i64 ks] rfl rfl (World.news_of_block (heap_alloc_new wr _)) (by simp [Value.oneCell']) (by decide) (by unfold maxLen; omega) (by omega) (by simp; have := HB.out.size; omega) _ rfl ?_)
      intro g' cap' w1 hown' hgrow hat hlt
      have B1 : Below w.heap.size w w1 := by
        have BA := HB.out.alloc HB.out.size (.cells #[.int .i64 kt, .int .i64 ks] 27)
        refine ⟨hgrow.os.trans BA.os, hgrow.tape.trans BA.tape, hgrow.output.trans BA.output, Nat.le_trans BA.size hgrow.size, fun k hk => (hgrow.block k (Nat.lt_of_lt_of_le hk BA.size) ?_).trans (BA.block k hk)⟩
        intro e
        have := (own_block HO.out e.symm).1
        omega
      have hown2 : w1.ownsRow w.heap.size 27 2 (.slice (some ⟨g', 0, none⟩) (pre ++ [x]).length cap') (pre ++ [x]).length (keysOf s.f (pre ++ [x])) := by
        rw [keysOf_snoc, HK.out.1, HK.out.2, List.length_append]
        exact hown'
      have e3 : pre.length + 1 = (pre ++ [x]).length := by simp
      rw [e3]
      have HO2 := Lib.hid hown2
      have HB1 := Lib.hid B1
      obtain ⟨C, c, kx, a1, a2, a3, a4⟩ := way_split H.out HT.out
      have HA := Lib.hid (after_any g gl s w1 (H.out.below B1).m C c x kx a1 a2 (by rw [a3]; exact H.out.nd) (by rw [a3]; exact H.out.lt))
      rw [a4] at HA
      clear hown' hgrow hat hlt B1 hown2 e3 a1 a2 a3 a4 hi hz0 hz1 hz2 hz3 k0 k1 q0
      obtain ⟨N, hN⟩ : ∃ N, (pre ++ [x]).length = N := ⟨_, rfl⟩
      rw [hN] at HO2 ⊢
      have HN := Lib.hid hN
      clear hN
      go_wp2_with fail
      refine HA.out.mono ?_
      rintro e w2 ⟨rfl, rfl⟩
      go_wp2_with fail
      go_roundg rest.length
      case measure => have := HMM.out; simp only [List.length_cons] at this; omega
      case rel => exact ⟨pre ++ [x], rest, by rw [HT.out]; simp, Nat.le_refl _, rfl, by rw [HN.out]; exact HO2.out, HB1.out⟩
end Go.Proofs.Ytfoigflgglpobaa.Tr
