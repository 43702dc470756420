/- The contract of tree's Put. No condition but that memory holds a tree. -/
import Derived.Test.YtfoigflgglpobaaTrz
import Derived.Test.YtfoigflgglpobaaTrh
import Derived.Test.YtfoigflgglpobaaTrb
set_option linter.unusedVariables false
set_option linter.unusedSimpArgs false
namespace Go.Proofs.Ytfoigflgglpobaa.Tr
open Go.RowKit Go.Proofs.Ytfoigflgglpobaa.Aid
set_option maxHeartbeats 2000000 in
set_option maxRecDepth 100000 in
theorem Put_no (g gl : Nat) (s : TS) (T : Sh) (fl : List Nat) (w : World) (h : Full w g gl s T fl) (kt ks : Int) (hn : T.ino.length = s.most) :
    Calls Try.prog 13 #[.pointer (some ⟨g, 0, none⟩), .agg #[.int .i64 kt, .int .i64 ks]] w fun e w' => e = .returned (.tuple #[.agg #[.int .i64 0, .int .i64 0], .int .i64 3]) ∧ Full w' g gl s T fl ∧ Only (TF g gl) w w' := by
  have e1 : (w.alloc (.cells #[.int .i64 kt, .int .i64 ks] 27)).heap.size = w.heap.size + 1 := by simp
  have hgl := h.m.n.lt
  have hg := h.m.b.lt
  have h2 := Blk.new (w.alloc (.cells #[.int .i64 kt, .int .i64 ks] 27)) 29 (two_ 0 0)
  rw [e1] at h2
  have B : Below w.heap.size w ((w.alloc (.cells #[.int .i64 kt, .int .i64 ks] 27)).alloc (.cells (two_ 0 0) 29)) := ((Below.refl w.heap.size w).alloc (Nat.le_refl _) _).alloc (by rw [e1]; omega) _
  have HA := Lib.hid (h.below B)
  have HO := Lib.hid ((Only.refl (TF g gl) w).below B)
  have hb : ¬ TF g gl (w.heap.size + 1) := by rintro (e | e) <;> omega
  have HF := Lib.hid h
  clear h B e1
  go_enter Try.func13, Try.ntmps13
  go_upto_region 1 with fail
  change Blk ((w.alloc (.cells #[.int .i64 kt, .int .i64 ks] 27)).alloc (.cells #[.int .i64 0, .int .i64 0] 29)) _ _ _ at h2
  change Hid (Full ((w.alloc (.cells #[.int .i64 kt, .int .i64 ks] 27)).alloc (.cells #[.int .i64 0, .int .i64 0] 29)) _ _ _ _ _) at HA
  change Hid (Only _ w ((w.alloc (.cells #[.int .i64 kt, .int .i64 ks] 27)).alloc (.cells #[.int .i64 0, .int .i64 0] 29))) at HO
  generalize (w.alloc (.cells #[.int .i64 kt, .int .i64 ks] 27)).alloc (.cells #[.int .i64 0, .int .i64 0] 29) = W at h2 HA HO ⊢
  have hbs : w.heap.size ≤ w.heap.size + 1 := by omega
  have HBS := Lib.hid hbs
  clear hbs
  generalize hB : w.heap.size + 1 = b at h2 hb HBS ⊢
  go_wp2_with fail
  refine (place_no g gl s T fl W HA.out hn).mono ?_
  rintro e W1 ⟨rfl, T1, O1⟩
  have h3 := O1.blk h2 hb
  have HO1 := Lib.hid (HO.out.then O1)
  have HT1 := Lib.hid T1
  obtain ⟨r0, r1⟩ := two_cells h3
  have f0 := h3.frozen
  clear T1 O1 hB
  go_wp2_with fail
  clear r0 r1
  obtain ⟨r0, r1⟩ := two_cells (two_set h3 0 0)
  have hg' : g ≠ b := fun e => hb (.inl e.symm)
  have hgl' : gl ≠ b := fun e => hb (.inr e.symm)
  have hm : IsT ((W1.setCell ⟨b, 0, none⟩ (.int .i64 0)).setCell ⟨b, 1, none⟩ (.int .i64 0)) g gl s := (HT1.out.far (p := ⟨b, 0, none⟩) hb _).far (p := ⟨b, 1, none⟩) hb _
  have ho : Only (TF g gl) w ((W1.setCell ⟨b, 0, none⟩ (.int .i64 0)).setCell ⟨b, 1, none⟩ (.int .i64 0)) := (HO1.out.setCell (p := ⟨b, 0, none⟩) (.inr HBS.out) _).setCell (p := ⟨b, 1, none⟩) (.inr HBS.out) _
  have F := HF.out
  exact bodyPost_ret (v := .tuple #[.agg #[.int .i64 0, .int .i64 0], .int .i64 3]) (by simp [results, Try.results13, go_sem, r0, r1]) rfl ⟨rfl, ⟨hm, F.rb, F.lt, F.lk, F.srt, F.tak, F.z0, F.free, F.fpl, F.fnd, F.cnt, F.n, F.cap⟩, ho⟩
end Go.Proofs.Ytfoigflgglpobaa.Tr
