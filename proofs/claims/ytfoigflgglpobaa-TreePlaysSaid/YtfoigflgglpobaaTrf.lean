/- The contracts of a node's key, and of the next node. No condition but that memory holds a tree. -/
import Derived.Test.YtfoigflgglpobaaTre
set_option linter.unusedVariables false
set_option linter.unusedSimpArgs false
namespace Go.Proofs.Ytfoigflgglpobaa.Tr
open Go.RowKit Go.Proofs.Ytfoigflgglpobaa.Aid
theorem isH_at {s : TS} {p t : Int} (h : isH s p t = true) : 0 < p ∧ p < s.sz ∧ (s.f p.toNat).tak = true ∧ (s.f p.toNat).turn = t := by
  unfold isH at h
  simp only [Bool.and_eq_true, decide_eq_true_eq] at h
  exact ⟨h.1.1.1, h.1.1.2, h.1.2, h.2⟩
/-- two blocks that a handle's function makes -/
structure KMid (g gl : Nat) (s : TS) (T : Sh) (t4 : TypeId) (p t : Int) (w W : World) : Prop where
  m : Rd W g gl s T
  h : Blk W w.heap.size 29 (two_ p t)
  r : Blk W (w.heap.size + 1) t4 (two_ 0 0)
  b : Below w.heap.size w W
theorem KMid.new {g gl : Nat} {s : TS} {T : Sh} {t4 : TypeId} {p t : Int} {w : World} (h : Rd w g gl s T) : KMid g gl s T t4 p t w ((w.alloc (.cells #[.int .i64 p, .int .i64 t] 29)).alloc (.cells #[.int .i64 0, .int .i64 0] t4)) := by
  have e1 : (w.alloc (.cells #[.int .i64 p, .int .i64 t] 29)).heap.size = w.heap.size + 1 := by simp
  have h2 := Blk.new (w.alloc (.cells #[.int .i64 p, .int .i64 t] 29)) t4 (two_ 0 0)
  rw [e1] at h2
  exact ⟨(h.alloc _).alloc _, (Blk.new w _ _).alloc _, h2, ((Below.refl w.heap.size w).alloc (Nat.le_refl _) _).alloc (by simp) _⟩
theorem KMid.call {g gl : Nat} {s : TS} {T : Sh} {t4 : TypeId} {p t : Int} {w W W' : World} (h : KMid g gl s T t4 p t w W) (b : Below W.heap.size W W') : KMid g gl s T t4 p t w W' := ⟨h.m.below b, h.h.below b h.h.lt, h.r.below b h.r.lt, h.b.trans (b.mono h.b.size)⟩
set_option maxHeartbeats 1000000 in
set_option maxRecDepth 100000 in
theorem Key_no (g gl : Nat) (s : TS) (T : Sh) (w : World) (h : Rd w g gl s T) (p t : Int) (hi : isH s p t = false) :
    Calls Try.prog 15 #[.pointer (some ⟨g, 0, none⟩), .agg #[.int .i64 p, .int .i64 t]] w fun e w' => e = .returned (.tuple #[.agg #[.int .i64 0, .int .i64 0], .bool false]) ∧ Below w.heap.size w w' := by
  have M := KMid.new (t4 := 27) (p := p) (t := t) h
  have HI := Lib.hid (fun (W : World) (hW : Rd W g gl s T) => is_any g gl s W hW.m p t)
  rw [hi] at HI
  have HR : Hid (w.heap.size ≤ w.heap.size + 1) := Lib.hid (by omega)
  clear h hi
  go_enter Try.func15, Try.ntmps15
  go_upto_region 1 with fail
  generalize (w.alloc (.cells #[.int .i64 p, .int .i64 t] 29)).alloc (.cells #[.int .i64 0, .int .i64 0] 27) = W at M ⊢
  have HM := Lib.hid M
  obtain ⟨c0, c1⟩ := two_cells M.h
  clear M
  go_wp2_with fail
  refine (HI.out W HM.out.m).mono ?_
  rintro e W1 ⟨rfl, b1⟩
  have M1 := HM.out.call b1
  clear c0 c1
  obtain ⟨r0, r1⟩ := two_cells M1.r
  have f0 := M1.r.frozen
  have HM1 := Lib.hid M1
  clear M1
  go_wp2_with fail
  clear r0 r1
  obtain ⟨r0, r1⟩ := two_cells (two_set HM1.out.r 0 0)
  exact bodyPost_ret (v := .tuple #[.agg #[.int .i64 0, .int .i64 0], .bool false]) (by simp [results, Try.results15, go_sem, r0, r1]) rfl ⟨rfl, two_below HM1.out.b HR.out _ _⟩
set_option maxHeartbeats 1000000 in
set_option maxRecDepth 100000 in
theorem Key_yes (g gl : Nat) (s : TS) (T : Sh) (w : World) (h : Rd w g gl s T) (p t : Int) (hi : isH s p t = true) :
    Calls Try.prog 15 #[.pointer (some ⟨g, 0, none⟩), .agg #[.int .i64 p, .int .i64 t]] w fun e w' => e = .returned (.tuple #[.agg #[.int .i64 (s.f p.toNat).t, .int .i64 (s.f p.toNat).s], .bool true]) ∧ Below w.heap.size w w' := by
  have M := KMid.new (t4 := 27) (p := p) (t := t) h
  have HI := Lib.hid (fun (W : World) (hW : Rd W g gl s T) => is_any g gl s W hW.m p t)
  rw [hi] at HI
  obtain ⟨hp0, hp1, _, _⟩ := isH_at hi
  have hx : p.toNat < s.sz := by omega
  have HR : Hid (w.heap.size ≤ w.heap.size + 1) := Lib.hid (by omega)
  obtain ⟨kt, hkt⟩ : ∃ k, (s.f p.toNat).t = k := ⟨_, rfl⟩
  obtain ⟨ks, hks⟩ : ∃ k, (s.f p.toNat).s = k := ⟨_, rfl⟩
  rw [hkt, hks]
  have HKT := Lib.hid hkt
  have HKS := Lib.hid hks
  clear h hi hkt hks
  go_enter Try.func15, Try.ntmps15
  go_upto_region 1 with fail
  generalize (w.alloc (.cells #[.int .i64 p, .int .i64 t] 29)).alloc (.cells #[.int .i64 0, .int .i64 0] 27) = W at M ⊢
  have HM := Lib.hid M
  obtain ⟨c0, c1⟩ := two_cells M.h
  clear M
  go_wp2_with fail
  refine (HI.out W HM.out.m).mono ?_
  rintro e W1 ⟨rfl, b1⟩
  have M1 := HM.out.call b1
  clear c0 c1
  obtain ⟨c0, c1⟩ := two_cells M1.h
  obtain ⟨r0, r1⟩ := two_cells M1.r
  have f0 := M1.r.frozen
  have q0 := M1.m.m.hc.1
  have hs := M1.m.m.sz
  have k0 : W1.cell? ⟨gl, p.toNat * 8, none⟩ = some (.int .i64 kt) := by rw [← HKT.out]; exact M1.m.m.n.cell p.toNat hx 0 (by omega)
  have k1 : W1.cell? ⟨gl, p.toNat * 8 + 1, none⟩ = some (.int .i64 ks) := by rw [← HKS.out]; exact M1.m.m.n.cell p.toNat hx 1 (by omega)
  have HM1 := Lib.hid M1
  clear M1
  go_upto_region 3 with fail
  go_region
  all_goals
    go_wp2_with fail
    clear r0 r1
    obtain ⟨r0, r1⟩ := two_cells (two_set HM1.out.r kt ks)
    exact bodyPost_ret (v := .tuple #[.agg #[.int .i64 kt, .int .i64 ks], .bool true]) (by simp [results, Try.results15, go_sem, r0, r1]) rfl ⟨rfl, below_drewN (two_below HM1.out.b HR.out _ _) 1⟩
set_option maxHeartbeats 1000000 in
set_option maxRecDepth 100000 in
theorem Next_any (g gl : Nat) (s : TS) (T : Sh) (w : World) (h : Rd w g gl s T) (p t : Int) (hi : isH s p t = true) (C : Cx) (c : Bool) (x : Nat) (kx : Bool → Sh) (hx : p = x) (ht : Rep s.f (.node c x kx) C.up) (hc : RepC s.f s.root C x) (hT : C.plug (.node c x kx) = T) :
    Calls Try.prog 20 #[.pointer (some ⟨g, 0, none⟩), .agg #[.int .i64 p, .int .i64 t]] w fun e w' => e = .returned (.tuple #[hnd s (nextOf C kx), .bool (decide (nextOf C kx ≠ 0))]) ∧ Below w.heap.size w w' := by
  subst hx
  have M := KMid.new (t4 := 29) (p := x) (t := t) h
  have HI := Lib.hid (fun (W : World) (hW : Rd W g gl s T) => is_any g gl s W hW.m x t)
  rw [hi] at HI
  have HR : Hid (w.heap.size ≤ w.heap.size + 1) := Lib.hid (by omega)
  have HA := Lib.hid (fun (W : World) (hW : Rd W g gl s T) => after_any g gl s W hW.m C c x kx ht hc (hT ▸ h.nd) (hT ▸ h.lt))
  have hF : nextOf C kx < s.sz := by
    rw [nextOf_list ht]
    cases hk : (kx true).ino ++ C.post with
    | nil => exact h.m.sz.1
    | cons y l => exact h.lt y (by rw [← hT, plug_list, hk]; simp)
  have HH := Lib.hid (fun (W : World) (hW : Rd W g gl s T) => handle_any g gl s W hW.m (nextOf C kx) hF)
  obtain ⟨tn, htn⟩ : ∃ tn, hturn s (nextOf C kx) = tn := ⟨_, rfl⟩
  obtain ⟨F, hFF⟩ : ∃ F, nextOf C kx = F := ⟨_, rfl⟩
  rw [hFF] at htn hF HA HH ⊢
  have hn : hnd s F = .agg #[.int .i64 F, .int .i64 tn] := by unfold hnd; rw [htn]
  rw [hn] at HH ⊢
  obtain ⟨b, hb⟩ : ∃ b, decide (F ≠ 0) = b := ⟨_, rfl⟩
  rw [hb] at HH ⊢
  clear h hi hn htn hFF hF hb ht hc hT
  go_enter Try.func20, Try.ntmps20
  go_upto_region 1 with fail
  generalize (w.alloc (.cells #[.int .i64 x, .int .i64 t] 29)).alloc (.cells #[.int .i64 0, .int .i64 0] 29) = W at M ⊢
  have HM := Lib.hid M
  obtain ⟨c0, c1⟩ := two_cells M.h
  clear M
  go_wp2_with fail
  refine (HI.out W HM.out.m).mono ?_
  rintro e W1 ⟨rfl, b1⟩
  have HM1 := Lib.hid (HM.out.call b1)
  clear c0 c1
  obtain ⟨c0, c1⟩ := two_cells HM1.out.h
  go_wp2_with fail
  refine (HA.out W1 HM1.out.m).mono ?_
  rintro e w1 ⟨rfl, rfl⟩
  go_wp2_with fail
  refine (HH.out W1 HM1.out.m).mono ?_
  rintro e W2 ⟨rfl, b2⟩
  have HM2 := Lib.hid (HM1.out.call b2)
  clear c0 c1
  obtain ⟨r0, r1⟩ := two_cells HM2.out.r
  have f0 := HM2.out.r.frozen
  go_wp2_with fail
  clear r0 r1
  obtain ⟨r0, r1⟩ := two_cells (two_set HM2.out.r F tn)
  exact bodyPost_ret (v := .tuple #[.agg #[.int .i64 F, .int .i64 tn], .bool b]) (by simp [results, Try.results20, go_sem, r0, r1]) rfl ⟨rfl, two_below HM2.out.b HR.out _ _⟩
end Go.Proofs.Ytfoigflgglpobaa.Tr
