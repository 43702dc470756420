/- The contracts of what is read of a tree. No condition but that memory holds one. -/
import Derived.Test.YtfoigflgglpobaaTrc
set_option linter.unusedVariables false
set_option linter.unusedSimpArgs false
namespace Go.Proofs.Ytfoigflgglpobaa.Tr
open Go.RowKit Go.Proofs.Ytfoigflgglpobaa.Aid
/-- memory holds a tree of places, to be read -/
structure Rd (w : World) (g gl : Nat) (s : TS) (T : Sh) : Prop where
  m : IsT w g gl s
  rep : Rep s.f T 0
  root : s.root = T.root
  nd : T.ino.Nodup
  lt : ∀ z, z ∈ T.ino → z < s.sz
theorem Rd.same {w w' : World} {g gl : Nat} {s : TS} {T : Sh} (h : Rd w g gl s T) (e : ∀ b, TF g gl b → w'.heap[b]? = w.heap[b]?) : Rd w' g gl s T := ⟨h.m.same e, h.rep, h.root, h.nd, h.lt⟩
theorem Rd.below {w w' : World} {g gl : Nat} {s : TS} {T : Sh} (h : Rd w g gl s T) (b : Below w.heap.size w w') : Rd w' g gl s T := ⟨h.m.below b, h.rep, h.root, h.nd, h.lt⟩
theorem Rd.drewN {w : World} {g gl : Nat} {s : TS} {T : Sh} (h : Rd w g gl s T) (n : Nat) : Rd (w.drewN n) g gl s T := ⟨h.m.drewN n, h.rep, h.root, h.nd, h.lt⟩
theorem Rd.alloc {w : World} {g gl : Nat} {s : TS} {T : Sh} (h : Rd w g gl s T) (o : Obj) : Rd (w.alloc o) g gl s T := ⟨h.m.alloc o, h.rep, h.root, h.nd, h.lt⟩
theorem Rd.ne0 {w : World} {g gl : Nat} {s : TS} {T : Sh} (h : Rd w g gl s T) {z : Nat} (hz : z ∈ T.ino) : z ≠ 0 := by
  obtain ⟨K, c, kx, a1, a2, a3⟩ := way_to (root := s.root) T .top h.rep h.root hz
  exact a1.1
/-- a place's handle -/
def hturn (s : TS) (x : Nat) : Int := if x = 0 then 0 else (s.f x).turn
def hnd (s : TS) (x : Nat) : Value := .agg #[.int .i64 x, .int .i64 (hturn s x)]
def two_ (a b : Int) : Array Value := #[.int .i64 a, .int .i64 b]
theorem two_cells {W : World} {g : Nat} {t : TypeId} {a b : Int} (h : Blk W g t (two_ a b)) : W.cell? ⟨g, 0, none⟩ = some (.int .i64 a) ∧ W.cell? ⟨g, 1, none⟩ = some (.int .i64 b) := ⟨h.cell 0, h.cell 1⟩
theorem two_set {W : World} {g : Nat} {t : TypeId} {a b : Int} (h : Blk W g t (two_ a b)) (x y : Int) : Blk ((W.setCell ⟨g, 0, none⟩ (.int .i64 x)).setCell ⟨g, 1, none⟩ (.int .i64 y)) g t (two_ x y) := by simpa [two_] using (h.set_ 0 (.int .i64 x)).set_ 1 (.int .i64 y)
theorem two_below {B : Nat} {w W : World} (h : Below B w W) {g : Nat} (hg : B ≤ g) (x y : Int) : Below B w ((W.setCell ⟨g, 0, none⟩ (.int .i64 x)).setCell ⟨g, 1, none⟩ (.int .i64 y)) := (h.setCell hg _).setCell hg _
set_option maxHeartbeats 1000000 in
set_option maxRecDepth 100000 in
theorem handle_none (g gl : Nat) (w : World) (s : TS) :
    Calls Try.prog 55 #[.pointer (some ⟨g, 0, none⟩), .int .i64 0] w fun e w' => e = .returned (.tuple #[hnd s 0, .bool false]) ∧ Below w.heap.size w w' := by
  have h2 := Blk.new w 29 (two_ 0 0)
  have B : Below w.heap.size w (w.alloc (.cells (two_ 0 0) 29)) := (Below.refl w.heap.size w).alloc (Nat.le_refl _) _
  have HR : Hid (w.heap.size ≤ w.heap.size) := Lib.hid (Nat.le_refl _)
  go_enter Try.func55, Try.ntmps55
  go_upto_region 1 with fail
  change Blk (w.alloc (.cells #[.int .i64 0, .int .i64 0] 29)) _ _ _ at h2
  change Below _ _ (w.alloc (.cells #[.int .i64 0, .int .i64 0] 29)) at B
  generalize w.alloc (.cells #[.int .i64 0, .int .i64 0] 29) = W at h2 B ⊢
  obtain ⟨r0, r1⟩ := two_cells h2
  have f0 := h2.frozen
  go_wp2_with fail
  clear r0 r1
  have h5 := two_set h2 0 0
  obtain ⟨r0, r1⟩ := two_cells h5
  exact bodyPost_ret (v := .tuple #[hnd s 0, .bool false]) (by simp [results, Try.results55, go_sem, r0, r1, hnd, hturn]) rfl ⟨rfl, two_below B HR.out _ _⟩
set_option maxHeartbeats 1000000 in
set_option maxRecDepth 100000 in
theorem handle_some (g gl : Nat) (s : TS) (w : World) (h : IsT w g gl s) (x : Nat) (hx : x < s.sz) (h0 : x ≠ 0) :
    Calls Try.prog 55 #[.pointer (some ⟨g, 0, none⟩), .int .i64 x] w fun e w' => e = .returned (.tuple #[hnd s x, .bool true]) ∧ Below w.heap.size w w' := by
  have h2 := Blk.new w 29 (two_ 0 0)
  have B : Below w.heap.size w (w.alloc (.cells (two_ 0 0) 29)) := (Below.refl w.heap.size w).alloc (Nat.le_refl _) _
  have HR : Hid (w.heap.size ≤ w.heap.size) := Lib.hid (Nat.le_refl _)
  have hA := h.alloc (.cells (two_ 0 0) 29)
  have c0 : ¬ ((x : Nat) : Int) = 0 := by omega
  obtain ⟨tn, htn⟩ : ∃ tn, (s.f x).turn = tn := ⟨_, rfl⟩
  have ht : hnd s x = .agg #[.int .i64 x, .int .i64 tn] := by unfold hnd hturn; rw [if_neg h0, htn]
  rw [ht]
  have HT := Lib.hid htn
  clear h h0 ht htn
  go_enter Try.func55, Try.ntmps55
  go_upto_region 1 with fail
  change Blk (w.alloc (.cells #[.int .i64 0, .int .i64 0] 29)) _ _ _ at h2
  change Below _ _ (w.alloc (.cells #[.int .i64 0, .int .i64 0] 29)) at B
  change IsT (w.alloc (.cells #[.int .i64 0, .int .i64 0] 29)) _ _ _ at hA
  generalize w.alloc (.cells #[.int .i64 0, .int .i64 0] 29) = W at h2 B hA ⊢
  obtain ⟨r0, r1⟩ := two_cells h2
  have f0 := h2.frozen
  have q0 := hA.hc.1
  have hs := hA.sz
  have ct := hA.t hx
  rw [HT.out] at ct
  go_wp2_with fail
  clear r0 r1
  have h5 := two_set h2 x tn
  obtain ⟨r0, r1⟩ := two_cells h5
  exact bodyPost_ret (v := .tuple #[.agg #[.int .i64 x, .int .i64 tn], .bool true]) (by simp [results, Try.results55, go_sem, r0, r1]) rfl ⟨rfl, two_below B HR.out _ _⟩
/-- a place's handle, whatever place it is -/
theorem handle_any (g gl : Nat) (s : TS) (w : World) (h : IsT w g gl s) (x : Nat) (hx : x < s.sz) :
    Calls Try.prog 55 #[.pointer (some ⟨g, 0, none⟩), .int .i64 x] w fun e w' => e = .returned (.tuple #[hnd s x, .bool (decide (x ≠ 0))]) ∧ Below w.heap.size w w' := by
  by_cases h0 : x = 0
  · subst h0; exact handle_none g gl w s
  · rw [show decide (x ≠ 0) = true from by simp [h0]]
    exact handle_some g gl s w h x hx h0
set_option maxHeartbeats 1000000 in
theorem Len_any (g gl : Nat) (s : TS) (w : World) (h : IsT w g gl s) :
    Calls Try.prog 18 #[.pointer (some ⟨g, 0, none⟩)] w fun e w' => e = .returned (.int .i64 s.n) ∧ w = w' := by
  obtain ⟨_, _, q2, _, _⟩ := h.hc
  go_enter Try.func18, Try.ntmps18
  go_wp2
  go_ret
  exact ⟨rfl, rfl⟩
set_option maxHeartbeats 1000000 in
theorem Len_nil (w : World) :
    Calls Try.prog 18 #[.pointer none] w fun e w' => e = .returned (.int .i64 0) ∧ w = w' := by
  go_enter Try.func18, Try.ntmps18
  go_wp2
  go_ret
  exact ⟨rfl, rfl⟩
set_option maxHeartbeats 1000000 in
theorem First_any (g gl : Nat) (s : TS) (T : Sh) (w : World) (h : Rd w g gl s T) :
    Calls Try.prog 14 #[.pointer (some ⟨g, 0, none⟩)] w fun e w' => e = .returned (.tuple #[hnd s T.fst, .bool (decide (T.fst ≠ 0))]) ∧ Below w.heap.size w w' := by
  have h2 := Blk.new w 29 (two_ 0 0)
  have B : Below w.heap.size w (w.alloc (.cells (two_ 0 0) 29)) := (Below.refl w.heap.size w).alloc (Nat.le_refl _) _
  have HR : Hid (w.heap.size ≤ w.heap.size) := Lib.hid (Nat.le_refl _)
  have HA := Lib.hid (h.alloc (.cells (two_ 0 0) 29))
  have hF : T.fst < s.sz := by
    rw [fst_ino T h.rep]
    cases hk : T.ino with
    | nil => exact h.m.sz.1
    | cons y l => exact h.lt y (by rw [hk]; simp)
  obtain ⟨tn, htn⟩ : ∃ tn, hturn s T.fst = tn := ⟨_, rfl⟩
  have HM := Lib.hid (fun (W : World) (hW : Rd W g gl s T) => most_any g gl s W hW.m T 0 hW.rep hW.lt)
  rw [← h.root] at HM
  have HH := Lib.hid (fun (W : World) (hW : Rd W g gl s T) => handle_any g gl s W hW.m T.fst hF)
  obtain ⟨F, hFF⟩ : ∃ F, T.fst = F := ⟨_, rfl⟩
  rw [hFF] at htn hF HM HH ⊢
  have ht : hnd s F = .agg #[.int .i64 F, .int .i64 tn] := by unfold hnd; rw [htn]
  rw [ht] at HH ⊢
  obtain ⟨b, hb⟩ : ∃ b, decide (F ≠ 0) = b := ⟨_, rfl⟩
  rw [hb] at HH ⊢
  clear h ht htn hFF hF hb
  go_enter Try.func14, Try.ntmps14
  go_upto_region 3 with fail
  change Blk (w.alloc (.cells #[.int .i64 0, .int .i64 0] 29)) _ _ _ at h2
  change Below _ _ (w.alloc (.cells #[.int .i64 0, .int .i64 0] 29)) at B
  change Hid (Rd (w.alloc (.cells #[.int .i64 0, .int .i64 0] 29)) _ _ _ _) at HA
  generalize w.alloc (.cells #[.int .i64 0, .int .i64 0] 29) = W at h2 B HA ⊢
  have q1 := HA.out.m.hc.2.1
  go_wp2_with fail
  refine (HM.out W HA.out).mono ?_
  rintro e w1 ⟨rfl, rfl⟩
  go_wp2_with fail
  refine (HH.out W HA.out).mono ?_
  rintro e W2 ⟨rfl, b2⟩
  have h3 := h2.below b2 h2.lt
  have B2 := B.trans (b2.mono B.size)
  obtain ⟨r0, r1⟩ := two_cells h3
  have f0 := h3.frozen
  go_wp2_with fail
  clear r0 r1
  have h5 := two_set h3 F tn
  obtain ⟨r0, r1⟩ := two_cells h5
  exact bodyPost_ret (v := .tuple #[.agg #[.int .i64 F, .int .i64 tn], .bool b]) (by simp [results, Try.results14, go_sem, r0, r1]) rfl ⟨rfl, two_below B2 HR.out _ _⟩
end Go.Proofs.Ytfoigflgglpobaa.Tr
