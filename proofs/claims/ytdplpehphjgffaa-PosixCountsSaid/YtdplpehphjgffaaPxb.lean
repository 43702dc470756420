/- The contracts of posix's setting. No condition but that a timer's clock is one. -/
import Derived.Test.YtdplpehphjgffaaPxa
set_option linter.unusedVariables false
set_option linter.unusedSimpArgs false
namespace Go.Proofs.Ytdplpehphjgffaa.Px
open Go.RowKit Go.Proofs.Ytdplpehphjgffaa.Aid Go.Proofs.Ytdplpehphjgffaa.Kt Go.Proofs.Ytdplpehphjgffaa.Sp
attribute [local go_sem] max2_int min2_int max_two min_two
def mx1 (y : Int) : Int := if y < 1 then 1 else y
def set4 (a b c d : Int) : Array Value := #[.int .i64 a, .int .i64 b, .int .i64 c, .int .i64 d]
theorem res4 {W : World} {g : Nat} {a b c d : Int} (h : Blk W g 79 (set4 a b c d)) : W.cell? ⟨g, 0, none⟩ = some (.int .i64 a) ∧ W.cell? ⟨g, 1, none⟩ = some (.int .i64 b) ∧ W.cell? ⟨g, 2, none⟩ = some (.int .i64 c) ∧ W.cell? ⟨g, 3, none⟩ = some (.int .i64 d) := ⟨h.cell 0, h.cell 1, h.cell 2, h.cell 3⟩
theorem res_set4 {W : World} {g : Nat} {a b c d : Int} (h : Blk W g 79 (set4 a b c d)) (x y z u : Int) :
    Blk ((((W.setCell ⟨g, 0, none⟩ (.int .i64 x)).setCell ⟨g, 1, none⟩ (.int .i64 y)).setCell ⟨g, 2, none⟩ (.int .i64 z)).setCell ⟨g, 3, none⟩ (.int .i64 u)) g 79 (set4 x y z u) := by simpa [set4] using (((h.set_ 0 (.int .i64 x)).set_ 1 (.int .i64 y)).set_ 2 (.int .i64 z)).set_ 3 (.int .i64 u)
theorem res_below4 {B : Nat} {w W : World} (h : Below B w W) {g : Nat} (hg : B ≤ g) (x y z u : Int) :
    Below B w ((((W.setCell ⟨g, 0, none⟩ (.int .i64 x)).setCell ⟨g, 1, none⟩ (.int .i64 y)).setCell ⟨g, 2, none⟩ (.int .i64 z)).setCell ⟨g, 3, none⟩ (.int .i64 u)) := (((h.setCell hg _).setCell hg _).setCell hg _).setCell hg _
theorem set_frame (x0 x1 x2 : Int) (w : World) :
    Blk ((w.alloc (.cells #[.int .i64 x0, .int .i64 x1, .int .i64 x2] 68)).alloc (.cells #[.int .i64 0, .int .i64 0, .int .i64 0, .int .i64 0] 79)) w.heap.size 68 #[.int .i64 x0, .int .i64 x1, .int .i64 x2] ∧
    Blk ((w.alloc (.cells #[.int .i64 x0, .int .i64 x1, .int .i64 x2] 68)).alloc (.cells #[.int .i64 0, .int .i64 0, .int .i64 0, .int .i64 0] 79)) (w.heap.size + 1) 79 (set4 0 0 0 0) ∧
    Below w.heap.size w ((w.alloc (.cells #[.int .i64 x0, .int .i64 x1, .int .i64 x2] 68)).alloc (.cells #[.int .i64 0, .int .i64 0, .int .i64 0, .int .i64 0] 79)) := by
  have e1 : (w.alloc (.cells #[.int .i64 x0, .int .i64 x1, .int .i64 x2] 68)).heap.size = w.heap.size + 1 := by simp
  have h2 := Blk.new (w.alloc (.cells #[.int .i64 x0, .int .i64 x1, .int .i64 x2] 68)) 79 (set4 0 0 0 0)
  rw [e1] at h2
  exact ⟨(Blk.new w _ _).alloc _, h2, ((Below.refl w.heap.size w).alloc (Nat.le_refl _) _).alloc (by simp) _⟩
set_option maxHeartbeats 4000000 in
set_option maxRecDepth 100000 in
theorem setting_off (x : Tm) (x0 x1 x2 : Int) (w : World) (h : Blk w x.b 113 x.cells) (ha : x.armed = false) :
    Calls Try.prog 75 #[.pointer (some ⟨x.b, 0, none⟩), .agg #[.int .i64 x0, .int .i64 x1, .int .i64 x2]] w fun e w' => e = .returned (.agg (set4 0 0 0 0)) ∧ Below w.heap.size w w' := by
  obtain ⟨ht, hr, B1⟩ := set_frame x0 x1 x2 w
  have hx := (h.alloc (.cells #[.int .i64 x0, .int .i64 x1, .int .i64 x2] 68)).alloc (.cells #[.int .i64 0, .int .i64 0, .int .i64 0, .int .i64 0] 79)
  have HR : Hid (w.heap.size ≤ w.heap.size + 1) := Lib.hid (by omega)
  go_enter Try.func75, Try.ntmps75
  go_upto_region 1 with fail
  generalize (w.alloc (.cells #[.int .i64 x0, .int .i64 x1, .int .i64 x2] 68)).alloc (.cells #[.int .i64 0, .int .i64 0, .int .i64 0, .int .i64 0] 79) = W at ht hr B1 hx ⊢
  obtain ⟨c0, c1, c2, c3, c4, c5⟩ := Tm.cc hx
  rw [ha] at c2
  obtain ⟨r0, r1, r2, r3⟩ := res4 hr
  have f0 := hr.frozen
  go_wp2_with fail
  clear r0 r1 r2 r3
  have hr5 := res_set4 hr 0 0 0 0
  obtain ⟨r0, r1, r2, r3⟩ := res4 hr5
  exact bodyPost_ret (v := .agg (set4 0 0 0 0)) (by simp [results, Try.results75, go_sem, r0, r1, r2, r3, set4]) rfl ⟨rfl, res_below4 B1 HR.out _ _ _ _⟩
/-- a result's block, and a timer's -/
structure SMid (x : Tm) (R : Nat) (w W : World) : Prop where
  r : Blk W R 79 (set4 0 0 0 0)
  x : Blk W x.b 113 x.cells
  b : Below w.heap.size w W
theorem SMid.call {x : Tm} {R : Nat} {w W W' : World} (h : SMid x R w W) (b : Below W.heap.size W W') : SMid x R w W' := ⟨h.r.below b h.r.lt, h.x.below b h.x.lt, h.b.trans (b.mono h.b.size)⟩
theorem SMid.drew {x : Tm} {R : Nat} {w W : World} (h : SMid x R w W) : SMid x R w W.drew := ⟨h.r.drew, h.x.drew, below_drewN h.b 1⟩
theorem SMid.cells {x : Tm} {R : Nat} {w W : World} (h : SMid x R w W) : W.cell? ⟨x.b, 4, none⟩ = some (.int .i64 x.interval) ∧ W.cell? ⟨R, 0, none⟩ = some (.int .i64 0) ∧ W.cell? ⟨R, 1, none⟩ = some (.int .i64 0) ∧ W.cell? ⟨R, 2, none⟩ = some (.int .i64 0) ∧ W.cell? ⟨R, 3, none⟩ = some (.int .i64 0) ∧ ∀ i, W.frozen? ⟨R, i, none⟩ = false := ⟨h.x.cell 4, h.r.cell 0, h.r.cell 1, h.r.cell 2, h.r.cell 3, h.r.frozen⟩
set_option maxHeartbeats 4000000 in
set_option maxRecDepth 100000 in
theorem setting_on (x : Tm) (x0 x1 x2 : Int) (w : World) (h : Blk w x.b 113 x.cells) (ok : x.ok) (ha : x.armed = true) (L I : Int) (hL : mx1 (unt (at3 x0 x1 x2 x.clock) x.next) = L) (hI : tf x.interval = I) :
    Calls Try.prog 75 #[.pointer (some ⟨x.b, 0, none⟩), .agg #[.int .i64 x0, .int .i64 x1, .int .i64 x2]] w fun e w' => e = .returned (.agg (set4 (tf L / 1000000000) (tf L % 1000000000) (I / 1000000000) (I % 1000000000))) ∧ Below w.heap.size w w' := by
  obtain ⟨ht, hr, B1⟩ := set_frame x0 x1 x2 w
  have hx := (h.alloc (.cells #[.int .i64 x0, .int .i64 x1, .int .i64 x2] 68)).alloc (.cells #[.int .i64 0, .int .i64 0, .int .i64 0, .int .i64 0] 79)
  have HR : Hid (w.heap.size ≤ w.heap.size + 1) := Lib.hid (by omega)
  have HL := Lib.hid hL
  have HI := Lib.hid hI
  have hc := ok.c
  have hlt : Hid (x.b < w.heap.size) := Lib.hid h.lt
  clear hL hI
  go_enter Try.func75, Try.ntmps75
  go_upto_region 1 with fail
  generalize (w.alloc (.cells #[.int .i64 x0, .int .i64 x1, .int .i64 x2] 68)).alloc (.cells #[.int .i64 0, .int .i64 0, .int .i64 0, .int .i64 0] 79) = W at ht hr B1 hx ⊢
  obtain ⟨c0, c1, c2, c3, c4, c5⟩ := Tm.cc hx
  rw [ha] at c2
  have t0 := at3_cell ht x.clock hc
  go_upto_region 3 with fail
  go_cut [5] (fun s5 wx => s5 = .int .i64 L ∧ Blk wx (w.heap.size + 1) 79 (set4 0 0 0 0) ∧ Blk wx x.b 113 x.cells ∧ Below w.heap.size w wx)
  case first =>
    go_quiet ((go_at_call 68; exact quiet_left (until_any _ _ _)))
    go_wp2_with fail
    all_goals
      go_meet
      exact ⟨congrArg (Value.int .i64) (by rw [← HL.out]; unfold mx1; first | rfl | (split <;> omega)), hr.drewN _, hx.drewN _, below_drewN B1 _⟩
  case rest =>
    obtain ⟨rfl, hr2, hx2, B2⟩ := hcut
    clear hr hx B1 c0 c1 c2 c3 c4 c5 t0 ht
    generalize hRR : w.heap.size + 1 = R at hr2 HR ⊢
    have HRR := Lib.hid hRR
    clear hRR
    have hne : Hid (x.b ≠ R ∧ w.heap.size ≤ R) := Lib.hid (by have := hlt.out; have := HRR.out; omega)
    go_upto_region 4 with fail
    go_cut [] (fun wx => Blk wx R 79 (set4 (tf L / 1000000000) (tf L % 1000000000) (I / 1000000000) (I % 1000000000)) ∧ Below w.heap.size w wx)
    case first =>
      have S2 : SMid x R w wc := ⟨hr2, hx2, B2⟩
      have S3 := S2.drew
      have q4 : wc.cell? ⟨x.b, 4, none⟩ = some (.int .i64 x.interval) := hx2.cell 4
      go_region_with (first | (go_at_call 67; refine (of_any _ _).mono ?_; rintro e W2 ⟨rfl, b2⟩; have E4 := SMid.call (by assumption) b2; obtain ⟨p4, p0, p1, p2, p3, f1⟩ := E4.cells))
      all_goals
        go_wp2_with fail
        go_meet
        rw [HI.out]
        exact ⟨res_set4 E4.r _ _ _ _, res_below4 E4.b hne.out.2 _ _ _ _⟩
    case rest =>
      obtain ⟨hr5, B5⟩ := hcut
      obtain ⟨r0, r1, r2, r3⟩ := res4 hr5
      go_wp2_with fail
      exact bodyPost_ret (v := .agg (set4 (tf L / 1000000000) (tf L % 1000000000) (I / 1000000000) (I % 1000000000))) (by simp [results, Try.results75, go_sem, r0, r1, r2, r3, set4]) rfl ⟨rfl, B5⟩
end Go.Proofs.Ytdplpehphjgffaa.Px
