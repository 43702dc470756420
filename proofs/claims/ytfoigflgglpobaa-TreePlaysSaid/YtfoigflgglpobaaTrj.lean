/- The contract of tree's search for a time. No condition but that memory holds a tree. -/
import Derived.Test.YtfoigflgglpobaaTrd
set_option linter.unusedVariables false
set_option linter.unusedSimpArgs false
namespace Go.Proofs.Ytfoigflgglpobaa.Tr
open Go.RowKit Go.Proofs.Ytfoigflgglpobaa.Aid
/-- where a search for a time ends -/
def atF (f : Nat → Nd) (τ : Int) : Sh → Nat → Nat
  | .nil, b => b
  | .node _ x k, b => if τ ≤ (f x).t then atF f τ (k false) x else atF f τ (k true) b
theorem atF_mem (f : Nat → Nd) (τ : Int) (t : Sh) : ∀ b, atF f τ t b = b ∨ atF f τ t b ∈ t.ino := by
  induction t with
  | nil => intro b; exact .inl rfl
  | node c x k ih =>
    intro b
    unfold atF
    split
    · rcases ih false x with h | h
      · rw [h]; exact .inr ((mem_node true).2 (.inl rfl))
      · exact .inr (mem_ino_side false h)
    · rcases ih true b with h | h
      · exact .inl h
      · exact .inr (mem_ino_side true h)
def ATRel (s : TS) (τ : Int) (F : Nat) (W : World) (m : Nat) (s6 s7 : Value) (wr : World) : Prop :=
  ∃ t u b, Rep s.f t u ∧ (∀ z, z ∈ t.ino → z < s.sz) ∧ atF s.f τ t b = F ∧ t.ino.length ≤ m ∧ s6 = .int .i64 b ∧ s7 = .int .i64 t.root ∧ wr = W
set_option maxHeartbeats 1000000 in
set_option maxRecDepth 100000 in
theorem At_any (g gl : Nat) (s : TS) (T : Sh) (w : World) (h : Rd w g gl s T) (τ : Int) :
    Calls Try.prog 19 #[.pointer (some ⟨g, 0, none⟩), .int .i64 τ] w fun e w' => e = .returned (.tuple #[hnd s (atF s.f τ T 0), .bool (decide (atF s.f τ T 0 ≠ 0))]) ∧ Below w.heap.size w w' := by
  have h2 := Blk.new w 29 (two_ 0 0)
  have B : Below w.heap.size w (w.alloc (.cells (two_ 0 0) 29)) := (Below.refl w.heap.size w).alloc (Nat.le_refl _) _
  have HR : Hid (w.heap.size ≤ w.heap.size) := Lib.hid (Nat.le_refl _)
  have HA := Lib.hid (h.alloc (.cells (two_ 0 0) 29))
  have hF : atF s.f τ T 0 < s.sz := by
    rcases atF_mem s.f τ T 0 with e | e
    · rw [e]; exact h.m.sz.1
    · exact h.lt _ e
  have HH := Lib.hid (fun (W : World) (hW : Rd W g gl s T) => handle_any g gl s W hW.m (atF s.f τ T 0) hF)
  obtain ⟨tn, htn⟩ : ∃ tn, hturn s (atF s.f τ T 0) = tn := ⟨_, rfl⟩
  obtain ⟨F, hFF⟩ : ∃ F, atF s.f τ T 0 = F := ⟨_, rfl⟩
  have S : Hid (∀ W, ATRel s τ F W T.ino.length (.int .i64 ((0 : Nat) : Int)) (.int .i64 T.root) W) := Lib.hid fun W => ⟨T, 0, 0, h.rep, h.lt, hFF, Nat.le_refl _, rfl, rfl, rfl⟩
  rw [hFF] at htn hF HH ⊢
  have ht : hnd s F = .agg #[.int .i64 F, .int .i64 tn] := by unfold hnd; rw [htn]
  rw [ht] at HH ⊢
  obtain ⟨b, hb⟩ : ∃ b, decide (F ≠ 0) = b := ⟨_, rfl⟩
  rw [hb] at HH ⊢
  have hroot := Lib.hid h.root
  clear h ht htn hFF hF hb
  go_enter Try.func19, Try.ntmps19
  go_upto_region 1 with fail
  change Blk (w.alloc (.cells #[.int .i64 0, .int .i64 0] 29)) _ _ _ at h2
  change Below _ _ (w.alloc (.cells #[.int .i64 0, .int .i64 0] 29)) at B
  change Hid (Rd (w.alloc (.cells #[.int .i64 0, .int .i64 0] 29)) _ _ _ _) at HA
  generalize w.alloc (.cells #[.int .i64 0, .int .i64 0] 29) = W at h2 B HA ⊢
  have q0 := HA.out.m.hc.1
  have q1 := HA.out.m.hc.2.1
  have hs := HA.out.m.sz
  rw [hroot.out] at q1
  go_wp2_with fail
  go_loopg [6, 7] T.ino.length (fun m s6 s7 wr => ATRel s τ F W m s6 s7 wr)
  case atStart => exact S.out W
  case round =>
    obtain ⟨t', u', bb, ht, hz, hF, hm, rfl, rfl, hw⟩ := hrel
    subst hw
    have HM := Lib.hid hm
    clear hm S q1
    cases t' with
    | nil =>
      have hz0 : ((Sh.nil.root : Nat) : Int) = 0 := rfl
      rw [hz0]
      simp only [atF] at hF
      subst hF
      clear hz0 ht hz
      go_wp2_with fail
      refine (HH.out _ HA.out).mono ?_
      rintro e W2 ⟨rfl, b2⟩
      have h3 := h2.below b2 h2.lt
      have B2 := B.trans (b2.mono B.size)
      obtain ⟨r0, r1⟩ := two_cells h3
      have f0 := h3.frozen
      go_wp2_with fail
      clear r0 r1
      have h5 := two_set h3 bb tn
      obtain ⟨r0, r1⟩ := two_cells h5
      exact bodyPost_ret (v := .tuple #[.agg #[.int .i64 bb, .int .i64 tn], .bool b]) (by simp [results, Try.results19, go_sem, r0, r1]) rfl ⟨rfl, two_below B2 HR.out _ _⟩
    | node c x k =>
      obtain ⟨h0, h1, h2', h3, h4⟩ := ht
      have hx : x < s.sz := hz x (by simp [Sh.ino])
      obtain ⟨kt, hkt⟩ : ∃ q, (s.f x).t = q := ⟨_, rfl⟩
      have ck : wr.cell? ⟨gl, x * 8, none⟩ = some (.int .i64 kt) := by rw [← hkt]; exact HA.out.m.n.cell x hx 0 (by omega)
      have cl : wr.cell? ⟨gl, x * 8 + 2, none⟩ = some (.int .i64 (k false).root) := by rw [← h3 false]; exact HA.out.m.l hx
      have cr : wr.cell? ⟨gl, x * 8 + 3, none⟩ = some (.int .i64 (k true).root) := by rw [← h3 true]; exact HA.out.m.r hx
      have c0 : ¬ ((x : Nat) : Int) = 0 := by omega
      have hroot' : (Sh.node c x k).root = x := rfl
      rw [hroot']
      unfold atF at hF
      rw [hkt] at hF
      have hl1 : (k false).ino.length + 1 ≤ (Sh.node c x k).ino.length := by simp only [Sh.ino, List.length_append, List.length_cons]; omega
      have hl2 : (k true).ino.length + 1 ≤ (Sh.node c x k).ino.length := by simp only [Sh.ino, List.length_append, List.length_cons]; omega
      have HL := Lib.hid (And.intro hl1 hl2)
      by_cases e : τ ≤ kt
      · rw [if_pos e] at hF
        have S2 := Lib.hid (show ATRel s τ F wr (k false).ino.length (.int .i64 x) (.int .i64 (k false).root) wr from ⟨k false, x, x, h4 false, fun z hz' => hz z (mem_ino_side false hz'), hF, Nat.le_refl _, rfl, rfl, rfl⟩)
        clear h0 h1 h2' h3 h4 hz hroot' hF hl1 hl2 hkt
        generalize (k false).root = R at cl S2
        go_wp2_with fail
        go_roundg (k false).ino.length
        case measure => have := HM.out; have := HL.out; omega
        case rel => exact S2.out
      · rw [if_neg e] at hF
        have S2 := Lib.hid (show ATRel s τ F wr (k true).ino.length (.int .i64 bb) (.int .i64 (k true).root) wr from ⟨k true, x, bb, h4 true, fun z hz' => hz z (mem_ino_side true hz'), hF, Nat.le_refl _, rfl, rfl, rfl⟩)
        clear h0 h1 h2' h3 h4 hz hroot' hF hl1 hl2 hkt
        generalize (k true).root = R at cr S2
        go_wp2_with fail
        go_roundg (k true).ino.length
        case measure => have := HM.out; have := HL.out; omega
        case rel => exact S2.out
end Go.Proofs.Ytfoigflgglpobaa.Tr
