/- The contract of a new place. No condition but that memory holds a tree. -/
import Derived.Test.YtfoigflgglpobaaTrk
set_option linter.unusedVariables false
set_option linter.unusedSimpArgs false
namespace Go.Proofs.Ytfoigflgglpobaa.Tr
open Go.RowKit Go.Proofs.Ytfoigflgglpobaa.Aid
def TS.more (s : TS) : TS := { s with sz := s.sz + 1, f := fun z => if z = s.sz then zeroN else s.f z }
theorem IsT.spare {w : World} {g gl : Nat} {s : TS} (h : IsT w g gl s) (hc : s.sz < s.cap) (j : Nat) (hj : j < 8) : ∃ v, w.cell? ⟨gl, s.sz * 8 + j, none⟩ = some v := by
  obtain ⟨cur, hb, hs⟩ := h.room
  have hlt : s.sz * 8 + j < cur.size := by omega
  exact ⟨cur[s.sz * 8 + j], (hb.cell _).trans (Array.getElem?_eq_getElem hlt)⟩
def fill8 (w : World) (gl n : Nat) : World := (((((((w.setCell ⟨gl, n * 8, none⟩ (.int .i64 0)).setCell ⟨gl, n * 8 + 1, none⟩ (.int .i64 0)).setCell ⟨gl, n * 8 + 2, none⟩ (.int .i64 0)).setCell ⟨gl, n * 8 + 3, none⟩ (.int .i64 0)).setCell ⟨gl, n * 8 + 4, none⟩ (.int .i64 0)).setCell ⟨gl, n * 8 + 5, none⟩ (.bool false)).setCell ⟨gl, n * 8 + 6, none⟩ (.bool false)).setCell ⟨gl, n * 8 + 7, none⟩ (.int .i64 0)
theorem fill8_far {w : World} {gl n b : Nat} (h : b ≠ gl) : (fill8 w gl n).heap[b]? = w.heap[b]? := by
  unfold fill8
  rw [Below.heap_setCell _ _ _ b h, Below.heap_setCell _ _ _ b h, Below.heap_setCell _ _ _ b h, Below.heap_setCell _ _ _ b h, Below.heap_setCell _ _ _ b h, Below.heap_setCell _ _ _ b h, Below.heap_setCell _ _ _ b h, Below.heap_setCell _ _ _ b h]
def arr8 (cur : Array Value) (n : Nat) : Array Value := (((((((cur.setIfInBounds (n * 8) (.int .i64 0)).setIfInBounds (n * 8 + 1) (.int .i64 0)).setIfInBounds (n * 8 + 2) (.int .i64 0)).setIfInBounds (n * 8 + 3) (.int .i64 0)).setIfInBounds (n * 8 + 4) (.int .i64 0)).setIfInBounds (n * 8 + 5) (.bool false)).setIfInBounds (n * 8 + 6) (.bool false)).setIfInBounds (n * 8 + 7) (.int .i64 0)
theorem fill8_blk {w : World} {gl n : Nat} {t : TypeId} {cur : Array Value} (h : Blk w gl t cur) : Blk (fill8 w gl n) gl t (arr8 cur n) := (((((((h.set_ _ _).set_ _ _).set_ _ _).set_ _ _).set_ _ _).set_ _ _).set_ _ _).set_ _ _
theorem arr8_size (cur : Array Value) (n : Nat) : (arr8 cur n).size = cur.size := by simp [arr8]
theorem arr8_old (cur : Array Value) (n i : Nat) (h : i < n * 8) : (arr8 cur n)[i]? = cur[i]? := by
  unfold arr8
  simp only [Array.getElem?_setIfInBounds]
  rw [if_neg (by omega), if_neg (by omega), if_neg (by omega), if_neg (by omega), if_neg (by omega), if_neg (by omega), if_neg (by omega), if_neg (by omega)]
theorem arr8_new (cur : Array Value) (n k : Nat) (hk : k < 8) (h : (n + 1) * 8 ≤ cur.size) : (arr8 cur n)[n * 8 + k]? = zeroN.cells[k]? := by
  unfold arr8
  have h0 : n * 8 + 7 < cur.size := by omega
  have h1 : n * 8 + 6 < cur.size := by omega
  have h2 : n * 8 + 5 < cur.size := by omega
  have h3 : n * 8 + 4 < cur.size := by omega
  have h4 : n * 8 + 3 < cur.size := by omega
  have h5 : n * 8 + 2 < cur.size := by omega
  have h6 : n * 8 + 1 < cur.size := by omega
  have h7 : n * 8 < cur.size := by omega
  match k, hk with
  | 0, _ => simp [Array.getElem?_setIfInBounds, zeroN, Nd.cells, h7]
  | 1, _ => simp [Array.getElem?_setIfInBounds, zeroN, Nd.cells, h6]
  | 2, _ => simp [Array.getElem?_setIfInBounds, zeroN, Nd.cells, h5]
  | 3, _ => simp [Array.getElem?_setIfInBounds, zeroN, Nd.cells, h4]
  | 4, _ => simp [Array.getElem?_setIfInBounds, zeroN, Nd.cells, h3]
  | 5, _ => simp [Array.getElem?_setIfInBounds, zeroN, Nd.cells, h2]
  | 6, _ => simp [Array.getElem?_setIfInBounds, zeroN, Nd.cells, h1]
  | 7, _ => simp [Array.getElem?_setIfInBounds, zeroN, Nd.cells, h0]
theorem IsT.grow {w : World} {g gl : Nat} {s : TS} (h : IsT w g gl s) (hc : s.sz < s.cap) : IsT ((fill8 w gl s.sz).setCell ⟨g, 0, none⟩ (.slice (some ⟨gl, 0, none⟩) (s.sz + 1) s.cap)) g gl s.more := by
  obtain ⟨cur, hb, hs⟩ := h.room
  obtain ⟨cur', hb', hs', hcell⟩ := h.n
  have e : cur' = cur := by
    unfold Blk at hb hb'
    rw [hb] at hb'
    injection hb' with e
    injection e with e
    exact e.symm
  subst e
  have hB : Blk ((fill8 w gl s.sz).setCell ⟨g, 0, none⟩ (.slice (some ⟨gl, 0, none⟩) (s.sz + 1) s.cap)) gl 104 (arr8 cur' s.sz) := (fill8_blk hb).far h.ne.symm _
  refine ⟨?_, ⟨_, hB, ?_, ?_⟩, h.ne, ?_, ⟨_, hB, ?_⟩⟩
  · have h1 : Blk (fill8 w gl s.sz) g 102 _ := (fill8_far h.ne).trans h.b
    simpa [TS.more] using h1.set_ 0 (.slice (some ⟨gl, 0, none⟩) (s.sz + 1) s.cap)
  · rw [arr8_size]; unfold TS.more; dsimp only; omega
  · intro x hx k hk
    unfold TS.more at hx ⊢
    dsimp only at hx ⊢
    by_cases ex : x = s.sz
    · subst ex
      rw [if_pos rfl, arr8_new _ _ _ hk (by omega)]
    · rw [if_neg ex, arr8_old _ _ _ (by omega)]
      exact hcell x (by omega) k hk
  · have := h.sz; unfold TS.more; dsimp only; omega
  · rw [arr8_size]; exact hs
theorem fill8_only {S : Nat → Prop} {a w : World} {gl n : Nat} (h : Only S a w) (hg : S gl) : Only S a (fill8 w gl n) := (((((((h.setCell (.inl hg) _).setCell (.inl hg) _).setCell (.inl hg) _).setCell (.inl hg) _).setCell (.inl hg) _).setCell (.inl hg) _).setCell (.inl hg) _).setCell (.inl hg) _
theorem infoNd' : ∃ i, Try.prog.info? 104 = some i ∧ i.size = 8 := by
  have h := infoNd
  cases e : Try.prog.info? 104 with
  | none => rw [e] at h; cases h
  | some i => rw [e] at h; exact ⟨i, rfl, by simp only [Option.map_some, Option.some.injEq, Prod.mk.injEq] at h; exact h.2.1⟩
set_option maxHeartbeats 1000000 in
set_option maxRecDepth 100000 in
theorem place_grow (g gl : Nat) (s : TS) (w : World) (h : IsT w g gl s) (hf : s.free = 0) (hm : s.sz ≤ s.most) (hc : s.sz < s.cap) :
    Calls Try.prog 51 #[.pointer (some ⟨g, 0, none⟩)] w fun e w' => e = .returned (.int .i64 s.sz) ∧ IsT w' g gl s.more ∧ Only (TF g gl) w w' := by
  obtain ⟨q0, _, _, q3, q4⟩ := h.hc
  rw [hf] at q3
  have hs := h.sz
  have H := Lib.hid h
  have d : decide (((s.sz : Nat) : Int) > ((s.most : Nat) : Int)) = false := decide_eq_false (by omega)
  clear h hf
  go_enter Try.func51, Try.ntmps51
  go_wp2
  go_quiet (fail)
  have hT := H.out.drewN nq
  have O := Lib.hid ((Only.refl (TF g gl) w).drewN nq)
  generalize w.drewN nq = W at hT O ⊢
  clear q0 q3 q4 d
  have d : ¬ (s.most < s.sz) := by omega
  have hA := hT.alloc (.cells #[.int .i64 0, .int .i64 0, .int .i64 0, .int .i64 0, .int .i64 0, .bool false, .bool false, .int .i64 0] 104)
  obtain ⟨v0, c0⟩ := hT.spare hc 0 (by omega)
  obtain ⟨v1, c1⟩ := hT.spare hc 1 (by omega)
  obtain ⟨v2, c2⟩ := hT.spare hc 2 (by omega)
  obtain ⟨v3, c3⟩ := hT.spare hc 3 (by omega)
  obtain ⟨v4, c4⟩ := hT.spare hc 4 (by omega)
  obtain ⟨v5, c5⟩ := hT.spare hc 5 (by omega)
  obtain ⟨v6, c6⟩ := hT.spare hc 6 (by omega)
  obtain ⟨v7, c7⟩ := hT.spare hc 7 (by omega)
  simp only [Nat.add_zero] at c0
  have ff := hT.n.frozen
  have fg := hT.b.frozen
  have q0 := hT.hc.1
  have qa := hA.hc.1
  have l1 : gl < W.heap.size := hT.n.lt
  have l2 : g < W.heap.size := hT.b.lt
  have hne := hT.ne
  have hne2 := hT.ne.symm
  have HA := Lib.hid hA
  have HT := Lib.hid hT
  clear hT hA
  go_upto_region 8 with fail
  have hF := (HT.out.grow hc).alloc (.cells #[.int .i64 0, .int .i64 0, .int .i64 0, .int .i64 0, .int .i64 0, .bool false, .bool false, .int .i64 0] 104)
  have OF := ((fill8_only (n := s.sz) O.out (gl := gl) (.inr rfl)).setCell (p := ⟨g, 0, none⟩) (.inl (.inl rfl)) (.slice (some ⟨gl, 0, none⟩) (s.sz + 1) s.cap)).alloc (.cells #[.int .i64 0, .int .i64 0, .int .i64 0, .int .i64 0, .int .i64 0, .bool false, .bool false, .int .i64 0] 104)
  unfold fill8 at hF OF
  clear c0 c1 c2 c3 c4 c5 c6 c7 ff fg q0 qa
  generalize ((((((((((W.setCell ⟨gl, s.sz * 8, none⟩ (.int .i64 0)).setCell ⟨gl, s.sz * 8 + 1, none⟩ (.int .i64 0)).setCell ⟨gl, s.sz * 8 + 2, none⟩ (.int .i64 0)).setCell ⟨gl, s.sz * 8 + 3, none⟩ (.int .i64 0)).setCell ⟨gl, s.sz * 8 + 4, none⟩ (.int .i64 0)).setCell ⟨gl, s.sz * 8 + 5, none⟩ (.bool false)).setCell ⟨gl, s.sz * 8 + 6, none⟩ (.bool false)).setCell ⟨gl, s.sz * 8 + 7, none⟩ (.int .i64 0)).setCell ⟨g, 0, none⟩ (.slice (some ⟨gl, 0, none⟩) (s.sz + 1) s.cap)).alloc (.cells #[.int .i64 0, .int .i64 0, .int .i64 0, .int .i64 0, .int .i64 0, .bool false, .bool false, .int .i64 0] 104)) = W9 at hF OF ⊢
  have q0 : W9.cell? ⟨g, 0, none⟩ = some (.slice (some ⟨gl, 0, none⟩) (s.sz + 1) s.cap) := hF.hc.1
  have HF := Lib.hid hF
  have HO := Lib.hid OF
  clear hF OF
  go_wp2_with fail
  go_ret
  exact ⟨ret_int (by omega), HF.out, HO.out⟩
end Go.Proofs.Ytfoigflgglpobaa.Tr
