/- What a tree's small readers tell: the first place below one, the next place. No condition but that memory holds a tree. -/
import Derived.Test.YtfoigflgglpobaaTra
import Derived.Test.YtfoigflgglpobaaScp
set_option linter.unusedVariables false
set_option linter.unusedSimpArgs false
namespace Go.Proofs.Ytfoigflgglpobaa.Tr
open Go.RowKit Go.Proofs.Ytfoigflgglpobaa.Aid
/-- the first place -/
def Sh.fst : Sh → Nat
  | .nil => 0
  | .node _ x k => if (k false).root = 0 then x else (k false).fst
theorem rep_root {f : Nat → Nd} {t : Sh} {up : Nat} (h : Rep f t up) (e : t.root = 0) : t = .nil := by
  cases t with
  | nil => rfl
  | node c x k => exact absurd e h.1
theorem fst_ino {f : Nat → Nd} (t : Sh) : ∀ {up : Nat}, Rep f t up → t.fst = t.ino.head?.getD 0 := by
  induction t with
  | nil => intro up _; rfl
  | node c x k ih =>
    intro up h
    obtain ⟨h0, h1, h2, h3, h4⟩ := h
    unfold Sh.fst Sh.ino
    by_cases e : (k false).root = 0
    · rw [if_pos e, rep_root (h4 false) e]; rfl
    · rw [if_neg e, ih false (h4 false)]
      cases hk : (k false).ino with
      | nil => exact absurd (hk ▸ root_mem e) (by simp)
      | cons y l => rfl
/-- the next place of a way down -/
def Cx.next : Cx → Nat
  | .top => 0
  | .fr _ x s _ k => if s then k.next else x
theorem next_post (k : Cx) : k.next = k.post.head?.getD 0 := by
  induction k with
  | top => rfl
  | fr c x s sib k ih =>
    cases s
    · rfl
    · simpa [Cx.next, Cx.post] using ih
/-- the next place of a node in a tree -/
def nextOf (k : Cx) (kx : Bool → Sh) : Nat := if (kx true).root = 0 then k.next else (kx true).fst
theorem nextOf_list {f : Nat → Nd} {k : Cx} {c : Bool} {x : Nat} {kx : Bool → Sh} {up : Nat} (h : Rep f (.node c x kx) up) : nextOf k kx = ((kx true).ino ++ k.post).head?.getD 0 := by
  obtain ⟨h0, h1, h2, h3, h4⟩ := h
  unfold nextOf
  by_cases e : (kx true).root = 0
  · rw [if_pos e, rep_root (h4 true) e, next_post]; rfl
  · rw [if_neg e, fst_ino _ (h4 true)]
    cases hk : (kx true).ino with
    | nil => exact absurd (hk ▸ root_mem e) (by simp)
    | cons y l => rfl
theorem plug_list (k : Cx) (c : Bool) (x : Nat) (kx : Bool → Sh) : (k.plug (.node c x kx)).ino = (k.pre ++ (kx false).ino) ++ x :: ((kx true).ino ++ k.post) := by
  rw [plug_ino]; simp [Sh.ino, List.append_assoc]
/-- each place of a tree hangs at the end of a way down -/
theorem way_to {f : Nat → Nd} {root : Nat} {x : Nat} (t : Sh) : ∀ (k : Cx), Rep f t k.up → RepC f root k t.root → x ∈ t.ino → ∃ K c kx, Rep f (.node c x kx) K.up ∧ RepC f root K x ∧ K.plug (.node c x kx) = k.plug t := by
  induction t with
  | nil => intro k _ _ h; exact absurd h (by simp [Sh.ino])
  | node c y ky ih =>
    intro k h hc hx
    rcases (mem_node false).1 hx with rfl | hx | hx
    · exact ⟨k, c, ky, h, hc, rfl⟩
    · obtain ⟨h1, h2⟩ := RepC.over false h hc
      obtain ⟨K, c', kx, a1, a2, a3⟩ := ih false (.fr c y false (ky (!false)) k) h1 h2 hx
      exact ⟨K, c', kx, a1, a2, a3.trans (by simp only [Cx.plug]; rw [two_eta])⟩
    · obtain ⟨h1, h2⟩ := RepC.over true h hc
      obtain ⟨K, c', kx, a1, a2, a3⟩ := ih true (.fr c y true (ky (!true)) k) h1 h2 hx
      exact ⟨K, c', kx, a1, a2, a3.trans (by simp only [Cx.plug]; rw [two_eta])⟩
def MFr (g x : Nat) (a : Act) : Prop := ∃ u2 u3 u4 u5 u6 u7 u8 u9 u10 u11 u12 u13 u14 u15 u16 u17 u18 u19 u20 u21 u22 u23 u24 u25 u26 : Value, a = { tmps := #[.pointer (some ⟨g, 0, none⟩), .int .i64 x, u2, u3, u4, u5, u6, u7, u8, u9, u10, u11, u12, u13, u14, u15, u16, u17, u18, u19, u20, u21, u22, u23, u24, u25, u26], defers := [] }
def MRel (g : Nat) (s : TS) (F : Nat) (w : World) (m : Nat) (a : Act) (wr : World) : Prop :=
  ∃ t u, Rep s.f t u ∧ (∀ z, z ∈ t.ino → z < s.sz) ∧ t.fst = F ∧ t.ino.length ≤ m ∧ wr = w ∧ MFr g t.root a
set_option maxHeartbeats 1000000 in
set_option maxRecDepth 100000 in
theorem most_any (g gl : Nat) (s : TS) (w : World) (h : IsT w g gl s) (t : Sh) (u : Nat) (ht : Rep s.f t u) (hz : ∀ z, z ∈ t.ino → z < s.sz) :
    Calls Try.prog 56 #[.pointer (some ⟨g, 0, none⟩), .int .i64 t.root] w fun e w' => e = .returned (.int .i64 t.fst) ∧ w = w' := by
  obtain ⟨F, hF⟩ : ∃ F, t.fst = F := ⟨_, rfl⟩
  obtain ⟨R, hR⟩ : ∃ R, t.root = R := ⟨_, rfl⟩
  have S : Hid (∀ a, MFr g R a → MRel g s F w t.ino.length a w) := Lib.hid fun a ha => ⟨t, u, ht, hz, hF, Nat.le_refl _, rfl, by rw [hR]; exact ha⟩
  rw [hF, hR]
  obtain ⟨q0, _, _, _, _⟩ := h.hc
  have H := Lib.hid h
  have hs := h.sz
  clear ht hz hF hR h
  go_enter Try.func56, Try.ntmps56
  go_wp2
  refine wp_scope_again (MRel g s F w) t.ino.length (S.out _ ⟨_, _, _, _, _, _, _, _, _, _, _, _, _, _, _, _, _, _, _, _, _, _, _, _, _, rfl⟩) ?_
  rintro m a' w' ⟨t', u', ht, hz, hF, hm, rfl, ⟨u2, u3, u4, u5, u6, u7, u8, u9, u10, u11, u12, u13, u14, u15, u16, u17, u18, u19, u20, u21, u22, u23, u24, u25, u26, rfl⟩⟩ J K hJ hK
  have HM := Lib.hid hm
  have HJ := Lib.hid hJ
  have HK := Lib.hid hK
  clear hm S hJ hK
  cases t' with
  | nil =>
    simp only [Sh.fst, Sh.root] at hF ⊢
    subst hF
    go_wp2
    rw [jump_ret]
    go_ret
    exact ⟨rfl, rfl⟩
  | node c x k =>
    obtain ⟨h0, h1, h2, h3, h4⟩ := ht
    have hx : x < s.sz := hz x (by simp [Sh.ino])
    have hc := H.out.l hx
    have e1 : (s.f x).l = (k false).root := h3 false
    rw [e1] at hc
    have c0 : ¬ ((x : Nat) : Int) = 0 := by omega
    have hroot : (Sh.node c x k).root = x := rfl
    rw [hroot]
    unfold Sh.fst at hF
    by_cases e : (k false).root = 0
    · rw [if_pos e] at hF
      rw [e] at hc
      subst hF
      clear h0 h1 h2 h3 h4 e1 hz HM e hroot
      go_wp2
      rw [jump_ret]
      go_ret
      exact ⟨rfl, rfl⟩
    · rw [if_neg e] at hF
      have hlen : (k false).ino.length + 1 ≤ (Sh.node c x k).ino.length := by simp [Sh.ino]
      have S2 : Hid (∀ a, MFr g (k false).root a → MRel g s F w' (k false).ino.length a w') := Lib.hid fun a ha => ⟨k false, x, h4 false, fun z hz' => hz z (mem_ino_side false hz'), hF, Nat.le_refl _, rfl, ha⟩
      have HL := Lib.hid hlen
      generalize (k false).root = R2 at hc e S2
      have c1 := bne_i (show ¬ ((R2 : Nat) : Int) = 0 by omega)
      have c2 := bne_i c0
      clear h0 h1 h2 h3 h4 e1 hz hroot hF hlen e
      go_wp2
      go_step3
      refine ⟨rfl, (HK.out _ _ (Handed.intro (k false).ino.length (by have := HM.out; have := HL.out; omega) (HJ.out _ _ _ (S2.out _ ⟨_, _, _, _, _, _, _, _, _, _, _, _, _, _, _, _, _, _, _, _, _, _, _, _, _, rfl⟩))))⟩
def AFr (g x : Nat) (a : Act) : Prop := ∃ u2 u3 u4 u5 u6 u7 u8 u9 u10 u11 u12 u13 u14 u15 u16 u17 u18 u19 u20 u21 u22 u23 u24 u25 u26 u27 u28 u29 u30 u31 u32 u33 u34 u35 u36 u37 u38 u39 u40 u41 u42 u43 u44 u45 u46 u47 u48 : Value, a = { tmps := #[.pointer (some ⟨g, 0, none⟩), .int .i64 x, u2, u3, u4, u5, u6, u7, u8, u9, u10, u11, u12, u13, u14, u15, u16, u17, u18, u19, u20, u21, u22, u23, u24, u25, u26, u27, u28, u29, u30, u31, u32, u33, u34, u35, u36, u37, u38, u39, u40, u41, u42, u43, u44, u45, u46, u47, u48], defers := [] }
structure ASt (s : TS) (F : Nat) (k : Cx) (h : Nat) : Prop where
  rc : RepC s.f s.root k h
  u : (s.f h).u = k.up
  h0 : h ≠ 0
  nin : h ∉ k.all
  nd : k.all.Nodup
  lt : ∀ z, z ∈ k.all → z < s.sz
  hlt : h < s.sz
  nx : k.next = F
def ARel (g : Nat) (s : TS) (F : Nat) (w : World) (m : Nat) (a : Act) (wr : World) : Prop := ∃ k h, ASt s F k h ∧ k.len ≤ m ∧ wr = w ∧ AFr g h a
theorem ASt.up {s : TS} {F : Nat} {c : Bool} {y : Nat} {sib : Sh} {k : Cx} {h : Nat} (a : ASt s F (.fr c y true sib k) h) : ASt s F k y ∧ (s.f y).r = h := by
  obtain ⟨h0, h1, h2, h3, h4, h5, h6⟩ := a.rc
  have hn := List.nodup_cons.1 a.nd
  refine ⟨⟨h6, h2, h0, fun hz => hn.1 (by simp [hz]), (List.nodup_append.1 hn.2).2.1, fun z hz => a.lt z (by simp [Cx.all, hz]), a.lt y (by simp [Cx.all]), ?_⟩, h3⟩
  have := a.nx
  simpa [Cx.next] using this
theorem ASt.stop {s : TS} {F : Nat} {c : Bool} {y : Nat} {sib : Sh} {k : Cx} {h : Nat} (a : ASt s F (.fr c y false sib k) h) : F = y ∧ (s.f y).r ≠ h := by
  obtain ⟨h0, h1, h2, h3, h4, h5, h6⟩ := a.rc
  refine ⟨by have := a.nx; simpa [Cx.next] using this.symm, fun e => a.nin ?_⟩
  have h7 : (s.f y).r = sib.root := h4
  have h8 : sib.root ≠ 0 := by rw [← h7, e]; exact a.h0
  have := root_mem h8
  rw [← h7, e] at this
  simp [Cx.all, this]
set_option maxHeartbeats 1000000 in
set_option maxRecDepth 100000 in
theorem after_any (g gl : Nat) (s : TS) (w : World) (h : IsT w g gl s) (C : Cx) (c : Bool) (x : Nat) (kx : Bool → Sh) (ht : Rep s.f (.node c x kx) C.up) (hc : RepC s.f s.root C x) (hnd : (C.plug (.node c x kx)).ino.Nodup) (hz : ∀ z, z ∈ (C.plug (.node c x kx)).ino → z < s.sz) :
    Calls Try.prog 59 #[.pointer (some ⟨g, 0, none⟩), .int .i64 x] w fun e w' => e = .returned (.int .i64 (nextOf C kx)) ∧ w = w' := by
  have hp := plug_perm C (.node c x kx)
  obtain ⟨n1, n2, n3⟩ := List.nodup_append.1 (hp.nodup_iff.1 hnd)
  have hx : x < s.sz := hz x (hp.mem_iff.2 (List.mem_append_left _ ((mem_node true).2 (.inl rfl))))
  have ht' := ht
  obtain ⟨h0, h1, h2, h3, h4⟩ := ht
  have e1 : (s.f x).r = (kx true).root := h3 true
  have cr := h.r hx
  have cu := h.u hx
  rw [e1] at cr
  obtain ⟨q0, _, _, _, _⟩ := h.hc
  have H := Lib.hid h
  have hs := h.sz
  by_cases e : (kx true).root = 0
  · have en : nextOf C kx = C.next := by unfold nextOf; rw [if_pos e]
    rw [en]
    have S : ASt s C.next C x := ⟨hc, h2, h0, fun hm => n3 x ((mem_node true).2 (.inl rfl)) x hm rfl, n2, fun z hz' => hz z (hp.mem_iff.2 (List.mem_append_right _ hz')), hx, rfl⟩
    have HS := Lib.hid S
    rw [e] at cr
    generalize C.next = F at HS S
    clear h0 h1 h2 h3 h4 e1 n1 n2 n3 hp hnd hz hc S en ht'
    go_enter Try.func59, Try.ntmps59
    go_wp2
    refine wp_scope_behind rfl (ARel g s F w) ?_ ?_
    · intro R hR
      go_wp2
      refine hR C.len _ _ ⟨C, x, HS.out, Nat.le_refl _, rfl, ⟨_, _, _, _, _, _, _, _, _, _, _, _, _, _, _, _, _, _, _, _, _, _, _, _, _, _, _, _, _, _, _, _, _, _, _, _, _, _, _, _, _, _, _, _, _, _, _, rfl⟩⟩
    · rintro m a' w' ⟨k, hh, A, hm, rfl, ⟨u2, u3, u4, u5, u6, u7, u8, u9, u10, u11, u12, u13, u14, u15, u16, u17, u18, u19, u20, u21, u22, u23, u24, u25, u26, u27, u28, u29, u30, u31, u32, u33, u34, u35, u36, u37, u38, u39, u40, u41, u42, u43, u44, u45, u46, u47, u48, rfl⟩⟩ J K hJ hK
      have HM := Lib.hid hm
      have HJ := Lib.hid hJ
      have HK := Lib.hid hK
      have hhl := A.hlt
      have cu := H.out.u hhl
      rw [A.u] at cu
      clear hm HS hJ hK cr e h hx
      cases k with
      | top =>
        have hF : 0 = F := A.nx
        subst hF
        simp only [Cx.up] at cu
        clear A
        go_wp2
        rw [jump_ret]
        go_ret
        exact ⟨rfl, rfl⟩
      | fr cc y sd sib k =>
        have hy : y < s.sz := A.lt y (by simp [Cx.all])
        have cry := H.out.r hy
        have c0 : ¬ ((y : Nat) : Int) = 0 := by have : y ≠ 0 := A.rc.1; omega
        have c2 := bne_i c0
        simp only [Cx.up] at cu
        cases sd with
        | true =>
          obtain ⟨A2, e2⟩ := A.up
          rw [e2] at cry
          have HA := Lib.hid A2
          clear A A2 e2
          go_wp2
          go_step3
          refine ⟨rfl, (HK.out _ _ (Handed.intro k.len (by have := HM.out; simp only [Cx.len] at this; omega) (HJ.out _ _ _ ⟨k, y, HA.out, Nat.le_refl _, rfl, ⟨_, _, _, _, _, _, _, _, _, _, _, _, _, _, _, _, _, _, _, _, _, _, _, _, _, _, _, _, _, _, _, _, _, _, _, _, _, _, _, _, _, _, _, _, _, _, _, rfl⟩⟩)))⟩
        | false =>
          obtain ⟨e2, e3⟩ := A.stop
          subst e2
          generalize (s.f F).r = ry at cry e3
          have c1 : ¬ ((hh : Nat) : Int) = ((ry : Nat) : Int) := by omega
          have c3 := beq_i c1
          clear A e3
          go_wp2
          rw [jump_ret]
          go_ret
          exact ⟨rfl, rfl⟩
  · have en : nextOf C kx = (kx true).fst := by unfold nextOf; rw [if_neg e]
    rw [en]
    have HM := Lib.hid (most_any g gl s w h (kx true) x (h4 true) (fun z hz' => hz z (hp.mem_iff.2 (List.mem_append_left _ (mem_ino_side true hz')))))
    generalize (kx true).fst = F at HM
    generalize (kx true).root = R at HM cr e
    have c0 : ¬ ((R : Nat) : Int) = 0 := by omega
    clear h0 h1 h2 h3 h4 e1 n1 n2 n3 hp hnd hz hc en ht' e
    go_enter Try.func59, Try.ntmps59
    go_wp2
    refine wp_scope_behind rfl (fun _ _ _ => False) ?_ ?_
    · intro RR hR
      go_wp2_with fail
      refine HM.out.mono ?_
      rintro e w1 ⟨rfl, rfl⟩
      go_wp2
      rw [Exit.noGoto_ret]
      go_ret
      exact ⟨rfl, rfl⟩
    · rintro m a' w' ⟨⟩
end Go.Proofs.Ytfoigflgglpobaa.Tr
