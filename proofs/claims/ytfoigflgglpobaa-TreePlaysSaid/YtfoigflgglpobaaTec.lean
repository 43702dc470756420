/- TreeHandles: a node that is gone isn't taken for another one in its place: the walk. No condition. -/
import Derived.Test.YtfoigflgglpobaaTeb
import Derived.Test.YtfoigflgglpobaaLeaf
set_option linter.unusedVariables false
set_option linter.unusedSimpArgs false
namespace Go.Proofs.Ytfoigflgglpobaa.Tr
open Go.RowKit Go.Proofs.Ytfoigflgglpobaa.Aid
theorem infoHan : (Try.prog.info? 29).map (fun i => (i.zero.map (·.cells.size), i.size, i.bytes)) = some (some 2, 2, 16) := by kernel_rfl
theorem infoHan' : ∃ i z, Try.prog.info? 29 = some i ∧ i.zero = some z ∧ z.cells.size = 2 ∧ i.size = 2 ∧ i.bytes = 16 := by
  have h := infoHan
  cases e : Try.prog.info? 29 with
  | none => rw [e] at h; cases h
  | some i =>
    rw [e] at h
    simp only [Option.map_some, Option.some.injEq, Prod.mk.injEq] at h
    cases e2 : i.zero with
    | none => rw [e2] at h; simp at h
    | some z => rw [e2] at h; simp only [Option.map_some, Option.some.injEq] at h; exact ⟨i, z, rfl, e2, h.1, h.2.1, h.2.2⟩
/-- handles, as a row holds them -/
def flat (l : List (Nat × Int)) : List Value := l.flatMap fun e => [.int .i64 e.1, .int .i64 e.2]
theorem flat_snoc (l : List (Nat × Int)) (e : Nat × Int) : flat (l ++ [e]) = flat l ++ [.int .i64 e.1, .int .i64 e.2] := by simp [flat]
theorem flat_at : ∀ (l : List (Nat × Int)) (j : Nat) (e : Nat × Int), l[j]? = some e → (flat l)[j * 2]? = some (.int .i64 e.1) ∧ (flat l)[j * 2 + 1]? = some (.int .i64 e.2) := by
  intro l
  induction l with
  | nil => intro j e h; simp at h
  | cons a l ih =>
    intro j e h
    cases j with
    | zero =>
      simp only [List.getElem?_cons_zero, Option.some.injEq] at h
      subst h
      exact ⟨rfl, rfl⟩
    | succ j =>
      simp only [List.getElem?_cons_succ] at h
      have := ih j e h
      have e1 : flat (a :: l) = .int .i64 a.1 :: .int .i64 a.2 :: flat l := rfl
      rw [e1, show (j + 1) * 2 = j * 2 + 1 + 1 by omega, show j * 2 + 1 + 1 + 1 = (j * 2 + 1) + 1 + 1 by omega]
      simp only [List.getElem?_cons_succ]
      exact this
/-- a handle that was: its place has turned since, or is free -/
def Gone (s : TS) (e : Nat × Int) : Prop := e.1 ≠ 0 ∧ e.1 < s.sz ∧ e.2 ≤ (s.f e.1).turn
theorem Gone.put {s s' : TS} {T T' : Sh} {kt ks : Int} {x : Nat} {pre post : List Nat} {e : Nat × Int} (h : Gone s e) (r : PutRes s T kt ks s' T' x pre post) : Gone s' e ∧ (e.1 = x → e.2 < (s'.f x).turn) := by
  obtain ⟨h1, h2, h3⟩ := h
  by_cases ex : e.1 = x
  · have ht := r.turn
    rw [← ex, if_pos h2] at ht
    exact ⟨⟨h1, Nat.lt_of_lt_of_le h2 r.sz, by omega⟩, fun _ => by rw [← ex]; omega⟩
  · exact ⟨⟨h1, Nat.lt_of_lt_of_le h2 r.sz, by rw [(r.old e.1 h2 ex).2.2]; exact h3⟩, fun e2 => absurd e2 ex⟩
theorem Gone.drop {s s' : TS} {T T' : Sh} {z : Nat} {pre post : List Nat} {e : Nat × Int} (h : Gone s e) (r : DropRes s T z s' T' pre post) : Gone s' e := ⟨h.1, by rw [r.sz]; exact h.2.1, by rw [r.turn]; exact h.2.2⟩
/-- what stands in TreeHandles -/
structure HSt (w0 W : World) (g gl : Nat) (s : TS) (T : Sh) (fl : List Nat) (K M : Nat) (kt ks mt ms : Int) (base : Nat) (v : Value) (all : List (Nat × Int)) : Prop where
  t : TSt w0 W g gl s T fl
  k : Blk W K 27 (two_ kt ks)
  m : Blk W M 27 (two_ mt ms)
  a : W.ownsRow base 29 2 v all.length (flat all)
  d : K ≠ g ∧ K ≠ gl ∧ M ≠ g ∧ M ≠ gl ∧ g < base ∧ gl < base ∧ K < base ∧ M < base ∧ K ≠ M ∧ w0.heap.size ≤ K ∧ w0.heap.size ≤ M ∧ w0.heap.size ≤ base ∧ base ≤ W.heap.size
section
variable {w0 W W' : World} {g gl K M base : Nat} {s s' : TS} {T T' : Sh} {fl fl' : List Nat} {kt ks mt ms : Int} {v : Value} {all : List (Nat × Int)}
theorem HSt.call (h : HSt w0 W g gl s T fl K M kt ks mt ms base v all) (b : Below W.heap.size W W') : HSt w0 W' g gl s T fl K M kt ks mt ms base v all :=
  ⟨h.t.call b, h.k.below b h.k.lt, h.m.below b h.m.lt, own_below h.a b, by have := h.d; have := b.size; omega⟩
theorem HSt.alloc (h : HSt w0 W g gl s T fl K M kt ks mt ms base v all) (o : Obj) : HSt w0 (W.alloc o) g gl s T fl K M kt ks mt ms base v all := h.call ((Below.refl _ _).alloc (Nat.le_refl _) o)
theorem HSt.goes (h : HSt w0 W g gl s T fl K M kt ks mt ms base v all) (k : Full W' g gl s' T' fl') (o : Only (TF g gl) W W') : HSt w0 W' g gl s' T' fl' K M kt ks mt ms base v all := by
  have d := h.d
  have sz := o.size
  refine ⟨h.t.goes k o, o.blk h.k ?_, o.blk h.m ?_, own_only h.a o ?_, by omega⟩
  · rintro (e | e) <;> omega
  · rintro (e | e) <;> omega
  · rintro b hb (e | e) <;> omega
theorem HSt.swap (h : HSt w0 W g gl s T fl K M kt ks mt ms base v all) :
    HSt w0 ((((W.setCell ⟨K, 0, none⟩ (.int .i64 mt)).setCell ⟨K, 1, none⟩ (.int .i64 ms)).setCell ⟨M, 0, none⟩ (.int .i64 kt)).setCell ⟨M, 1, none⟩ (.int .i64 ks)) g gl s T fl K M mt ms kt ks base v all := by
  have d := h.d
  have k1 := two_set h.k mt ms
  have m1 := (h.m.far (p := ⟨K, 0, none⟩) (by show M ≠ K; omega) (.int .i64 mt)).far (p := ⟨K, 1, none⟩) (by show M ≠ K; omega) (.int .i64 ms)
  have t1 := (((h.t.far (p := ⟨K, 0, none⟩) d.1 d.2.1 (by show _ ≤ K; omega) (.int .i64 mt)).far (p := ⟨K, 1, none⟩) d.1 d.2.1 (by show _ ≤ K; omega) (.int .i64 ms)).far (p := ⟨M, 0, none⟩) d.2.2.1 d.2.2.2.1 (by show _ ≤ M; omega) (.int .i64 kt)).far (p := ⟨M, 1, none⟩) d.2.2.1 d.2.2.2.1 (by show _ ≤ M; omega) (.int .i64 ks)
  refine ⟨t1, (k1.far (p := ⟨M, 0, none⟩) (by show K ≠ M; omega) _).far (p := ⟨M, 1, none⟩) (by show K ≠ M; omega) _, two_set m1 kt ks, own_same h.a fun b hb => ?_, by simpa [World.setCell] using d⟩
  have hb2 := (own_block h.a hb).1
  rw [Below.heap_setCell _ _ _ b (show b ≠ M by omega), Below.heap_setCell _ _ _ b (show b ≠ M by omega), Below.heap_setCell _ _ _ b (show b ≠ K by omega), Below.heap_setCell _ _ _ b (show b ≠ K by omega)]
theorem HSt.append {v' : Value} {x : Nat} {tx : Int} {o : Obj} (h : HSt w0 W g gl s T fl K M kt ks mt ms base v all) (hg : (W.alloc o).grownBy W' v.ownBlock) (ho : W'.ownsRow base 29 2 v' (all.length + 1) (flat all ++ [.int .i64 x, .int .i64 tx])) :
    HSt w0 W' g gl s T fl K M kt ks mt ms base v' (all ++ [(x, tx)]) ∧ ∀ b t cs, Blk W b t cs → v.ownBlock ≠ some b → Blk W' b t cs := by
  have d := h.d
  have hA := h.alloc o
  have hrow : ∀ b, v.ownBlock = some b → base ≤ b := fun b hb => (own_block h.a hb).1
  have keep : ∀ b t cs, Blk (W.alloc o) b t cs → v.ownBlock ≠ some b → Blk W' b t cs := fun b t cs hb hne => hb.grown hg (fun e => hne e.symm)
  have hlow : ∀ b, b < base → v.ownBlock ≠ some b := fun b hb e => by have := hrow b e; omega
  have szA : (W.alloc o).heap.size = W.heap.size + 1 := by simp
  have sz := hg.size
  refine ⟨⟨⟨hA.t.t.same fun b hb => hg.block b (hA.t.t.m.foot_lt hb) (fun e => hlow b (by rcases hb with rfl | rfl <;> omega) e.symm), ?_, h.t.g, h.t.gl⟩, keep _ _ _ hA.k (hlow _ (by omega)), keep _ _ _ hA.m (hlow _ (by omega)), ?_, by omega⟩, fun b t cs hb hne => keep b t cs (hb.alloc o) hne⟩
  · exact ⟨hg.os.trans hA.t.b.os, hg.tape.trans hA.t.b.tape, hg.output.trans hA.t.b.output, Nat.le_trans hA.t.b.size hg.size, fun k hk => (hg.block k (Nat.lt_of_lt_of_le hk hA.t.b.size) (fun e => hlow k (by omega) e.symm)).trans (hA.t.b.block k hk)⟩
  · rw [flat_snoc, List.length_append]; exact ho
theorem gone_not {x : Nat} {tx : Int} {e : Nat × Int} (h : Full W g gl s T fl) (hT : T.ino = [x]) (htx : (s.f x).turn = tx) (hg : e.1 = x → e.2 < tx) : isH s e.1 e.2 = false := by
  cases hi : isH s e.1 e.2 with
  | false => rfl
  | true =>
    obtain ⟨y, h1, h2, h3⟩ := isH_is h hi
    rw [hT] at h2
    have hy : y = x := by simpa using h2
    subst hy
    have := hg (by omega)
    omega
end
def HIn (w0 : World) (g gl : Nat) (s : TS) (T : Sh) (fl : List Nat) (K M : Nat) (kt ks mt ms : Int) (base : Nat) (v : Value) (all : List (Nat × Int)) (hb x : Nat) (tx : Int) (m : Nat) (s34 : Value) (wr : World) : Prop :=
  ∃ j : Nat, j ≤ all.length ∧ m = all.length - j ∧ s34 = .int .i64 j ∧ HSt w0 wr g gl s T fl K M kt ks mt ms base v all ∧ Blk wr hb 29 (two_ x tx)
def HOut (w0 : World) (g gl K M base N : Nat) (m : Nat) (s8 s22 : Value) (wr : World) : Prop :=
  ∃ (i : Nat) (s : TS) (T : Sh) (fl : List Nat) (all : List (Nat × Int)) (kt ks mt ms : Int), i ≤ N ∧ m = N - i ∧ s22 = .int .i64 i ∧ HSt w0 wr g gl s T fl K M kt ks mt ms base s8 all ∧ T.ino = [] ∧ s.most = 1 ∧ TnB s i ∧ (∀ e, e ∈ all → Gone s e) ∧ all.length ≤ 20
set_option maxHeartbeats 4000000 in
set_option maxRecDepth 100000 in
theorem treeHandles_any (kt ks mt ms n : Int) (hn : 0 ≤ n ∧ n ≤ 255) (w : World) : Calls Try.prog 4 #[.agg #[.int .i64 kt, .int .i64 ks], .agg #[.int .i64 mt, .int .i64 ms], .int .u8 n] w fun e w' => e = .returned (.bool true) ∧ Below w.heap.size w w' := by
  obtain ⟨N, rfl⟩ : ∃ N : Nat, n = N := ⟨n.toNat, by omega⟩
  have e1 : (w.alloc (.cells #[.int .i64 kt, .int .i64 ks] 27)).heap.size = w.heap.size + 1 := by simp
  have hk := (Blk.new w 27 (two_ kt ks)).alloc (.cells (two_ mt ms) 27)
  have hm := Blk.new (w.alloc (.cells (two_ kt ks) 27)) 27 (two_ mt ms)
  have B : Below w.heap.size w ((w.alloc (.cells (two_ kt ks) 27)).alloc (.cells (two_ mt ms) 27)) := ((Below.refl w.heap.size w).alloc (Nat.le_refl _) _).alloc (by simp) _
  have es : ((w.alloc (.cells (two_ kt ks) 27)).alloc (.cells (two_ mt ms) 27)).heap.size = w.heap.size + 2 := by simp
  have e1' : (w.alloc (.cells (two_ kt ks) 27)).heap.size = w.heap.size + 1 := by simp
  rw [e1'] at hm
  clear e1 e1'
  have HR := Lib.hid (show w.heap.size ≤ w.heap.size + 1 by omega)
  go_enter Try.func4, Try.ntmps4
  go_upto_region 1 with fail
  change Blk ((w.alloc (.cells #[.int .i64 kt, .int .i64 ks] 27)).alloc (.cells #[.int .i64 mt, .int .i64 ms] 27)) _ _ _ at hk hm
  change Below _ _ ((w.alloc (.cells #[.int .i64 kt, .int .i64 ks] 27)).alloc (.cells #[.int .i64 mt, .int .i64 ms] 27)) at B
  change ((w.alloc (.cells #[.int .i64 kt, .int .i64 ks] 27)).alloc (.cells #[.int .i64 mt, .int .i64 ms] 27)).heap.size = _ at es
  generalize (w.alloc (.cells #[.int .i64 kt, .int .i64 ks] 27)).alloc (.cells #[.int .i64 mt, .int .i64 ms] 27) = V at hk hm B es ⊢
  have ek : w.heap.size < V.heap.size ∧ w.heap.size + 1 < V.heap.size ∧ w.heap.size ≠ w.heap.size + 1 := by omega
  clear es
  have hKw : w.heap.size ≤ w.heap.size := Nat.le_refl _
  generalize hM : w.heap.size + 1 = M at hm ek HR ⊢
  generalize hK : w.heap.size = K at hk ek HR ⊢
  rw [hK] at B hKw
  clear hM
  have HB := Lib.hid B
  have HKM := Lib.hid (And.intro hk (And.intro hm (And.intro ek hKw)))
  clear hk hm ek hKw B
  go_wp2_with fail
  refine (fixed_any V).mono ?_
  rintro e V1 ⟨rfl, b1⟩
  go_wp2_with fail
  refine (New_some 1 V1 (by omega)).mono ?_
  rintro e W0 ⟨g, gl, rfl, T0, hg, hgl, b0⟩
  have H0 : HSt w W0 g gl (newS 1) .nil [] K M kt ks mt ms W0.heap.size (.slice none 0 0) [] := by
    have hgs := T0.b.lt
    have hgls := T0.n.lt
    have s1 := b1.size
    have s0 := b0.size
    have hk1 := (HKM.out.1.below b1 HKM.out.1.lt)
    have hm1 := (HKM.out.2.1.below b1 HKM.out.2.1.lt)
    have hks := HKM.out.2.2.1
    have hr := HR.out
    have hsz := HB.out.size
    refine ⟨⟨full_new (by omega) T0, by rw [hK]; exact (HB.out.trans (b1.mono (by omega))).trans (b0.mono (by omega)), by omega, by omega⟩, hk1.below b0 hk1.lt, hm1.below b0 hm1.lt, World.ownsRow_nil _ _ _ _, by omega⟩
  have S := Lib.hid (show HOut w g gl K M W0.heap.size N N (.slice none 0 0) (.int .i64 (0 : Nat)) W0 from ⟨0, newS 1, .nil, [], [], kt, ks, mt, ms, by omega, rfl, rfl, H0, rfl, rfl, TnB.new 1, fun e he => by (cases he), Nat.zero_le _⟩)
  have hbase := H0.d
  clear H0 T0 b0 b1 hg hgl HKM HB
  generalize W0.heap.size = base at S hbase
  go_wp2_with fail
  go_loopg [8, 22] N (fun m s8 s22 wr => HOut w g gl K M base N m s8 s22 wr)
  case atStart => exact S.out
  case round =>
    obtain ⟨i, s, T, fl, all, kt, ks, mt, ms, hi, rfl, rfl, HH, hT, hmost, hTn, hG, hA⟩ := hrel
    have HT := Lib.hid HH
    have HI := Lib.hid (And.intro hT (And.intro hmost (And.intro hTn (And.intro hG hA))))
    clear S hT hmost hTn hG hA
    by_cases hlt : i < N
    · obtain ⟨k0, k1⟩ := two_cells HH.k
      go_wp2_with fail
      refine (Put_yes g gl s T fl wr HH.t.t kt ks (by rw [HI.out.1, HI.out.2.1]; simp) (HI.out.2.2.1.bnd (by omega))).mono ?_
      rintro e W1 ⟨s1, T1, fl1, x, pre1, post1, rfl, F1, R1, O1⟩
      have hpp := R1.ino
      rw [HI.out.1] at hpp
      obtain ⟨rfl, rfl⟩ := nil_app hpp
      have i1 : T1.ino = [x] := R1.ino'
      have m1 : x ∈ T1.ino := by rw [i1]; simp
      have tn1 := HI.out.2.2.1.put R1 (by omega)
      have G1 : ∀ e, e ∈ all → Gone s1 e ∧ (e.1 = x → e.2 < (s1.f x).turn) := fun e he => (HI.out.2.2.2.1 e he).put R1
      rw [hnd_in F1 m1]
      obtain ⟨tx, htx⟩ : ∃ t, (s1.f x).turn = t := ⟨_, rfl⟩
      rw [htx] at G1 ⊢
      have H1 := HH.goes F1 O1
      have H2 := H1.alloc (.cells #[.int .i64 x, .int .i64 tx] 29)
      have hbx := Blk.new W1 29 #[.int .i64 x, .int .i64 tx]
      have hva : ∀ b, u8.ownBlock = some b → b < W1.heap.size := fun b hb => (own_block H1.a hb).2
      have most1 : s1.most = 1 := R1.most.trans HI.out.2.1
      have key1 := R1.key
      have hxl := R1.lt
      have hx0 := R1.x0
      have HX := Lib.hid (And.intro i1 (And.intro m1 (And.intro tn1 (And.intro G1 (And.intro htx (And.intro most1 (And.intro key1 (And.intro hx0 hxl))))))))
      have hgb : g < W1.heap.size ∧ gl < W1.heap.size := ⟨F1.m.b.lt, F1.m.n.lt⟩
      clear i1 m1 tn1 G1 htx H1 F1 R1 O1 hpp k0 k1 HT HH most1 key1 hx0 hxl
      go_upto_region 10 with fail
      generalize W1.alloc (.cells #[.int .i64 x, .int .i64 tx] 29) = W2 at H2 hbx ⊢
      have HVA := Lib.hid hva
      have HGB := Lib.hid hgb
      clear hva hgb
      generalize W1.heap.size = hb at hbx HVA HGB ⊢
      have S2 := Lib.hid (show HIn w g gl s1 T1 fl1 K M kt ks mt ms base u8 all hb x tx all.length (.int .i64 (0 : Nat)) W2 from ⟨0, by omega, rfl, rfl, H2, hbx⟩)
      have hlen := HI.out.2.2.2.2
      have ev : (∃ A cap, u8 = .slice A all.length cap) := by
        by_cases h0 : 0 < all.length
        · obtain ⟨q, cap, h1, _⟩ := own_form H2.a h0
          exact ⟨_, _, h1⟩
        · have h1 := H2.a
          have h2 : all.length = 0 := by omega
          rw [h2] at h1 ⊢
          exact own_none h1
      obtain ⟨A, cap, rfl⟩ := ev
      have HVF := Lib.hid (show ∀ j, j < all.length → ∃ q, A = some ⟨q, 0, none⟩ from fun j hj => by
        obtain ⟨q, cap', h1, _⟩ := own_form H2.a (by omega)
        injection h1 with h1 _ _
        exact ⟨q, h1⟩)
      clear H2 hbx
      go_wp2_with fail
      go_loopg [34] all.length (fun m s34 wr => HIn w g gl s1 T1 fl1 K M kt ks mt ms base (.slice A all.length cap) all hb x tx m s34 wr)
      case atStart => exact S2.out
      case round =>
        obtain ⟨j, hj, rfl, rfl, HJ, hbj⟩ := hrel
        clear S2
        by_cases hjl : j < all.length
        · obtain ⟨e, he⟩ : ∃ e, all[j]? = some e := ⟨all[j], List.getElem?_eq_getElem hjl⟩
          have hem : e ∈ all := List.mem_of_getElem? he
          obtain ⟨q, rfl⟩ := HVF.out j hjl
          obtain ⟨f0, f1⟩ := flat_at all j e he
          have c0 := own_cell HJ.a f0
          have c1 := own_cell HJ.a f1
          obtain ⟨ep, et⟩ := e
          dsimp only at c0 c1
          have hG := HX.out.2.2.2.1 (ep, et) hem
          have hno := gone_not (e := (ep, et)) HJ.t.t HX.out.1 HX.out.2.2.2.2.1 hG.2
          dsimp only at hno hG
          have hboth : ¬ (ep = x ∧ et = tx) := fun h => by have := hG.2 h.1; omega
          have H3 := HJ.alloc (.cells #[.int .i64 ep, .int .i64 et] 29)
          have hb3 := hbj.alloc (.cells #[.int .i64 ep, .int .i64 et] 29)
          have he3 := Blk.new wr 29 #[.int .i64 ep, .int .i64 et]
          clear he hem f0 f1 hG HJ hbj
          go_upto_region 13 with fail
          clear c0 c1
          generalize wr.alloc (.cells #[.int .i64 ep, .int .i64 et] 29) = W3 at H3 hb3 he3 ⊢
          generalize wr.heap.size = eb at he3 ⊢
          obtain ⟨y0, y1⟩ := two_cells he3
          have HK := Lib.hid (Key_no g gl s1 T1 W3 H3.t.t.rd ep et hno)
          have H3h := Lib.hid (And.intro H3 (And.intro hb3 he3))
          clear H3 hb3 he3
          go_wp2_with fail
          refine HK.out.mono ?_
          rintro e W4 ⟨rfl, b4⟩
          have H4 := (H3h.out.1.call b4).alloc (.cells #[.int .i64 0, .int .i64 0] 27)
          have hb4 := (H3h.out.2.1.below b4 H3h.out.2.1.lt).alloc (.cells #[.int .i64 0, .int .i64 0] 27)
          have he4 := (H3h.out.2.2.below b4 H3h.out.2.2.lt).alloc (.cells #[.int .i64 0, .int .i64 0] 27)
          clear H3h HK b4 y0 y1
          go_upto_region 14 with fail
          generalize W4.alloc (.cells #[.int .i64 0, .int .i64 0] 27) = W5 at H4 hb4 he4 ⊢
          obtain ⟨x0, x1⟩ := two_cells hb4
          obtain ⟨y0, y1⟩ := two_cells he4
          have HD := Lib.hid (Drop_no g gl s1 W5 H4.t.t.m ep et hno)
          have H5 := Lib.hid (And.intro H4 (And.intro hb4 he4))
          clear H4 hb4 he4
          by_cases ex : ep = x
          · have et' : ¬ et = tx := fun h => hboth ⟨ex, h⟩
            have et'' := beq_i et'
            subst ex
            clear hboth
            go_wp2_with fail
            refine HD.out.mono ?_
            rintro e W6 ⟨rfl, b6⟩
            have H6 := Lib.hid (H5.out.1.call b6)
            have hb6 := Lib.hid (H5.out.2.1.below b6 H5.out.2.1.lt)
            clear H5 HD b6 x0 x1 y0 y1
            go_wp2_with fail
            go_roundg (all.length - (j + 1))
            case measure => omega
            case rel => exact ⟨j + 1, by omega, rfl, by go_num, H6.out, hb6.out⟩
          · have ex' : ¬ ((ep : Nat) : Int) = ((x : Nat) : Int) := by omega
            have ex'' := beq_i ex'
            clear ex hboth
            go_wp2_with fail
            refine HD.out.mono ?_
            rintro e W6 ⟨rfl, b6⟩
            have H6 := Lib.hid (H5.out.1.call b6)
            have hb6 := Lib.hid (H5.out.2.1.below b6 H5.out.2.1.lt)
            clear H5 HD b6 x0 x1 y0 y1
            go_wp2_with fail
            go_roundg (all.length - (j + 1))
            case measure => omega
            case rel => exact ⟨j + 1, by omega, rfl, by go_num, H6.out, hb6.out⟩
        · have hje : j = all.length := by omega
          subst hje
          by_cases h20 : all.length < 20
          · obtain ⟨x0, x1⟩ := two_cells hbj
            obtain ⟨i0, z0, hi0, hz0, hz1, hz2, hz3⟩ := infoHan'
            have hd := HJ.d
            have HJH := Lib.hid (And.intro HJ hbj)
            have HOW := Lib.hid HJ.a
            clear HJ hbj
            go_wp2_with (at_builtin; refine wpList_append_lies _ rfl _ _ 41 rfl base 29 i0 z0 2 16 Try.underlying41 hi0 hz0 hz2 hz3 hz1 (by decide) _ _ _ rfl (own_alloc HOW.out _) ⟨wr.heap.size, 0, none⟩ 1 1 [.int .i64 x, .int .i64 tx] rfl rfl (World.news_of_block (heap_alloc_new wr _)) (by simp [Value.oneCell']) (by decide) (by unfold maxLen; omega) (by omega) (by simp; omega) _ rfl ?_)
            intro g' cap' w1 hown' hgrow hat hlt'
            have HCB := HJH.out.1.append hgrow hown'
            have HC := Lib.hid HCB.1
            have HHB := Lib.hid (HCB.2 hb _ _ HJH.out.2 (fun e => Nat.lt_irrefl _ (HVA.out hb e)))
            have HAL := Lib.hid (show (all ++ [(x, tx)]).length ≤ 20 by rw [List.length_append]; simp; omega)
            have HG : Hid (∀ e, e ∈ all ++ [(x, tx)] → Gone s1 e) := Lib.hid fun e he => by
              rcases List.mem_append.1 he with he | he
              · exact (HX.out.2.2.2.1 e he).1
              · have : e = (x, tx) := by simpa using he
                subst this
                exact ⟨HX.out.2.2.2.2.2.2.2.1, HX.out.2.2.2.2.2.2.2.2, by rw [HX.out.2.2.2.2.1]; exact Int.le_refl _⟩
            have hv' : (w1.ownsRow base 29 2 (.slice (some ⟨g', 0, none⟩) (all.length + 1) cap') (all.length + 1) (flat all ++ [.int .i64 x, .int .i64 tx])) := hown'
            clear hown' hgrow hat hlt' x0 x1 hi0 hz0 hz1 hz2 hz3 HJH HOW HCB hv' hd
            generalize w1 = WC at HC HHB ⊢
            have K4 := Key_row WC HC.out.t.t HX.out.2.1
            rw [HX.out.2.2.2.2.1, HX.out.2.2.2.2.2.2.1.1, HX.out.2.2.2.2.2.2.1.2] at K4
            have HK4 := Lib.hid K4
            clear K4
            obtain ⟨x0, x1⟩ := two_cells HHB.out
            go_wp2_with fail
            refine HK4.out.mono ?_
            rintro e W6 ⟨rfl, b6⟩
            have H6 := (HC.out.call b6).alloc (.cells #[.int .i64 kt, .int .i64 ks] 27)
            have hk6 := Blk.new W6 27 #[.int .i64 kt, .int .i64 ks]
            have hb6 := (HHB.out.below b6 HHB.out.lt).alloc (.cells #[.int .i64 kt, .int .i64 ks] 27)
            clear x0 x1 HK4 b6 HC HHB
            go_upto_region 20 with fail
            generalize W6.alloc (.cells #[.int .i64 kt, .int .i64 ks] 27) = W7 at H6 hk6 hb6 ⊢
            generalize W6.heap.size = kb at hk6 ⊢
            obtain ⟨x0, x1⟩ := two_cells hb6
            obtain ⟨y0, y1⟩ := two_cells hk6
            obtain ⟨k0, k1⟩ := two_cells H6.k
            obtain ⟨m0, m1⟩ := two_cells H6.m
            have HC := Lib.hid H6
            have hix : isH s1 x tx = true := by have := isH_in H6.t.t HX.out.2.1; rw [HX.out.2.2.2.2.1] at this; exact this
            clear hk6 hb6 H6
            go_wp2_with fail
            refine (Drop_yes g gl s1 T1 fl1 W7 HC.out.t.t x tx hix).mono ?_
            rintro e W8 ⟨rfl, s2, T2, pre2, post2, F2, R2, O2⟩
            have hT2 : T2.ino = [] := by
              have h1 := R2.ino
              have h2 := R2.ino'
              have e2 : ((x : Nat) : Int).toNat = x := by simp
              rw [e2, HX.out.1] at h1
              obtain ⟨rfl, rfl⟩ := split_eq (A := []) (B := []) (show [] ++ x :: [] = pre2 ++ x :: post2 from h1) (by simp)
              exact h2
            have H8 := HC.out.goes F2 O2
            have hG2 : ∀ e, e ∈ (all ++ [(x, tx)]) → Gone s2 e := fun e he => (HG.out e he).drop R2
            have hTn2 := HX.out.2.2.1.drop R2
            have hmost2 : s2.most = 1 := R2.most.trans HX.out.2.2.2.2.2.1
            have HE := Lib.hid (And.intro hT2 (And.intro hG2 (And.intro hTn2 hmost2)))
            clear hT2 hG2 hTn2 hmost2 R2 O2 F2 HC x0 x1 y0 y1 k0 k1 m0 m1 hix
            obtain ⟨k0, k1⟩ := two_cells H8.k
            obtain ⟨m0, m1⟩ := two_cells H8.m
            have kf := H8.k.frozen
            have mf := H8.m.frozen
            have dKM : K ≠ M := by have := H8.d; omega
            have dMK : M ≠ K := fun e => dKM e.symm
            have HW := Lib.hid H8.swap
            clear H8
            go_wp2_with fail
            go_roundg (N - (i + 1))
            case measure => omega
            case rel => exact ⟨i + 1, s2, T2, _, (all ++ [(x, tx)]), mt, ms, kt, ks, by omega, rfl, by go_num, HW.out, HE.out.1, HE.out.2.2.2, by have := HE.out.2.2.1; exact this, HE.out.2.1, HAL.out⟩

          · have d20 : decide (((all.length : Nat) : Int) < 20) = false := decide_eq_false (by omega)
            have HC := Lib.hid HJ
            have HHB := Lib.hid hbj
            have HAL := Lib.hid (show all.length ≤ 20 by omega)
            have HG : Hid (∀ e, e ∈ all → Gone s1 e) := Lib.hid fun e he => (HX.out.2.2.2.1 e he).1
            clear HJ hbj
            generalize wr = WC at HC HHB ⊢
            have K4 := Key_row WC HC.out.t.t HX.out.2.1
            rw [HX.out.2.2.2.2.1, HX.out.2.2.2.2.2.2.1.1, HX.out.2.2.2.2.2.2.1.2] at K4
            have HK4 := Lib.hid K4
            clear K4
            obtain ⟨x0, x1⟩ := two_cells HHB.out
            go_wp2_with fail
            refine HK4.out.mono ?_
            rintro e W6 ⟨rfl, b6⟩
            have H6 := (HC.out.call b6).alloc (.cells #[.int .i64 kt, .int .i64 ks] 27)
            have hk6 := Blk.new W6 27 #[.int .i64 kt, .int .i64 ks]
            have hb6 := (HHB.out.below b6 HHB.out.lt).alloc (.cells #[.int .i64 kt, .int .i64 ks] 27)
            clear x0 x1 HK4 b6 HC HHB
            go_upto_region 20 with fail
            generalize W6.alloc (.cells #[.int .i64 kt, .int .i64 ks] 27) = W7 at H6 hk6 hb6 ⊢
            generalize W6.heap.size = kb at hk6 ⊢
            obtain ⟨x0, x1⟩ := two_cells hb6
            obtain ⟨y0, y1⟩ := two_cells hk6
            obtain ⟨k0, k1⟩ := two_cells H6.k
            obtain ⟨m0, m1⟩ := two_cells H6.m
            have HC := Lib.hid H6
            have hix : isH s1 x tx = true := by have := isH_in H6.t.t HX.out.2.1; rw [HX.out.2.2.2.2.1] at this; exact this
            clear hk6 hb6 H6
            go_wp2_with fail
            refine (Drop_yes g gl s1 T1 fl1 W7 HC.out.t.t x tx hix).mono ?_
            rintro e W8 ⟨rfl, s2, T2, pre2, post2, F2, R2, O2⟩
            have hT2 : T2.ino = [] := by
              have h1 := R2.ino
              have h2 := R2.ino'
              have e2 : ((x : Nat) : Int).toNat = x := by simp
              rw [e2, HX.out.1] at h1
              obtain ⟨rfl, rfl⟩ := split_eq (A := []) (B := []) (show [] ++ x :: [] = pre2 ++ x :: post2 from h1) (by simp)
              exact h2
            have H8 := HC.out.goes F2 O2
            have hG2 : ∀ e, e ∈ all → Gone s2 e := fun e he => (HG.out e he).drop R2
            have hTn2 := HX.out.2.2.1.drop R2
            have hmost2 : s2.most = 1 := R2.most.trans HX.out.2.2.2.2.2.1
            have HE := Lib.hid (And.intro hT2 (And.intro hG2 (And.intro hTn2 hmost2)))
            clear hT2 hG2 hTn2 hmost2 R2 O2 F2 HC x0 x1 y0 y1 k0 k1 m0 m1 hix
            obtain ⟨k0, k1⟩ := two_cells H8.k
            obtain ⟨m0, m1⟩ := two_cells H8.m
            have kf := H8.k.frozen
            have mf := H8.m.frozen
            have dKM : K ≠ M := by have := H8.d; omega
            have dMK : M ≠ K := fun e => dKM e.symm
            have HW := Lib.hid H8.swap
            clear H8
            go_wp2_with fail
            go_roundg (N - (i + 1))
            case measure => omega
            case rel => exact ⟨i + 1, s2, T2, _, all, mt, ms, kt, ks, by omega, rfl, by go_num, HW.out, HE.out.1, HE.out.2.2.2, by have := HE.out.2.2.1; exact this, HE.out.2.1, HAL.out⟩
    · have hiN : i = N := by omega
      subst hiN
      have HL := Lib.hid (Len_any g gl s wr HH.t.t.m)
      have hn0 : s.n = 0 := by rw [HH.t.t.n, HI.out.1]; rfl
      rw [hn0] at HL
      have HBB := Lib.hid HH.t.b
      clear HH HT hn0
      go_wp2_with fail
      refine HL.out.mono ?_
      rintro e W1 ⟨rfl, rfl⟩
      go_wp2_with fail
      go_ret
      exact ⟨rfl, HBB.out⟩
theorem open_key {cs : Array Value} (h : Leaf.Fits [.int .i64, .int .i64] cs.toList) : ∃ a b : Int, cs = #[.int .i64 a, .int .i64 b] := by
  obtain ⟨a, r, e1, w1, h1⟩ := Leaf.Fits.int h
  obtain ⟨b, r2, rfl, w2, h2⟩ := Leaf.Fits.int h1
  obtain rfl := Leaf.Fits.done h2
  exact ⟨a, b, by apply Array.ext'; simpa using e1⟩
theorem treeHandles_walk (cs0 : Array Value) (h0 : Leaf.Fits [.int .i64, .int .i64] cs0.toList) (cs1 : Array Value) (h1 : Leaf.Fits [.int .i64, .int .i64] cs1.toList) (n : Int) (hn : 0 ≤ n ∧ n ≤ 255) (w : World) :
    Calls Try.prog 4 #[.agg cs0, .agg cs1, .int .u8 n] w fun e w' => e = .returned (.bool true) ∧ Below w.heap.size w w' := by
  obtain ⟨a, b, rfl⟩ := open_key h0
  obtain ⟨c, d, rfl⟩ := open_key h1
  exact treeHandles_any a b c d n hn w
end Go.Proofs.Ytfoigflgglpobaa.Tr
