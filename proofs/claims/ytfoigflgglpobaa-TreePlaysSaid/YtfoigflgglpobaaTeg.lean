/- TreePlays' own rows: where a handle is; is a tree what a row tells? No condition but that the row is the tree's. -/
import Derived.Test.YtfoigflgglpobaaTef
import Derived.Test.YtfoigflgglpobaaTee
set_option linter.unusedVariables false
set_option linter.unusedSimpArgs false
namespace Go.Proofs.Ytfoigflgglpobaa.Tr
open Go.RowKit Go.Proofs.Ytfoigflgglpobaa.Aid
/-- the row of a tree's items -/
def itOf (s : TS) (x : Nat) : It := ⟨(s.f x).t, (s.f x).s, x, (s.f x).turn⟩
def rowOf (s : TS) (l : List Nat) : List It := l.map (itOf s)
theorem rowOf_len (s : TS) (l : List Nat) : (rowOf s l).length = l.length := by simp [rowOf]
theorem own_parts {w : World} {base : Nat} {e : TypeId} {size : Nat} {v : Value} {n : Nat} {xs : List Value} (h : w.ownsRow base e size v n xs) : ∃ A cap, v = .slice A n cap ∧ ∀ j, j < n → ∃ q, A = some ⟨q, 0, none⟩ := by
  by_cases h0 : 0 < n
  · obtain ⟨q, cap, h1, _⟩ := own_form h h0
    exact ⟨_, _, h1, fun _ _ => ⟨_, rfl⟩⟩
  · have h2 : n = 0 := by omega
    subst h2
    obtain ⟨A, cap, e⟩ := own_none h
    exact ⟨A, cap, e, fun j hj => by omega⟩
/-- an item has a handle -/
def HasH (b : It) (p t : Int) : Prop := (b.x : Int) = p ∧ b.n = t
def FRel (w0 : World) (base : Nat) (v : Value) (l : List It) (X : Nat) (p t : Int) (m : Nat) (s9 : Value) (wr : World) : Prop :=
  ∃ k : Nat, k ≤ l.length ∧ m = l.length - k ∧ s9 = .int .i64 k ∧ Below w0.heap.size w0 wr ∧ wr.ownsRow base 56 4 v l.length (itc l) ∧ Blk wr X 29 (two_ p t) ∧ ∀ j b, j < k → l[j]? = some b → ¬ HasH b p t
set_option maxHeartbeats 400000 in
set_option maxRecDepth 100000 in
theorem find_law (base : Nat) (v : Value) (l : List It) (p t : Int) (w : World) (hl : l.length ≤ 10000) (h : w.ownsRow base 56 4 v l.length (itc l)) :
    Calls Try.prog 23 #[v, .agg #[.int .i64 p, .int .i64 t]] w fun e w' => ∃ r : Int, e = .returned (.int .i64 r) ∧ -1 ≤ r ∧ r ≤ 10000 ∧ (r < 0 ↔ ∀ b, b ∈ l → ¬ HasH b p t) ∧ Below w.heap.size w w' := by
  have hx := Blk.new w 29 #[.int .i64 p, .int .i64 t]
  have hB : Below w.heap.size w (w.alloc (.cells #[.int .i64 p, .int .i64 t] 29)) := (Below.refl w.heap.size w).alloc (Nat.le_refl _) _
  have S := Lib.hid (show FRel w base v l w.heap.size p t l.length (.int .i64 (0 : Nat)) (w.alloc (.cells #[.int .i64 p, .int .i64 t] 29)) from ⟨0, by omega, rfl, rfl, hB, own_alloc h _, hx, fun j b hj => by omega⟩)
  obtain ⟨A, cap, rfl, hA⟩ := own_parts h
  have HA := Lib.hid hA
  clear hx hB h hA
  go_enter Try.func23, Try.ntmps23
  go_upto_region 1 with fail
  generalize w.alloc (.cells #[.int .i64 p, .int .i64 t] 29) = W at S ⊢
  obtain ⟨X, hX⟩ : ∃ X, w.heap.size = X := ⟨_, rfl⟩
  have S2 : Hid (FRel w base (.slice A l.length cap) l X p t l.length (.int .i64 (0 : Nat)) W) := by rw [← hX]; exact S
  rw [hX]
  have HX := Lib.hid hX
  clear S hX
  go_wp2_with fail
  go_loopg [9] l.length (fun m s9 wr => FRel w base (.slice A l.length cap) l X p t m s9 wr)
  case atStart => exact S2.out
  case round =>
    obtain ⟨k, hk, rfl, rfl, hb, ho, hx, hno⟩ := hrel
    clear S2
    by_cases hlt : k < l.length
    · obtain ⟨b, hbk⟩ : ∃ b, l[k]? = some b := ⟨l[k], List.getElem?_eq_getElem hlt⟩
      obtain ⟨q, rfl⟩ := HA.out k hlt
      obtain ⟨f0, f1, f2, f3⟩ := itc_at l k b hbk
      have c0 := own_cell ho f0
      have c1 := own_cell ho f1
      have c2 := own_cell ho f2
      have c3 := own_cell ho f3
      have hbox := Blk.new wr 56 #[.int .i64 b.t, .int .i64 b.s, .int .i64 b.x, .int .i64 b.n]
      have B2 := hb.alloc hb.size (.cells #[.int .i64 b.t, .int .i64 b.s, .int .i64 b.x, .int .i64 b.n] 56)
      have o2 := own_alloc ho (.cells #[.int .i64 b.t, .int .i64 b.s, .int .i64 b.x, .int .i64 b.n] 56)
      have x2 := hx.alloc (.cells #[.int .i64 b.t, .int .i64 b.s, .int .i64 b.x, .int .i64 b.n] 56)
      have HN := Lib.hid hno
      clear hb ho hx hno f0 f1 f2 f3
      go_upto_region 4 with fail
      clear c0 c1 c2 c3
      generalize wr.alloc (.cells #[.int .i64 b.t, .int .i64 b.s, .int .i64 b.x, .int .i64 b.n] 56) = W2 at hbox B2 o2 x2 ⊢
      generalize wr.heap.size = ib at hbox ⊢
      have b2 : W2.cell? ⟨ib, 2, none⟩ = some (.int .i64 b.x) := hbox.cell 2
      have b3 : W2.cell? ⟨ib, 3, none⟩ = some (.int .i64 b.n) := hbox.cell 3
      obtain ⟨y0, y1⟩ := two_cells x2
      have HH := Lib.hid (And.intro B2 (And.intro o2 x2))
      have HB := Lib.hid hbk
      clear hbox B2 o2 x2 hbk
      by_cases e1 : (b.x : Int) = p
      · by_cases e2 : b.n = t
        · have HE := Lib.hid (show HasH b p t from ⟨e1, e2⟩)
          subst e1 e2
          go_wp2_with fail
          go_ret
          refine ⟨k, rfl, by omega, by omega, ?_, HH.out.1⟩
          constructor
          · intro e; omega
          · intro hall
            exact absurd HE.out (hall b (List.mem_of_getElem? HB.out))
        · have e3 := beq_i e2
          have HNE := Lib.hid (show ¬ HasH b p t from fun h => e2 h.2)
          subst e1
          go_wp2_with fail
          go_roundg (l.length - (k + 1))
          case measure => omega
          case rel =>
            refine ⟨k + 1, by omega, rfl, by go_num, HH.out.1, HH.out.2.1, HH.out.2.2, fun j c hj hc => ?_⟩
            by_cases ej : j = k
            · subst ej; rw [HB.out] at hc; injection hc with hc; subst hc; exact HNE.out
            · exact HN.out j c (by omega) hc
      · have e3 := beq_i e1
        have HNE := Lib.hid (show ¬ HasH b p t from fun h => e1 h.1)
        go_wp2_with fail
        go_roundg (l.length - (k + 1))
        case measure => omega
        case rel =>
          refine ⟨k + 1, by omega, rfl, by go_num, HH.out.1, HH.out.2.1, HH.out.2.2, fun j c hj hc => ?_⟩
          by_cases ej : j = k
          · subst ej; rw [HB.out] at hc; injection hc with hc; subst hc; exact HNE.out
          · exact HN.out j c (by omega) hc
    · have hke : k = l.length := by omega
      subst hke
      have HB := Lib.hid hb
      have HN := Lib.hid hno
      clear hb ho hx hno
      go_wp2_with fail
      go_ret
      refine ⟨-1, rfl, by omega, by omega, ?_, HB.out⟩
      constructor
      · intro _ b hb
        obtain ⟨j, hj, he⟩ := List.getElem_of_mem hb
        exact HN.out j b hj (by rw [List.getElem?_eq_getElem hj, he])
      · intro _; omega
theorem set2_far {W : World} {b HB : Nat} {u v : Value} (h : b ≠ HB) : ((W.setCell ⟨HB, 0, none⟩ u).setCell ⟨HB, 1, none⟩ v).heap[b]? = W.heap[b]? := by
  rw [Below.heap_setCell _ ⟨HB, 1, none⟩ _ b h, Below.heap_setCell _ ⟨HB, 0, none⟩ _ b h]
def SaRel (w0 : World) (g gl : Nat) (s : TS) (T : Sh) (fl : List Nat) (base : Nat) (v kv : Value) (HB : Nat) (m : Nat) (s7 s35 : Value) (wr : World) : Prop :=
  ∃ done rest, T.ino = done ++ rest ∧ m = rest.length ∧ s7 = .bool (decide (rest ≠ [])) ∧ s35 = .int .i64 (done.length : Nat) ∧ Full wr g gl s T fl ∧ Below w0.heap.size w0 wr ∧ Blk wr HB 29 (two_ (hd rest : Nat) (hturn s (hd rest))) ∧
    wr.ownsRow base 56 4 v T.ino.length (itc (rowOf s T.ino)) ∧ wr.ownsRow w0.heap.size 27 2 kv T.ino.length (keysOf s.f T.ino)
theorem keysOf_at (f : Nat → Nd) : ∀ (l : List Nat) (j x : Nat), l[j]? = some x → (keysOf f l)[j * 2]? = some (.int .i64 (f x).t) ∧ (keysOf f l)[j * 2 + 1]? = some (.int .i64 (f x).s) := by
  intro l
  induction l with
  | nil => intro j e h; simp at h
  | cons a l ih =>
    intro j e h
    cases j with
    | zero =>
      simp only [List.getElem?_cons_zero, Option.some.injEq] at h
      subst h
      exact ⟨rfl, rfl⟩
    | succ j =>
      simp only [List.getElem?_cons_succ] at h
      have := ih j e h
      have e1 : keysOf f (a :: l) = .int .i64 (f a).t :: .int .i64 (f a).s :: keysOf f l := rfl
      rw [e1, show (j + 1) * 2 = j * 2 + 1 + 1 by omega, show j * 2 + 1 + 1 + 1 = (j * 2 + 1) + 1 + 1 by omega]
      simp only [List.getElem?_cons_succ]
      exact this
set_option maxHeartbeats 1000000 in
set_option maxRecDepth 100000 in
theorem same_law (g gl : Nat) (s : TS) (T : Sh) (fl : List Nat) (base : Nat) (v : Value) (w : World) (hlen : T.ino.length ≤ 10000) (ht : Full w g gl s T fl) (h : w.ownsRow base 56 4 v T.ino.length (itc (rowOf s T.ino))) :
    Calls Try.prog 25 #[.pointer (some ⟨g, 0, none⟩), v] w fun e w' => e = .returned (.bool true) ∧ Below w.heap.size w w' := by
  have HK := Lib.hid (Keys_any g gl s T w ht.rd (by omega))
  obtain ⟨A, cap, rfl, hA⟩ := own_parts h
  have HA := Lib.hid hA
  have HT := Lib.hid ht
  have HO := Lib.hid h
  have hg := ht.m.b.lt
  have hgl := ht.m.n.lt
  have hn : s.n = T.ino.length := ht.n
  clear hA h ht
  go_enter Try.func25, Try.ntmps25
  go_wp2_with fail
  refine HK.out.mono ?_
  rintro e W1 ⟨kv, rfl, ho1, b1⟩
  have T1 := HT.out.below b1
  have o1 := own_below HO.out b1
  have HL := Lib.hid (Len_any g gl s W1 T1.m)
  rw [hn] at HL
  obtain ⟨KA, kc, rfl, hKA⟩ := own_parts ho1
  have HKA := Lib.hid hKA
  have H1 := Lib.hid (And.intro T1 (And.intro o1 (And.intro ho1 b1)))
  clear hKA T1 o1 ho1 b1 HK
  go_wp2_with fail
  refine HL.out.mono ?_
  rintro e W2 ⟨rfl, rfl⟩
  have CF := First_row W1 H1.out.1
  obtain ⟨p0, hp0⟩ : ∃ p, ((hd T.ino : Nat) : Int) = p := ⟨_, rfl⟩
  obtain ⟨p1, hp1⟩ : ∃ p, hturn s (hd T.ino) = p := ⟨_, rfl⟩
  have hnd0 : hnd s (hd T.ino) = .agg #[.int .i64 p0, .int .i64 p1] := by rw [← hp0, ← hp1]; rfl
  obtain ⟨ok, hok⟩ : ∃ q, decide (T.ino ≠ []) = q := ⟨_, rfl⟩
  rw [hnd0, hok] at CF
  have HOK := Lib.hid hok
  clear hok
  have HCF := Lib.hid CF
  clear CF hnd0
  go_wp2_with fail
  refine HCF.out.mono ?_
  rintro e W3 ⟨rfl, b3⟩
  have T3 := (H1.out.1.below b3).below ((Below.refl W3.heap.size W3).alloc (Nat.le_refl _) (.cells #[.int .i64 p0, .int .i64 p1] 29))
  have o3 := own_alloc (own_below H1.out.2.1 b3) (.cells #[.int .i64 p0, .int .i64 p1] 29)
  have k3 := own_alloc (own_below H1.out.2.2.1 b3) (.cells #[.int .i64 p0, .int .i64 p1] 29)
  have B3 := (H1.out.2.2.2.trans (b3.mono H1.out.2.2.2.size)).alloc (Nat.le_trans H1.out.2.2.2.size b3.size) (.cells #[.int .i64 p0, .int .i64 p1] 29)
  have h3 := Blk.new W3 29 (two_ p0 p1)
  have s1 := H1.out.2.2.2.size
  have s3 := b3.size
  unfold two_ at h3
  have hv3 : ∀ b, (Value.slice A T.ino.length cap).ownBlock = some b → b < W3.heap.size := fun b hb => (own_block (own_below H1.out.2.1 b3) hb).2
  have hk3 : ∀ b, (Value.slice KA T.ino.length kc).ownBlock = some b → b < W3.heap.size := fun b hb => (own_block (own_below H1.out.2.2.1 b3) hb).2
  clear H1 HCF b3 HL
  go_upto_region 5 with fail
  generalize W3.alloc (.cells #[.int .i64 p0, .int .i64 p1] 29) = W4 at T3 o3 k3 B3 h3 ⊢
  have hHB : W3.heap.size ≠ g ∧ W3.heap.size ≠ gl ∧ w.heap.size ≤ W3.heap.size := by omega
  have HV := Lib.hid (And.intro hv3 hk3)
  clear hv3 hk3 s1 s3
  generalize W3.heap.size = HB at h3 hHB HV ⊢
  have h3' : Blk W4 HB 29 (two_ (hd T.ino : Nat) (hturn s (hd T.ino))) := by rw [hp0, hp1]; exact h3
  have S := Lib.hid (show SaRel w g gl s T fl base (.slice A T.ino.length cap) (.slice KA T.ino.length kc) HB T.ino.length (.bool ok) (.int .i64 (0 : Nat)) W4 from ⟨[], T.ino, rfl, rfl, by rw [HOK.out], rfl, T3, B3, h3', o3, k3⟩)
  have HSZ := Lib.hid (And.intro T3.rb (And.intro T3.m.sz hlen))
  clear T3 o3 k3 B3 h3 h3' hp0 hp1
  go_wp2_with fail
  go_loopg [7, 35] T.ino.length (fun m s7 s35 wr => SaRel w g gl s T fl base (.slice A T.ino.length cap) (.slice KA T.ino.length kc) HB m s7 s35 wr)
  case atStart => exact S.out
  case round =>
    obtain ⟨done, rest, hpo, rfl, rfl, rfl, HF, HBl, hbx, ho, hk⟩ := hrel
    clear S
    have hlp : done.length + rest.length = T.ino.length := by rw [hpo, List.length_append]
    cases rest with
    | nil =>
      have hdl : done.length = T.ino.length := by simpa using hlp
      rw [show decide (([] : List Nat) ≠ []) = false from rfl, hdl]
      have HH := Lib.hid (Heights_any g gl s T wr HF.rd (by omega))
      have hways : T.most ≤ 2 * T.least + 1 := by obtain ⟨b, hb⟩ := HF.rb.bal; exact ways hb HF.rb.nrr HF.rb.red
      have hml := most_len T
      have hm2 : T.most ≤ 10000 := by omega
      have hl2 : T.least ≤ 10000 := by omega
      have HBH := Lib.hid HBl
      generalize T.most = mo at HH hways hm2
      generalize T.least = le at HH hways hl2
      have hmo : decide (((mo : Nat) : Int) ≤ 2 * ((le : Nat) : Int) + 1) = true := decide_eq_true (by omega)
      have hmo2 : ((mo : Nat) : Int) ≤ 2 * ((le : Nat) : Int) + 1 := by omega
      clear HF HBl hbx ho hk hlp hml hdl hpo hways
      generalize T.ino.length = n at *
      go_wp2_with fail
      refine HH.out.mono ?_
      rintro e W5 ⟨rfl, rfl⟩
      go_wp2_with fail
      go_ret
      exact ⟨rfl, HBH.out⟩
    | cons x rest =>
      have hxT : x ∈ T.ino := by rw [hpo]; simp
      have hat : T.ino[done.length]? = some x := by rw [hpo]; simp
      have hrow : (rowOf s T.ino)[done.length]? = some (itOf s x) := by unfold rowOf; rw [List.getElem?_map, hat]; rfl
      obtain ⟨f0, f1, f2, f3⟩ := itc_at _ _ _ hrow
      obtain ⟨g0, g1⟩ := keysOf_at s.f T.ino _ _ hat
      rw [show decide (x :: rest ≠ []) = true from rfl]
      have hx0 := HF.rd.ne0 hxT
      have e1 : hd (x :: rest) = x := rfl
      have e2 : hturn s x = (s.f x).turn := by unfold hturn; rw [if_neg hx0]
      rw [e1, e2] at hbx
      have C1 := fun W hW => Key_row (w := W) (g := g) (gl := gl) (s := s) (T := T) (fl := fl) hW hxT
      have C2 := fun W hW => Next_row (w := W) (g := g) (gl := gl) (s := s) (T := T) (fl := fl) hW hpo
      have hn0 : hnd s (hd rest) = .agg #[.int .i64 (hd rest : Nat), .int .i64 (hturn s (hd rest))] := rfl
      simp only [hn0] at C2
      have f0' : (itc (rowOf s T.ino))[done.length * 4]? = some (.int .i64 (s.f x).t) := f0
      have f1' : (itc (rowOf s T.ino))[done.length * 4 + 1]? = some (.int .i64 (s.f x).s) := f1
      have f2' : (itc (rowOf s T.ino))[done.length * 4 + 2]? = some (.int .i64 x) := f2
      have f3' : (itc (rowOf s T.ino))[done.length * 4 + 3]? = some (.int .i64 (s.f x).turn) := f3
      obtain ⟨tx, htx⟩ : ∃ t, (s.f x).turn = t := ⟨_, rfl⟩
      obtain ⟨kt, hkt⟩ : ∃ t, (s.f x).t = t := ⟨_, rfl⟩
      obtain ⟨ks, hks⟩ : ∃ t, (s.f x).s = t := ⟨_, rfl⟩
      rw [htx] at hbx f3'
      rw [hkt] at f0' g0
      rw [hks] at f1' g1
      simp only [htx, hkt, hks] at C1 C2
      have hdl : done.length < T.ino.length := by simp only [List.length_cons] at hlp; omega
      obtain ⟨q, rfl⟩ := HA.out done.length hdl
      obtain ⟨kq, rfl⟩ := HKA.out done.length hdl
      have c0 := own_cell ho f0'
      have c1 := own_cell ho f1'
      have c2 := own_cell ho f2'
      have c3 := own_cell ho f3'
      obtain ⟨q0, hq0⟩ : ∃ q, ((hd rest : Nat) : Int) = q := ⟨_, rfl⟩
      obtain ⟨q1, hq1⟩ : ∃ q, hturn s (hd rest) = q := ⟨_, rfl⟩
      obtain ⟨ok2, hok2⟩ : ∃ q, decide (rest ≠ []) = q := ⟨_, rfl⟩
      simp only [hq0, hq1, hok2] at C2
      have HC1 := Lib.hid C1
      have HC2 := Lib.hid C2
      have HQ := Lib.hid (And.intro hq0 (And.intro hq1 (And.intro hok2 hpo)))
      have hbox := Blk.new wr 56 #[.int .i64 kt, .int .i64 ks, .int .i64 x, .int .i64 tx]
      have F2 := HF.below ((Below.refl wr.heap.size wr).alloc (Nat.le_refl _) (.cells #[.int .i64 kt, .int .i64 ks, .int .i64 x, .int .i64 tx] 56))
      have B2 := HBl.alloc HBl.size (.cells #[.int .i64 kt, .int .i64 ks, .int .i64 x, .int .i64 tx] 56)
      have o2 := own_alloc ho (.cells #[.int .i64 kt, .int .i64 ks, .int .i64 x, .int .i64 tx] 56)
      have k2 := own_alloc hk (.cells #[.int .i64 kt, .int .i64 ks, .int .i64 x, .int .i64 tx] 56)
      have h2 := hbx.alloc (.cells #[.int .i64 kt, .int .i64 ks, .int .i64 x, .int .i64 tx] 56)
      have HG := Lib.hid (And.intro g0 g1)
      clear C1 C2 hn0 htx hkt hks HF hbx hpo e1 e2 hxT hx0 hat hrow f0 f1 f2 f3 f0' f1' f2' f3' g0 g1 hq0 hq1 hok2 HBl ho hk
      obtain ⟨n, hnn⟩ : ∃ n, done.length = n := ⟨_, rfl⟩
      have HND := Lib.hid hnn
      rw [hnn] at hdl c0 c1 c2 c3 hlp HG ⊢
      clear hnn
      go_upto_region 8 with fail
      clear c0 c1 c2 c3
      generalize wr.alloc (.cells #[.int .i64 kt, .int .i64 ks, .int .i64 x, .int .i64 tx] 56) = W2 at hbox F2 B2 o2 k2 h2 ⊢
      generalize wr.heap.size = ib at hbox ⊢
      have i2 : W2.cell? ⟨ib, 2, none⟩ = some (.int .i64 x) := hbox.cell 2
      have i3 : W2.cell? ⟨ib, 3, none⟩ = some (.int .i64 tx) := hbox.cell 3
      have H2 := Lib.hid (And.intro F2 (And.intro B2 (And.intro o2 (And.intro k2 (And.intro h2 hbox)))))
      clear F2 B2 o2 k2 h2 hbox
      go_wp2_with fail
      refine (HC1.out W2 H2.out.1).mono ?_
      rintro e W3 ⟨rfl, b3⟩
      have F3 := (H2.out.1.below b3).below ((Below.refl W3.heap.size W3).alloc (Nat.le_refl _) (.cells #[.int .i64 kt, .int .i64 ks] 27))
      have B3 := (H2.out.2.1.trans (b3.mono H2.out.2.1.size)).alloc (Nat.le_trans H2.out.2.1.size b3.size) (.cells #[.int .i64 kt, .int .i64 ks] 27)
      have o3 := own_alloc (own_below H2.out.2.2.1 b3) (.cells #[.int .i64 kt, .int .i64 ks] 27)
      have k3 := own_alloc (own_below H2.out.2.2.2.1 b3) (.cells #[.int .i64 kt, .int .i64 ks] 27)
      have h3 := (H2.out.2.2.2.2.1.below b3 H2.out.2.2.2.2.1.lt).alloc (.cells #[.int .i64 kt, .int .i64 ks] 27)
      have x3 := (H2.out.2.2.2.2.2.below b3 H2.out.2.2.2.2.2.lt).alloc (.cells #[.int .i64 kt, .int .i64 ks] 27)
      have y3 := Blk.new W3 27 #[.int .i64 kt, .int .i64 ks]
      clear H2 HC1 b3 i2 i3
      go_upto_region 9 with fail
      generalize W3.alloc (.cells #[.int .i64 kt, .int .i64 ks] 27) = W4 at F3 B3 o3 k3 h3 x3 y3 ⊢
      generalize W3.heap.size = yb at y3 ⊢
      have k0 := own_cell k3 HG.out.1
      have k1 := own_cell k3 HG.out.2
      obtain ⟨y0, y1⟩ := two_cells y3
      obtain ⟨h0, h1⟩ := two_cells h3
      have i0 : W4.cell? ⟨ib, 0, none⟩ = some (.int .i64 kt) := x3.cell 0
      have i1 : W4.cell? ⟨ib, 1, none⟩ = some (.int .i64 ks) := x3.cell 1
      have i2 : W4.cell? ⟨ib, 2, none⟩ = some (.int .i64 x) := x3.cell 2
      have i3 : W4.cell? ⟨ib, 3, none⟩ = some (.int .i64 tx) := x3.cell 3
      have H4 := Lib.hid (And.intro F3 (And.intro B3 (And.intro o3 (And.intro k3 h3))))
      clear F3 B3 o3 k3 h3 x3 y3
      go_quiet (fail)
      have F5 := H4.out.1.same (w' := W4.drewN nq) fun _ _ => rfl
      have B5 := below_drewN H4.out.2.1 nq
      have o5 := own_drewN H4.out.2.2.1 nq
      have k5 := own_drewN H4.out.2.2.2.1 nq
      have h5 := H4.out.2.2.2.2.drewN nq
      clear H4 k0 k1 y0 y1 h0 h1 i0 i1 i2 i3
      generalize W4.drewN nq = W5 at F5 B5 o5 k5 h5 ⊢
      obtain ⟨h0, h1⟩ := two_cells h5
      have H5 := Lib.hid (And.intro F5 (And.intro B5 (And.intro o5 (And.intro k5 h5))))
      clear F5 B5 o5 k5 h5
      go_wp2_with fail
      refine (HC2.out W5 H5.out.1).mono ?_
      rintro e W6 ⟨rfl, b6⟩
      have F6 := H5.out.1.below b6
      have B6 := H5.out.2.1.trans (b6.mono H5.out.2.1.size)
      have o6 := own_below H5.out.2.2.1 b6
      have k6 := own_below H5.out.2.2.2.1 b6
      have h6 := H5.out.2.2.2.2.below b6 H5.out.2.2.2.2.lt
      have F7 := Lib.hid (F6.same (w' := (W6.setCell ⟨HB, 0, none⟩ (.int .i64 q0)).setCell ⟨HB, 1, none⟩ (.int .i64 q1)) fun i hi => set2_far (by rcases hi with e | e <;> omega))
      have B7 := Lib.hid ((B6.setCell (p := ⟨HB, 0, none⟩) hHB.2.2 (.int .i64 q0)).setCell (p := ⟨HB, 1, none⟩) hHB.2.2 (.int .i64 q1))
      have h7 := Lib.hid (two_set h6 q0 q1)
      have o7 := Lib.hid (own_same o6 (w' := (W6.setCell ⟨HB, 0, none⟩ (.int .i64 q0)).setCell ⟨HB, 1, none⟩ (.int .i64 q1)) fun b hb => set2_far (fun e => Nat.lt_irrefl _ (e ▸ HV.out.1 b hb)))
      have k7 := Lib.hid (own_same k6 (w' := (W6.setCell ⟨HB, 0, none⟩ (.int .i64 q0)).setCell ⟨HB, 1, none⟩ (.int .i64 q1)) fun b hb => set2_far (fun e => Nat.lt_irrefl _ (e ▸ HV.out.2 b hb)))
      have f6 := h6.frozen
      clear h0 h1
      obtain ⟨h0, h1⟩ := two_cells h6
      clear F6 B6 o6 k6 h6 H5 HC2 b6
      go_wp2_with fail
      go_roundg rest.length
      case measure => simp
      case rel => exact ⟨done ++ [x], rest, by rw [HQ.out.2.2.2]; simp, rfl, by rw [HQ.out.2.2.1], by rw [List.length_append, HND.out]; go_num, F7.out, B7.out, by rw [HQ.out.1, HQ.out.2.1]; exact h7.out, o7.out, k7.out⟩
end Go.Proofs.Ytfoigflgglpobaa.Tr
