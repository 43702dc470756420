/- Lemmas and contracts for RowTtlPlays, merged by program out of Vg, Vh, Vi, Ktm, Ktr, Vj, Vk, Vl. No condition. -/
import Derived.Test.YtfoigflgglpobaaBW6
set_option linter.unusedVariables false
set_option linter.unusedSimpArgs false
/- A key is laid down: the walk. No condition but that memory holds a store. -/
set_option linter.unusedVariables false
set_option linter.unusedSimpArgs false
namespace Go.Proofs.Ytfoigflgglpobaa.V
open Go.RowKit Go.Proofs.Ytfoigflgglpobaa.Aid Go.Proofs.Ytfoigflgglpobaa.Tr Go.Proofs.Ytfoigflgglpobaa.Kt Go.Proofs.Ytfoigflgglpobaa.Q
open Go.ChangeMaps (setBlock heap_setBlock_other)
/-- an item in its place, behind those like it -/
def insV (a : It) (l : List It) : List It := l.takeWhile (fun b => decide (b.e ≤ a.e)) ++ a :: l.dropWhile (fun b => decide (b.e ≤ a.e))
theorem insV_app {a : It} : ∀ {l k : List It}, (∀ b, b ∈ l → b.e ≤ a.e) → (∀ b, b ∈ k → ¬ b.e ≤ a.e) → insV a (l ++ k) = l ++ a :: k
  | [], [], _, _ => rfl
  | [], b :: k, _, h => by
    unfold insV
    have e := h b (by simp)
    rw [List.nil_append, List.takeWhile_cons_of_neg (by simpa using e), List.dropWhile_cons_of_neg (by simpa using e)]
  | b :: l, k, h, h' => by
    have ih := insV_app (l := l) (fun c hc => h c (by simp [hc])) h'
    have e := h b (by simp)
    unfold insV at ih ⊢
    rw [List.cons_append, List.takeWhile_cons_of_pos (by simpa using e), List.dropWhile_cons_of_pos (by simpa using e), List.cons_append, ih]
    rfl
def LayQ (q g gl m1 m2 : Nat) (s : TS) (T : Sh) (it : Nat → It) (mo now sq : Int) (a : It) (w : World) (e : Ending) (w' : World) : Prop :=
  e = .returned (.tuple #[]) ∧ ∃ s' T' fl' x pre post it' A' B', SIs w' q g gl m1 m2 s' T' fl' it' A' B' mo now (sq + 1) ∧ PutRes s T a.e (sq + 1) s' T' x pre post ∧ it' x = a ∧ (∀ y, y ≠ x → it' y = it y) ∧ Only (SF q g gl m1 m2) w w'
set_option maxHeartbeats 4000000 in
set_option maxRecDepth 100000 in
/-- behind the cut -/
theorem lay_room {P : VP} {row : List It} {mo now M : Int} {w : World} (h0 : VHas w P row mo now M) (a : It) (hk : I64 a.k)
    (hcut : ∀ W1, VHas W1 P (delV row a.k) mo now M → Only P.F w W1 → ∃ s T fl it A B sq, SIs W1 P.q P.g P.gl P.m1 P.m2 s T fl it A B mo now sq ∧ A (.int .i64 a.k) = none ∧ T.ino.length < s.most ∧ I64 (sq + 1) ∧ (∀ z, z < s.sz → -4611686018427387904 ≤ (s.f z).turn ∧ (s.f z).turn ≤ 4611686018427387904) ∧ delV row a.k = T.ino.map it ∧ TnB s M ∧ 0 ≤ sq ∧ sq ≤ M) :
    Calls Try.prog 67 #[.pointer (some ⟨P.q, 0, none⟩), .int .i64 a.k, .int .i64 a.v, .int .i64 a.e] w fun e w' => ∃ s T it sq, ((delV row a.k = T.ino.map it ∧ TnB s M ∧ 0 ≤ sq ∧ sq ≤ M) ∧ ∀ z, z ∈ T.ino → (s.f z).t = (it z).e ∧ (s.f z).s ≤ sq) ∧ LayQ P.q P.g P.gl P.m1 P.m2 s T it mo now sq a w e w' := by
  have HC := Lib.hid (V_cut h0 a.k hk)
  have HX := Lib.hid hcut
  clear hcut h0
  go_enter Try.func67, Try.ntmps67
  go_wp2_with fail
  refine HC.out.mono ?_
  rintro e W1 ⟨rfl, h1, o1⟩
  obtain ⟨s, T, fl, it, A, B, sq, S1, hno, hroom, hsq, htn, hrow⟩ := HX.out W1 h1 o1
  obtain ⟨q, g, gl, m1, m2⟩ := P
  simp only at S1 ⊢
  have O1 : Only (SF q g gl m1 m2) w W1 := o1
  have hw : IntKind.i64.wrap (sq + 1) = sq + 1 := by rw [IntKind.wrap_i64]; unfold I64 at hsq; omega
  obtain ⟨q0, q1, q2, q3, q4, q5⟩ := S1.hc
  have z2 := S1.qb.frozen 2
  have HKY := Lib.hid S1.key
  have S2 := S1.seq
  have O2 : Only (SF q g gl m1 m2) w (W1.setCell ⟨q, 2, none⟩ (.int .i64 (sq + 1))) := O1.setCell (p := ⟨q, 2, none⟩) (.inl (.inl rfl)) _
  have HR := Lib.hid (And.intro hno (And.intro hroom (And.intro hsq (And.intro htn hrow))))
  clear HC HX h1 o1 S1 O1 hno hroom hsq htn hrow
  have HP : Hid (∀ W, Full W g gl s T fl → Calls Try.prog 13 #[.pointer (some ⟨g, 0, none⟩), .agg #[.int .i64 a.e, .int .i64 (sq + 1)]] W (PutV g gl s T a.e (sq + 1) W)) := Lib.hid fun W hW => putV_of (Put_yes g gl s T fl W hW a.e (sq + 1) HR.out.2.1 HR.out.2.2.2.1)
  go_upto_region 2 with fail
  clear q0 q1 q2 q3 q4 q5 z2
  generalize W1.setCell ⟨q, 2, none⟩ (.int .i64 (sq + 1)) = W2 at S2 O2 ⊢
  have SD := S2.drew
  have SA := (S2.alloc (.cells #[.int .i64 0, .int .i64 0] 29)).drew
  have hbx := (Blk.new W2 29 #[.int .i64 0, .int .i64 0]).drew
  have OD := O2.drew
  have OA := (O2.alloc (.cells #[.int .i64 0, .int .i64 0] 29)).drew
  have hXn : ¬ SF q g gl m1 m2 W2.heap.size := fun e => Nat.lt_irrefl _ (S2.foot_lt e)
  have hTFn : ¬ TF g gl W2.heap.size := fun e => hXn (tf_sf e)
  obtain ⟨q0, q1, q2, q3, q4, q5⟩ := S2.hc
  have l1 := S2.qb.lt
  have hle : w.heap.size ≤ W2.heap.size := O2.size
  have HW := Lib.hid S2
  clear S2
  go_cut [8, 9] (fun s8 s9 wx => ∃ HB x tx s' T' fl' pre post, s8 = .pointer (some ⟨HB, 0, none⟩) ∧ s9 = .int .i64 0 ∧ LMe q g gl m1 m2 T s A B mo now (sq + 1) a.e (sq + 1) w wx s' T' fl' x tx pre post HB)
  case first =>
    go_region_with (first
      | (go_at_call 13; refine (HP.out _ (by with_reducible exact SD.t)).mono ?_; rintro e W3 ⟨s', T', fl', x, tx, pre, post, rfl, htx, F3, R3, O3⟩; have E3 := LMf.of SD OD htx F3 R3 O3)
      | (go_at_call 13; refine (HP.out _ (by with_reducible exact SA.t)).mono ?_; rintro e W3 ⟨s', T', fl', x, tx, pre, post, rfl, htx, F3, R3, O3⟩; have E3 := LMf.of SA OA htx F3 R3 O3; have hb3 := O3.blk hbx hTFn; have r0 : W3.cell? ⟨W2.heap.size, 0, none⟩ = some (.int .i64 0) := hb3.cell 0; have r1 : W3.cell? ⟨W2.heap.size, 1, none⟩ = some (.int .i64 0) := hb3.cell 1; have fr := hb3.frozen))
    all_goals
      go_wp2_with fail
      first
        | (go_meet; exact ⟨_, _, _, _, _, _, _, _, rfl, rfl, E3.box⟩)
        | (go_meet; exact ⟨_, _, _, _, _, _, _, _, rfl, rfl, E3.fill hb3 hXn hle⟩)
  case rest =>
    obtain ⟨H, x, tx, s', T', fl', pre, post, rfl, rfl, E⟩ := hcut
    clear SD SA hbx OD OA hXn hTFn q0 q1 q2 q3 q4 q5 l1 hle HP
    have htx : I64 tx := by
      have h1 := E.m.etx
      have h2 := E.m.r.turn
      rw [h1] at h2
      have h3 := HR.out.2.2.2.1 x
      unfold I64
      split at h2
      · rename_i hlt; have := h3 hlt; omega
      · omega
    have hxI : I64 ((x : Nat) : Int) := by have h1 := E.m.f.m.sz; have h2 := E.m.f.lt x (by rw [E.m.r.ino']; simp); unfold I64; omega
    obtain ⟨es1, ck1, r1, N1⟩ := map_put kInt Try.underlying118 (v := .agg #[.int .i64 a.v, .int .i64 a.e, .int .i64 x, .int .i64 tx]) (E.m.ma.same (w' := wc.drew) rfl) (key_int hk)
    have e2 : ∀ i, i ≠ m1 → (setBlock wc.drew m1 (.map es1 ck1)).heap[i]? = wc.heap[i]? := fun i hi => mfar (E.m.ma.same (w' := wc.drew) rfl) _ hi
    have O3 := monly (E.m.ma.same (w' := wc.drew) rfl) E.m.on_.drew (.map es1 ck1) (show SF q g gl m1 m2 m1 from .inr (.inr (.inr (.inl rfl))))
    have ne := HW.out.ne
    have nH1 : H ≠ m1 := fun e => E.nq (.inr (.inr (.inr (.inl e))))
    obtain ⟨q0, q1, q2, q3, q4, q5⟩ : wc.drew.cell? ⟨q, 0, none⟩ = some (.int .i64 mo) ∧ wc.drew.cell? ⟨q, 1, none⟩ = some (.int .i64 now) ∧ wc.drew.cell? ⟨q, 2, none⟩ = some (.int .i64 (sq + 1)) ∧ wc.drew.cell? ⟨q, 3, none⟩ = some (.pointer (some ⟨g, 0, none⟩)) ∧ wc.drew.cell? ⟨q, 4, none⟩ = some (.map (some m1)) ∧ wc.drew.cell? ⟨q, 5, none⟩ = some (.map (some m2)) :=
      ⟨E.m.qb.drew.cell 0, E.m.qb.drew.cell 1, E.m.qb.drew.cell 2, E.m.qb.drew.cell 3, E.m.qb.drew.cell 4, E.m.qb.drew.cell 5⟩
    obtain ⟨h0, h1⟩ : wc.drew.cell? ⟨H, 0, none⟩ = some (.int .i64 x) ∧ wc.drew.cell? ⟨H, 1, none⟩ = some (.int .i64 tx) := ⟨E.bh.drew.cell 0, E.bh.drew.cell 1⟩
    have bq2 : Blk (setBlock wc.drew m1 (.map es1 ck1)) q 120 (stc mo now (sq + 1) g m1 m2) := (e2 q ne.2.2.1).trans E.m.qb
    have bH2 : Blk (setBlock wc.drew m1 (.map es1 ck1)) H 29 #[.int .i64 x, .int .i64 tx] := (e2 H nH1).trans E.bh
    have mb2 := E.m.mb.same (e2 m2 (Ne.symm ne.2.2.2.2.2.2.2.2))
    have HE := Lib.hid (And.intro E (And.intro htx (And.intro N1 (And.intro e2 (And.intro O3 (And.intro bq2 (And.intro bH2 (And.intro mb2 hxI))))))))
    clear E N1 e2 O3 ne nH1 bq2 bH2 mb2 htx hxI
    go_upto_region 3 with fail
    refine wp_region_still_tail 9 (by kernel_rfl) (by kernel_rfl) ?_
    change wpStill _ _ wc.drew (fun a' => wpList _ _ _ _ a' wc.drew) _ _
    generalize wc.drew = V at HE q0 q1 q2 q3 q4 q5 h0 h1 r1 ⊢
    simp only [List.take_succ_cons, List.take_zero, List.drop_succ_cons, List.drop_zero]
    still_step
    still_step
    still_step
    still_step
    still_step
    still_step
    still_step
    still_step
    still_step
    refine wpStill_nil ?_
    clear q0 q1 q2 q3 q4 q5 h0 h1
    go_upto_region 4 with fail
    generalize hW2 : setBlock V m1 (.map es1 ck1) = W3 at HE ⊢
    obtain ⟨E, htx, N1, e2, O3, bq2, bH2, mb2, hxI⟩ := HE.out
    obtain ⟨es2, ck2, r2, N2⟩ := map_put kHan Try.underlying112 (v := .int .i64 a.k) (mb2.same (w' := W3.drew) rfl) (key_han hxI htx)
    have e3 : ∀ i, i ≠ m2 → (setBlock W3.drew m2 (.map es2 ck2)).heap[i]? = W3.heap[i]? := fun i hi => mfar (mb2.same (w' := W3.drew) rfl) _ hi
    have O4 := monly (mb2.same (w' := W3.drew) rfl) O3.drew (.map es2 ck2) (show SF q g gl m1 m2 m2 from .inr (.inr (.inr (.inr rfl))))
    have hB : B (.agg #[.int .i64 x, .int .i64 tx]) = none := by
      cases e : B (.agg #[.int .i64 x, .int .i64 tx]) with
      | none => rfl
      | some v =>
        obtain ⟨y, hy, ey⟩ := HW.out.onlyB _ _ e
        unfold hnV at ey
        simp only [Value.agg.injEq, Array.mk.injEq, List.cons.injEq, Value.int.injEq] at ey
        have hxy : x = y := by omega
        have := E.m.f.rb.nd
        rw [E.m.r.ino'] at this
        exact absurd (show x ∈ pre ++ post by rw [← E.m.r.ino, hxy]; exact hy) (sub_nodup this).2
    rw [HR.out.1] at N1
    rw [hB] at N2
    have Q5 := HW.out.added hk HR.out.1 E.m (Int.le_refl _) N1 rfl N2 rfl htx e2 e3
    have FIN := Lib.hid (And.intro Q5 (And.intro E.m.r O4))
    obtain ⟨q0, q1, q2, q3, q4, q5⟩ : W3.drew.cell? ⟨q, 0, none⟩ = some (.int .i64 mo) ∧ W3.drew.cell? ⟨q, 1, none⟩ = some (.int .i64 now) ∧ W3.drew.cell? ⟨q, 2, none⟩ = some (.int .i64 (sq + 1)) ∧ W3.drew.cell? ⟨q, 3, none⟩ = some (.pointer (some ⟨g, 0, none⟩)) ∧ W3.drew.cell? ⟨q, 4, none⟩ = some (.map (some m1)) ∧ W3.drew.cell? ⟨q, 5, none⟩ = some (.map (some m2)) :=
      ⟨bq2.drew.cell 0, bq2.drew.cell 1, bq2.drew.cell 2, bq2.drew.cell 3, bq2.drew.cell 4, bq2.drew.cell 5⟩
    obtain ⟨h0, h1⟩ : W3.drew.cell? ⟨H, 0, none⟩ = some (.int .i64 x) ∧ W3.drew.cell? ⟨H, 1, none⟩ = some (.int .i64 tx) := ⟨bH2.drew.cell 0, bH2.drew.cell 1⟩
    clear E N1 N2 e2 e3 O3 O4 bq2 bH2 mb2 htx hxI HE hW2 r1 hB Q5
    refine wp_region_still_tail 6 (by kernel_rfl) (by kernel_rfl) ?_
    change wpStill _ _ W3.drew (fun a' => wpList _ _ _ _ a' W3.drew) _ _
    generalize W3.drew = V2 at FIN q0 q1 q2 q3 q4 q5 h0 h1 r2 ⊢
    simp only [List.take_succ_cons, List.take_zero, List.drop_succ_cons, List.drop_zero]
    still_step
    still_step
    still_step
    still_step
    still_step
    still_step
    refine wpStill_nil ?_
    clear q0 q1 q2 q3 q4 q5 h0 h1
    go_wp2_with fail
    go_end0
    exact ⟨s, T, it, sq, ⟨HR.out.2.2.2.2, HKY.out⟩, rfl, s', T', fl', x, pre, post, setIt it x a, _, _, FIN.out.1, FIN.out.2.1, if_pos rfl, fun y hy => if_neg hy, FIN.out.2.2⟩
end Go.Proofs.Ytfoigflgglpobaa.V
/- A key is laid down, as the store's callers see it. No condition but that memory holds a store. -/
set_option linter.unusedVariables false
set_option linter.unusedSimpArgs false
namespace Go.Proofs.Ytfoigflgglpobaa.V
open Go.RowKit Go.Proofs.Ytfoigflgglpobaa.Aid Go.Proofs.Ytfoigflgglpobaa.Tr Go.Proofs.Ytfoigflgglpobaa.Kt Go.Proofs.Ytfoigflgglpobaa.Q
theorem delV_has {row : List It} {k : Int} (hd : (row.map It.k).Nodup) : hasV (delV row k) k = false := by
  refine Bool.eq_false_iff.2 fun h => ?_
  obtain ⟨b, hb, e⟩ := List.any_eq_true.1 h
  have e := of_decide_eq_true e
  unfold delV at hb
  induction row with
  | nil => simp at hb
  | cons a l ih =>
    rw [List.map_cons, List.nodup_cons] at hd
    by_cases ea : a.k = k
    · rw [List.eraseP_cons_of_pos (by simpa using ea)] at hb
      exact hd.1 (by rw [ea, ← e]; exact List.mem_map.2 ⟨b, hb, rfl⟩)
    · rw [List.eraseP_cons_of_neg (by simpa using ea)] at hb
      rcases List.mem_cons.1 hb with rfl | hb
      · exact ea e
      · exact ih hd.2 (List.any_eq_true.2 ⟨b, hb, decide_eq_true e⟩) hb
theorem map_oth {it it' : Nat → It} {x : Nat} (h : ∀ y, y ≠ x → it' y = it y) {l : List Nat} (hl : x ∉ l) : l.map it' = l.map it :=
  List.map_congr_left fun y hy => h y (by rintro rfl; exact hl hy)
theorem V_lay {w : World} {P : VP} {row : List It} {mo now M : Int} (h : VHas w P row mo now M) (a : It) (hk : I64 a.k) (hroom : ((delV row a.k).length : Int) < mo) (hM : M ≤ 4611686018427387904) :
    Calls Try.prog 67 #[.pointer (some ⟨P.q, 0, none⟩), .int .i64 a.k, .int .i64 a.v, .int .i64 a.e] w fun e w' => e = .returned (.tuple #[]) ∧ VHas w' P (insV a (delV row a.k)) mo now (M + 1) ∧ Only P.F w w' := by
  have hkeys := h.keys
  refine (lay_room h a hk fun W1 h1 o1 => ?_).mono ?_
  · obtain ⟨s, T, fl, it, A, B, sq, S, hr, ht, h0, hs⟩ := h1
    refine ⟨s, T, fl, it, A, B, sq, S, ?_, ?_, by unfold I64; omega, ht.bnd hM, hr, ht, h0, hs⟩
    · rcases S.has a.k with ⟨x, hx, e, _⟩ | ⟨_, e⟩
      · have := delV_has (k := a.k) hkeys
        rw [hr, hasV_iff.2 ⟨x, hx, e⟩] at this
        cases this
      · exact e
    · have hm := S.most
      rw [hr, List.length_map] at hroom
      omega
  · rintro e w' ⟨s, T, it, sq, ⟨⟨hr, ht, h0, hs⟩, hky⟩, rfl, s', T', fl', x, pre, post, it', A', B', S', R, hx, ho, o⟩
    refine ⟨rfl, ⟨s', T', fl', it', A', B', sq + 1, S', ?_, ht.put R (by omega), by omega, by omega⟩, o⟩
    have hnd := S'.t.rb.nd
    rw [R.ino'] at hnd
    have hxn := (sub_nodup hnd).2
    have n1 : x ∉ pre := fun e => hxn (by simp [e])
    have n2 : x ∉ post := fun e => hxn (by simp [e])
    have hkey : ∀ z, z ∈ T.ino → (it z).e = (s.f z).t ∧ (s.f z).s ≤ sq := fun z hz => ⟨(hky z hz).1.symm, (hky z hz).2⟩
    rw [hr, R.ino', R.ino]
    simp only [List.map_append, List.map_cons, hx, map_oth ho n1, map_oth ho n2]
    refine insV_app (fun b hb => ?_) (fun b hb => ?_)
    · obtain ⟨z, hz, rfl⟩ := List.mem_map.1 hb
      have h1 := R.pre z hz
      have h2 := hkey z (by rw [R.ino]; simp [hz])
      unfold kle at h1
      omega
    · obtain ⟨z, hz, rfl⟩ := List.mem_map.1 hb
      have h1 := R.post z hz
      have h2 := hkey z (by rw [R.ino]; simp [hz])
      unfold kle at h1
      omega
end Go.Proofs.Ytfoigflgglpobaa.V
/- A key's cell. No condition but that memory holds a store. -/
set_option linter.unusedVariables false
set_option linter.unusedSimpArgs false
namespace Go.Proofs.Ytfoigflgglpobaa.V
open Go.RowKit Go.Proofs.Ytfoigflgglpobaa.Aid Go.Proofs.Ytfoigflgglpobaa.Tr Go.Proofs.Ytfoigflgglpobaa.Kt Go.Proofs.Ytfoigflgglpobaa.Q
theorem VHas.lookB {w : World} {P : VP} {row : List It} {mo now M : Int} (h : VHas w P row mo now M) {k : Int} (hk : I64 k) : ∃ x tx : Int,
    (Instr.lookup 118 (.map (some P.m1)) (.int .i64 k) true).run Try.prog w = .ok (.tuple #[.agg #[.int .i64 (getV row k).v, .int .i64 (getV row k).e, .int .i64 x, .int .i64 tx], .bool (hasV row k)]) w := by
  cases e : hasV row k with
  | false =>
    refine ⟨0, 0, ?_⟩
    have hg : getV row k = ⟨0, 0, 0⟩ := by
      unfold getV
      rw [List.find?_eq_none.2]
      · rfl
      · intro b hb e'
        have : hasV row k = true := List.any_eq_true.2 ⟨b, hb, e'⟩
        rw [e] at this; cases this
    rw [hg]
    exact h.miss hk e
  | true =>
    obtain ⟨b, hb, e'⟩ := List.any_eq_true.1 e
    cases hf : row.find? (fun b => decide (b.k = k)) with
    | none => exact absurd e' (List.find?_eq_none.1 hf b hb)
    | some a =>
      have ha := List.mem_of_find?_eq_some hf
      have hak : a.k = k := of_decide_eq_true (List.find?_some (p := fun b : It => decide (b.k = k)) hf)
      have hg : getV row k = a := by unfold getV; rw [hf]; rfl
      obtain ⟨x, tx, hl⟩ := h.look ha
      refine ⟨x, tx, ?_⟩
      rw [hg, ← hak]
      exact (hl w fun _ _ => rfl).1
def set4 (W : World) (b : Nat) (c0 c1 c2 c3 : Int) : World := (((W.setCell ⟨b, 0, none⟩ (.int .i64 c0)).setCell ⟨b, 1, none⟩ (.int .i64 c1)).setCell ⟨b, 2, none⟩ (.int .i64 c2)).setCell ⟨b, 3, none⟩ (.int .i64 c3)
theorem set4_blk {W : World} {b : Nat} {t : TypeId} {d0 d1 d2 d3 : Int} (h : Blk W b t #[.int .i64 d0, .int .i64 d1, .int .i64 d2, .int .i64 d3]) (c0 c1 c2 c3 : Int) : Blk (set4 W b c0 c1 c2 c3) b t #[.int .i64 c0, .int .i64 c1, .int .i64 c2, .int .i64 c3] :=
  (((h.set_ 0 (.int .i64 c0)).set_ 1 (.int .i64 c1)).set_ 2 (.int .i64 c2)).set_ 3 (.int .i64 c3)
theorem bx4 {W : World} {b : Nat} {t : TypeId} {d0 d1 d2 d3 : Int} (h : Blk W b t #[.int .i64 d0, .int .i64 d1, .int .i64 d2, .int .i64 d3]) : W.cell? ⟨b, 0, none⟩ = some (.int .i64 d0) ∧ W.cell? ⟨b, 1, none⟩ = some (.int .i64 d1) ∧ W.cell? ⟨b, 2, none⟩ = some (.int .i64 d2) ∧ W.cell? ⟨b, 3, none⟩ = some (.int .i64 d3) := ⟨h.cell 0, h.cell 1, h.cell 2, h.cell 3⟩
/-- the row, and the time, behind a reach -/
def rowN (row : List It) (now n : Int) : List It := row.dropWhile (ov (max now (cl n)))
set_option maxHeartbeats 2000000 in
set_option maxRecDepth 100000 in
theorem V_at {w : World} {P : VP} {row : List It} {mo now M : Int} (h : VHas w P row mo now M) (n k : Int) (hk : I64 k) :
    Calls Try.prog 68 #[.pointer (some ⟨P.q, 0, none⟩), .int .i64 n, .int .i64 k] w fun e w' => (∃ x tx : Int, e = .returned (.tuple #[.agg #[.int .i64 (getV (rowN row now n) k).v, .int .i64 (getV (rowN row now n) k).e, .int .i64 x, .int .i64 tx], .bool (hasV (rowN row now n) k)])) ∧ VHas w' P (rowN row now n) mo (max now (cl n)) M ∧ Only P.F w w' := by
  have hb := Blk.new w 122 #[.int .i64 0, .int .i64 0, .int .i64 0, .int .i64 0]
  have h1 := h.alloc (.cells #[.int .i64 0, .int .i64 0, .int .i64 0, .int .i64 0] 122)
  have o0 := (Only.refl P.F w).alloc (.cells #[.int .i64 0, .int .i64 0, .int .i64 0, .int .i64 0] 122)
  have hR : ¬ P.F w.heap.size := fun e => Nat.lt_irrefl _ (h.foot_lt e)
  unfold rowN
  obtain ⟨row', hr⟩ : ∃ r, row.dropWhile (ov (max now (cl n))) = r := ⟨_, rfl⟩
  obtain ⟨nn, hn⟩ : ∃ m, max now (cl n) = m := ⟨_, rfl⟩
  rw [hr, hn]
  have HRN := Lib.hid (And.intro hr hn)
  clear h hr hn
  go_enter Try.func68, Try.ntmps68
  go_upto_region 1 with fail
  generalize w.alloc (.cells #[.int .i64 0, .int .i64 0, .int .i64 0, .int .i64 0] 122) = W at hb h1 o0 ⊢
  obtain ⟨R, hRe⟩ : ∃ R, w.heap.size = R := ⟨_, rfl⟩
  have hRw : w.heap.size ≤ R := by omega
  rw [hRe] at hb hR ⊢
  clear hRe
  have HC := V_reach h1 n
  rw [HRN.out.1, HRN.out.2] at HC
  have HC := Lib.hid HC
  have HB := Lib.hid (And.intro hb (And.intro o0 (And.intro hR hRw)))
  clear hb h1 o0 hR hRw
  go_wp2_with fail
  refine HC.out.mono ?_
  rintro e W1 ⟨rfl, h1, o1⟩
  have bR := o1.blk HB.out.1 HB.out.2.2.1
  have O1 := HB.out.2.1.then o1
  obtain ⟨x, tx, lk⟩ := h1.lookB hk
  obtain ⟨sq, q0, q1, q2, q3, q4, q5⟩ := h1.cells
  have H2 := h1.alloc (.cells #[.int .i64 (getV row' k).v, .int .i64 (getV row' k).e, .int .i64 x, .int .i64 tx] 122)
  have R2 := bR.alloc (.cells #[.int .i64 (getV row' k).v, .int .i64 (getV row' k).e, .int .i64 x, .int .i64 tx] 122)
  have O2 := O1.alloc (.cells #[.int .i64 (getV row' k).v, .int .i64 (getV row' k).e, .int .i64 x, .int .i64 tx] 122)
  have E2 := Blk.new W1 122 #[.int .i64 (getV row' k).v, .int .i64 (getV row' k).e, .int .i64 x, .int .i64 tx]
  clear HC bR O1 h1 o1
  go_upto_region 5 with fail
  clear q0 q1 q2 q3 q4 q5 lk
  generalize W1.alloc (.cells #[.int .i64 (getV row' k).v, .int .i64 (getV row' k).e, .int .i64 x, .int .i64 tx] 122) = W2 at H2 R2 O2 E2 ⊢
  generalize W1.heap.size = E at E2 ⊢
  obtain ⟨c0, c1, c2, c3⟩ := bx4 E2
  obtain ⟨d0, d1, d2, d3⟩ := bx4 R2
  have fz := R2.frozen
  have R4 := set4_blk R2 (getV row' k).v (getV row' k).e x tx
  obtain ⟨r0, r1, r2, r3⟩ := bx4 R4
  have O4 : Only P.F w (set4 W2 R (getV row' k).v (getV row' k).e x tx) := (((O2.setCell (p := ⟨R, 0, none⟩) (.inr HB.out.2.2.2) _).setCell (p := ⟨R, 1, none⟩) (.inr HB.out.2.2.2) _).setCell (p := ⟨R, 2, none⟩) (.inr HB.out.2.2.2) _).setCell (p := ⟨R, 3, none⟩) (.inr HB.out.2.2.2) _
  have H4 : VHas (set4 W2 R (getV row' k).v (getV row' k).e x tx) P row' mo nn M := H2.same fun b hb => by
    have hbR : b ≠ R := by rintro rfl; exact HB.out.2.2.1 hb
    unfold set4
    rw [Below.heap_setCell _ _ _ b hbR, Below.heap_setCell _ _ _ b hbR, Below.heap_setCell _ _ _ b hbR, Below.heap_setCell _ _ _ b hbR]
  have FIN := Lib.hid (And.intro H4 O4)
  unfold set4 at r0 r1 r2 r3 FIN
  clear H2 R2 O2 E2 R4 O4 H4
  go_wp2_with fail
  exact bodyPost_ret (v := .tuple #[.agg #[.int .i64 (getV row' k).v, .int .i64 (getV row' k).e, .int .i64 x, .int .i64 tx], .bool (hasV row' k)]) (by simp [results, Try.results68, go_sem, r0, r1, r2, r3]) rfl ⟨⟨x, tx, rfl⟩, FIN.out.1, FIN.out.2⟩
end Go.Proofs.Ytfoigflgglpobaa.V
/- The contracts of ktime.Mul and of the reference's Mul: both are the clamped product, for any numbers that an int holds. No other condition. -/
set_option linter.unusedVariables false
set_option linter.unusedSimpArgs false
namespace Go.Proofs.Ytfoigflgglpobaa.Kt
open Go.RowKit Go.Proofs.Ytfoigflgglpobaa.Aid
theorem and_low (a : Int) (h1 : 0 ≤ a) (h2 : a < 18446744073709551616) : Go.bits .and .u64 a 4294967295 = a % 4294967296 := by
  rw [u64_and a 4294967295 h1 h2 (by omega) (by omega)]
  have e : (4294967295 : Int).toNat = 2 ^ 32 - 1 := by decide
  rw [e, Nat.and_two_pow_sub_one_eq_mod]
  omega
theorem mul_bd {a b : Int} (h1 : 0 ≤ a) (h2 : a ≤ 4294967295) (h3 : 0 ≤ b) (h4 : b ≤ 4294967295) : 0 ≤ a * b ∧ a * b ≤ 18446744065119617025 := by
  refine ⟨Int.mul_nonneg h1 h3, ?_⟩
  have := Int.mul_le_mul h2 h4 h3 (by omega)
  omega
theorem mul_parts (ah al bh bl : Int) : (ah * 4294967296 + al) * (bh * 4294967296 + bl) = (ah * bh) * 18446744073709551616 + ((ah * bl) + (al * bh)) * 4294967296 + al * bl := by
  have e : (18446744073709551616 : Int) = 4294967296 * 4294967296 := by decide
  rw [e]
  generalize (4294967296 : Int) = K
  simp only [Int.add_mul, Int.mul_add]
  have h1 : ah * K * (bh * K) = ah * bh * (K * K) := by
    rw [Int.mul_assoc, Int.mul_assoc]; congr 1; rw [← Int.mul_assoc, Int.mul_comm K bh, Int.mul_assoc]
  have h2 : ah * K * bl = ah * bl * K := by rw [Int.mul_assoc, Int.mul_comm K bl, ← Int.mul_assoc]
  have h3 : al * (bh * K) = al * bh * K := by rw [← Int.mul_assoc]
  rw [h1, h2, h3]
  omega
/-- what the library's text reckons -/
def m64 (a0 a1 : Int) : Int × Int := (IntKind.u64.wrap ((IntKind.u64.wrap ((IntKind.u64.wrap ((a0 / 4294967296) * (a1 / 4294967296))) + ((IntKind.u64.wrap ((IntKind.u64.wrap ((a0 / 4294967296) * (Go.bits .and .u64 a1 4294967295))) + ((IntKind.u64.wrap ((Go.bits .and .u64 a0 4294967295) * (Go.bits .and .u64 a1 4294967295))) / 4294967296))) / 4294967296))) + ((IntKind.u64.wrap ((Go.bits .and .u64 (IntKind.u64.wrap ((IntKind.u64.wrap ((a0 / 4294967296) * (Go.bits .and .u64 a1 4294967295))) + ((IntKind.u64.wrap ((Go.bits .and .u64 a0 4294967295) * (Go.bits .and .u64 a1 4294967295))) / 4294967296))) 4294967295) + (IntKind.u64.wrap ((Go.bits .and .u64 a0 4294967295) * (a1 / 4294967296))))) / 4294967296)), IntKind.u64.wrap (a0 * a1))
theorem m64_eq (a b : Int) (a0 : 0 ≤ a) (a1 : a < 18446744073709551616) (b0 : 0 ≤ b) (b1 : b < 18446744073709551616) :
    m64 a b = (a * b / 18446744073709551616, a * b % 18446744073709551616) := by
  unfold m64
  simp only [IntKind.wrap_u64]
  rw [and_low a a0 a1, and_low b b0 b1]
  have hal : 0 ≤ a % 4294967296 ∧ a % 4294967296 ≤ 4294967295 := by omega
  have hbl : 0 ≤ b % 4294967296 ∧ b % 4294967296 ≤ 4294967295 := by omega
  have hah : 0 ≤ a / 4294967296 ∧ a / 4294967296 ≤ 4294967295 := by omega
  have hbh : 0 ≤ b / 4294967296 ∧ b / 4294967296 ≤ 4294967295 := by omega
  have hab := mul_parts (a / 4294967296) (a % 4294967296) (b / 4294967296) (b % 4294967296)
  rw [show a / 4294967296 * 4294967296 + a % 4294967296 = a by omega, show b / 4294967296 * 4294967296 + b % 4294967296 = b by omega] at hab
  have p1 := mul_bd hah.1 hah.2 hbh.1 hbh.2
  have p2 := mul_bd hah.1 hah.2 hbl.1 hbl.2
  have p3 := mul_bd hal.1 hal.2 hbl.1 hbl.2
  have p4 := mul_bd hal.1 hal.2 hbh.1 hbh.2
  rw [hab]
  clear hab
  generalize a / 4294967296 * (b / 4294967296) = x1 at *
  generalize a / 4294967296 * (b % 4294967296) = x2 at *
  generalize a % 4294967296 * (b % 4294967296) = x3 at *
  generalize a % 4294967296 * (b / 4294967296) = x4 at *
  rw [and_low _ (by omega) (by omega)]
  refine Prod.ext ?_ ?_ <;> simp only <;> omega
def siz (x : Int) : Int := if x < 0 then -x else x
def hi64 (p : Int) : Int := p / 18446744073709551616
def lo64 (p : Int) : Int := p % 18446744073709551616
theorem lo64_bd (p : Int) : 0 ≤ lo64 p ∧ lo64 p ≤ 18446744073709551615 := by unfold lo64; omega
/-- the product -/
def mul (a n : Int) : Int := cl (cl a * n)
theorem siz_bd (x : Int) (h0 : -9223372036854775808 ≤ x) (h1 : x ≤ 9223372036854775807) : 0 ≤ siz x ∧ siz x < 18446744073709551616 := by unfold siz; omega
theorem siz_mul (x n : Int) : x * n = if (decide (x < 0) != decide (n < 0)) = true then -(siz x * siz n) else siz x * siz n := by
  unfold siz
  by_cases g1 : x < 0 <;> by_cases g2 : n < 0 <;> simp [g1, g2, Int.neg_mul, Int.mul_neg]
theorem siz_mul0 (x n : Int) : 0 ≤ siz x * siz n := Int.mul_nonneg (by unfold siz; omega) (by unfold siz; omega)
theorem mul_fin (a n : Int) (t : Int) (h : t = if hi64 (siz (cl a) * siz n) = 0 ∧ lo64 (siz (cl a) * siz n) < 4611686018427387903 then lo64 (siz (cl a) * siz n) else 4611686018427387903) :
    mul a n = if (decide (cl a < 0) != decide (n < 0)) = true then -t else t := by
  unfold mul
  rw [siz_mul (cl a) n]
  have h0 := siz_mul0 (cl a) n
  generalize siz (cl a) * siz n = p at *
  have ht : t = if p < 4611686018427387903 then p else 4611686018427387903 := by
    rw [h]; unfold hi64 lo64
    by_cases g : p < 4611686018427387903
    · rw [if_pos g, if_pos (by omega)]; omega
    · rw [if_neg g, if_neg (by omega)]
  split
  · unfold cl; omega
  · unfold cl; omega
end Go.Proofs.Ytfoigflgglpobaa.Kt
/- The contracts of the rest of ktime, and of its reference's sums, differences and products: what each returns for any numbers that an int holds; ktime.First's for any row of at most 200 ints. No other condition. -/
set_option linter.unusedVariables false
set_option linter.unusedSimpArgs false
namespace Go.Proofs.Ytfoigflgglpobaa.Kt
open Go.RowKit Go.Proofs.Ytfoigflgglpobaa.Aid
attribute [local go_sem] max2_int min2_int max_two min_two
set_option maxHeartbeats 400000 in
theorem sub_any (a b : Int) (w : World) : Calls Try.prog 76 #[.int .i64 a, .int .i64 b] w fun e w' => e = .returned (.int .i64 (sb a b)) ∧ w = w' := by
  have h1 := cl_bd a
  have h2 := cl_bd b
  by_cases h : 4611686018427387903 ≤ a
  · have hn : nev a = true := decide_eq_true h
    go_enter Try.func76, Try.ntmps76
    go_wp2_with (go_at_call 62; refine (never_any _ _).mono ?_; rintro e w' ⟨rfl, rfl⟩)
    go_ret
    exact ⟨ret_int (by unfold sb; omega), rfl⟩
  · have hn : nev a = false := decide_eq_false h
    go_enter Try.func76, Try.ntmps76
    go_wp2_with (first
      | (go_at_call 62; refine (never_any _ _).mono ?_; rintro e w' ⟨rfl, rfl⟩)
      | (go_at_call 61; refine (clamp_any _ _).mono ?_; rintro e w' ⟨rfl, rfl⟩))
    go_ret
    exact ⟨ret_int (by unfold sb; omega), rfl⟩
set_option maxHeartbeats 400000 in
theorem until_any (a b : Int) (w : World) : Calls Try.prog 69 #[.int .i64 a, .int .i64 b] w fun e w' => e = .returned (.int .i64 (unt a b)) ∧ w = w' := by
  have h1 := sb_bd b a
  by_cases h : 4611686018427387903 ≤ b
  · have hn : nev b = true := decide_eq_true h
    go_enter Try.func69, Try.ntmps69
    go_wp2_with (go_at_call 62; refine (never_any _ _).mono ?_; rintro e w' ⟨rfl, rfl⟩)
    go_ret
    exact ⟨ret_int (by unfold unt; omega), rfl⟩
  · have hn : nev b = false := decide_eq_false h
    go_enter Try.func69, Try.ntmps69
    go_wp2_with (first
      | (go_at_call 62; refine (never_any _ _).mono ?_; rintro e w' ⟨rfl, rfl⟩)
      | (go_at_call 76; refine (sub_any _ _ _).mono ?_; rintro e w' ⟨rfl, rfl⟩))
    all_goals
      go_ret
      exact ⟨ret_int (by unfold unt; omega), rfl⟩
def mnc (t x : Int) : Int := if cl x < t then cl x else t
theorem mnc_bd {t x : Int} (h : -4611686018427387903 ≤ t ∧ t ≤ 4611686018427387903) : -4611686018427387903 ≤ mnc t x ∧ mnc t x ≤ 4611686018427387903 := by
  have := cl_bd x
  unfold mnc; omega
def firstOf (l : List Int) : Int := l.foldl mnc 4611686018427387903
theorem fold_bd (l : List Int) : ∀ t, -4611686018427387903 ≤ t ∧ t ≤ 4611686018427387903 → -4611686018427387903 ≤ l.foldl mnc t ∧ l.foldl mnc t ≤ 4611686018427387903 := by
  induction l with
  | nil => intro t h; exact h
  | cons x l ih => intro t h; exact ih _ (mnc_bd h)
theorem firstOf_bd (l : List Int) : -4611686018427387903 ≤ firstOf l ∧ firstOf l ≤ 4611686018427387903 := fold_bd l _ (by omega)
theorem firstOf_snoc (l : List Int) (k : Nat) (h : k < l.length) : firstOf (l.take (k + 1)) = mnc (firstOf (l.take k)) (l.getD k 0) := by
  unfold firstOf
  rw [List.take_succ_eq_append_getElem h, List.foldl_append]
  simp [List.getD, h]
def MulRel (R x m s : Int) : Prop := -4611686018427387903 ≤ x ∧ x ≤ 0 ∧ 0 ≤ m ∧ m ≤ 9223372036854775808 ∧ -4611686018427387903 ≤ s ∧ s ≤ 0 ∧ cl (s + x * m) = R
theorem MulRel.step {R x m s : Int} (h : MulRel R x m s) (hm : m ≠ 0) : MulRel R (cl (x + x)) (m / 2) (if m % 2 = 0 then s else cl (s + x)) := by
  obtain ⟨x0, x1, m0, m1, s0, s1, h⟩ := h
  have c1 := cl_bd (x + x)
  have c2 := cl_bd (s + x)
  have c3 : cl (x + x) ≤ 0 := by unfold cl; omega
  have c4 : cl (s + x) ≤ 0 := by unfold cl; omega
  have hbig : (m / 2 = 0 ∧ x * (m / 2) = 0) ∨ (x * (m / 2) ≤ x ∧ (-4611686018427387903) * (m / 2) ≤ -4611686018427387903) := by
    by_cases g : m / 2 = 0
    · exact .inl ⟨g, by rw [g, Int.mul_zero]⟩
    · refine .inr ⟨?_, by omega⟩
      have := Int.mul_le_mul_of_nonpos_left (a := x) (b := m / 2) (c := 1) x1 (by omega)
      omega
  have hneg : x * (m / 2) ≤ 0 := Int.mul_nonpos_of_nonpos_of_nonneg x1 (by omega)
  have hprod : x * m = 2 * (x * (m / 2)) + x * (m % 2) := by
    have e : m = 2 * (m / 2) + m % 2 := by omega
    refine (congrArg (x * ·) e).trans ?_
    show x * (2 * (m / 2) + m % 2) = _
    rw [Int.mul_add, ← Int.mul_assoc, Int.mul_comm x 2, Int.mul_assoc]
  have hcl : cl (x + x) * (m / 2) = if x + x < -4611686018427387903 then -4611686018427387903 * (m / 2) else 2 * (x * (m / 2)) := by
    unfold cl
    rw [if_neg (by omega)]
    split
    · rfl
    · rw [Int.add_mul]; omega
  refine ⟨c1.1, c3, by omega, by omega, by split <;> omega, by split <;> omega, ?_⟩
  rw [← h, hcl, hprod]
  have h01 : m % 2 = 0 ∨ m % 2 = 1 := by omega
  rcases h01 with hr | hr
  · rw [if_pos hr, hr]
    generalize x * (m / 2) = y at *
    by_cases g : x + x < -4611686018427387903
    · rw [if_pos g]; unfold cl; omega
    · rw [if_neg g]; unfold cl; omega
  · rw [if_neg (by omega), hr]
    have e4 : cl (s + x) = if s + x < -4611686018427387903 then -4611686018427387903 else s + x := by unfold cl; omega
    rw [e4]
    generalize x * (m / 2) = y at *
    by_cases g : x + x < -4611686018427387903 <;> by_cases g2 : s + x < -4611686018427387903
    · rw [if_pos g, if_pos g2]; unfold cl; omega
    · rw [if_pos g, if_neg g2]; unfold cl; omega
    · rw [if_neg g, if_pos g2]; unfold cl; omega
    · rw [if_neg g, if_neg g2]; unfold cl; omega
theorem MulRel.zero {R x s : Int} (h : MulRel R x 0 s) : s = R := by
  obtain ⟨x0, x1, m0, m1, s0, s1, h⟩ := h
  rw [← h]; unfold cl; omega
theorem MulRel.bd {R x m s : Int} (h : MulRel R x m s) : -4611686018427387903 ≤ x ∧ x ≤ 0 ∧ 0 ≤ m ∧ m ≤ 9223372036854775808 ∧ -4611686018427387903 ≤ s ∧ s ≤ 0 := ⟨h.1, h.2.1, h.2.2.1, h.2.2.2.1, h.2.2.2.2.1, h.2.2.2.2.2.1⟩
theorem neg_tdiv2 (m : Int) (h : 0 ≤ m) : Int.tdiv (-m) 2 = -(m / 2) := by
  rw [Int.neg_tdiv, Int.tdiv_eq_ediv_of_nonneg h]
theorem neg_tmod2 (m : Int) (h : 0 ≤ m) : Int.tmod (-m) 2 = -(m % 2) := by
  rw [Int.neg_tmod, Int.tmod_eq_emod_of_nonneg h]
end Go.Proofs.Ytfoigflgglpobaa.Kt
/- A key's value; how long it is there yet; whether it goes. No condition but that memory holds a store. -/
set_option linter.unusedVariables false
set_option linter.unusedSimpArgs false
namespace Go.Proofs.Ytfoigflgglpobaa.V
open Go.RowKit Go.Proofs.Ytfoigflgglpobaa.Aid Go.Proofs.Ytfoigflgglpobaa.Tr Go.Proofs.Ytfoigflgglpobaa.Kt Go.Proofs.Ytfoigflgglpobaa.Q
set_option maxHeartbeats 1000000 in
set_option maxRecDepth 100000 in
theorem V_get {w : World} {P : VP} {row : List It} {mo now M : Int} (h : VHas w P row mo now M) (n k : Int) (hk : I64 k) :
    Calls Try.prog 41 #[.pointer (some ⟨P.q, 0, none⟩), .int .i64 n, .int .i64 k] w fun e w' => e = .returned (.tuple #[.int .i64 (getV (rowN row now n) k).v, .bool (hasV (rowN row now n) k)]) ∧ VHas w' P (rowN row now n) mo (max now (cl n)) M ∧ Only P.F w w' := by
  have HC := Lib.hid (V_at h n k hk)
  clear h
  generalize rowN row now n = row' at HC ⊢
  generalize max now (cl n) = nn at HC ⊢
  go_enter Try.func41, Try.ntmps41
  go_wp2_with fail
  refine HC.out.mono ?_
  rintro e W1 ⟨⟨x, tx, rfl⟩, h1, o1⟩
  have E2 := Blk.new W1 122 #[.int .i64 (getV row' k).v, .int .i64 (getV row' k).e, .int .i64 x, .int .i64 tx]
  have FIN := Lib.hid (And.intro (h1.alloc (.cells #[.int .i64 (getV row' k).v, .int .i64 (getV row' k).e, .int .i64 x, .int .i64 tx] 122)) (o1.alloc (.cells #[.int .i64 (getV row' k).v, .int .i64 (getV row' k).e, .int .i64 x, .int .i64 tx] 122)))
  obtain ⟨c0, c1, c2, c3⟩ := bx4 E2
  clear HC h1 o1 E2
  go_wp2_with fail
  go_ret2
  exact ⟨rfl, FIN.out.1, FIN.out.2⟩
set_option maxHeartbeats 1000000 in
set_option maxRecDepth 100000 in
theorem V_drop {w : World} {P : VP} {row : List It} {mo now M : Int} (h : VHas w P row mo now M) (n k : Int) (hk : I64 k) :
    Calls Try.prog 44 #[.pointer (some ⟨P.q, 0, none⟩), .int .i64 n, .int .i64 k] w fun e w' => e = .returned (.bool (hasV (rowN row now n) k)) ∧ VHas w' P (delV (rowN row now n) k) mo (max now (cl n)) M ∧ Only P.F w w' := by
  have HC := Lib.hid (V_at h n k hk)
  clear h
  generalize rowN row now n = row' at HC ⊢
  generalize max now (cl n) = nn at HC ⊢
  obtain ⟨y, hy⟩ : ∃ y, hasV row' k = y := ⟨_, rfl⟩
  rw [hy] at HC ⊢
  have HY := Lib.hid hy
  clear hy
  cases y with
  | false =>
    go_enter Try.func44, Try.ntmps44
    go_wp2_with fail
    refine HC.out.mono ?_
    rintro e W1 ⟨⟨x, tx, rfl⟩, h1, o1⟩
    have FIN := Lib.hid (And.intro (h1.alloc (.cells #[.int .i64 (getV row' k).v, .int .i64 (getV row' k).e, .int .i64 x, .int .i64 tx] 122)) (o1.alloc (.cells #[.int .i64 (getV row' k).v, .int .i64 (getV row' k).e, .int .i64 x, .int .i64 tx] 122)))
    clear HC h1 o1
    go_wp2_with fail
    go_ret
    exact ⟨rfl, by rw [delV_no HY.out]; exact FIN.out.1, FIN.out.2⟩
  | true =>
    go_enter Try.func44, Try.ntmps44
    go_wp2_with fail
    refine HC.out.mono ?_
    rintro e W1 ⟨⟨x, tx, rfl⟩, h1, o1⟩
    have h2 := h1.alloc (.cells #[.int .i64 (getV row' k).v, .int .i64 (getV row' k).e, .int .i64 x, .int .i64 tx] 122)
    have O2 := Lib.hid (o1.alloc (.cells #[.int .i64 (getV row' k).v, .int .i64 (getV row' k).e, .int .i64 x, .int .i64 tx] 122))
    have HCC := Lib.hid (V_cut h2 k hk)
    clear HC h1 o1 h2
    go_wp2_with fail
    refine HCC.out.mono ?_
    rintro e W3 ⟨rfl, h3, o3⟩
    have FIN := Lib.hid (And.intro h3 (O2.out.then o3))
    rw [HY.out]
    clear h3 o3 HCC O2
    go_wp2_with fail
    go_ret
    exact ⟨rfl, FIN.out.1, FIN.out.2⟩
set_option maxHeartbeats 1000000 in
set_option maxRecDepth 100000 in
theorem V_left {w : World} {P : VP} {row : List It} {mo now M : Int} (h : VHas w P row mo now M) (n k : Int) (hk : I64 k) :
    Calls Try.prog 42 #[.pointer (some ⟨P.q, 0, none⟩), .int .i64 n, .int .i64 k] w fun e w' => e = .returned (.tuple #[.int .i64 (if hasV (rowN row now n) k then unt (max now (cl n)) (getV (rowN row now n) k).e else 0), .bool (hasV (rowN row now n) k)]) ∧ VHas w' P (rowN row now n) mo (max now (cl n)) M ∧ Only P.F w w' := by
  have HC := Lib.hid (V_at h n k hk)
  clear h
  generalize rowN row now n = row' at HC ⊢
  generalize max now (cl n) = nn at HC ⊢
  obtain ⟨y, hy⟩ : ∃ y, hasV row' k = y := ⟨_, rfl⟩
  rw [hy] at HC ⊢
  clear hy
  cases y with
  | false =>
    go_enter Try.func42, Try.ntmps42
    go_wp2_with fail
    refine HC.out.mono ?_
    rintro e W1 ⟨⟨x, tx, rfl⟩, h1, o1⟩
    have FIN := Lib.hid (And.intro (h1.alloc (.cells #[.int .i64 (getV row' k).v, .int .i64 (getV row' k).e, .int .i64 x, .int .i64 tx] 122)) (o1.alloc (.cells #[.int .i64 (getV row' k).v, .int .i64 (getV row' k).e, .int .i64 x, .int .i64 tx] 122)))
    clear HC h1 o1
    go_wp2_with fail
    go_ret2
    exact ⟨rfl, FIN.out.1, FIN.out.2⟩
  | true =>
    go_enter Try.func42, Try.ntmps42
    go_wp2_with fail
    refine HC.out.mono ?_
    rintro e W1 ⟨⟨x, tx, rfl⟩, h1, o1⟩
    have h2 := h1.alloc (.cells #[.int .i64 (getV row' k).v, .int .i64 (getV row' k).e, .int .i64 x, .int .i64 tx] 122)
    have E2 := Blk.new W1 122 #[.int .i64 (getV row' k).v, .int .i64 (getV row' k).e, .int .i64 x, .int .i64 tx]
    have FIN := Lib.hid (And.intro h2 (o1.alloc (.cells #[.int .i64 (getV row' k).v, .int .i64 (getV row' k).e, .int .i64 x, .int .i64 tx] 122)))
    go_upto_region 4 with fail
    generalize W1.alloc (.cells #[.int .i64 (getV row' k).v, .int .i64 (getV row' k).e, .int .i64 x, .int .i64 tx] 122) = W2 at h2 E2 FIN ⊢
    generalize W1.heap.size = E at E2 ⊢
    obtain ⟨c0, c1, c2, c3⟩ := bx4 E2
    obtain ⟨sq, q0, q1, q2, q3, q4, q5⟩ := h2.cells
    clear HC h1 o1 E2 h2
    go_quiet ((go_at_call 69; exact quiet_left (until_any _ _ _)))
    go_wp2_with fail
    go_ret2
    exact ⟨rfl, FIN.out.1.drewN _, FIN.out.2.drewN _⟩
end Go.Proofs.Ytfoigflgglpobaa.V
/- How many keys; the earliest end; keeping longer. No condition but that memory holds a store. -/
set_option linter.unusedVariables false
set_option linter.unusedSimpArgs false
namespace Go.Proofs.Ytfoigflgglpobaa.V
open Go.RowKit Go.Proofs.Ytfoigflgglpobaa.Aid Go.Proofs.Ytfoigflgglpobaa.Tr Go.Proofs.Ytfoigflgglpobaa.Kt Go.Proofs.Ytfoigflgglpobaa.Q
theorem VHas.lenM {w : World} {P : VP} {row : List It} {mo now M : Int} (h : VHas w P row mo now M) : (Builtin.len_ #[118] 3 #[.map (some P.m1)]).run Try.prog w = .ok (.int .i64 (row.length : Nat)) w := by
  obtain ⟨s, T, fl, it, A, B, sq, h, rfl, _⟩ := h
  obtain ⟨es, ck, hb, hn⟩ := h.a.at_
  have hr := MapKept.run_getObj_map (P := Try.prog) hb
  rw [List.length_map]
  simp [Builtin.len_, run_underlying Try.underlying118, hr, hn, goInt]
set_option maxHeartbeats 1000000 in
set_option maxRecDepth 100000 in
theorem V_len {w : World} {P : VP} {row : List It} {mo now M : Int} (h : VHas w P row mo now M) (n : Int) :
    Calls Try.prog 43 #[.pointer (some ⟨P.q, 0, none⟩), .int .i64 n] w fun e w' => e = .returned (.int .i64 ((rowN row now n).length : Nat)) ∧ VHas w' P (rowN row now n) mo (max now (cl n)) M ∧ Only P.F w w' := by
  have HC := Lib.hid (show Calls Try.prog 63 #[.pointer (some ⟨P.q, 0, none⟩), .int .i64 n] w fun e w' => e = .returned (.tuple #[]) ∧ VHas w' P (rowN row now n) mo (max now (cl n)) M ∧ Only P.F w w' from V_reach h n)
  clear h
  generalize rowN row now n = row' at HC ⊢
  generalize max now (cl n) = nn at HC ⊢
  go_enter Try.func43, Try.ntmps43
  go_wp2_with fail
  refine HC.out.mono ?_
  rintro e W1 ⟨rfl, h1, o1⟩
  obtain ⟨sq, q0, q1, q2, q3, q4, q5⟩ := h1.cells
  have hl := h1.lenM
  have FIN := Lib.hid (And.intro h1 o1)
  clear HC h1 o1
  go_wp2_with fail
  go_ret
  exact ⟨rfl, FIN.out.1, FIN.out.2⟩
/-- the earliest end -/
def nextV (row : List It) : Int := match row with
  | [] => 4611686018427387903
  | a :: _ => a.e
set_option maxHeartbeats 1000000 in
set_option maxRecDepth 100000 in
theorem V_next {w : World} {P : VP} {row : List It} {mo now M : Int} (h : VHas w P row mo now M) (n : Int) :
    Calls Try.prog 50 #[.pointer (some ⟨P.q, 0, none⟩), .int .i64 n] w fun e w' => e = .returned (.int .i64 (nextV (rowN row now n))) ∧ VHas w' P (rowN row now n) mo (max now (cl n)) M ∧ Only P.F w w' := by
  have HC := Lib.hid (show Calls Try.prog 63 #[.pointer (some ⟨P.q, 0, none⟩), .int .i64 n] w fun e w' => e = .returned (.tuple #[]) ∧ VHas w' P (rowN row now n) mo (max now (cl n)) M ∧ Only P.F w w' from V_reach h n)
  clear h
  generalize rowN row now n = row' at HC ⊢
  generalize max now (cl n) = nn at HC ⊢
  cases row' with
  | nil =>
    go_enter Try.func50, Try.ntmps50
    go_wp2_with fail
    refine HC.out.mono ?_
    rintro e W1 ⟨rfl, h1, o1⟩
    have HF := Lib.hid (show Calls Try.prog 64 #[.pointer (some ⟨P.q, 0, none⟩)] W1 fun e w' => e = .returned (.tuple #[.int .i64 0, .bool false]) ∧ Below W1.heap.size W1 w' from V_first h1)
    have HH := Lib.hid (And.intro h1 o1)
    clear HC h1 o1
    go_wp2_with fail
    refine HF.out.mono ?_
    rintro e W2 ⟨rfl, b2⟩
    have FIN := Lib.hid (And.intro (HH.out.1.below b2) (HH.out.2.below b2))
    clear HF HH b2
    go_wp2_with fail
    go_ret
    exact ⟨rfl, FIN.out.1, FIN.out.2⟩
  | cons a l =>
    go_enter Try.func50, Try.ntmps50
    go_wp2_with fail
    refine HC.out.mono ?_
    rintro e W1 ⟨rfl, h1, o1⟩
    have HF := Lib.hid (show Calls Try.prog 64 #[.pointer (some ⟨P.q, 0, none⟩)] W1 fun e w' => e = .returned (.tuple #[.int .i64 a.k, .bool true]) ∧ Below W1.heap.size W1 w' from by
      have C := V_first h1
      rw [show decide (a :: l ≠ []) = true from rfl] at C
      exact C)
    have HH := Lib.hid (And.intro h1 o1)
    clear HC h1 o1
    go_wp2_with fail
    refine HF.out.mono ?_
    rintro e W2 ⟨rfl, b2⟩
    have h2 := HH.out.1.below b2
    obtain ⟨x, tx, lk⟩ := h2.look (a := a) (by simp)
    have l2 := (lk W2 fun _ _ => rfl).2
    obtain ⟨sq, q0, q1, q2, q3, q4, q5⟩ := h2.cells
    have fe := field_cel a.v a.e x tx W2
    have FIN := Lib.hid (And.intro h2 (HH.out.2.below b2))
    clear HF HH b2 h2 lk
    go_wp2_with fail
    go_ret
    exact ⟨rfl, FIN.out.1, FIN.out.2⟩
end Go.Proofs.Ytfoigflgglpobaa.V
/- Keeping a key longer, or shorter. No condition but that memory holds a store. -/
set_option linter.unusedVariables false
set_option linter.unusedSimpArgs false
namespace Go.Proofs.Ytfoigflgglpobaa.V
open Go.RowKit Go.Proofs.Ytfoigflgglpobaa.Aid Go.Proofs.Ytfoigflgglpobaa.Tr Go.Proofs.Ytfoigflgglpobaa.Kt Go.Proofs.Ytfoigflgglpobaa.Q
theorem delV_len {row : List It} {k : Int} (h : hasV row k = true) : (delV row k).length + 1 = row.length := by
  obtain ⟨b, hb, e⟩ := List.any_eq_true.1 h
  unfold delV
  have := List.length_eraseP_of_mem (p := fun b : It => decide (b.k = k)) hb e
  have := List.length_pos_of_mem hb
  omega
set_option maxHeartbeats 1000000 in
set_option maxRecDepth 100000 in
theorem V_touch_no {w : World} {P : VP} {row : List It} {mo now M : Int} (h : VHas w P row mo now M) (n k keep : Int) (hk : I64 k) (hno : hasV (rowN row now n) k = false ∨ keep < 1) :
    Calls Try.prog 45 #[.pointer (some ⟨P.q, 0, none⟩), .int .i64 n, .int .i64 k, .int .i64 keep] w fun e w' => e = .returned (.bool false) ∧ VHas w' P (rowN row now n) mo (max now (cl n)) M ∧ Only P.F w w' := by
  have HC := Lib.hid (V_at h n k hk)
  clear h
  generalize rowN row now n = row' at HC hno ⊢
  generalize max now (cl n) = nn at HC ⊢
  obtain ⟨y, hy⟩ : ∃ y, hasV row' k = y := ⟨_, rfl⟩
  rw [hy] at HC hno
  clear hy
  cases y with
  | false =>
    clear hno
    go_enter Try.func45, Try.ntmps45
    go_wp2_with fail
    refine HC.out.mono ?_
    rintro e W1 ⟨⟨x, tx, rfl⟩, h1, o1⟩
    have FIN := Lib.hid (And.intro (h1.alloc (.cells #[.int .i64 (getV row' k).v, .int .i64 (getV row' k).e, .int .i64 x, .int .i64 tx] 122)) (o1.alloc (.cells #[.int .i64 (getV row' k).v, .int .i64 (getV row' k).e, .int .i64 x, .int .i64 tx] 122)))
    clear HC h1 o1
    go_wp2_with fail
    go_ret
    exact ⟨rfl, FIN.out.1, FIN.out.2⟩
  | true =>
    have d := decide_eq_true (hno.resolve_left (by simp))
    clear hno
    go_enter Try.func45, Try.ntmps45
    go_wp2_with fail
    refine HC.out.mono ?_
    rintro e W1 ⟨⟨x, tx, rfl⟩, h1, o1⟩
    have FIN := Lib.hid (And.intro (h1.alloc (.cells #[.int .i64 (getV row' k).v, .int .i64 (getV row' k).e, .int .i64 x, .int .i64 tx] 122)) (o1.alloc (.cells #[.int .i64 (getV row' k).v, .int .i64 (getV row' k).e, .int .i64 x, .int .i64 tx] 122)))
    clear HC h1 o1
    go_wp2_with fail
    go_ret
    exact ⟨rfl, FIN.out.1, FIN.out.2⟩
set_option maxHeartbeats 2000000 in
set_option maxRecDepth 100000 in
theorem V_touch_yes {w : World} {P : VP} {row : List It} {mo now M : Int} (h : VHas w P row mo now M) (n k keep : Int) (hk : I64 k) (hM : M ≤ 4611686018427387904) (hy : hasV (rowN row now n) k = true) (hkp : ¬ keep < 1) :
    Calls Try.prog 45 #[.pointer (some ⟨P.q, 0, none⟩), .int .i64 n, .int .i64 k, .int .i64 keep] w fun e w' => e = .returned (.bool true) ∧ VHas w' P (insV ⟨k, (getV (rowN row now n) k).v, ad (max now (cl n)) keep⟩ (delV (rowN row now n) k)) mo (max now (cl n)) (M + 1) ∧ Only P.F w w' := by
  have HC := V_at h n k hk
  rw [hy] at HC
  have HC := Lib.hid HC
  clear h
  generalize rowN row now n = row' at HC hy ⊢
  generalize max now (cl n) = nn at HC ⊢
  have HY := Lib.hid hy
  have d : decide (keep < 1) = false := decide_eq_false hkp
  clear hy hkp
  go_enter Try.func45, Try.ntmps45
  go_wp2_with fail
  refine HC.out.mono ?_
  rintro e W1 ⟨⟨x, tx, rfl⟩, h1, o1⟩
  have h2 := h1.alloc (.cells #[.int .i64 (getV row' k).v, .int .i64 (getV row' k).e, .int .i64 x, .int .i64 tx] 122)
  have E2 := Blk.new W1 122 #[.int .i64 (getV row' k).v, .int .i64 (getV row' k).e, .int .i64 x, .int .i64 tx]
  have O2 := o1.alloc (.cells #[.int .i64 (getV row' k).v, .int .i64 (getV row' k).e, .int .i64 x, .int .i64 tx] 122)
  clear HC h1 o1
  go_upto_region 4 with fail
  generalize W1.alloc (.cells #[.int .i64 (getV row' k).v, .int .i64 (getV row' k).e, .int .i64 x, .int .i64 tx] 122) = W2 at h2 E2 O2 ⊢
  generalize W1.heap.size = E at E2 ⊢
  have hD := h2.drew
  obtain ⟨c0, c1, c2, c3⟩ := bx4 E2.drew
  obtain ⟨sq, q0, q1, q2, q3, q4, q5⟩ := hD.cells
  have hlen := delV_len HY.out
  have hmo := hD.len
  have HL := Lib.hid (V_lay hD ⟨k, (getV row' k).v, ad nn keep⟩ hk (show ((delV row' k).length : Int) < mo by omega) hM)
  have HO := Lib.hid O2.drew
  clear E2 h2 hD O2 hlen hmo
  go_region_with (first
    | (go_at_call 66; refine (add_any _ _ _).mono ?_; rintro e W5 ⟨rfl, rfl⟩)
    | (go_at_call 67; with_reducible refine HL.out.mono ?_; rintro e W6 ⟨rfl, h6, o6⟩; have FIN := Lib.hid (And.intro h6 (HO.out.then o6))))
  all_goals
    go_wp2_with fail
    go_ret
    exact ⟨rfl, FIN.out.1, FIN.out.2⟩
end Go.Proofs.Ytfoigflgglpobaa.V
