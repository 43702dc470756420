/- The contract of spec's digits. No condition but that there are at most 18. -/
import Derived.Test.YtemellkcbbhlcaaDoorSs
import Derived.Test.YtemellkcbbhlcaaDoorStg
set_option linter.unusedVariables false
set_option linter.unusedSimpArgs false
namespace Go.Proofs.YtemellkcbbhlcaaDoor.Sp
open Go.RowKit Go.Proofs.YtemellkcbbhlcaaDoor.Aid Go.Proofs.YtemellkcbbhlcaaDoor.Kt Go.Proofs.YtemellkcbbhlcaaDoor.Tr Go.Proofs.YtemellkcbbhlcaaDoor.Str
def DRel (w : World) (l : List UInt8) (m : Nat) (s4 : Value) (wr : World) : Prop :=
  ∃ k n : Nat, k ≤ l.length ∧ m = l.length - k ∧ s4 = .int .i64 n ∧ wr = w.iter ⟨l.toArray⟩ k ∧ n < 10 ^ k ∧ digN l 0 = digN (l.drop k) n
set_option maxHeartbeats 1000000 in
set_option maxRecDepth 100000 in
theorem digits_any (l : List UInt8) (hl : l.length ≤ 18) (w : World) : Calls Tryd.prog 56 #[.string ⟨l.toArray⟩] w fun e w' => e = .returned (.tuple #[.int .i64 ((digN l 0).getD 0 : Nat), .bool ((digN l 0).isSome && !l.isEmpty)]) ∧ Below w.heap.size w w' := by
  have hu : Tryd.prog.underlying 9 = some .string := Tryd.underlying9
  have hr := run_range_string (P := Tryd.prog) w 9 ⟨l.toArray⟩ hu
  obtain ⟨r0, hr0⟩ : ∃ r, ((digN l 0).getD 0 : Nat) = r := ⟨_, rfl⟩
  obtain ⟨r1, hr1⟩ : ∃ r, ((digN l 0).isSome && !l.isEmpty) = r := ⟨_, rfl⟩
  have HR := Lib.hid (And.intro hr0 hr1)
  rw [hr0, hr1]
  clear hr0 hr1
  go_enter Tryd.func56, Tryd.ntmps56
  go_wp2_with fail
  go_loopg [4] l.length (fun m s4 wr => DRel w l m s4 wr)
  case atStart => exact ⟨0, 0, by omega, rfl, rfl, rfl, by decide, by simp⟩
  case round =>
    obtain ⟨k, n, hk, rfl, rfl, rfl, hn, hd⟩ := hrel
    clear hr
    by_cases hlt : k < l.length
    · obtain ⟨c, hc⟩ : ∃ c, l[k]? = some c := ⟨l[k], List.getElem?_eq_getElem hlt⟩
      have hnx := fun ty => run_next_any (P := Tryd.prog) w ⟨l.toArray⟩ k ty (by rw [sz_mk]; exact hlt)
      have hdr : l.drop k = c :: l.drop (k + 1) := by
        have h2 : l[k] = c := by rw [List.getElem?_eq_getElem hlt] at hc; injection hc
        rw [List.drop_eq_getElem_cons hlt, h2]
      rw [hdr, digN_cons] at hd
      by_cases hcd : isD c
      · rw [if_pos hcd] at hd
        rw [rune_dig l k c hc hcd] at hnx
        have hn2 := pow_bd hn (by omega)
        have hcd' := hcd
        unfold isD at hcd'
        dsimp only at hnx
        generalize hx : ((c.toNat : Nat) : Int) = x at hnx
        have hxb : 48 ≤ x ∧ x ≤ 57 := by omega
        have n1 : decide (x < 48) = false := decide_eq_false (by omega)
        have n2 : decide (x > 57) = false := decide_eq_false (by omega)
        have w1 : wrap64 ((n : Int) * 10) = (n : Int) * 10 := by unfold wrap64; omega
        have w2 : IntKind.i32.wrap (x - 48) = x - 48 := by rw [IntKind.wrap_i32]; omega
        have w3 : wrap64 (x - 48) = x - 48 := by unfold wrap64; omega
        have w4 : wrap64 ((n : Int) * 10 + (x - 48)) = (n : Int) * 10 + (x - 48) := by unfold wrap64; omega
        have HK := Lib.hid (And.intro hn (And.intro hd (And.intro hc hx)))
        have hwi : IntKind.i64.wrap ((n : Int) * 10) = (n : Int) * 10 := by rw [IntKind.wrap_i64]; omega
        clear hn hd hc hdr hcd
        go_wp2_with fail
        go_roundg (l.length - (k + 1))
        case measure => omega
        case rel =>
          refine ⟨k + 1, n * 10 + (c.toNat - 48), by omega, rfl, ?_, rfl, ?_, HK.out.2.1⟩
          · have := HK.out.2.2.2; congr 1; omega
          · have := HK.out.1; rw [Nat.pow_succ]; omega
      · rw [if_neg hcd] at hd
        have hb := rune_bad l k c hc hcd
        generalize ((Utf8.decode ⟨l.toArray⟩ k).1 : Int) = x at hnx hb
        have e0 : r0 = 0 := by rw [← HR.out.1, hd]; rfl
        have e1 : r1 = false := by rw [← HR.out.2, hd]; rfl
        subst e0 e1
        clear hd hdr hc hn
        have B : ∀ p, Below w.heap.size w (w.iter ⟨l.toArray⟩ p) := fun p => (Below.refl _ _).alloc (Nat.le_refl _) _
        rcases hb with hb | hb
        · go_wp2_with fail
          go_ret2
          exact ⟨rfl, B _⟩
        · have hb' : decide (x < 48) = false := decide_eq_false (by omega)
          go_wp2_with fail
          go_ret2
          exact ⟨rfl, B _⟩
    · have hke : k = l.length := by omega
      subst hke
      have hnx := fun ty => run_next_end (P := Tryd.prog) w ⟨l.toArray⟩ l.length ty (by rw [sz_mk]; omega)
      rw [List.drop_length] at hd
      have e0 : r0 = n := by rw [← HR.out.1, hd]; rfl
      subst e0
      have B : ∀ p, Below w.heap.size w (w.iter ⟨l.toArray⟩ p) := fun p => (Below.refl _ _).alloc (Nat.le_refl _) _
      have HD := Lib.hid hd
      clear hd hn
      cases l with
      | nil =>
        have e1 : r1 = false := by rw [← HR.out.2]; simp
        subst e1
        have hnx : ∀ ty, (Instr.next (.pointer (some ⟨w.heap.size, 0, none⟩)) true ty).run Tryd.prog (w.iter ⟨#[]⟩ 0) = .ok (.tuple #[.bool false]) (w.iter ⟨#[]⟩ 0) := hnx
        go_wp2_with fail
        go_ret2
        exact ⟨rfl, B _⟩
      | cons c l =>
        have e1 : r1 = true := by rw [← HR.out.2, HD.out]; rfl
        subst e1
        have hne2 : ¬ ByteArray.mk (c :: l).toArray = ByteArray.mk #[] := fun h => absurd (congrArg ByteArray.size h) (by rw [sz_mk]; simp [ByteArray.size])
        have hse : (ByteArray.mk (c :: l).toArray).toList.isEmpty = false := by rw [ByteArray.toList_mk]; rfl
        have hL18 : (((c :: l).length : Nat) : Int) ≤ 18 := by omega
        have hsz : (ByteArray.mk (c :: l).toArray).size = (c :: l).length := sz_mk _
        generalize hL : (c :: l).length = L at *
        generalize ByteArray.mk (c :: l).toArray = S at *
        go_wp2_with fail
        go_ret2
        exact ⟨rfl, B _⟩
end Go.Proofs.YtemellkcbbhlcaaDoor.Sp
