/- The contracts of spec's reference: a number read. No condition but on sizes. -/
import Derived.Test.YtemellkcbbhlcaaDoorSe
set_option linter.unusedVariables false
set_option linter.unusedSimpArgs false
namespace Go.Proofs.YtemellkcbbhlcaaDoor.Sp
open Go.RowKit Go.Proofs.YtemellkcbbhlcaaDoor.Aid Go.Proofs.YtemellkcbbhlcaaDoor.Kt Go.Proofs.YtemellkcbbhlcaaDoor.Tr Go.Proofs.YtemellkcbbhlcaaDoor.Str
def numR (l : List UInt8) : Int := if l = [] ∨ 18 < l.length then -1 else match digN l 0 with
  | none => -1
  | some v => v
def NRel (l : List UInt8) (m : Nat) (s3 s4 : Value) : Prop :=
  ∃ k n : Nat, k ≤ l.length ∧ m = l.length - k ∧ s3 = .int .i64 n ∧ s4 = .int .i64 k ∧ n < 10 ^ k ∧ digN l 0 = digN (l.drop k) n
set_option maxHeartbeats 1000000 in
set_option maxRecDepth 100000 in
theorem rnumber_any (l : List UInt8) (hl : l.length ≤ 9223372036854775807) (w : World) : Calls Tryd.prog 57 #[.string ⟨l.toArray⟩] w fun e w' => e = .returned (.int .i64 (numR l)) ∧ w = w' := by
  have hsz : (ByteArray.mk l.toArray).size = l.length := sz_mk l
  have htl : (ByteArray.mk l.toArray).toList = l := ByteArray.toList_mk l
  by_cases h0 : l = []
  · subst h0
    have e : numR [] = -1 := by unfold numR; rw [if_pos (.inl rfl)]
    rw [e]
    go_enter Tryd.func57, Tryd.ntmps57
    go_wp2_with fail
    go_ret
    exact ⟨rfl, rfl⟩
  · have hem : (ByteArray.mk l.toArray).toList.isEmpty = false := by
      rw [htl]
      cases l with
      | nil => exact absurd rfl h0
      | cons => rfl
    by_cases h1 : 18 < l.length
    · have e : numR l = -1 := by unfold numR; rw [if_pos (.inr h1)]
      rw [e]
      have d1 : decide (((l.length : Nat) : Int) > 18) = true := decide_eq_true (by omega)
      clear e htl
      generalize ByteArray.mk l.toArray = S at *
      generalize l.length = L at *
      go_enter Tryd.func57, Tryd.ntmps57
      go_wp2_with fail
      go_ret
      exact ⟨rfl, rfl⟩
    · have e : numR l = match digN l 0 with
        | none => -1
        | some v => v := by unfold numR; rw [if_neg (by rw [not_or]; exact ⟨h0, h1⟩)]
      obtain ⟨R, hR⟩ : ∃ R, numR l = R := ⟨_, rfl⟩
      rw [hR]
      rw [hR] at e
      have HE := Lib.hid e
      have d1 : decide (((l.length : Nat) : Int) > 18) = false := decide_eq_false (by omega)
      have HG := Lib.hid (fun k h c hc => get_mk l k h c hc)
      clear e htl hR h0
      obtain ⟨S, hS⟩ : ∃ S, ByteArray.mk l.toArray = S := ⟨_, rfl⟩
      rw [hS] at hsz hem HG ⊢
      obtain ⟨L, hL⟩ : ∃ L, l.length = L := ⟨_, rfl⟩
      have HL := Lib.hid hL
      rw [hL] at hsz d1 h1
      clear hS hl hL
      have S0 := Lib.hid (show NRel l L (.int .i64 (0 : Nat)) (.int .i64 (0 : Nat)) from ⟨0, 0, by omega, by rw [HL.out]; rfl, rfl, rfl, by decide, by simp⟩)
      go_enter Tryd.func57, Tryd.ntmps57
      go_wp2_with fail
      go_loopg [3, 4] L (fun m s3 s4 wr => NRel l m s3 s4 ∧ wr = w)
      case atStart => exact ⟨S0.out, rfl⟩
      case round =>
        obtain ⟨⟨k, n, hk, rfl, rfl, rfl, hn, hd⟩, rfl⟩ := hrel
        have hll := HL.out
        rw [hll] at hk
        by_cases hlt : k < L
        · obtain ⟨c, hc⟩ : ∃ c, l[k]? = some c := ⟨l[k], List.getElem?_eq_getElem (by omega)⟩
          have hgi : ∀ h, S[k]'h = c := fun h => HG.out k h c hc
          have hdr : l.drop k = c :: l.drop (k + 1) := by
            have h2 : l[k]'(by omega) = c := by rw [List.getElem?_eq_getElem (by omega)] at hc; injection hc
            rw [List.drop_eq_getElem_cons (by omega), h2]
          rw [hdr, digN_cons] at hd
          by_cases hcd : isD c
          · rw [if_pos hcd] at hd
            have hn2 := pow_bd hn (by omega)
            have hcd' := hcd
            unfold isD at hcd'
            generalize hx : ((c.toNat : Nat) : Int) = x at *
            have hxb : 48 ≤ x ∧ x ≤ 57 := by omega
            have n1 : decide (x < 48) = false := decide_eq_false (by omega)
            have n2 : decide (x > 57) = false := decide_eq_false (by omega)
            have w1 : wrap64 ((n : Int) * 10) = (n : Int) * 10 := by unfold wrap64; omega
            have w3 : wrap64 x = x := by unfold wrap64; omega
            have w4 : wrap64 ((n : Int) * 10 + x) = (n : Int) * 10 + x := by unfold wrap64; omega
            have w5 : wrap64 ((n : Int) * 10 + x - 48) = (n : Int) * 10 + x - 48 := by unfold wrap64; omega
            have HK := Lib.hid (And.intro hn (And.intro hd (And.intro hc hx)))
            have hlt64 : (k : Int) < (L : Int) := by omega
            clear hn hd hc hdr hcd S0
            go_wp2_with fail
            go_roundg (L - (k + 1))
            case measure => omega
            case rel =>
              refine ⟨⟨k + 1, n * 10 + (c.toNat - 48), by omega, by omega, ?_, by go_num, ?_, HK.out.2.1⟩, rfl⟩
              · have := HK.out.2.2.2; congr 1; omega
              · have := HK.out.1; rw [Nat.pow_succ]; omega
          · rw [if_neg hcd] at hd
            have eR : R = -1 := by rw [HE.out, hd]
            subst eR
            have hb : c.toNat < 48 ∨ 57 < c.toNat := by unfold isD at hcd; omega
            have hlt64 : (k : Int) < (L : Int) := by omega
            clear hn hd hc hdr hcd S0
            generalize hx : ((c.toNat : Nat) : Int) = x at *
            rcases hb with hb | hb
            · have hb' : x < 48 := by omega
              go_wp2_with fail
              go_ret
              exact ⟨rfl, rfl⟩
            · have hb' : decide (x < 48) = false := decide_eq_false (by omega)
              have hb2 : x > 57 := by omega
              go_wp2_with fail
              go_ret
              exact ⟨rfl, rfl⟩
        · have hke : k = L := by omega
          subst hke
          rw [← hll, List.drop_length, digN_nil] at hd
          have eR : R = n := by rw [HE.out, hd]
          subst eR
          clear hn hd S0
          go_wp2_with fail
          go_ret
          exact ⟨rfl, rfl⟩
end Go.Proofs.YtemellkcbbhlcaaDoor.Sp
