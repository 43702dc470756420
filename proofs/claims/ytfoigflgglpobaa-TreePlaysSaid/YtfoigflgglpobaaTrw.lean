/- All that a tree keeps between calls. No condition. -/
import Derived.Test.YtfoigflgglpobaaTrv
import Derived.Test.YtfoigflgglpobaaTrl
set_option linter.unusedVariables false
namespace Go.Proofs.Ytfoigflgglpobaa.Tr
open Go.RowKit Go.Proofs.Ytfoigflgglpobaa.Aid
/-- free places hang on each other by their left ones -/
def Chain (f : Nat → Nd) : Nat → List Nat → Prop
  | x, [] => x = 0
  | x, y :: l => x = y ∧ Chain f (f y).l l
structure Full (w : World) (g gl : Nat) (s : TS) (T : Sh) (fl : List Nat) : Prop where
  m : IsT w g gl s
  rb : RB s.f s.root T
  lt : ∀ z, z ∈ T.ino → z < s.sz
  lk : Lk s.f s.sz
  srt : Srt s.f T.ino
  tak : ∀ z, z < s.sz → ((s.f z).tak = true ↔ z ∈ T.ino)
  z0 : s.f 0 = zeroN
  free : Chain s.f s.free fl
  fpl : ∀ z, z ∈ fl → z ≠ 0 ∧ z < s.sz ∧ z ∉ T.ino
  fnd : fl.Nodup
  cnt : T.ino.length + fl.length + 1 = s.sz
  n : s.n = T.ino.length
  cap : s.cap = s.most + 1 ∧ s.most ≤ 4096
theorem hz_pos {z n : Nat} (h : z < n) : 0 < n := by omega
theorem Full.rd {w : World} {g gl : Nat} {s : TS} {T : Sh} {fl : List Nat} (h : Full w g gl s T fl) : Rd w g gl s T := ⟨h.m, h.rb.rep, h.rb.root, h.rb.nd, h.lt⟩
theorem Full.same {w w' : World} {g gl : Nat} {s : TS} {T : Sh} {fl : List Nat} (h : Full w g gl s T fl) (e : ∀ b, TF g gl b → w'.heap[b]? = w.heap[b]?) : Full w' g gl s T fl := ⟨h.m.same e, h.rb, h.lt, h.lk, h.srt, h.tak, h.z0, h.free, h.fpl, h.fnd, h.cnt, h.n, h.cap⟩
theorem Full.below {w w' : World} {g gl : Nat} {s : TS} {T : Sh} {fl : List Nat} (h : Full w g gl s T fl) (b : Below w.heap.size w w') : Full w' g gl s T fl := h.same fun i hi => b.block i (h.m.foot_lt hi)
theorem full_new {w : World} {g gl : Nat} {p : Int} (hp : 1 ≤ p ∧ p ≤ 4096) (h : IsT w g gl (newS p)) : Full w g gl (newS p) .nil [] := by
  refine ⟨h, ⟨trivial, rfl, trivial, rfl, ⟨0, rfl⟩, List.nodup_nil⟩, fun z hz => absurd hz (by simp [Sh.ino]), fun z hz => ?_, List.Pairwise.nil, fun z hz => ?_, rfl, rfl, fun z hz => absurd hz (by simp), List.nodup_nil, rfl, rfl, ?_⟩
  · exact ⟨hz_pos hz, hz_pos hz, hz_pos hz⟩
  · constructor
    · intro e; cases e
    · intro e; exact absurd e (by simp [Sh.ino])
  · unfold newS; dsimp only; omega
end Go.Proofs.Ytfoigflgglpobaa.Tr
