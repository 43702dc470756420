/- A free place is taken, or a new one, or there is none. No condition but that memory holds a tree. -/
import Derived.Test.YtfoigflgglpobaaTrx
set_option linter.unusedVariables false
set_option linter.unusedSimpArgs false
namespace Go.Proofs.Ytfoigflgglpobaa.Tr
open Go.RowKit Go.Proofs.Ytfoigflgglpobaa.Aid
structure Placed (s : TS) (T : Sh) (fl : List Nat) (s1 : TS) (x : Nat) (fl1 : List Nat) : Prop where
  x0 : x ≠ 0
  lt : x < s1.sz
  nT : x ∉ T.ino
  nF : x ∉ fl1
  f : ∀ z, z < s.sz → s1.f z = s.f z
  sz : s.sz ≤ s1.sz
  new : ∀ z, z < s1.sz → z < s.sz ∨ z = x
  fx : (s1.f x).turn = if x < s.sz then (s.f x).turn else 0
  lk : Lk s1.f s1.sz
  ch : Chain s1.f s1.free fl1
  fl : ∀ z, z ∈ fl1 → z ∈ fl
  fnd : fl1.Nodup
  cnt : T.ino.length + fl1.length + 2 = s1.sz
  same : s1.root = s.root ∧ s1.n = s.n ∧ s1.most = s.most ∧ s1.cap = s.cap
theorem chain_keep {f f' : Nat → Nd} : ∀ (l : List Nat) (x : Nat), Chain f x l → (∀ z, z ∈ l → (f' z).l = (f z).l) → Chain f' x l := by
  intro l
  induction l with
  | nil => intro x h _; exact h
  | cons y l ih =>
    intro x h k
    exact ⟨h.1, ih _ (by rw [k y (by simp)]; exact h.2) fun z hz => k z (by simp [hz])⟩
theorem placed_free {w : World} {g gl : Nat} {s : TS} {T : Sh} {x : Nat} {fl : List Nat} (h : Full w g gl s T (x :: fl)) : s.free = x ∧ Placed s T (x :: fl) { s with free := (s.f x).l } x fl := by
  obtain ⟨a, b, c⟩ := h.fpl x (by simp)
  have hn := List.nodup_cons.1 h.fnd
  refine ⟨h.free.1, a, b, c, hn.1, fun _ _ => rfl, Nat.le_refl _, fun z hz => .inl hz, by rw [if_pos b], h.lk, h.free.2, fun z hz => by simp [hz], hn.2, ?_, rfl, rfl, rfl, rfl⟩
  have := h.cnt
  simp only [List.length_cons] at this
  show _ = s.sz
  omega
theorem placed_grow {w : World} {g gl : Nat} {s : TS} {T : Sh} (h : Full w g gl s T []) : s.free = 0 ∧ Placed s T [] s.more s.sz [] := by
  refine ⟨h.free, ?_, ?_, fun e => absurd (h.lt _ e) (Nat.lt_irrefl _), by simp, fun z hz => ?_, ?_, fun z hz => ?_, ?_, fun z hz => ?_, h.free, fun z hz => hz, List.nodup_nil, ?_, rfl, rfl, rfl, rfl⟩
  · have := h.m.sz.1; omega
  · show s.sz < s.sz + 1; omega
  · show (if z = s.sz then zeroN else s.f z) = s.f z
    rw [if_neg (by omega)]
  · show s.sz ≤ s.sz + 1; omega
  · have : z < s.sz + 1 := hz
    omega
  · rw [if_neg (Nat.lt_irrefl _)]
    show (if s.sz = s.sz then zeroN else s.f s.sz).turn = 0
    rw [if_pos rfl]; rfl
  · have hz' : z < s.sz + 1 := hz
    have h1 := h.m.sz.1
    show (if z = s.sz then zeroN else s.f z).l < s.sz + 1 ∧ (if z = s.sz then zeroN else s.f z).r < s.sz + 1 ∧ (if z = s.sz then zeroN else s.f z).u < s.sz + 1
    by_cases e : z = s.sz
    · rw [if_pos e]
      exact ⟨Nat.succ_pos _, Nat.succ_pos _, Nat.succ_pos _⟩
    · rw [if_neg e]
      have := h.lk z (by omega)
      omega
  · have := h.cnt
    simp only [List.length_nil] at this ⊢
    show _ = s.sz + 1
    omega
/-- there is a place -/
theorem place_yes (g gl : Nat) (s : TS) (T : Sh) (fl : List Nat) (w : World) (h : Full w g gl s T fl) (hn : T.ino.length < s.most) :
    Calls Try.prog 51 #[.pointer (some ⟨g, 0, none⟩)] w fun e w' => ∃ x s1 fl1, e = .returned (.int .i64 ((x : Nat) : Int)) ∧ IsT w' g gl s1 ∧ Only (TF g gl) w w' ∧ Placed s T fl s1 x fl1 := by
  cases fl with
  | nil =>
    obtain ⟨a, b⟩ := placed_grow h
    have hc := h.cnt
    simp only [List.length_nil] at hc
    have hcap := h.cap
    refine (place_grow g gl s w h.m a (by omega) (by omega)).mono ?_
    rintro e w' ⟨h1, h2, h3⟩
    exact ⟨_, _, _, h1, h2, h3, b⟩
  | cons x fl =>
    obtain ⟨a, b⟩ := placed_free h
    refine (place_free g gl s w h.m x a b.x0 b.lt).mono ?_
    rintro e w' ⟨h1, h2, h3⟩
    exact ⟨_, _, _, h1, h2, h3, b⟩
/-- there is none -/
theorem place_no (g gl : Nat) (s : TS) (T : Sh) (fl : List Nat) (w : World) (h : Full w g gl s T fl) (hn : T.ino.length = s.most) :
    Calls Try.prog 51 #[.pointer (some ⟨g, 0, none⟩)] w fun e w' => e = .returned (.int .i64 0) ∧ IsT w' g gl s ∧ Only (TF g gl) w w' := by
  have hc := h.cnt
  have hcap := h.cap
  have hs := h.m.sz
  cases fl with
  | nil =>
    simp only [List.length_nil] at hc
    exact place_full g gl s w h.m h.free (by omega)
  | cons x fl =>
    simp only [List.length_cons] at hc
    omega
end Go.Proofs.Ytfoigflgglpobaa.Tr
