/- What Put leaves, in plain Lean: all that a tree keeps, with one place more. No program in sight; no condition. -/
import Derived.Test.YtfoigflgglpobaaTry
set_option linter.unusedVariables false
namespace Go.Proofs.Ytfoigflgglpobaa.Tr
open Go.RowKit Go.Proofs.Ytfoigflgglpobaa.Aid
/-- the new place's node -/
def newNd (kt ks tn : Int) : Nd := ⟨kt, ks, 0, 0, 0, true, true, tn⟩
/-- numbers with the new place filled -/
def TS.filled (s1 : TS) (x : Nat) (kt ks : Int) : TS := { s1 with f := repN s1.f x (newNd kt ks ((s1.f x).turn + 1)), n := s1.n + 1 }
/-- what Put does to a tree's numbers -/
structure PutRes (s : TS) (T : Sh) (kt ks : Int) (s' : TS) (T' : Sh) (x : Nat) (pre post : List Nat) : Prop where
  ino : T.ino = pre ++ post
  ino' : T'.ino = pre ++ x :: post
  pre : ∀ z, z ∈ pre → kle s.f z kt ks
  post : ∀ z, z ∈ post → ¬ kle s.f z kt ks
  key : (s'.f x).t = kt ∧ (s'.f x).s = ks
  old : ∀ z, z < s.sz → z ≠ x → (s'.f z).t = (s.f z).t ∧ (s'.f z).s = (s.f z).s ∧ (s'.f z).turn = (s.f z).turn
  turn : (s'.f x).turn = (if x < s.sz then (s.f x).turn else 0) + 1
  new : ∀ z, z < s'.sz → z < s.sz ∨ z = x
  sz : s.sz ≤ s'.sz
  x0 : x ≠ 0
  lt : x < s'.sz
  most : s'.most = s.most
section
variable {w W : World} {g gl : Nat} {s s1 : TS} {T : Sh} {fl fl1 : List Nat} {x : Nat} {kt ks : Int}
theorem filled_ne (z : Nat) (hz : z ≠ x) : (s1.filled x kt ks).f z = s1.f z := repN_ne hz
theorem filled_x : (s1.filled x kt ks).f x = newNd kt ks ((s1.f x).turn + 1) := repN_same _ _ _
theorem put_rb (h : Full w g gl s T fl) (p : Placed s T fl s1 x fl1) : RB (s1.filled x kt ks).f (s1.filled x kt ks).root T := by
  have hs : ∀ z, z ∈ T.ino → (s1.filled x kt ks).f z = s.f z := fun z hz => (filled_ne z (fun e : z = x => p.nT (by rw [← e]; exact hz))).trans (p.f z (h.lt z hz))
  exact ⟨h.rb.rep.frame _ fun z hz => same_eq (hs z hz), (show (s1.filled x kt ks).root = s.root from p.same.1).trans h.rb.root, h.rb.nrr, h.rb.red, h.rb.bal, h.rb.nd⟩
theorem put_old (h : Full w g gl s T fl) (p : Placed s T fl s1 x fl1) {z : Nat} (hz : z ∈ T.ino) : (s1.filled x kt ks).f z = s.f z := (filled_ne z (fun e : z = x => p.nT (by rw [← e]; exact hz))).trans (p.f z (h.lt z hz))
theorem put_srt (h : Full w g gl s T fl) (p : Placed s T fl s1 x fl1) : Srt (s1.filled x kt ks).f T.ino := srt_keep h.srt fun z hz => by rw [put_old h p hz]; exact ⟨rfl, rfl⟩
theorem filled_lk (p : Placed s T fl s1 x fl1) : Lk (s1.filled x kt ks).f (s1.filled x kt ks).sz := fun z hz => by
  by_cases e : z = x
  · subst e; rw [filled_x]
    have := p.lt
    exact ⟨hz_pos this, hz_pos this, hz_pos this⟩
  · rw [filled_ne z e]; exact p.lk z hz
theorem up_mem {f : Nat → Nd} {root : Nat} {T : Sh} {b : Nat} {k : Cx} (h : Desc f root T kt ks b k .nil) (hu : k.up ≠ 0) : k.up ∈ T.ino := by
  rw [← h.pl, (plug_perm k .nil).mem_iff]
  exact List.mem_append_right _ (RepC.up_mem h.rc hu)
theorem putF_ne {f : Nat → Nd} {root : Nat} {k : Cx} {z : Nat} (hx : z ≠ x) (hu : k.up = 0 ∨ z ≠ k.up) (hk : ∀ c y sd sib kk, k = .fr c y sd sib kk → y ≠ 0) : (putF f root k x).1 z = f z := by
  cases k with
  | top => exact setU_ne hx
  | fr c y sd sib kk =>
    have hz : z ≠ y := by
      rcases hu with hu | hu
      · exact absurd hu (hk _ _ _ _ _ rfl)
      · exact hu
    show setCh (setU f x y) y sd x z = f z
    rw [setCh_ne hz, setU_ne hx]
theorem fr_ne0 {f : Nat → Nd} {root h0 : Nat} {k : Cx} (h : RepC f root k h0) : ∀ c y sd sib kk, k = .fr c y sd sib kk → y ≠ 0 := by
  rintro c y sd sib kk rfl
  exact h.1
theorem putF_eq {f : Nat → Nd} {root : Nat} {T : Sh} {b : Nat} {k : Cx} (h : Desc f root T kt ks b k .nil) {z : Nat} (hz : z ∉ T.ino) (hx : z ≠ x) : (putF f root k x).1 z = f z := by
  refine putF_ne hx ?_ (fr_ne0 h.rc)
  by_cases hu : k.up = 0
  · exact .inl hu
  · exact .inr fun e => hz (e ▸ up_mem h hu)
/-- mending's state, behind the hanging -/
theorem put_mdst (h : Full w g gl s T fl) (p : Placed s T fl s1 x fl1) {b : Nat} {k : Cx} (d : Desc (s1.filled x kt ks).f (s1.filled x kt ks).root T kt ks b k .nil) :
    MdSt ((s1.filled x kt ks).with (putF (s1.filled x kt ks).f (s1.filled x kt ks).root k x)) (k.pre ++ x :: k.post) (putF (s1.filled x kt ks).f (s1.filled x kt ks).root k x) k x (fun _ => .nil) ∧ T.ino = k.pre ++ k.post := by
  obtain ⟨m, e1, e2⟩ := put_mend d h.rb.nd p.nT p.x0 (by rw [filled_x]; rfl) (by rw [filled_x]; rfl) (by rw [filled_x]; rfl)
  have hmem : ∀ z, z ∈ k.pre ++ x :: k.post ↔ z = x ∨ z ∈ T.ino := fun z => by
    rw [e2]; simp only [List.mem_append, List.mem_cons]
    constructor
    · rintro (a | a | a)
      · exact .inr (.inl a)
      · exact .inl a
      · exact .inr (.inr a)
    · rintro (a | a | a)
      · exact .inr (.inl a)
      · exact .inl a
      · exact .inr (.inr a)
  have z0 : 0 ∉ k.pre ++ x :: k.post := fun e => by
    rcases (hmem 0).1 e with e | e
    · exact p.x0 e.symm
    · exact (h.rd.ne0 e) rfl
  have hup : k.up < s1.sz := by
    by_cases e : k.up = 0
    · rw [e]; exact hz_pos p.lt
    · exact Nat.lt_of_lt_of_le (h.lt _ (up_mem d e)) p.sz
  have hroot : s1.root < s1.sz := by
    rw [p.same.1, h.rb.root]
    by_cases e : T.root = 0
    · rw [e]; exact hz_pos p.lt
    · exact Nat.lt_of_lt_of_le (h.lt _ (root_mem e)) p.sz
  refine ⟨⟨⟨z0, fun z hz => ?_, Keep.refl _, fun _ _ => rfl, ?_, ?_⟩, ?_, ⟨0, b, m⟩, e1⟩, e2⟩
  · show z < s1.sz
    rcases (hmem z).1 hz with rfl | e
    · exact p.lt
    · exact Nat.lt_of_lt_of_le (h.lt _ e) p.sz
  · show Lk (putF _ _ k x).1 s1.sz
    have l1 : Lk (s1.filled x kt ks).f s1.sz := filled_lk p
    cases k with
    | top => exact l1.setU x (hz_pos p.lt)
    | fr c y sd sib kk => exact (l1.setU x hup).setCh y hup sd p.lt
  · show (putF _ _ k x).2 < s1.sz
    cases k with
    | top => exact p.lt
    | fr c y sd sib kk => exact hroot
  · show ((putF _ _ k x).1 0).red = false
    rw [putF_eq d (fun e => h.rd.ne0 e rfl) (Ne.symm p.x0), filled_ne 0 (Ne.symm p.x0), p.f 0 (hz_pos (Nat.lt_of_lt_of_le h.m.sz.1 (Nat.le_refl _))), h.z0]
    rfl
/-- behind the mending: all that a tree keeps -/
theorem put_full (h : Full w g gl s T fl) (p : Placed s T fl s1 x fl1) {b : Nat} {k : Cx} (d : Desc (s1.filled x kt ks).f (s1.filled x kt ks).root T kt ks b k .nil) {q : (Nat → Nd) × Nat}
    (hm : IsT W g gl (((s1.filled x kt ks).with (putF (s1.filled x kt ks).f (s1.filled x kt ks).root k x)).with q)) (e : MdEnd ((s1.filled x kt ks).with (putF (s1.filled x kt ks).f (s1.filled x kt ks).root k x)) (k.pre ++ x :: k.post) q) :
    ∃ T', Full W g gl (((s1.filled x kt ks).with (putF (s1.filled x kt ks).f (s1.filled x kt ks).root k x)).with q) T' fl1 ∧ PutRes s T kt ks (((s1.filled x kt ks).with (putF (s1.filled x kt ks).f (s1.filled x kt ks).root k x)).with q) T' x k.pre k.post := by
  obtain ⟨m, e2⟩ := put_mdst h p d
  obtain ⟨st, T', rb, hT'⟩ := e
  have keep : Keep (s1.filled x kt ks).f q.1 := (keep_put _ _ _ _).trans st.keep
  have hmem : ∀ z, z ∈ T'.ino ↔ z = x ∨ z ∈ T.ino := fun z => by
    rw [hT', e2]; simp only [List.mem_append, List.mem_cons]
    constructor
    · rintro (a | a | a)
      · exact .inr (.inl a)
      · exact .inl a
      · exact .inr (.inr a)
    · rintro (a | a | a)
      · exact .inr (.inl a)
      · exact .inl a
      · exact .inr (.inr a)
  have hold : ∀ z, z < s.sz → z ≠ x → (q.1 z).t = (s.f z).t ∧ (q.1 z).s = (s.f z).s ∧ (q.1 z).tak = (s.f z).tak ∧ (q.1 z).turn = (s.f z).turn := fun z hz hx => by
    have := keep z
    rw [filled_ne z hx, p.f z hz] at this
    exact this
  have hx : (q.1 x).t = kt ∧ (q.1 x).s = ks ∧ (q.1 x).tak = true ∧ (q.1 x).turn = (s1.f x).turn + 1 := by
    have := keep x
    rw [filled_x] at this
    exact this
  have hout : ∀ z, z ∉ T.ino → z ≠ x → q.1 z = s1.f z := fun z hz hx => by
    rw [st.away z (by rw [← hT']; exact fun e => ((hmem z).1 e).elim hx hz)]
    show (putF _ _ k x).1 z = _
    rw [putF_eq d hz hx, filled_ne z hx]
  have hpre : ∀ z, z ∈ k.pre → kle s.f z kt ks := fun z hz => by
    have h1 := d.pre z hz
    unfold kle at h1 ⊢
    rwa [put_old h p (show z ∈ T.ino by rw [e2]; simp [hz])] at h1
  have hpost : ∀ z, z ∈ k.post → ¬ kle s.f z kt ks := fun z hz => by
    have h1 := d.post z hz
    unfold kle at h1 ⊢
    rwa [put_old h p (show z ∈ T.ino by rw [e2]; simp [hz])] at h1
  have hlt : ∀ z, z ∈ T'.ino → z < s1.sz := fun z hz => by
    rcases (hmem z).1 hz with rfl | e
    · exact p.lt
    · exact Nat.lt_of_lt_of_le (h.lt _ e) p.sz
  refine ⟨T', ⟨hm, rb, hlt, st.lk, ?_, fun z hz => ?_, ?_, ?_, fun z hz => ?_, p.fnd, ?_, ?_, ?_⟩, ⟨e2, hT', hpre, hpost, ⟨hx.1, hx.2.1⟩, fun z hz hzx => ⟨(hold z hz hzx).1, (hold z hz hzx).2.1, (hold z hz hzx).2.2.2⟩, ?_, p.new, p.sz, p.x0, p.lt, p.same.2.2.1⟩⟩
  · rw [hT']
    have hk : ∀ z, z ∈ T.ino → z ≠ x := fun z hz e => p.nT (e ▸ hz)
    have h1 : Srt q.1 (k.pre ++ k.post) := by
      rw [← e2]
      exact srt_keep h.srt fun z hz => ⟨(hold z (h.lt z hz) (hk z hz)).1, (hold z (h.lt z hz) (hk z hz)).2.1⟩
    refine srt_put h1 (fun z hz => ?_) (fun z hz => ?_)
    · have hz' : z ∈ T.ino := by rw [e2]; simp [hz]
      have := hpre z hz
      unfold kle at this ⊢
      show (q.1 z).t < (q.1 x).t ∨ (q.1 z).t = (q.1 x).t ∧ (q.1 z).s ≤ (q.1 x).s
      rw [(hold z (h.lt z hz') (hk z hz')).1, (hold z (h.lt z hz') (hk z hz')).2.1, hx.1, hx.2.1]
      exact this
    · have hz' : z ∈ T.ino := by rw [e2]; simp [hz]
      have := hpost z hz
      unfold kle at this ⊢
      show ¬ ((q.1 z).t < (q.1 x).t ∨ (q.1 z).t = (q.1 x).t ∧ (q.1 z).s ≤ (q.1 x).s)
      rw [(hold z (h.lt z hz') (hk z hz')).1, (hold z (h.lt z hz') (hk z hz')).2.1, hx.1, hx.2.1]
      exact this
  · show (q.1 z).tak = true ↔ _
    rw [hmem]
    by_cases ex : z = x
    · subst ex; rw [hx.2.2.1]; simp
    · rcases p.new z hz with hzs | hzs
      · rw [(hold z hzs ex).2.2.1, h.tak z hzs]
        exact ⟨.inr, fun a => a.resolve_left ex⟩
      · exact absurd hzs ex
  · show q.1 0 = zeroN
    rw [hout 0 (fun e => h.rd.ne0 e rfl) (Ne.symm p.x0), p.f 0 (Nat.lt_of_lt_of_le h.m.sz.1 (Nat.le_refl _)), h.z0]
  · show Chain q.1 s1.free fl1
    refine chain_keep _ _ p.ch fun z hz => ?_
    have h1 := h.fpl z (p.fl z hz)
    rw [hout z h1.2.2 (fun e => p.nF (e ▸ hz))]
  · have h1 := h.fpl z (p.fl z hz)
    exact ⟨h1.1, Nat.lt_of_lt_of_le h1.2.1 p.sz, fun e => ((hmem z).1 e).elim (fun e => p.nF (e ▸ hz)) h1.2.2⟩
  · have := p.cnt
    rw [hT']; rw [e2] at this
    simp only [List.length_append, List.length_cons] at this ⊢
    show _ = s1.sz
    omega
  · have := h.n
    rw [hT']; rw [e2] at this
    simp only [List.length_append, List.length_cons] at this ⊢
    show s1.n + 1 = _
    rw [p.same.2.1]; omega
  · show s1.cap = s1.most + 1 ∧ s1.most ≤ 4096
    rw [p.same.2.2.1, p.same.2.2.2]; exact h.cap
  · show (q.1 x).turn = _
    rw [hx.2.2.2, p.fx]
end
end Go.Proofs.Ytfoigflgglpobaa.Tr
