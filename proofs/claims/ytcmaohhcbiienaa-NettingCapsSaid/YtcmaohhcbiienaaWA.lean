import Derived.Test.YtcmaohhcbiienaaXS
/-! WA: the head of a loop: what is kept, with rights named anew. -/
set_option linter.unusedVariables false
namespace Go.Proofs.Ytcmaohhcbiienaa.X
open Go.RowKit

section
variable {E : Env} {B : Blk} {base lim nt nx0 m : Nat} {g g' g0 : Gh} {w w' w0 : World} {ob ob0 F : ObF} {rt rt0 : RtF} {nx : Nat} {os : List Nat}


/-- What is left out of the list is left alone. -/
def LikeF (ob F : ObF) (os : List Nat) : Prop := ∀ o ∈ os, ∀ x, ob o = some x → ∃ y, F o = some y ∧ x.like y

theorem okL_at : ∀ {cs : List CV} {d : Bool}, okL os d cs = true → ∀ {j : Nat} {x : CV}, cs[j]? = some x → okC os d x = true
  | [], _, _, j, x, h => by simp at h
  | c :: cs, d, hk, j, x, h => by
    simp only [okL, Bool.and_eq_true] at hk
    cases j with
    | zero => simp at h; subst h; exact hk.1
    | succ j => exact okL_at hk.2 (by simpa using h)

/-- A cell within a function value: it bears no right. -/
theorem relC_move (hF : LikeF ob F os) {rt' : RtF} {nx' : Nat} {γ : Nat → Value × Nat} {β : Nat → Option Nat} {v : Value} {c : CV} (h : RelC g w ob rt nx v c) :
    okC os true c = true → RelC ⟨g.I, g.φ, γ, β⟩ w F rt' nx' v c := by
  induction h with
  | p k => exact fun _ => .p k
  | p0 k => intro h; simp [okC] at h
  | pn h0 h1 k hg => intro h; simp [okC] at h
  | pt k =>
    intro h
    obtain ⟨y, hy, l⟩ := hF _ (by simpa [okC] using h) _ k
    cases y with
    | var cs => exact .pt hy
    | arr => exact l.elim
    | mp => exact l.elim
  | mt k =>
    intro h
    obtain ⟨y, hy, l⟩ := hF _ (by simpa [okC] using h) _ k
    cases y with
    | var cs => exact l.elim
    | arr => exact l.elim
    | mp => exact .mt hy
  | pr k =>
    intro h
    obtain ⟨y, hy, l⟩ := hF _ (by simpa [okC] using h) _ k
    cases y with
    | var cs => exact l.elim
    | mp => exact l.elim
    | arr fz z rows => obtain ⟨rfl, _⟩ := l; exact .pr hy
  | vw k h1 h2 h3 h4 h5 h6 =>
    intro h
    obtain ⟨y, hy, l⟩ := hF _ (by simpa [okC] using h) _ k
    cases y with
    | var cs => exact l.elim
    | mp => exact l.elim
    | arr fz z rows => obtain ⟨rfl, hl⟩ := l; exact .vw hy (by omega) h2 h3 h4 h5 h6
  | cl hl _ ih =>
    intro h
    simp only [okC] at h
    exact .cl hl fun j x v hx hv => ih j x v hx hv (okL_at h hx)

/-- Rights named anew, up to k. -/
structure Lab (g : Gh) (w : World) (ob : ObF) (B : Blk) (rt : RtF) (nx nx0 k : Nat) (seen : List Nat) (γ : Nat → Value × Nat) (β : Nat → Option Nat) : Prop where
  low : ∀ n, n < nx0 → γ n = g.γ n ∧ β n = g.β n
  own : ∀ n, nx0 ≤ n → n < k → OwnR ⟨g.I, g.φ, γ, β⟩ w ob B n
  apart : ∀ n m b, nx0 ≤ n → n < k → nx0 ≤ m → m < k → β n = some b → β m = some b → n = m
  src : ∀ n, nx0 ≤ n → n < k → ∀ b, β n = some b → ∃ q ∈ seen, q ≠ 0 ∧ nx0 ≤ q ∧ q < nx ∧ rt q = true ∧ g.β q = some b

theorem Lab.step {G : Nat → Option (List PV)} (hm : RelM G g w ob rt nx B) {k : Nat} {seen seen' : List Nat} {γ : Nat → Value × Nat} {β : Nat → Option Nat} (h : Lab g w ob B rt nx nx0 k seen γ β) (hk : nx0 ≤ k)
    (hs : ∀ q ∈ seen, q ∈ seen') (c : Value × Nat) (d : Option Nat) (ho : OwnR ⟨g.I, g.φ, upd γ k c, upd β k d⟩ w ob B k)
    (hd : ∀ b, d = some b → ∃ q ∈ seen', q ≠ 0 ∧ nx0 ≤ q ∧ q < nx ∧ rt q = true ∧ g.β q = some b ∧ q ∉ seen) : Lab g w ob B rt nx nx0 (k + 1) seen' (upd γ k c) (upd β k d) := by
  have hne : ∀ n, n < k → n ≠ k := fun n hn => by omega
  refine ⟨fun n hn => ?_, fun n h1 h2 => ?_, fun n m' b h1 h2 h3 h4 h5 h6 => ?_, fun n h1 h2 b hb => ?_⟩
  · rw [upd_ne _ _ (by omega), upd_ne _ _ (by omega)]; exact h.low n hn
  · by_cases e : n = k
    · subst e; exact ho
    · exact (h.own n h1 (by omega)).ext (upd_ne _ _ e) (upd_ne _ _ e) fun b hb => ⟨rfl, fun _ q => q, fun o x hoo hs => by
        cases h.own n h1 (by omega) with
        | full A k z q1 q2 => rw [q2] at hb; cases hb
        | own b' len cap z ee cur q1 q2 q3 q4 q5 q6 q7 q8 q9 => rw [q2] at hb; cases hb; exact q9 o x hoo hs⟩
  · by_cases e : n = k <;> by_cases e' : m' = k
    · omega
    · subst e
      rw [upd_same] at h5
      rw [upd_ne _ _ e'] at h6
      obtain ⟨q, hq, q0, q1, q2, q3, q4, q5⟩ := hd b h5
      obtain ⟨r, hr, r0, r1, r2, r3, r4⟩ := h.src m' h3 (by omega) b h6
      have := hm.apart q r b q0 r0 q2 r2 q3 r3 q4 r4
      subst this
      exact absurd hr q5
    · subst e'
      rw [upd_same] at h6
      rw [upd_ne _ _ e] at h5
      obtain ⟨q, hq, q0, q1, q2, q3, q4, q5⟩ := hd b h6
      obtain ⟨r, hr, r0, r1, r2, r3, r4⟩ := h.src n h1 (by omega) b h5
      have := hm.apart q r b q0 r0 q2 r2 q3 r3 q4 r4
      subst this
      exact absurd hr q5
    · rw [upd_ne _ _ e] at h5
      rw [upd_ne _ _ e'] at h6
      exact h.apart n m' b h1 (by omega) h3 (by omega) h5 h6
  · by_cases e : n = k
    · subst e
      rw [upd_same] at hb
      obtain ⟨q, hq, q0, q1, q2, q3, q4, q5⟩ := hd b hb
      exact ⟨q, hq, q0, q1, q2, q3, q4⟩
    · rw [upd_ne _ _ e] at hb
      obtain ⟨q, hq, r⟩ := h.src n h1 (by omega) b hb
      exact ⟨q, hs q hq, r⟩

/-- The name k is not used. -/
theorem Lab.skip {G : Nat → Option (List PV)} (hm : RelM G g w ob rt nx B) {k : Nat} {seen : List Nat} {γ : Nat → Value × Nat} {β : Nat → Option Nat} (h : Lab g w ob B rt nx nx0 k seen γ β) (hk : nx0 ≤ k) :
    Lab g w ob B rt nx nx0 (k + 1) seen (upd γ k (.slice none 0 0, 0)) (upd β k none) :=
  h.step hm hk (fun _ q => q) _ _ (.full none 0 0 (upd_same ..) (upd_same ..)) fun b hb => by cases hb

/-- A cell, named anew. -/
theorem relC_ok {G : Nat → Option (List PV)} (hm : RelM G g w ob rt nx B) (h0 : 0 < nx0) (hnx : nx0 ≤ nx) {k : Nat} {seen : List Nat} {γ : Nat → Value × Nat} {β : Nat → Option Nat} (h : Lab g w ob B rt nx nx0 k seen γ β) (hk : nx0 ≤ k)
    {v : Value} {c : CV} (hr : RelC g w ob rt nx v c) (ho : okC os false c = true) :
    ∃ γ' β', (∀ n, n < k → γ' n = γ n ∧ β' n = β n) ∧ Lab g w ob B rt nx nx0 (k + 1) (relC rt nx0 k seen c).2 γ' β' ∧
      ∀ F, LikeF ob F os → ∀ γ'' β'' m, k + 1 ≤ m → (∀ n, n < k + 1 → γ'' n = γ' n) → RelC ⟨g.I, g.φ, γ'', β''⟩ w F (rtH rt nx0 m) m v (relC rt nx0 k seen c).1 := by
  have old : ∀ (c : Value × Nat) (d : Option Nat), ∀ n, n < k → upd γ k c n = γ n ∧ upd β k d n = β n := fun c d n hn => ⟨upd_ne _ _ (by omega), upd_ne _ _ (by omega)⟩
  have skip := h.skip hm hk
  cases hr with
  | p q => exact ⟨_, _, old _ _, skip, fun F hF γ'' β'' m hm' hγ => .p q⟩
  | p0 q =>
    rename_i A n z l
    refine ⟨_, _, old (.slice A n n, z) none, h.step hm hk (fun _ q => q) _ _ (.full A n z (upd_same ..) (upd_same ..)) (fun b hb => by cases hb), fun F hF γ'' β'' m hm' hγ => ?_⟩
    exact .pn (by omega) (by omega) q fun _ => by simp only; rw [hγ k (by omega), upd_same]
  | pn n0 n1 q hg =>
    rename_i n z l
    obtain ⟨n, rfl⟩ := Nat.exists_eq_succ_of_ne_zero n0
    simp only [relC]
    by_cases hn : n + 1 < nx0
    · rw [if_pos hn]
      refine ⟨_, _, old _ _, skip, fun F hF γ'' β'' m hm' hγ => .pn n0 (by omega) q fun ht => ?_⟩
      simp only [rtH, if_pos hn, if_neg (Nat.succ_ne_zero n)] at ht
      simp only
      rw [hγ _ (by omega), upd_ne _ _ (by omega), (h.low _ hn).1]
      exact hg ht
    · rw [if_neg hn]
      by_cases hs : rt (n + 1) = true ∧ n + 1 ∉ seen
      · rw [if_pos hs]
        have hw := hm.own (n + 1) n0 n1 hs.1
        refine ⟨_, _, old (g.γ (n + 1)) (g.β (n + 1)), h.step hm hk (fun _ q => List.mem_cons_of_mem _ q) _ _ ?_ (fun b hb => ⟨n + 1, List.mem_cons_self .., n0, by omega, n1, hs.1, hb, hs.2⟩), fun F hF γ'' β'' m hm' hγ => ?_⟩
        · cases hw with
          | full A k z q1 q2 => exact .full A _ z ((upd_same ..).trans q1) ((upd_same ..).trans q2)
          | own b' len cap z ee cur q1 q2 q3 q4 q5 q6 q7 q8 q9 => exact .own b' len cap z ee cur ((upd_same ..).trans q1) ((upd_same ..).trans q2) q3 q4 q5 q6 q7 q8 q9
        · exact .pn (by omega) (by omega) q fun _ => by simp only; rw [hγ k (by omega), upd_same]; exact hg hs.1
      · rw [if_neg hs]
        exact ⟨_, _, old _ _, skip, fun F hF γ'' β'' m hm' hγ => .p q⟩
  | pt q => exact ⟨_, _, old _ _, skip, fun F hF γ'' β'' m hm' hγ => relC_move (rt := rt) (nx := nx) hF (.pt q) ho⟩
  | pr q => exact ⟨_, _, old _ _, skip, fun F hF γ'' β'' m hm' hγ => relC_move (rt := rt) (nx := nx) hF (.pr q) ho⟩
  | vw q q1 q2 q3 q4 q5 q6 => exact ⟨_, _, old _ _, skip, fun F hF γ'' β'' m hm' hγ => relC_move (rt := rt) (nx := nx) hF (.vw q q1 q2 q3 q4 q5 q6) ho⟩
  | mt q => exact ⟨_, _, old _ _, skip, fun F hF γ'' β'' m hm' hγ => relC_move (rt := rt) (nx := nx) hF (.mt q) ho⟩
  | cl q q1 => exact ⟨_, _, old _ _, skip, fun F hF γ'' β'' m hm' hγ => relC_move (rt := rt) (nx := nx) hF (.cl q q1) ho⟩

theorem relL_ok {G : Nat → Option (List PV)} (hm : RelM G g w ob rt nx B) (h0 : 0 < nx0) (hnx : nx0 ≤ nx) : ∀ {cs : List CV} {vs : List Value} {k : Nat} {seen : List Nat} {γ : Nat → Value × Nat} {β : Nat → Option Nat},
    Lab g w ob B rt nx nx0 k seen γ β → nx0 ≤ k → vs.length = cs.length → (∀ (j : Nat) (x : CV) (v : Value), cs[j]? = some x → vs[j]? = some v → RelC g w ob rt nx v x) → okL os false cs = true →
    ∃ γ' β', (∀ n, n < k → γ' n = γ n ∧ β' n = β n) ∧ Lab g w ob B rt nx nx0 (k + cs.length) (relL rt nx0 k seen cs).2 γ' β' ∧ (relL rt nx0 k seen cs).1.length = cs.length ∧
      ∀ F, LikeF ob F os → ∀ γ'' β'' m, k + cs.length ≤ m → (∀ n, n < k + cs.length → γ'' n = γ' n) → ∀ (j : Nat) (x : CV) (v : Value), (relL rt nx0 k seen cs).1[j]? = some x → vs[j]? = some v → RelC ⟨g.I, g.φ, γ'', β''⟩ w F (rtH rt nx0 m) m v x
  | [], vs, k, seen, γ, β, h, hk, hl, hr, ho => ⟨γ, β, fun _ _ => ⟨rfl, rfl⟩, h, rfl, fun F hF γ'' β'' m hm' hγ j x v hx => by simp [relL] at hx⟩
  | c :: cs, [], k, seen, γ, β, h, hk, hl, hr, ho => by simp at hl
  | c :: cs, v :: vs, k, seen, γ, β, h, hk, hl, hr, ho => by
    simp only [okL, Bool.and_eq_true] at ho
    obtain ⟨γ1, β1, a1, a2, a3⟩ := relC_ok hm h0 hnx h hk (hr 0 c v rfl rfl) ho.1
    obtain ⟨γ2, β2, b1, b2, b3, b4⟩ := relL_ok hm h0 hnx (cs := cs) (vs := vs) a2 (by omega) (by simpa using hl) (fun j x v hx hv => hr (j + 1) x v (by simpa using hx) (by simpa using hv)) ho.2
    have e : k + (c :: cs).length = k + 1 + cs.length := by simp only [List.length_cons]; omega
    rw [e]
    refine ⟨γ2, β2, fun n hn => ⟨(b1 n (by omega)).1.trans (a1 n hn).1, (b1 n (by omega)).2.trans (a1 n hn).2⟩, b2, by simp only [relL, List.length_cons, b3], fun F hF γ'' β'' m hm' hγ j x u hx hu => ?_⟩
    simp only [relL] at hx
    cases j with
    | zero =>
      simp at hx hu
      subst hx; subst hu
      exact a3 F hF γ'' β'' m (by omega) fun n hn => (hγ n (by omega)).trans (b1 n (by omega)).1
    | succ j => exact b4 F hF γ'' β'' m hm' hγ j x u (by simpa using hx) (by simpa using hu)
theorem relC_seen {k : Nat} {seen : List Nat} {c : CV} {q : Nat} (h : q ∈ (relC rt nx0 k seen c).2) : q ∈ seen ∨ q ∈ rtsC c := by
  unfold relC at h
  split at h
  · exact .inl h
  · split at h
    · exact .inl h
    · split at h
      · rcases List.mem_cons.1 h with rfl | h
        · exact .inr (by simp [rtsC])
        · exact .inl h
      · exact .inl h
  · exact .inl h
theorem relL_seen : ∀ {cs : List CV} {k : Nat} {seen : List Nat} {q : Nat}, q ∈ (relL rt nx0 k seen cs).2 → q ∈ seen ∨ q ∈ cs.flatMap rtsC
  | [], k, seen, q, h => .inl h
  | c :: cs, k, seen, q, h => by
    simp only [relL] at h
    rcases relL_seen h with h | h
    · rcases relC_seen h with h | h
      · exact .inl h
      · exact .inr (by simp only [List.flatMap_cons, List.mem_append]; exact .inl h)
    · exact .inr (by simp only [List.flatMap_cons, List.mem_append]; exact .inr h)
theorem relT_seen {k : Nat} {seen : List Nat} {x : AT} {q : Nat} (h : q ∈ (relT rt nx0 k seen (if okT os x then x else .no)).2.2) : q ∈ seen ∨ q ∈ rtsT x := by
  split at h
  · cases x with
    | one c => exact relC_seen h
    | agg cs => exact relL_seen h
    | _ => exact .inl h
  · exact .inl h
theorem headT_seen {tm : Nat → AT} : ∀ {l : List Nat} {k : Nat} {seen : List Nat} {q : Nat}, q ∈ (headT rt nx0 os tm k seen l).2.2 → q ∈ seen ∨ q ∈ (l.map tm).flatMap rtsT
  | [], k, seen, q, h => .inl h
  | t :: l, k, seen, q, h => by
    simp only [headT] at h
    simp only [List.map_cons, List.flatMap_cons, List.mem_append]
    rcases headT_seen h with h | h
    · rcases relT_seen h with h | h
      · exact .inl h
      · exact .inr (.inl h)
    · exact .inr (.inr h)
end
end Go.Proofs.Ytcmaohhcbiienaa.X
