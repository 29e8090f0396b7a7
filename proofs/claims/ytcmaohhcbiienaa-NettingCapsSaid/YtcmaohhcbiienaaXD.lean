import Derived.Test.YtcmaohhcbiienaaXC
/-! XD: own arrays that are written no more; the rights to append. -/
set_option linter.unusedVariables false
namespace Go.Proofs.Ytcmaohhcbiienaa.X
open Go.RowKit

theorem at_lt {z i j n : Nat} (hi : i < n) (hj : j < z) : i * z + j < n * z := by
  have h : (i + 1) * z ≤ n * z := Nat.mul_le_mul_right _ hi
  rw [Nat.succ_mul] at h
  omega
theorem at_inj {z i j i' j' : Nat} (hj : j < z) (hj' : j' < z) (h : i * z + j = i' * z + j') : i = i' ∧ j = j' := by
  have hz : 0 < z := by omega
  have h1 : (i * z + j) / z = i := by rw [Nat.mul_comm, Nat.mul_add_div hz, Nat.div_eq_of_lt hj, Nat.add_zero]
  have h2 : (i' * z + j') / z = i' := by rw [Nat.mul_comm, Nat.mul_add_div hz, Nat.div_eq_of_lt hj', Nat.add_zero]
  have : i = i' := by rw [← h1, ← h2, h]
  subst this
  exact ⟨rfl, by omega⟩

section
variable {G : Nat → Option (List PV)} {B : Blk} {base : Nat} {g g' : Gh} {w w' : World} {ob ob' : ObF} {rt rt' : RtF} {nx nx' : Nat}

def ice (g : Gh) (o n : Nat) : Gh := { g with I := fun b i => g.I b i ∨ (b = g.φ o ∧ i < n) }

theorem solid_lt {fz : Bool} {z i : Nat} {rows : List (List PV)} (h : i < rows.length * z) : (Obj.arr fz z rows).solid := by
  cases rows with
  | nil => simp at h
  | cons => trivial
theorem Ext.ice (h : RelM G g w ob rt nx B) {o : Nat} {fz : Bool} {z : Nat} {rows : List (List PV)} (ho : ob o = some (.arr fz z rows)) :
    Ext B base g w ob rt nx (ice g o (rows.length * z)) w (upd ob o (some (.arr true z rows))) rt nx where
  below := Keep.refl B w
  I _ _ hi := .inl hi
  old b i hb hi := by
    rcases hi with hi | ⟨rfl, hi⟩
    · exact hi
    · exact absurd hb ((h.obj o _ ho).2 (solid_lt hi))
  cell _ _ _ := rfl
  like p y _ hy := by
    by_cases hne : p = o
    · subst hne
      rw [ho] at hy
      cases hy
      exact ⟨_, upd_same _ _ _, by simp [Obj.like]⟩
    · exact ⟨y, by rw [upd_ne _ _ hne]; exact hy, .refl y⟩
  φ _ _ _ := rfl
  rt _ _ ht := ⟨ht, rfl⟩
  nx := Nat.le_refl _

theorem RelM.ice (h : RelM G g w ob rt nx B) (hb : ∀ o, (ob o).isSome → o < base) {o : Nat} {fz : Bool} {z : Nat} {rows : List (List PV)} (ho : ob o = some (.arr fz z rows)) :
    RelM G (ice g o (rows.length * z)) w (upd ob o (some (.arr true z rows))) rt nx B where
  pos := h.pos
  glob k cs hk := (h.glob k cs hk).ext (Ext.ice (base := base) h ho)
  size := h.size
  obj p y hy := by
    by_cases hne : p = o
    · subst hne
      rw [upd_same] at hy
      cases hy
      obtain ⟨q, r⟩ := h.obj p _ ho
      refine ⟨?_, fun hs => r (by cases rows with | nil => exact hs.elim | cons => trivial)⟩
      cases q with
      | nil => exact .nil
      | arr e vs h1 h2 h3 h4 h5 h6 h7 =>
        exact .arr e vs h1 h2 h3 h4 (fun i r j x v hr hx hv => (h5 i r j x v hr hx hv).ext (Ext.ice (base := base) h ho)) (fun hf => by cases hf)
          fun _ i hi => .inr ⟨rfl, hi⟩
    · rw [upd_ne _ _ hne] at hy
      obtain ⟨q, r⟩ := h.obj p y hy
      refine ⟨q.ext (Ext.ice (base := base) h ho) hb (fun _ => rfl) fun hs i hi => ?_, r⟩
      rcases hi with hi | ⟨e, hi⟩
      · exact hi
      · exact absurd (h.inj p o _ _ hy ho hs (solid_lt hi) e) hne
  inj p q xp xq hp hq sp sq e := by
    have key : ∀ p z', upd ob o (some (Obj.arr true z rows)) p = some z' → z'.solid → ∃ z'', ob p = some z'' ∧ z''.solid := by
      intro p z' hp hs
      by_cases hne : p = o
      · subst hne
        rw [upd_same] at hp
        cases hp
        exact ⟨_, ho, by cases rows with | nil => exact hs.elim | cons => trivial⟩
      · exact ⟨z', by rwa [upd_ne _ _ hne] at hp, hs⟩
    obtain ⟨a, ha, sa⟩ := key p xp hp sp
    obtain ⟨c, hc, sc⟩ := key q xq hq sq
    exact h.inj p q a c ha hc sa sc e
  own n h0 h1 h2 := by
    have k := h.own n h0 h1 h2
    have hne : ∀ b, g.β n = some b → ∀ p z, ob p = some z → z.solid → g.φ p ≠ b := by
      intro b hb p z' hp hs
      cases k with
      | full A k z h hb' => rw [hb'] at hb; cases hb
      | own b' len cap z e cur h hb' hB h1 h2 h3 h4 h5 h6 =>
        rw [hb'] at hb
        cases hb
        exact h6 p z' hp hs
    refine k.ext rfl rfl fun b hb => ⟨rfl, fun i hi => ?_, fun p z' hp hs => ?_⟩
    · rcases hi with hi | ⟨e, hi⟩
      · exact hi
      · exact absurd e.symm (hne b hb o _ ho (solid_lt hi))
    · by_cases hpo : p = o
      · subst hpo
        rw [upd_same] at hp
        cases hp
        exact hne b hb p _ ho (by cases rows with | nil => exact hs.elim | cons => trivial)
      · exact hne b hb p z' (by rwa [upd_ne _ _ hpo] at hp) hs
  apart := h.apart
  bnd b i hi := by
    rcases hi with hi | ⟨rfl, hi⟩
    · exact h.bnd b i hi
    · exact (h.obj o _ ho).1.lt (solid_lt hi)

def putAll (ob : ObF) (l : List (Nat × Obj)) : ObF := l.foldl (fun f p => upd f p.1 (some p.2)) ob

theorem icy_upd {o : Nat} {fz : Bool} {z : Nat} {rows : List (List PV)} (ho : ob o = some (.arr fz z rows)) (os : List Nat) :
    icy (upd ob o (some (.arr true z rows))) os = icy ob os := by
  unfold icy
  congr 1
  funext p
  by_cases hne : p = o
  · subst hne
    simp [upd_same, ho]
  · simp [upd_ne _ _ hne]

/-- Own arrays that are seen by others are written no more. -/
theorem icy_all (os : List Nat) : ∀ {ob : ObF} {g : Gh}, RelM G g w ob rt nx B → (∀ o, (ob o).isSome → o < base) →
    ∃ g', Ext B base g w ob rt nx g' w (putAll ob (icy ob os)) rt nx ∧ RelM G g' w (putAll ob (icy ob os)) rt nx B ∧ g'.φ = g.φ ∧
      (∀ o, (putAll ob (icy ob os) o).isSome → o < base) ∧
      ∀ o ∈ os, ∀ fz z rows, ob o = some (.arr fz z rows) → ∀ i, i < rows.length * z → g'.I (g.φ o) i := by
  induction os with
  | nil => exact fun h hb => ⟨_, Ext.refl .., h, rfl, hb, fun o ho => by cases ho⟩
  | cons o os ih =>
    intro ob g h hb
    cases ho : ob o with
    | none =>
      obtain ⟨g', h1, h2, h3, h4, h5⟩ := ih h hb
      have e : icy ob (o :: os) = icy ob os := by simp [icy, ho]
      rw [e]
      refine ⟨g', h1, h2, h3, h4, fun p hp fz z rows hp' => ?_⟩
      rcases List.mem_cons.1 hp with rfl | hp
      · rw [ho] at hp'; cases hp'
      · exact h5 p hp fz z rows hp'
    | some x =>
      cases x with
      | mp es k =>
        obtain ⟨g', h1, h2, h3, h4, h5⟩ := ih h hb
        have e : icy ob (o :: os) = icy ob os := by simp [icy, ho]
        rw [e]
        refine ⟨g', h1, h2, h3, h4, fun p hp fz z rows hp' => ?_⟩
        rcases List.mem_cons.1 hp with rfl | hp
        · rw [ho] at hp'; cases hp'
        · exact h5 p hp fz z rows hp'
      | var cs =>
        obtain ⟨g', h1, h2, h3, h4, h5⟩ := ih h hb
        have e : icy ob (o :: os) = icy ob os := by simp [icy, ho]
        rw [e]
        refine ⟨g', h1, h2, h3, h4, fun p hp fz z rows hp' => ?_⟩
        rcases List.mem_cons.1 hp with rfl | hp
        · rw [ho] at hp'; cases hp'
        · exact h5 p hp fz z rows hp'
      | arr fz z rows =>
        have hb' : ∀ p, (upd ob o (some (Obj.arr true z rows)) p).isSome → p < base := by
          intro p hp
          by_cases hne : p = o
          · exact hne ▸ hb o (by simp [ho])
          · rw [upd_ne _ _ hne] at hp
            exact hb p hp
        obtain ⟨g', h1, h2, h3, h4, h5⟩ := ih (h.ice hb ho) hb'
        have e : putAll ob (icy ob (o :: os)) = putAll (upd ob o (some (Obj.arr true z rows))) (icy (upd ob o (some (Obj.arr true z rows))) os) := by
          rw [icy_upd ho]
          simp [icy, ho, putAll]
        rw [e]
        refine ⟨g', (Ext.ice h ho).trans h1, h2, h3, h4, fun p hp fz' z' rows' hp' i hi => ?_⟩
        rcases List.mem_cons.1 hp with rfl | hp
        · rw [ho] at hp'
          cases hp'
          exact h1.I _ _ (.inr ⟨rfl, hi⟩)
        · by_cases hpo : p = o
          · subst hpo
            rw [ho] at hp'
            cases hp'
            exact h1.I _ _ (.inr ⟨rfl, hi⟩)
          · exact h5 p hp fz' z' rows' (by rw [upd_ne _ _ hpo]; exact hp') i hi

/-- What is seen of an own array that is written no more. -/
theorem RelC.seen (h : RelM G g w ob rt nx B) {v : Value} {c : CV} {x : PV} (k : RelC g w ob rt nx v c) (hp : pvC ob c = some x) {I : Nat → Nat → Prop} (hI : ∀ b i, g.I b i → I b i)
    (hs : ∀ o ∈ seenC c, ∀ fz z rows, ob o = some (.arr fz z rows) → ∀ i, i < rows.length * z → I (g.φ o) i) : RepP I w v x := by
  cases k with
  | p k => cases hp; exact k.mono hI fun _ _ _ => rfl
  | p0 k => cases hp; exact k.mono hI fun _ _ _ => rfl
  | pn _ _ k => cases hp; exact k.mono hI fun _ _ _ => rfl
  | pt => cases hp
  | pr => cases hp
  | mt => cases hp
  | cl => cases hp
  | @vw o lo n cap A fz z rows ho hl hcap hmax hnil hsp hA =>
    simp only [pvC, ho, Option.some.injEq] at hp
    subst hp
    obtain ⟨q, _⟩ := h.obj o _ ho
    have hs := hs o (by simp [seenC]) _ _ _ ho
    cases q with
    | nil =>
      obtain rfl : n = 0 := by simp at hl; omega
      have := RepP.sl (I := I) (w := w) (A := A) (cap := cap) (z := z) (l := []) (fun _ _ => undef) hcap hmax hnil hsp (fun i r h => by simp at h) (fun a _ i r j x h => by simp at h) (fun i r j x h => by simp at h)
      simpa using this
    | arr e vs h1 h2 h3 h4 h5 h6 h7 =>
      have hlen : ((rows.drop lo).take n).length = n := by simp; omega
      have hrow : ∀ (i : Nat) (r : List PV), ((rows.drop lo).take n)[i]? = some r → i < n ∧ rows[lo + i]? = some r := by
        intro i r hr
        rw [List.getElem?_take] at hr
        split at hr
        · rw [List.getElem?_drop] at hr
          exact ⟨by assumption, hr⟩
        · cases hr
      have := RepP.sl (I := I) (w := w) (A := A) (cap := cap) (z := z) (l := (rows.drop lo).take n) (fun i j => (vs[(lo + i) * z + j]?).getD undef)
        (by omega) hmax hnil hsp (fun i r hr => h4 _ r (hrow i r hr).2)
        (fun a ha i r j x hr hx => by
          obtain ⟨hi, hr'⟩ := hrow i r hr
          have hj : j < z := by rw [← h4 _ _ hr']; exact (List.getElem?_eq_some_iff.1 hx).1
          have hlt : (lo + i) * z + j < rows.length * z := at_lt (List.getElem?_eq_some_iff.1 hr').1 hj
          have hA' := hA (by omega)
          rw [ha] at hA'
          cases hA'
          have e1 : lo * z + (i * z + j) = (lo + i) * z + j := by rw [Nat.add_mul]; omega
          simp only [e1]
          refine ⟨hs _ hlt, ?_⟩
          rw [cell_of_row w _ _ vs e (0, 0) h1, Array.getElem?_eq_getElem (Nat.lt_of_lt_of_le hlt h2)]
          rfl)
        (fun i r j x hr hx => by
          obtain ⟨hi, hr'⟩ := hrow i r hr
          have hj : j < z := by rw [← h4 _ _ hr']; exact (List.getElem?_eq_some_iff.1 hx).1
          have hlt : (lo + i) * z + j < rows.length * z := at_lt (List.getElem?_eq_some_iff.1 hr').1 hj
          refine RepP.mono hI (fun _ _ _ => rfl) (h5 (lo + i) r j x _ hr' hx ?_)
          rw [Array.getElem?_eq_getElem (Nat.lt_of_lt_of_le hlt h2)]
          rfl)
      rw [hlen] at this
      exact this
end
end Go.Proofs.Ytcmaohhcbiienaa.X
