import Derived.Test.YtcmaohhcbiienaaXB
/-! XC: how the memory of a state goes on. -/
set_option linter.unusedVariables false
namespace Go.Proofs.Ytcmaohhcbiienaa.X
open Go.RowKit

section
variable {G : Nat → Option (List PV)} {B : Blk} {base : Nat} {g g' : Gh} {w w' : World} {ob ob' : ObF} {rt rt' : RtF} {nx nx' : Nat}

theorem RelObj.ext (h : Ext B base g w ob rt nx g' w' ob' rt' nx') (hb : ∀ o, (ob o).isSome → o < base) {b : Nat} {x : Obj} (k : RelObj g w ob rt nx b x)
    (hh : x.solid → w'.heap[b]? = w.heap[b]?) (hI : x.solid → ∀ i, g'.I b i → g.I b i) : RelObj g' w' ob' rt' nx' b x := by
  cases k with
  | nil => exact .nil
  | var e vs h1 h2 h3 => exact .var e vs ((hh trivial).trans h1) (h2.ext h hb) fun i hi => h3 i (hI trivial i hi)
  | mp h1 h2 => exact .mp ((hh trivial).trans h1) fun i hi => h2 i (hI trivial i hi)
  | @arr fz z rows e vs h1 h2 h3 h4 h5 h6 h7 =>
    by_cases hr : rows = []
    · subst hr; exact .nil
    replace hh := hh (Obj.solid_ne hr)
    replace hI := hI (Obj.solid_ne hr)
    exact .arr e vs (hh.trans h1) h2 h3 h4 (fun i r j x v hr hx hv => (h5 i r j x v hr hx hv).ext h) (fun hf i hi => h6 hf i (hI i hi)) fun hf i hi => h.I _ _ (h7 hf i hi)

theorem OwnR.ext {n : Nat} (k : OwnR g w ob B n) (hγ : g'.γ n = g.γ n) (hβ : g'.β n = g.β n)
    (hh : ∀ b, g.β n = some b → w'.heap[b]? = w.heap[b]? ∧ (∀ i, g'.I b i → g.I b i) ∧ ∀ o x, ob' o = some x → x.solid → g'.φ o ≠ b) : OwnR g' w' ob' B n := by
  cases k with
  | full A k z h hb => exact .full A k z (hγ.trans h) (hβ.trans hb)
  | own b len cap z e cur h hb hB h1 h2 h3 h4 h5 h6 =>
    obtain ⟨q1, q2, q3⟩ := hh b hb
    exact .own b len cap z e cur (hγ.trans h) (hβ.trans hb) hB (q1.trans h1) h2 h3 h4 (fun i hi hI => h5 i hi (q2 i hI)) q3

theorem OwnR.lt {n b : Nat} (k : OwnR g w ob B n) (hb : g.β n = some b) : b < w.heap.size ∧ ¬ B b := by
  cases k with
  | full A k z h h' => rw [h'] at hb; cases hb
  | own b' len cap z e cur h hb' hB h1 =>
    rw [hb'] at hb
    cases hb
    exact ⟨(Array.getElem?_eq_some_iff.1 h1).1, hB⟩
theorem RelObj.lt {b : Nat} {x : Obj} (k : RelObj g w ob rt nx b x) (hs : x.solid) : b < w.heap.size := by
  cases k with
  | nil => exact hs.elim
  | var e vs h => exact (Array.getElem?_eq_some_iff.1 h).1
  | mp h => exact (Array.getElem?_eq_some_iff.1 h).1
  | arr e vs h => exact (Array.getElem?_eq_some_iff.1 h).1

theorem heap_new (w : World) (o : Go.Obj) : (w.alloc o).heap[w.heap.size]? = some o := heap_alloc_new w o
theorem heap_old (w : World) (o : Go.Obj) {b : Nat} (h : b < w.heap.size) : (w.alloc o).heap[b]? = w.heap[b]? := heap_alloc_old w o b h

/-- A new block that is no own variable (its cells may be fixed from now on). -/
theorem Ext.block (h : RelM G g w ob rt nx B) (o : Go.Obj) (J : Nat → Prop) :
    Ext B base g w ob rt nx { g with I := fun b i => g.I b i ∨ (b = w.heap.size ∧ J i) } (w.alloc o) ob rt nx where
  below := (Keep.refl B w).alloc h.size o
  I _ _ hi := .inl hi
  old b i hb hi := by
    rcases hi with hi | ⟨rfl, _⟩
    · exact hi
    · exact absurd (h.size _ hb) (Nat.lt_irrefl _)
  cell b i hi := World.cell?_alloc_lt _ _ _ (h.bnd b i hi)
  like _ x _ hx := ⟨x, hx, .refl x⟩
  φ _ _ _ := rfl
  rt _ _ ht := ⟨ht, rfl⟩
  nx := Nat.le_refl _

theorem RelM.block (h : RelM G g w ob rt nx B) (hb : ∀ o, (ob o).isSome → o < base) (o : Go.Obj) (J : Nat → Prop) :
    RelM G { g with I := fun b i => g.I b i ∨ (b = w.heap.size ∧ J i) } (w.alloc o) ob rt nx B where
  pos := h.pos
  glob k cs hk := (h.glob k cs hk).ext (Ext.block (base := base) h o J)
  size b hb := by simp; exact Nat.lt_succ_of_lt (h.size b hb)
  obj p x hx := by
    obtain ⟨q, r⟩ := h.obj p x hx
    refine ⟨q.ext (Ext.block (base := base) h o J) hb (fun hs => heap_old _ _ (q.lt hs)) fun hs i hi => ?_, r⟩
    rcases hi with hi | ⟨e, _⟩
    · exact hi
    · exact absurd (q.lt hs) (by have := e; omega)
  inj := h.inj
  own n h0 h1 h2 := by
    have k := h.own n h0 h1 h2
    refine k.ext rfl rfl fun b hb => ⟨heap_old _ _ (k.lt hb).1, fun i hi => ?_, fun p y hp hs => ?_⟩
    · rcases hi with hi | ⟨e, _⟩
      · exact hi
      · exact absurd (k.lt hb).1 (by have := e; omega)
    · cases k with
      | full A k z h hb' => rw [hb'] at hb; cases hb
      | own b' len cap z e cur h hb' hB h1 h2 h3 h4 h5 h6 =>
        rw [hb'] at hb
        cases hb
        exact h6 p y hp hs
  apart := h.apart
  bnd b i hi := by
    rcases hi with hi | ⟨rfl, _⟩
    · have := h.bnd b i hi
      simp
      omega
    · simp

/-- A new own variable. -/
theorem Ext.var (h : RelM G g w ob rt nx B) {o : Nat} (ho : ob o = none) (c : Go.Obj) (x : Obj) :
    Ext B base g w ob rt nx { g with φ := upd g.φ o w.heap.size } (w.alloc c) (upd ob o (some x)) rt nx where
  below := (Keep.refl B w).alloc h.size c
  I _ _ hi := hi
  old _ _ _ hi := hi
  cell b i hi := World.cell?_alloc_lt _ _ _ (h.bnd b i hi)
  like p y _ hy := by
    have hne : p ≠ o := fun e => by subst e; rw [ho] at hy; cases hy
    exact ⟨y, by rw [upd_ne _ _ hne]; exact hy, .refl y⟩
  φ p _ hp := by
    have hne : p ≠ o := fun e => by subst e; rw [ho] at hp; cases hp
    exact upd_ne _ _ hne
  rt _ _ ht := ⟨ht, rfl⟩
  nx := Nat.le_refl _

theorem RelM.var (h : RelM G g w ob rt nx B) (hb : ∀ o, (ob o).isSome → o < base) {o : Nat} (ho : ob o = none) (c : Go.Obj) (x : Obj)
    (hx : RelObj { g with φ := upd g.φ o w.heap.size } (w.alloc c) (upd ob o (some x)) rt nx w.heap.size x) :
    RelM G { g with φ := upd g.φ o w.heap.size } (w.alloc c) (upd ob o (some x)) rt nx B where
  pos := h.pos
  glob k cs hk := (h.glob k cs hk).ext (Ext.var (base := base) h ho c x)
  size b hb := by simp; exact Nat.lt_succ_of_lt (h.size b hb)
  obj p y hy := by
    by_cases hne : p = o
    · subst hne
      rw [upd_same] at hy
      cases hy
      simp only [upd_same]
      exact ⟨hx, fun _ hB => absurd (h.size _ hB) (Nat.lt_irrefl _)⟩
    · rw [upd_ne _ _ hne] at hy
      obtain ⟨q, r⟩ := h.obj p y hy
      simp only [upd_ne _ _ hne]
      exact ⟨q.ext (Ext.var (base := base) h ho c x) hb (fun hs => heap_old _ _ (q.lt hs)) fun _ i hi => hi, r⟩
  inj p q xp xq hp hq sp sq e := by
    have key : ∀ p y, p ≠ o → upd ob o (some x) p = some y → y.solid → g.φ p < w.heap.size := by
      intro p y hne hp hs
      rw [upd_ne _ _ hne] at hp
      exact (h.obj p y hp).1.lt hs
    by_cases h1 : p = o <;> by_cases h2 : q = o
    · rw [h1, h2]
    · simp only [h1, upd_same, upd_ne _ _ h2] at e
      have := key q xq h2 hq sq
      omega
    · simp only [h2, upd_same, upd_ne _ _ h1] at e
      have := key p xp h1 hp sp
      omega
    · simp only [upd_ne _ _ h1, upd_ne _ _ h2] at e hp hq
      exact h.inj p q xp xq hp hq sp sq e
  own n h0 h1 h2 := by
    have k := h.own n h0 h1 h2
    refine k.ext rfl rfl fun b hb => ⟨heap_old _ _ (k.lt hb).1, fun i hi => hi, fun p y hp hs => ?_⟩
    have hlt := (k.lt hb).1
    by_cases hne : p = o
    · simp only [hne, upd_same]
      omega
    · simp only [upd_ne _ _ hne] at hp ⊢
      cases k with
      | full A k z h hb' => rw [hb'] at hb; cases hb
      | own b' len cap z e cur h hb' hB h1 h2 h3 h4 h5 h6 =>
        rw [hb'] at hb
        cases hb
        exact h6 p y hp hs
  apart := h.apart
  bnd b i hi := by
    have := h.bnd b i hi
    simp
    omega

/-- One block is written. -/
structure PutB (b : Nat) (w w' : World) : Prop where
  os : w'.os = w.os
  tape : w'.tape = w.tape
  output : w'.output = w.output
  size : w'.heap.size = w.heap.size
  other : ∀ k, k ≠ b → w'.heap[k]? = w.heap[k]?
/-- An own variable is written. -/
theorem Ext.put (h : RelM G g w ob rt nx B) {o : Nat} {x y : Obj} (ho : ob o = some x) (hl : x.like y) (hsx : x.solid) (hw : PutB (g.φ o) w w') (hI : ∀ i, ¬ g.I (g.φ o) i) :
    Ext B base g w ob rt nx g w' (upd ob o (some y)) rt nx where
  below := ⟨hw.os, hw.tape, hw.output, Nat.le_of_eq hw.size.symm, fun k hk => hw.other k fun e => (h.obj o x ho).2 hsx (e ▸ hk)⟩
  I _ _ hi := hi
  old _ _ _ hi := hi
  cell b i hi := World.cell?_of_block (w := w) (a := ⟨b, i, none⟩) (hw.other b fun e => hI i (e ▸ hi))
  like p z _ hz := by
    by_cases hne : p = o
    · subst hne
      rw [ho] at hz
      cases hz
      exact ⟨y, upd_same _ _ _, hl⟩
    · exact ⟨z, by rw [upd_ne _ _ hne]; exact hz, .refl z⟩
  φ _ _ _ := rfl
  rt _ _ ht := ⟨ht, rfl⟩
  nx := Nat.le_refl _

theorem RelM.put (h : RelM G g w ob rt nx B) (hb : ∀ o, (ob o).isSome → o < base) {o : Nat} {x y : Obj} (ho : ob o = some x) (hl : x.like y) (hsx : x.solid) (hw : PutB (g.φ o) w w')
    (hI : ∀ i, ¬ g.I (g.φ o) i) (hy : RelObj g w' (upd ob o (some y)) rt nx (g.φ o) y) :
    RelM G g w' (upd ob o (some y)) rt nx B where
  pos := h.pos
  glob k cs hk := (h.glob k cs hk).ext (Ext.put (base := base) h ho hl hsx hw hI)
  size b hb := by rw [hw.size]; exact h.size b hb
  obj p z hz := by
    by_cases hne : p = o
    · subst hne
      rw [upd_same] at hz
      cases hz
      exact ⟨hy, fun _ => (h.obj p x ho).2 hsx⟩
    · rw [upd_ne _ _ hne] at hz
      obtain ⟨q, r⟩ := h.obj p z hz
      refine ⟨q.ext (Ext.put (base := base) h ho hl hsx hw hI) hb (fun hs => hw.other _ fun e => hne ?_) fun _ i hi => hi, r⟩
      exact h.inj p o z x hz ho hs hsx e
  inj p q xp xq hp hq sp sq e := by
    have key : ∀ p z, upd ob o (some y) p = some z → z.solid → ∃ z', ob p = some z' ∧ z'.solid := by
      intro p z hp hs
      by_cases hne : p = o
      · exact ⟨x, hne ▸ ho, hsx⟩
      · exact ⟨z, by rwa [upd_ne _ _ hne] at hp, hs⟩
    obtain ⟨a, ha, sa⟩ := key p xp hp sp
    obtain ⟨c, hc, sc⟩ := key q xq hq sq
    exact h.inj p q a c ha hc sa sc e
  own n h0 h1 h2 := by
    have k := h.own n h0 h1 h2
    have hne : ∀ b, g.β n = some b → ∀ p z, ob p = some z → z.solid → g.φ p ≠ b := by
      intro b hb p z' hp hs
      cases k with
      | full A k z h hb' => rw [hb'] at hb; cases hb
      | own b' len cap z e cur h hb' hB h1 h2 h3 h4 h5 h6 =>
        rw [hb'] at hb
        cases hb
        exact h6 p z' hp hs
    refine k.ext rfl rfl fun b hb => ⟨hw.other _ fun e => hne b hb o x ho hsx e.symm, fun i hi => hi, fun p z hp hs => ?_⟩
    by_cases hpo : p = o
    · exact hne b hb p x (hpo ▸ ho) hsx
    · exact hne b hb p z (by rwa [upd_ne _ _ hpo] at hp) hs
  apart := h.apart
  bnd b i hi := by rw [hw.size]; exact h.bnd b i hi

theorem PutB.row (w : World) (b : Nat) (vs : Array Value) : PutB b w (w.setRow b vs) := ⟨rfl, rfl, rfl, by simp, fun k hk => setRow_other w _ k _ hk⟩
theorem Ext.store (h : RelM G g w ob rt nx B) {o : Nat} {x y : Obj} (ho : ob o = some x) (hl : x.like y) (hsx : x.solid) (vs : Array Value) (hI : ∀ i, ¬ g.I (g.φ o) i) :
    Ext B base g w ob rt nx g (w.setRow (g.φ o) vs) (upd ob o (some y)) rt nx := Ext.put h ho hl hsx (PutB.row w _ vs) hI
theorem RelM.store (h : RelM G g w ob rt nx B) (hb : ∀ o, (ob o).isSome → o < base) {o : Nat} {x y : Obj} (ho : ob o = some x) (hl : x.like y) (hsx : x.solid) (vs : Array Value)
    (hI : ∀ i, ¬ g.I (g.φ o) i) (hy : RelObj g (w.setRow (g.φ o) vs) (upd ob o (some y)) rt nx (g.φ o) y) :
    RelM G g (w.setRow (g.φ o) vs) (upd ob o (some y)) rt nx B := RelM.put h hb ho hl hsx (PutB.row w _ vs) hI hy
end
end Go.Proofs.Ytcmaohhcbiienaa.X
