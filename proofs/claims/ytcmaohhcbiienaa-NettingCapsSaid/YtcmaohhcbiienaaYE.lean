import Derived.Test.YtcmaohhcbiienaaYD
/-! YE: what a call hands back. -/
set_option linter.unusedVariables false
namespace Go.Proofs.Ytcmaohhcbiienaa.X
open Go.RowKit

section
variable {E : Env} {B : Blk} {base nt nx0 : Nat} {vis : List Nat} {g g0 : Gh} {w w0 : World} {ob ob0 F : ObF} {rt rt0 : RtF} {nx : Nat}

theorem sem_bind_pure {α : Type} : ∀ (x : Sem α), x.bind Sem.pure = x := by
  intro x
  induction x <;> simp_all [Sem.bind]
  rename_i h
  funext b
  cases b
  · exact h.1
  · exact h.2
theorem sem_bind_assoc {α β γ : Type} (x : Sem α) (f : α → Sem β) (h : β → Sem γ) : (x.bind f).bind h = x.bind fun a => (f a).bind h := by
  induction x <;> simp_all [Sem.bind]
  rename_i q
  funext b
  cases b
  · exact q.1
  · exact q.2
instance : LawfulMonad Sem := LawfulMonad.mk' Sem (fun x => sem_bind_pure x) (fun _ _ => rfl) (fun x f h => sem_bind_assoc x f h)
theorem mapM_run {α β : Type} {f : α → Sem β} {P : Program} {w : World} {as : Array α} {vs : List β} (hl : vs.length = as.size) (hf : ∀ (i : Nat) (a : α) (v : β), as[i]? = some a → vs[i]? = some v → (f a).run P w = Result.ok v w) :
    (as.mapM f).run P w = Result.ok vs.toArray w := by
  have key : ∀ (l : List α) (us : List β) (bs : Array β), us.length = l.length → (∀ (i : Nat) (a : α) (v : β), l[i]? = some a → us[i]? = some v → (f a).run P w = Result.ok v w) →
      (l.foldlM (fun bs a => bs.push <$> f a) bs).run P w = Result.ok (bs ++ us.toArray) w := by
    intro l
    induction l with
    | nil =>
      intro us bs h _
      obtain rfl := List.eq_nil_of_length_eq_zero h
      simp
    | cons a l ih =>
      intro us bs h hf
      cases us with
      | nil => simp at h
      | cons u us =>
        have h1 := hf 0 a u rfl rfl
        have h2 := ih us (bs.push u) (by simpa using h) fun i a v ha hv => hf (i + 1) a v (by simpa using ha) (by simpa using hv)
        rw [List.foldlM_cons, Sem.run_bind, map_eq_pure_bind, Sem.run_bind, h1, Result.andThen_ok, Sem.run_pure, Result.andThen_ok, h2]
        simp
  rw [Array.mapM_eq_foldlM, ← Array.foldlM_toList]
  rw [key as.toList vs #[] (by simpa using hl) (fun i a v ha hv => hf i a v (by simpa using ha) hv)]
  simp

/-- A result: what it is read as. -/
theorem res1_ok {s : St} {a : Act} (c : Cur E B (base + 16384) s g a w) {r : ResultVar} (hn : resAT1 E s r ≠ .no) :
    ∃ v, (match r with
      | .tmp t => pure (a.tmps.getD t undef)
      | .cell q t => do loadVar t (← asAddr (a.tmps.getD q undef)) : Sem Value).run E.P w = .ok v w ∧ RelA g w s.ob s.rt s.nx v (resAT1 E s r) := by
  cases r with
  | tmp t => exact ⟨_, by simp only [Sem.run_pure]; rfl, c.tm t⟩
  | cell q t =>
    have hd : resAT1 E s (.cell q t) = match s.tm q, E.T t with
      | .one (.pt o off), some ti => match s.ob o with
        | some (.var cs) => (partOf cs off ti.sz ti.agg).getD .no
        | _ => .no
      | _, _ => .no := rfl
    rw [hd] at hn ⊢
    have hq := c.tm q
    split at hn
    · rename_i o off ti h1 hT
      split at hn
      · rename_i cs hob
        cases hp : partOf cs off ti.sz ti.agg with
        | none => rw [hp] at hn; exact absurd rfl hn
        | some x =>
          simp only [h1] at hq
          have h2 := one_rep hq
          generalize hv : a.eval (.tmp q) = vq at h2
          cases h2 with
          | pt k =>
            cases (c.mem.obj o _ hob).1 with
            | var e vs hh hr hI =>
              obtain ⟨v, hv', hr'⟩ := load_part hT (b := g.φ o) (o := 0) (off := off) hr (fun j _ => by rw [Nat.zero_add]; exact row_cells hh j) hp
              refine ⟨v, ?_, ?_⟩
              · simp only [Act.eval] at hv
                rw [Nat.zero_add] at hv'
                show (do loadVar t (← asAddr (a.tmps.getD q undef)) : Sem Value).run E.P w = _
                rw [hv]
                exact hv'
              · exact hr'
      · exact absurd rfl hn
    · exact absurd rfl hn

theorem results_ok {s : St} {a : Act} (c : Cur E B (base + 16384) s g a w) {fn : Func} (hn : ∀ x ∈ fn.results.toList.map (resAT1 E s), x ≠ .no) :
    ∃ v, (results fn a.tmps).run E.P w = .ok v w ∧ ResRel g w s.ob s.rt s.nx v (fn.results.toList.map (resAT1 E s)) := by
  have pick : ∀ (l : List ResultVar), (∀ x ∈ l.map (resAT1 E s), x ≠ .no) → ∃ vs : List Value, vs.length = l.length ∧ ∀ (i : Nat) (r : ResultVar) (v : Value), l[i]? = some r → vs[i]? = some v →
      (match r with
      | .tmp t => pure (a.tmps.getD t undef)
      | .cell q t => do loadVar t (← asAddr (a.tmps.getD q undef)) : Sem Value).run E.P w = .ok v w ∧ RelA g w s.ob s.rt s.nx v (resAT1 E s r) := by
    intro l
    induction l with
    | nil => exact fun _ => ⟨[], rfl, fun i r v h => by simp at h⟩
    | cons r l ih =>
      intro h
      obtain ⟨vs, h1, h2⟩ := ih fun x hx => h x (by simp only [List.map_cons]; exact List.mem_cons_of_mem _ hx)
      obtain ⟨v, h3, h4⟩ := res1_ok c (h _ (by simp only [List.map_cons]; exact List.mem_cons_self ..))
      refine ⟨v :: vs, by simp [h1], fun i r' v' hr hv => ?_⟩
      cases i with
      | zero => simp at hr hv; subst hr; subst hv; exact ⟨h3, h4⟩
      | succ i => exact h2 i r' v' (by simpa using hr) (by simpa using hv)
  obtain ⟨vs, h1, h2⟩ := pick _ hn
  have h3 := mapM_run (P := E.P) (w := w) (as := fn.results) (vs := vs) (f := fun r => (match r with
      | .tmp t => pure (a.tmps.getD t undef)
      | .cell q t => do loadVar t (← asAddr (a.tmps.getD q undef)) : Sem Value)) (by simpa using h1) fun i r v hr hv => (h2 i r v (by simpa using hr) hv).1
  have rel : RelAs g w s.ob s.rt s.nx vs (fn.results.toList.map (resAT1 E s)) := ⟨by simpa using h1, fun i x v hx hv => by
    simp only [List.getElem?_map, Option.map_eq_some_iff] at hx
    obtain ⟨r, hr, rfl⟩ := hx
    exact (h2 i r v hr hv).2⟩
  refine ⟨if h : vs.toArray.size = 1 then vs.toArray[0] else .tuple vs.toArray, ?_, ?_⟩
  · unfold results
    rw [Sem.run_bind]
    exact (congrArg (fun r : Result (Array Value) => r.andThen fun vs w' => (pure (if h : vs.size = 1 then vs[0] else .tuple vs) : Sem Value).run E.P w') h3).trans rfl
  · generalize hl : fn.results.toList.map (resAT1 E s) = xs at rel
    match xs, vs, rel with
    | [x], [v], rel => exact rel.2 0 x v rfl rfl
    | [], [], rel => exact ⟨#[], rfl, rel⟩
    | x :: y :: l, u :: v :: us, rel => exact ⟨(u :: v :: us).toArray, by simp, rel⟩
    | [], _ :: _, rel => simp [RelAs] at rel
    | [_], [], rel => simp [RelAs] at rel
    | [_], _ :: _ :: _, rel => simp [RelAs] at rel
    | _ :: _ :: _, [], rel => simp [RelAs] at rel
    | _ :: _ :: _, [_], rel => simp [RelAs] at rel

/-- The own arrays that end, of what is handed back. -/
def endsC (base : Nat) (l : List Nat) : List Nat := l.filter (base ≤ ·)
theorem backC_ok {G : Nat → Option (List PV)} (h : RelM G g w ob rt nx B) {g' : Gh} {ob' : ObF} (hI : ∀ b i, g.I b i → g'.I b i) {v : Value} {c c' : CV} (k : RelC g w ob rt nx v c) (k' : RelC g' w ob' rt nx v c)
    (hs : ∀ o ∈ seenC c, base ≤ o → ∀ fz z rows, ob o = some (.arr fz z rows) → ∀ i, i < rows.length * z → g'.I (g.φ o) i) (hF : ∀ o, o < base → F o = ob' o) (hb : backC base ob c = some c') : RelC g' w F rt nx v c' := by
  cases c with
  | p u x => simp only [backC, Option.some.injEq] at hb; subst hb; exact k'.sub fun o ho => by simp [refsC] at ho
  | pt o off =>
    simp only [backC] at hb
    split at hb
    · rename_i hlt
      cases hb
      exact k'.sub fun q hq => by simp [refsC] at hq; subst hq; exact hF _ hlt
    · cases hb
  | pr o r off =>
    simp only [backC] at hb
    split at hb
    · rename_i hlt
      cases hb
      exact k'.sub fun q hq => by simp [refsC] at hq; subst hq; exact hF _ hlt
    · cases hb
  | vw o lo n =>
    simp only [backC] at hb
    split at hb
    · rename_i hlt
      cases hb
      exact k'.sub fun q hq => by simp [refsC] at hq; subst hq; exact hF _ hlt
    · rename_i hlt
      simp only [Option.map_eq_some_iff] at hb
      obtain ⟨x, hx, rfl⟩ := hb
      exact .p (k.seen h hx hI fun q hq => hs q hq (by simp [seenC] at hq; omega))
  | mt o =>
    simp only [backC] at hb
    split at hb
    · rename_i hlt
      cases hb
      exact k'.sub fun q hq => by simp [refsC] at hq; subst hq; exact hF _ hlt
    · cases hb
  | cl f cs =>
    simp only [backC] at hb
    split at hb
    · rename_i hlt
      cases hb
      exact k'.sub fun q hq => hF _ (by simpa using List.all_eq_true.1 hlt q hq)
    · cases hb

theorem backL_ok {G : Nat → Option (List PV)} (h : RelM G g w ob rt nx B) {g' : Gh} {ob' : ObF} (hI : ∀ b i, g.I b i → g'.I b i) (hF : ∀ o, o < base → F o = ob' o) : ∀ {cs cs' : List CV} {vs : List Value}, vs.length = cs.length →
    (∀ (j : Nat) (x : CV) (v : Value), cs[j]? = some x → vs[j]? = some v → RelC g w ob rt nx v x ∧ RelC g' w ob' rt nx v x) →
    (∀ o ∈ cs.flatMap seenC, base ≤ o → ∀ fz z rows, ob o = some (.arr fz z rows) → ∀ i, i < rows.length * z → g'.I (g.φ o) i) → backL base ob cs = some cs' →
    cs'.length = cs.length ∧ ∀ (j : Nat) (x : CV) (v : Value), cs'[j]? = some x → vs[j]? = some v → RelC g' w F rt nx v x
  | [], cs', vs, hl, hk, hs, hb => by
    simp only [backL, Option.some.injEq] at hb
    subst hb
    exact ⟨rfl, fun j x v hx => by simp at hx⟩
  | c :: cs, cs', [], hl, hk, hs, hb => by simp at hl
  | c :: cs, cs', v :: vs, hl, hk, hs, hb => by
    simp only [backL] at hb
    split at hb
    · rename_i x xs hx hxs
      cases hb
      obtain ⟨k1, k2⟩ := hk 0 c v rfl rfl
      have h1 := backC_ok (F := F) h hI k1 k2 (fun o ho => hs o (by simp only [List.flatMap_cons, List.mem_append]; exact .inl ho)) hF hx
      obtain ⟨h2, h3⟩ := backL_ok h hI hF (by simpa using hl) (fun j x v hx hv => hk (j + 1) x v (by simpa using hx) (by simpa using hv)) (fun o ho => hs o (by simp only [List.flatMap_cons, List.mem_append]; exact .inr ho)) hxs
      refine ⟨by simp [h2], fun j y u hy hu => ?_⟩
      cases j with
      | zero => simp at hy hu; subst hy; subst hu; exact h1
      | succ j => exact h3 j y u (by simpa using hy) (by simpa using hu)
    · cases hb

theorem backT_ok {G : Nat → Option (List PV)} (h : RelM G g w ob rt nx B) {g' : Gh} {ob' : ObF} (hI : ∀ b i, g.I b i → g'.I b i) (hF : ∀ o, o < base → F o = ob' o) {x x' : AT} {v : Value} (k : RelA g w ob rt nx v x) (k' : RelA g' w ob' rt nx v x)
    (hs : ∀ o ∈ seenT x, base ≤ o → ∀ fz z rows, ob o = some (.arr fz z rows) → ∀ i, i < rows.length * z → g'.I (g.φ o) i) (hb : backT base ob x = some x') : RelA g' w F rt nx v x' := by
  cases k with
  | tup => simp [backT] at hb
  | of k =>
    cases k with
    | no => simp [backT] at hb
    | one k =>
      simp only [backT, Option.map_eq_some_iff] at hb
      obtain ⟨y, hy, rfl⟩ := hb
      exact .of (.one (backC_ok h hI k (one_rep k') hs hF hy))
    | agg k =>
      rename_i vs cs
      simp only [backT, Option.map_eq_some_iff] at hb
      obtain ⟨y, hy, rfl⟩ := hb
      cases k' with
      | of k' =>
        cases k' with
        | agg k' =>
          obtain ⟨h1, h2⟩ := backL_ok (vs := vs.toList) h hI hF (by simpa using k.1) (fun j x v hx hv => ⟨k.2 j x v hx (by simpa using hv), k'.2 j x v hx (by simpa using hv)⟩) hs hy
          exact .of (.agg ⟨k.1.trans h1.symm, fun j x v hx hv => h2 j x v hx (by simpa using hv)⟩)

theorem backAll_at : ∀ {l rs : List AT}, backAll base ob l = some rs → rs.length = l.length ∧ ∀ (i : Nat) (x y : AT), l[i]? = some x → rs[i]? = some y → backT base ob x = some y
  | [], rs, h => by
    simp only [backAll, Option.some.injEq] at h
    subst h
    exact ⟨rfl, fun i x y hx => by simp at hx⟩
  | a :: l, rs, h => by
    simp only [backAll] at h
    split at h
    · rename_i y ys hy hys
      cases h
      obtain ⟨h1, h2⟩ := backAll_at hys
      refine ⟨by simp [h1], fun i x t hx ht => ?_⟩
      cases i with
      | zero => simp at hx ht; subst hx; subst ht; exact hy
      | succ i => exact h2 i x t (by simpa using hx) (by simpa using ht)
    · cases h

theorem putAll_icy_other {l : List Nat} {o : Nat} (h : o ∉ l) : putAll ob (icy ob l) o = ob o := by
  unfold putAll
  refine foldl_ob fun p hp e => ?_
  unfold icy at hp
  obtain ⟨q, hq, hq'⟩ := List.mem_filterMap.1 hp
  split at hq'
  · cases hq'
    exact h (e ▸ hq)
  · cases hq'

end
end Go.Proofs.Ytcmaohhcbiienaa.X
