import Derived.Test.YtcmaohhcbiienaaWA
/-! WB: the head of a loop, whole. -/
set_option linter.unusedVariables false
namespace Go.Proofs.Ytcmaohhcbiienaa.X
open Go.RowKit

section
variable {E : Env} {B : Blk} {base lim nt nx0 m : Nat} {g g' g0 : Gh} {w w' w0 : World} {ob ob0 F : ObF} {rt rt0 : RtF} {nx : Nat} {os : List Nat}

theorem relT_ok {G : Nat → Option (List PV)} (hm : RelM G g w ob rt nx B) (h0 : 0 < nx0) (hnx : nx0 ≤ nx) {k : Nat} {seen : List Nat} {γ : Nat → Value × Nat} {β : Nat → Option Nat} (h : Lab g w ob B rt nx nx0 k seen γ β) (hk : nx0 ≤ k)
    {v : Value} {x : AT} (hr : RelA g w ob rt nx v x) :
    ∃ γ' β', (∀ n, n < k → γ' n = γ n ∧ β' n = β n) ∧ k ≤ (relT rt nx0 k seen (if okT os x then x else .no)).2.1 ∧ Lab g w ob B rt nx nx0 (relT rt nx0 k seen (if okT os x then x else .no)).2.1 (relT rt nx0 k seen (if okT os x then x else .no)).2.2 γ' β' ∧
      ∀ F, LikeF ob F os → ∀ γ'' β'' m, (relT rt nx0 k seen (if okT os x then x else .no)).2.1 ≤ m → (∀ n, n < (relT rt nx0 k seen (if okT os x then x else .no)).2.1 → γ'' n = γ' n) →
        RelA ⟨g.I, g.φ, γ'', β''⟩ w F (rtH rt nx0 m) m v (relT rt nx0 k seen (if okT os x then x else .no)).1 := by
  by_cases ho : okT os x = true
  · rw [if_pos ho]
    cases hr with
    | of hr =>
      cases hr with
      | no => exact ⟨γ, β, fun _ _ => ⟨rfl, rfl⟩, Nat.le_refl _, h, fun F hF γ'' β'' m hm' hγ => .of .no⟩
      | one hr =>
        obtain ⟨γ1, β1, a1, a2, a3⟩ := relC_ok (os := os) hm h0 hnx h hk hr ho
        exact ⟨γ1, β1, a1, Nat.le_succ _, a2, fun F hF γ'' β'' m hm' hγ => .of (.one (a3 F hF γ'' β'' m hm' hγ))⟩
      | agg hr =>
        rename_i vs cs
        obtain ⟨γ1, β1, a1, a2, a3, a4⟩ := relL_ok (os := os) hm h0 hnx (cs := cs) (vs := vs.toList) h hk (by simpa using hr.1) (fun j x v hx hv => hr.2 j x v hx (by simpa using hv)) ho
        exact ⟨γ1, β1, a1, Nat.le_add_right .., a2, fun F hF γ'' β'' m hm' hγ => .of (.agg ⟨hr.1.trans a3.symm, fun j x v hx hv => a4 F hF γ'' β'' m hm' hγ j x v hx (by simpa using hv)⟩)⟩
    | tup hl q => cases ho
  · rw [if_neg ho]
    exact ⟨γ, β, fun _ _ => ⟨rfl, rfl⟩, Nat.le_refl _, h, fun F hF γ'' β'' m hm' hγ => .of .no⟩

theorem headT_ok {G : Nat → Option (List PV)} (hm : RelM G g w ob rt nx B) (h0 : 0 < nx0) (hnx : nx0 ≤ nx) {ev : Nat → Value} {tm : Nat → AT} (htm : ∀ t, RelA g w ob rt nx (ev t) (tm t)) :
    ∀ {l : List Nat} {k : Nat} {seen : List Nat} {γ : Nat → Value × Nat} {β : Nat → Option Nat}, Lab g w ob B rt nx nx0 k seen γ β → nx0 ≤ k →
    ∃ γ' β', (∀ n, n < k → γ' n = γ n ∧ β' n = β n) ∧ k ≤ (headT rt nx0 os tm k seen l).2.1 ∧ Lab g w ob B rt nx nx0 (headT rt nx0 os tm k seen l).2.1 (headT rt nx0 os tm k seen l).2.2 γ' β' ∧
      ∀ F, LikeF ob F os → ∀ γ'' β'' m, (headT rt nx0 os tm k seen l).2.1 ≤ m → (∀ n, n < (headT rt nx0 os tm k seen l).2.1 → γ'' n = γ' n) →
        ∀ t, RelA ⟨g.I, g.φ, γ'', β''⟩ w F (rtH rt nx0 m) m (ev t) ((headT rt nx0 os tm k seen l).1 t)
  | [], k, seen, γ, β, h, hk => ⟨γ, β, fun _ _ => ⟨rfl, rfl⟩, Nat.le_refl _, h, fun F hF γ'' β'' m hm' hγ t => .of .no⟩
  | t :: l, k, seen, γ, β, h, hk => by
    obtain ⟨γ1, β1, a1, a2, a3, a4⟩ := relT_ok (os := os) hm h0 hnx h hk (htm t)
    obtain ⟨γ2, β2, b1, b2, b3, b4⟩ := headT_ok hm h0 hnx htm (l := l) a3 (Nat.le_trans hk a2)
    simp only [headT]
    refine ⟨γ2, β2, fun n hn => ⟨(b1 n (by omega)).1.trans (a1 n hn).1, (b1 n (by omega)).2.trans (a1 n hn).2⟩, Nat.le_trans a2 b2, b3, fun F hF γ'' β'' m hm' hγ u => ?_⟩
    by_cases e : u = t
    · subst e
      rw [upd_same]
      exact a4 F hF γ'' β'' m (Nat.le_trans b2 hm') fun n hn => (hγ n (Nat.lt_of_lt_of_le hn b2)).trans (b1 n hn).1
    · rw [upd_ne _ _ e]
      exact b4 F hF γ'' β'' m hm' hγ u

theorem headO_ok {G : Nat → Option (List PV)} (hm : RelM G g w ob rt nx B) (h0 : 0 < nx0) (hnx : nx0 ≤ nx) {rest : ObF} :
    ∀ {l : List Nat} {k : Nat} {seen : List Nat} {γ : Nat → Value × Nat} {β : Nat → Option Nat} {f : ObF} {m : Nat}, Lab g w ob B rt nx nx0 k seen γ β → nx0 ≤ k → headO rt nx0 os ob rest k seen l = some (f, m) →
    ∃ γ' β' seen', (∀ n, n < k → γ' n = γ n ∧ β' n = β n) ∧ k ≤ m ∧ Lab g w ob B rt nx nx0 m seen' γ' β' ∧ (∀ o, o ∉ l → f o = rest o) ∧ (∀ o, o ∈ l → ob o = none → f o = rest o) ∧ (∀ q ∈ seen', q ∈ seen ∨ q ∈ l.flatMap fun o => rtsO (ob o)) ∧
      ∀ o ∈ l, ∀ x, ob o = some x → ∃ y, f o = some y ∧ x.like y ∧
        ∀ F, LikeF ob F os → ∀ γ'' β'' m', m ≤ m' → (∀ n, n < m → γ'' n = γ' n) → RelObj ⟨g.I, g.φ, γ'', β''⟩ w F (rtH rt nx0 m') m' (g.φ o) y
  | [], k, seen, γ, β, f, m, h, hk, hf => by
    simp only [headO, Option.some.injEq, Prod.mk.injEq] at hf
    obtain ⟨rfl, rfl⟩ := hf
    exact ⟨γ, β, seen, fun _ _ => ⟨rfl, rfl⟩, Nat.le_refl _, h, fun _ _ => rfl, (fun o ho => by cases ho), (fun q hq => .inl hq), (fun o ho => by cases ho)⟩
  | o :: l, k, seen, γ, β, f, m, h, hk, hf => by
    simp only [headO] at hf
    split at hf
    · rename_i hob
      obtain ⟨γ1, β1, s1, a1, a2, a3, a4, a5, a7, a6⟩ := headO_ok hm h0 hnx h hk hf
      refine ⟨γ1, β1, s1, a1, a2, a3, fun q hq => a4 q fun hq' => hq (List.mem_cons_of_mem _ hq'), fun q hq hn => ?_, fun q hq => (a7 q hq).imp id fun h => by simp only [List.flatMap_cons, List.mem_append]; exact .inr h, fun q hq x hx => ?_⟩
      · by_cases hq' : q ∈ l
        · exact a5 q hq' hn
        · exact a4 q hq'
      · rcases List.mem_cons.1 hq with rfl | hq
        · rw [hob] at hx; cases hx
        · exact a6 q hq x hx
    · rename_i cs hob
      split at hf
      · rename_i hok
        split at hf
        · rename_i f1 m1 hf1
          cases hf
          have hv := (hm.obj o _ hob).1
          cases hv with
          | var e vs hh hr hI =>
            obtain ⟨γ1, β1, a1, a2, a3, a4⟩ := relL_ok (os := os) hm h0 hnx (cs := cs) (vs := vs.toList) h hk (by simpa using hr.1) (fun j x v hx hv => hr.2 j x v hx (by simpa using hv)) hok
            obtain ⟨γ2, β2, s2, b1, b2, b3, b4, b5, b7, b6⟩ := headO_ok hm h0 hnx a2 (by omega) hf1
            refine ⟨γ2, β2, s2, fun n hn => ⟨(b1 n (by omega)).1.trans (a1 n hn).1, (b1 n (by omega)).2.trans (a1 n hn).2⟩, by omega, b3, fun q hq => ?_, fun q hq hn => ?_, fun q hq => ?_, fun q hq x hx => ?_⟩
            · have hne : q ≠ o := fun e => hq (e ▸ List.mem_cons_self ..)
              rw [upd_ne _ _ hne]
              exact b4 q fun hq' => hq (List.mem_cons_of_mem _ hq')
            · have hne : q ≠ o := fun e => by rw [e, hob] at hn; cases hn
              rw [upd_ne _ _ hne]
              rcases List.mem_cons.1 hq with rfl | hq
              · exact absurd rfl hne
              · exact b5 q hq hn
            · simp only [List.flatMap_cons, List.mem_append]
              rcases b7 q hq with h | h
              · rcases relL_seen h with h | h
                · exact .inl h
                · exact .inr (.inl (by rw [hob]; exact h))
              · exact .inr (.inr h)
            · by_cases e' : q = o
              · subst e'
                rw [hob] at hx
                cases hx
                refine ⟨_, upd_same .., by simpa [Obj.like] using a3, fun F hF γ'' β'' m' hm' hγ => .var e vs hh ⟨hr.1.trans a3.symm, fun j x v hx hv => ?_⟩ hI⟩
                exact a4 F hF γ'' β'' m' (by omega) (fun n hn => (hγ n (by omega)).trans (b1 n (by omega)).1) j x v hx (by simpa using hv)
              · rw [upd_ne _ _ e']
                rcases List.mem_cons.1 hq with rfl | hq
                · exact absurd rfl e'
                · exact b6 q hq x hx
        · cases hf
      · cases hf
    · rename_i fz z rows hob
      split at hf
      · rename_i f1 m1 hf1
        cases hf
        obtain ⟨γ2, β2, s2, b1, b2, b3, b4, b5, b7, b6⟩ := headO_ok hm h0 hnx h hk hf1
        refine ⟨γ2, β2, s2, b1, b2, b3, fun q hq => ?_, fun q hq hn => ?_, fun q hq => (b7 q hq).imp id fun h => by simp only [List.flatMap_cons, List.mem_append]; exact .inr h, fun q hq x hx => ?_⟩
        · have hne : q ≠ o := fun e => hq (e ▸ List.mem_cons_self ..)
          rw [upd_ne _ _ hne]
          exact b4 q fun hq' => hq (List.mem_cons_of_mem _ hq')
        · have hne : q ≠ o := fun e => by rw [e, hob] at hn; cases hn
          rw [upd_ne _ _ hne]
          rcases List.mem_cons.1 hq with rfl | hq
          · exact absurd rfl hne
          · exact b5 q hq hn
        · by_cases e' : q = o
          · subst e'
            rw [hob] at hx
            cases hx
            refine ⟨_, upd_same .., .refl _, fun F hF γ'' β'' m' hm' hγ => ?_⟩
            cases (hm.obj q _ hob).1 with
            | nil => exact .nil
            | arr e vs h1 h2 h3 h4 h5 h6 h7 => exact .arr e vs h1 h2 h3 h4 h5 h6 h7
          · rw [upd_ne _ _ e']
            rcases List.mem_cons.1 hq with rfl | hq
            · exact absurd rfl e'
            · exact b6 q hq x hx
      · cases hf
    · rename_i es clk hob
      split at hf
      · rename_i f1 m1 hf1
        cases hf
        obtain ⟨γ2, β2, s2, b1, b2, b3, b4, b5, b7, b6⟩ := headO_ok hm h0 hnx h hk hf1
        refine ⟨γ2, β2, s2, b1, b2, b3, fun q hq => ?_, fun q hq hn => ?_, fun q hq => (b7 q hq).imp id fun h => by simp only [List.flatMap_cons, List.mem_append]; exact .inr h, fun q hq x hx => ?_⟩
        · have hne : q ≠ o := fun e => hq (e ▸ List.mem_cons_self ..)
          rw [upd_ne _ _ hne]
          exact b4 q fun hq' => hq (List.mem_cons_of_mem _ hq')
        · have hne : q ≠ o := fun e => by rw [e, hob] at hn; cases hn
          rw [upd_ne _ _ hne]
          rcases List.mem_cons.1 hq with rfl | hq
          · exact absurd rfl hne
          · exact b5 q hq hn
        · by_cases e' : q = o
          · subst e'
            rw [hob] at hx
            cases hx
            refine ⟨_, upd_same .., .refl _, fun F hF γ'' β'' m' hm' hγ => ?_⟩
            cases (hm.obj q _ hob).1 with
            | mp h1 h2 => exact .mp h1 h2
          · rw [upd_ne _ _ e']
            rcases List.mem_cons.1 hq with rfl | hq
            · exact absurd rfl e'
            · exact b6 q hq x hx
      · cases hf

theorem mem_addS : ∀ {a b : List Nat} {o : Nat}, o ∈ addS a b ↔ o ∈ a ∨ o ∈ b
  | [], b, o => by simp [addS]
  | x :: a, b, o => by
    have key : ∀ (b : List Nat), addS (x :: a) b = addS a (if b.contains x then b else x :: b) := fun b => rfl
    rw [key, mem_addS]
    split
    · rename_i h
      have h : x ∈ b := by simpa using h
      constructor
      · rintro (h1 | h1)
        · exact .inl (List.mem_cons_of_mem _ h1)
        · exact .inr h1
      · rintro (h1 | h1)
        · rcases List.mem_cons.1 h1 with rfl | h1
          · exact .inr h
          · exact .inl h1
        · exact .inr h1
    · simp only [List.mem_cons]
      constructor
      · rintro (h1 | h1 | h1)
        · exact .inl (.inr h1)
        · exact .inl (.inl h1)
        · exact .inr h1
      · rintro ((h1 | h1) | h1)
        · exact .inr (.inl h1)
        · exact .inl h1
        · exact .inr (.inr h1)
theorem mem_reach {ob : ObF} : ∀ {n : Nat} {l : List Nat} {o : Nat}, o ∈ l → o ∈ reach ob n l
  | 0, _, _, h => h
  | n + 1, l, o, h => mem_reach (n := n) (mem_addS.2 (.inr h))
variable {vis : List Nat}
theorem head0_core {G : Nat → Option (List PV)} {s s1 : St} {h : List Nat} {ev : Nat → Value} (hm : RelM G g w s.ob s.rt s.nx B) (h0 : 0 < nx0) (hnx : nx0 ≤ s.nx) (htm : ∀ t, RelA g w s.ob s.rt s.nx (ev t) (s.tm t))
    (hlow : ∀ o, (s.ob o).isSome → o < base → o ∈ vis) (hh : head0 base nx0 vis h s = some s1) :
    ∃ γ2 β2, RelM G ⟨g.I, g.φ, γ2, β2⟩ w s1.ob s1.rt s1.nx B ∧ (∀ t, RelA ⟨g.I, g.φ, γ2, β2⟩ w s1.ob s1.rt s1.nx (ev t) (s1.tm t)) ∧ (∀ o x, s1.ob o = some x → ∃ y, s.ob o = some y ∧ y.like x) ∧
      (∀ o x, s.ob o = some x → o < base ∨ o ∈ seeO s.ob (h.map s.tm) vis → ∃ y, s1.ob o = some y ∧ x.like y) ∧ (∀ n, n < nx0 → s1.rt n = true → s.rt n = true ∧ γ2 n = g.γ n) ∧ nx0 ≤ s1.nx ∧
      (∀ n b, nx0 ≤ n → n < s1.nx → β2 n = some b → ∃ q, (q ∈ (h.map s.tm).flatMap rtsT ∨ q ∈ (seeO s.ob (h.map s.tm) vis).flatMap fun o => rtsO (s.ob o)) ∧ q ≠ 0 ∧ q < s.nx ∧ s.rt q = true ∧ g.β q = some b) ∧
      (∀ o, (s1.ob o).isSome → o ∈ seeO s.ob (h.map s.tm) vis) ∧ s1.rt = rtH s.rt nx0 s1.nx := by
  unfold head0 at hh
  simp only at hh
  have hse : seeO s.ob (h.map s.tm) vis = (reach s.ob 2 (addS (h.flatMap fun t => refsT (s.tm t)) vis)).filter (fun o => (s.ob o).isSome) := by
    unfold seeO
    rw [List.flatMap_map]
  rw [← hse] at hh
  generalize hall : seeO s.ob (h.map s.tm) vis = all at hh hse
  generalize hlive : (all.filter fun o => decide (base ≤ o) || vis.contains o) = live at hh
  split at hh
  · rename_i f m hf
    cases hh
    obtain ⟨γ1, β1, a1, a2, a3, a4⟩ := headT_ok (os := all) hm h0 hnx htm (l := h) (k := nx0) (seen := []) (γ := g.γ) (β := g.β) ⟨fun _ _ => ⟨rfl, rfl⟩, fun n h1 h2 => by omega, fun n m b h1 h2 => by omega, fun n h1 h2 => by omega⟩ (Nat.le_refl _)
    obtain ⟨γ2, β2, s2, b1, b2, b3, b4, b5, b7, b6⟩ := headO_ok hm h0 hnx a3 a2 hf
    replace b5 : ∀ o, o ∈ live → s.ob o = none → f o = none := b5
    have hin : ∀ o, o ∈ live ↔ o ∈ all ∧ (base ≤ o ∨ o ∈ vis) := fun o => by rw [← hlive]; simp
    have hvis : ∀ o, o ∈ vis → (s.ob o).isSome → o ∈ all := fun o hv hs => by rw [hse]; exact List.mem_filter.2 ⟨mem_reach (mem_addS.2 (.inr hv)), hs⟩
    have hlo : ∀ o, (s.ob o).isSome → o < base → o ∈ live := fun o ho hb => (hin o).2 ⟨hvis o (hlow o ho hb) ho, .inr (hlow o ho hb)⟩
    have hout : ∀ o, o ∉ live → f o = none := b4
    have hF : LikeF s.ob f all := fun o ho x hx => by
      have hl : o ∈ live := by
        rcases Nat.lt_or_ge o base with q | q
        · exact hlo o (by rw [hx]; rfl) q
        · exact (hin o).2 ⟨ho, .inl q⟩
      obtain ⟨y, hy, l, _⟩ := b6 o hl x hx
      exact ⟨y, hy, l⟩
    have hsome : ∀ o x, f o = some x → o ∈ live ∧ ∃ y, s.ob o = some y ∧ y.like x := fun o x hx => by
      by_cases hl : o ∈ live
      · cases hs : s.ob o with
        | none => rw [b5 o hl hs] at hx; cases hx
        | some y =>
          obtain ⟨z, hz, l, _⟩ := b6 o hl y hs
          rw [hx] at hz
          cases hz
          exact ⟨hl, y, rfl, l⟩
      · rw [hout o hl] at hx
        cases hx
    have hrt : ∀ n, n < nx0 → rtH s.rt nx0 m n = true → s.rt n = true ∧ γ2 n = g.γ n := fun n hn ht => by
      simp only [rtH, if_pos hn] at ht
      split at ht
      · cases ht
      · exact ⟨ht, (b3.low n hn).1⟩
    have hmnx : nx0 ≤ m := Nat.le_trans a2 b2
    have hobj : ∀ o x, f o = some x → RelObj ⟨g.I, g.φ, γ2, β2⟩ w f (rtH s.rt nx0 m) m (g.φ o) x := fun o x hx => by
      obtain ⟨hl, y, hy, _⟩ := hsome o x hx
      obtain ⟨z, hz, _, k⟩ := b6 o hl y hy
      rw [hx] at hz
      cases hz
      exact k f hF γ2 β2 m (Nat.le_refl _) fun _ _ => rfl
    refine ⟨γ2, β2, ?_, ?_, fun o x hx => (hsome o x hx).2, fun o x hx hb => ?_, hrt, hmnx, fun n b h1 h2 h3 => ?_, fun o ho => ?_, rfl⟩
    · -- the memory
      refine ⟨by show 0 < m; omega, hm.glob, hm.size, fun o x hx => ⟨hobj o x hx, ?_⟩, fun o o' x x' hx hx' hs hs' hφ => ?_, fun n n0 hn ht => ?_, fun n q b n0 q0 hn hq htn htq hbn hbq => ?_, hm.bnd⟩
      · obtain ⟨_, y, hy, hs⟩ := hsome o x hx
        exact fun h => (hm.obj o y hy).2 (hs.solid.2 h)
      · obtain ⟨_, y, hy, q⟩ := hsome o x hx
        obtain ⟨_, y', hy', q'⟩ := hsome o' x' hx'
        exact hm.inj o o' y y' hy hy' (q.solid.2 hs) (q'.solid.2 hs') hφ
      · have sub : ∀ {c : Gh}, OwnR c w s.ob B n → OwnR c w f B n := fun {c} k => by
          cases k with
          | full A k z q1 q2 => exact .full A k z q1 q2
          | own b' len cap z ee cur q1 q2 q3 q4 q5 q6 q7 q8 q9 =>
            refine .own b' len cap z ee cur q1 q2 q3 q4 q5 q6 q7 q8 fun o x hx hs => ?_
            obtain ⟨_, y, hy, q⟩ := hsome o x hx
            exact q9 o y hy (q.solid.2 hs)
        by_cases hlo : n < nx0
        · have ht' := (hrt n hlo ht).1
          have k := hm.own n n0 (Nat.lt_of_lt_of_le hlo hnx) ht'
          refine sub (k.ext (g' := ⟨g.I, g.φ, γ2, β2⟩) (b3.low n hlo).1 (b3.low n hlo).2 fun b hb => ⟨rfl, fun _ q => q, ?_⟩)
          cases k with
          | full A k z q1 q2 => rw [q2] at hb; cases hb
          | own b' len cap z ee cur q1 q2 q3 q4 q5 q6 q7 q8 q9 => rw [q2] at hb; cases hb; exact q9
        · exact sub (b3.own n (by omega) hn)
      · simp only at hbn hbq
        by_cases h1 : n < nx0 <;> by_cases h2 : q < nx0
        · have t1 := (hrt n h1 htn).1
          have t2 := (hrt q h2 htq).1
          rw [(b3.low n h1).2] at hbn
          rw [(b3.low q h2).2] at hbq
          exact hm.apart n q b n0 q0 (Nat.lt_of_lt_of_le h1 hnx) (Nat.lt_of_lt_of_le h2 hnx) t1 t2 hbn hbq
        · obtain ⟨r, _, r0, r1, r2, r3, r4⟩ := b3.src q (by omega) hq b hbq
          rw [(b3.low n h1).2] at hbn
          have := hm.apart n r b n0 r0 (Nat.lt_of_lt_of_le h1 hnx) r2 (hrt n h1 htn).1 r3 hbn r4
          omega
        · obtain ⟨r, _, r0, r1, r2, r3, r4⟩ := b3.src n (by omega) hn b hbn
          rw [(b3.low q h2).2] at hbq
          have := hm.apart q r b q0 r0 (Nat.lt_of_lt_of_le h2 hnx) r2 (hrt q h2 htq).1 r3 hbq r4
          omega
        · exact b3.apart n q b (by omega) hn (by omega) hq hbn hbq
    · exact a4 f hF γ2 β2 m b2 fun n hn => (b1 n hn).1
    · have hl : o ∈ live := by
        rcases Nat.lt_or_ge o base with q | q
        · exact hlo o (by rw [hx]; rfl) q
        · rcases hb with hb | hb
          · omega
          · exact (hin o).2 ⟨hb, .inl q⟩
      obtain ⟨y, hy, l, _⟩ := b6 o hl x hx
      exact ⟨y, hy, l⟩
    · obtain ⟨q, hq, q0, q1, q2, q3, q4⟩ := b3.src n h1 h2 b h3
      refine ⟨q, ?_, q0, q2, q3, q4⟩
      rcases b7 q hq with hq | hq
      · rcases headT_seen hq with hq | hq
        · cases hq
        · exact .inl hq
      · refine .inr ?_
        obtain ⟨o, ho, hq⟩ := List.mem_flatMap.1 hq
        exact List.mem_flatMap.2 ⟨o, ((hin o).1 ho).1, hq⟩
    · obtain ⟨x, hx⟩ := Option.isSome_iff_exists.1 ho
      exact ((hin o).1 (hsome o x hx).1).1
  · cases hh

/-- What is written no more, seen as it is. -/
theorem coldC_ok {G : Nat → Option (List PV)} (hm : RelM G g w ob rt nx B) {v : Value} {c : CV} (h : RelC g w ob rt nx v c) : RelC g w ob rt nx v (coldC ob c) := by
  unfold coldC
  split
  · rename_i o lo n
    split
    · rename_i z rows ho
      refine .p (h.seen hm (by simp [pvC, ho]) (fun _ _ q => q) fun q hq fz z' rows' hq' i hi => ?_)
      obtain rfl : q = o := by simpa [seenC] using hq
      rw [ho] at hq'
      cases hq'
      cases (hm.obj q _ ho).1 with
      | nil => simp at hi
      | arr e vs h1 h2 h3 h4 h5 h6 h7 => exact h7 rfl i hi
    · exact h
  · exact h
theorem coldT_ok1 {G : Nat → Option (List PV)} (hm : RelM G g w ob rt nx B) {v : Value} {x : AT} (h : RelA1 g w ob rt nx v x) : RelA1 g w ob rt nx v (coldT ob x) := by
  cases h with
  | no => exact .no
  | one h => exact .one (coldC_ok hm h)
  | agg h =>
    refine .agg ⟨by simpa using h.1, fun j x v hx hv => ?_⟩
    simp only [List.getElem?_map, Option.map_eq_some_iff] at hx
    obtain ⟨y, hy, rfl⟩ := hx
    exact coldC_ok hm (h.2 j y v hy hv)
theorem coldT_ok {G : Nat → Option (List PV)} (hm : RelM G g w ob rt nx B) {v : Value} {x : AT} (h : RelA g w ob rt nx v x) : RelA g w ob rt nx v (coldT ob x) := by
  cases h with
  | of h => exact .of (coldT_ok1 hm h)
  | tup hl h => exact .tup hl h
theorem rtsC_cold {c : CV} : rtsC (coldC ob c) = rtsC c := by
  unfold coldC
  split
  · split <;> rfl
  · rfl
theorem rtsT_cold {x : AT} : rtsT (coldT ob x) = rtsT x := by
  cases x with
  | one c => exact rtsC_cold
  | agg cs =>
    simp only [coldT, rtsT, List.flatMap_map]
    congr 1
    funext c
    exact rtsC_cold
  | _ => rfl

theorem head_core {G : Nat → Option (List PV)} {s s1 : St} {h : List Nat} {ev : Nat → Value} (hm : RelM G g w s.ob s.rt s.nx B) (h0 : 0 < nx0) (hnx : nx0 ≤ s.nx) (htm : ∀ t, RelA g w s.ob s.rt s.nx (ev t) (s.tm t))
    (hlow : ∀ o, (s.ob o).isSome → o < base → o ∈ vis) (hh : head base nx0 vis h s = some s1) :
    ∃ γ2 β2, RelM G ⟨g.I, g.φ, γ2, β2⟩ w s1.ob s1.rt s1.nx B ∧ (∀ t, RelA ⟨g.I, g.φ, γ2, β2⟩ w s1.ob s1.rt s1.nx (ev t) (s1.tm t)) ∧ (∀ o x, s1.ob o = some x → ∃ y, s.ob o = some y ∧ y.like x) ∧
      (∀ o x, s.ob o = some x → o < base ∨ o ∈ seeO s.ob (h.map fun t => coldT s.ob (s.tm t)) vis → ∃ y, s1.ob o = some y ∧ x.like y) ∧ (∀ n, n < nx0 → s1.rt n = true → s.rt n = true ∧ γ2 n = g.γ n) ∧ nx0 ≤ s1.nx ∧
      (∀ n b, nx0 ≤ n → n < s1.nx → β2 n = some b → ∃ q, (q ∈ (h.map s.tm).flatMap rtsT ∨ q ∈ (seeO s.ob (h.map fun t => coldT s.ob (s.tm t)) vis).flatMap fun o => rtsO (s.ob o)) ∧ q ≠ 0 ∧ q < s.nx ∧ s.rt q = true ∧ g.β q = some b) ∧
      (∀ o, (s1.ob o).isSome → o ∈ seeO s.ob (h.map fun t => coldT s.ob (s.tm t)) vis) ∧ s1.rt = rtH s.rt nx0 s1.nx := by
  obtain ⟨γ2, β2, a1, a2, a3, a4, a5, a6, a7, a8, a9⟩ := head0_core (s := coldS s) (ev := ev) hm h0 hnx (fun t => coldT_ok hm (htm t)) hlow hh
  refine ⟨γ2, β2, a1, a2, a3, a4, a5, a6, fun n b h1 h2 h3 => ?_, a8, a9⟩
  obtain ⟨q, hq, r⟩ := a7 n b h1 h2 h3
  refine ⟨q, hq.imp (fun h => ?_) id, r⟩
  simp only [List.flatMap_map, coldS, rtsT_cold] at h ⊢
  exact h
end
end Go.Proofs.Ytcmaohhcbiienaa.X
