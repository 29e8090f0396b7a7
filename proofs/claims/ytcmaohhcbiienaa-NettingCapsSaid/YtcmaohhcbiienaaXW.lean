import Derived.Test.YtcmaohhcbiienaaXV
/-! XW: an operation's answer, where other own variables are otherwise. -/
set_option linter.unusedVariables false
namespace Go.Proofs.Ytcmaohhcbiienaa.X
open Go.RowKit

section
variable {E : Env} {ob ob' : ObF} {rt rt' : RtF} {nx nx' : Nat} {ρ : Operand → AT} {gen : Nat → Bool} {call : CallF} {base : Nat}

theorem fillR_local {ti : TI} : ∀ {parts : List (Nat × Operand)} {cs : List (List PV)}, (∀ o ∈ parts.flatMap (fun p => seenT (ρ p.2)), ob o = ob' o) → fillR ti E ob ρ cs parts = fillR ti E ob' ρ cs parts
  | [], _, _ => rfl
  | (i, x) :: r, cs, h => by
    have ih := fun cs => fillR_local (cs := cs) (parts := r) (ti := ti) fun o ho => h o (by simp only [List.flatMap_cons, List.mem_append]; exact .inr ho)
    have hx : (cellsOf (opT E ρ ti.e x)).bind (pvL ob) = (cellsOf (opT E ρ ti.e x)).bind (pvL ob') := by
      cases hc : cellsOf (opT E ρ ti.e x) with
      | none => rfl
      | some vs =>
        show pvL ob vs = pvL ob' vs
        refine pvL_local fun o ho => h o ?_
        rw [cells_seen hc] at ho
        simp only [List.flatMap_cons, List.mem_append]
        refine .inl ?_
        unfold opT at ho
        split at ho
        · simp [seenT, seenC] at ho
        · exact ho
    simp only [fillR, hx, ih]

theorem noAll_cells {t : TypeId} {x : Operand} {vs : List CV} (hc : cellsOf (opT E ρ t x) = some vs) : ∀ o ∈ vs.flatMap seenC, o ∈ seenT (ρ x) := by
  intro o ho
  rw [cells_seen hc] at ho
  unfold opT at ho
  split at ho
  · simp [seenT, seenC] at ho
  · exact ho

/-- What an operation's answer hangs on: own variables in its 'rd'; rights where it gives a new one; all where it turns all. -/
def Like (u : Upd) (ob ob' : ObF) (rt rt' : RtF) (nx nx' : Nat) : Prop :=
  (∀ o ∈ u.rd, ob o = ob' o) ∧ (u.nl = true → rt = rt' ∧ nx = nx') ∧ (u.all.isSome = true → ob = ob' ∧ rt = rt' ∧ nx = nx')

mutual
theorem snapC_local : ∀ (c : CV), (∀ o ∈ looksC ob c, ob o = ob' o) → snapC ob c = snapC ob' c ∧ looksC ob c = looksC ob' c
  | .p _ x, _ => ⟨rfl, rfl⟩
  | .vw o lo n, h => ⟨by simp only [snapC]; exact pvC_local fun q hq => h q (by simpa [looksC, seenC] using hq), rfl⟩
  | .pt o off, h => by
    have h1 : ob o = ob' o := h o (by simp [looksC])
    simp only [snapC, looksC, ← h1]
    cases ho : ob o with
    | none => constructor <;> first | rfl | trivial
    | some x =>
      cases x with
      | var cs =>
        simp only
        rw [pvL_local (ob := ob) (ob' := ob') fun q hq => h q (by simp only [looksC, ho]; exact List.mem_cons_of_mem _ hq)]
        constructor <;> first | rfl | trivial
      | arr fz z rows => constructor <;> first | rfl | trivial
      | mp => constructor <;> first | rfl | trivial
  | .pr o r off, h => by
    have h1 : ob o = ob' o := h o (by simp [looksC])
    simp only [snapC, looksC, ← h1]
    constructor <;> first | rfl | trivial
  | .mt _, _ => ⟨rfl, rfl⟩
  | .cl f cs, h => by
    obtain ⟨h1, h2⟩ := snapL_local cs fun o ho => h o (by simpa [looksC] using ho)
    simp only [snapC, looksC, h1, h2]
    constructor <;> first | rfl | trivial
theorem snapL_local : ∀ (cs : List CV), (∀ o ∈ looksL ob cs, ob o = ob' o) → snapL ob cs = snapL ob' cs ∧ looksL ob cs = looksL ob' cs
  | [], _ => ⟨rfl, rfl⟩
  | c :: cs, h => by
    obtain ⟨h1, h2⟩ := snapC_local c fun o ho => h o (by simp only [looksL, List.mem_append]; exact .inl ho)
    obtain ⟨h3, h4⟩ := snapL_local cs fun o ho => h o (by simp only [looksL, List.mem_append]; exact .inr ho)
    simp only [snapL, looksL, h1, h2, h3, h4]
    exact ⟨trivial, trivial⟩
end
theorem snapOf_local {x : AT} (h : ∀ o ∈ looksT ob x, ob o = ob' o) : snapOf ob x = snapOf ob' x ∧ looksT ob x = looksT ob' x := by
  cases x with
  | one c =>
    obtain ⟨h1, h2⟩ := snapC_local c h
    simp only [snapOf, looksT, h1, h2]
    exact ⟨trivial, trivial⟩
  | agg cs =>
    obtain ⟨h1, h2⟩ := snapL_local cs h
    simp only [snapOf, looksT, h1, h2]
    exact ⟨trivial, trivial⟩
  | _ => exact ⟨rfl, rfl⟩
theorem snapArgs_local : ∀ {xs : List AT}, (∀ o ∈ xs.flatMap (looksT ob), ob o = ob' o) → snapArgs ob xs = snapArgs ob' xs ∧ xs.flatMap (looksT ob) = xs.flatMap (looksT ob')
  | [], _ => ⟨rfl, rfl⟩
  | x :: xs, h => by
    obtain ⟨h1, h2⟩ := snapOf_local (x := x) fun o ho => h o (by simp only [List.flatMap_cons, List.mem_append]; exact .inl ho)
    obtain ⟨h3, h4⟩ := snapArgs_local (xs := xs) fun o ho => h o (by simp only [List.flatMap_cons, List.mem_append]; exact .inr ho)
    simp only [snapArgs, List.flatMap_cons, h1, h2, h3, h4]
    exact ⟨trivial, trivial⟩
theorem seen_looks (c : CV) : ∀ o ∈ seenC c, o ∈ looksC ob c := by
  intro q hq
  cases c <;> simp_all [looksC, seenC]
theorem looksL_flat : ∀ {cs : List CV}, looksL ob cs = cs.flatMap (looksC ob)
  | [] => rfl
  | c :: cs => by simp only [looksL, List.flatMap_cons, looksL_flat]
theorem seenT_looks {x : AT} : ∀ o ∈ seenT x, o ∈ looksT ob x := by
  intro o ho
  cases x with
  | one c => exact seen_looks c o ho
  | agg cs =>
    obtain ⟨c, hc, h⟩ := List.mem_flatMap.1 ho
    simp only [looksT, looksL_flat]
    exact List.mem_flatMap.2 ⟨c, hc, seen_looks c o h⟩
  | _ => simp [seenT] at ho
theorem flat_rd {g : FuncId} {xs : List Arg} {R : List Nat} {u : Upd} (h : flatCall call g xs R = some u) : u.rd = R ∧ u.all = none := by
  unfold flatCall at h
  simp only [Option.bind_eq_some_iff] at h
  obtain ⟨rs, _, h⟩ := h
  split at h
  · cases h; exact ⟨rfl, rfl⟩
  · cases h
theorem looks_caps {caps : List PV} : (caps.map fun x => AT.one (.p none x)).flatMap (looksT ob) = [] := by
  induction caps with
  | nil => rfl
  | cons x xs ih => simp only [List.map_cons, List.flatMap_cons, ih]; rfl
theorem looks_one {caps : List CV} : (caps.map AT.one).flatMap (looksT ob) = looksL ob caps := by
  induction caps with
  | nil => rfl
  | cons x xs ih => simp only [List.map_cons, List.flatMap_cons, ih, looksL]; rfl

theorem zero_local' {t : TypeId} {ti : TI} (h : E.T t = some ti) : pvL ob ti.zero = pvL ob' ti.zero := by
  obtain ⟨_, _, _, _, _, _, _, hz, _⟩ := (tiOk h).base
  exact pvL_local fun o ho => by rw [zero_seen hz] at ho; cases ho
theorem mvCall_all {d : Nat} {g : FuncId} {xs : List AT} {u : Upd} (h : mvCall call base d g xs ob rt nx = some u) : u.all.isSome = true := by
  unfold mvCall at h
  split at h
  · simp only at h
    split at h
    · split at h
      · unfold mvEnd at h
        simp only at h
        split at h
        · simp only [Option.map_eq_some_iff] at h
          obtain ⟨r, _, rfl⟩ := h
          rfl
        · cases h
      · cases h
    · cases h
  · cases h
theorem evCall_local {dst : Option Nat} {c : Call} {u : Upd} (h : evCall E gen call base ρ ob rt nx dst c = some u) (l : Like u ob ob' rt rt' nx nx') :
    evCall E gen call base ρ ob' rt' nx' dst c = some u := by
  obtain ⟨l1, l2, l3⟩ := l
  obtain ⟨callee, args, ts⟩ := c
  unfold evCall at h ⊢
  simp only at h ⊢
  split at h
  · exact h
  · split at h
    · split at h
      · rename_i hk
        rw [if_pos hk]
        split at h
        · split at h
          · split at h
            · rename_i o lo n cy e1 e2 _ _ z' rows z l' hob hpv hb
              cases h
              have h1 := l1 o (by simp)
              have h2 : pvC ob cy = pvC ob' cy := pvC_local fun q hq => l1 q (by simp [hq])
              simp only [← h1, hob, ← h2, hpv]
              rw [if_pos hb]
            · cases h
          · cases h
        · cases h
      · cases h
    · cases h
  · split at h
    · split at h
      · rename_i hob hte
        split at h
        · rename_i z hz
          split at h
          · rename_i hb
            cases h
            have h1 := l1 _ (List.mem_cons_self ..)
            simp only [← h1, hob, hte, ← zero_local' (ob := ob) (ob' := ob') hte, hz]
            rw [if_pos hb]
          · cases h
        · cases h
      · cases h
    · cases h
  · split at h
    · split at h
      · rename_i hk
        rw [if_pos hk]
        split at h
        · rename_i hg
          rw [if_pos hg]
          split at h
          · split at h
            · rename_i hl hq
              split at h
              · rename_i hb
                cases h
                have h1 := l1 _ (List.mem_cons_self ..)
                rw [← h1, hq, ← pvC_local (ob := ob) (ob' := ob') fun q hq => l1 q (List.mem_cons_of_mem _ hq), hl]
                simp only
                rw [if_pos hb]
              · cases h
            · cases h
          · cases h
        · rename_i hg
          rw [if_neg hg]
          split at h
          · split at h
            · rename_i hb
              cases h
              obtain ⟨rfl, rfl⟩ := l2 rfl
              rw [if_pos hb]
            · cases h
          · cases h
      · cases h
    · cases h
  · split at h
    · rename_i hk
      rw [if_pos hk]
      split at h
      · split at h
        · rename_i hg
          rw [if_pos hg]
          obtain ⟨rfl, rfl, rfl⟩ := l3 (mvCall_all h)
          exact h
        · rename_i hg
          rw [if_neg hg]
          split at h
          · rename_i xs hxs
            simp only [Option.map_eq_some_iff] at h
            obtain ⟨rs, hrs, rfl⟩ := h
            rw [← argsOf_local (ob := ob) (ob' := ob') l1, hxs]
            simp only [hrs, Option.map_some]
            rw [icy_local (ob := ob) (ob' := ob') l1]
          · rename_i hxs
            split at h
            · rename_i xs hsn
              have hrd := (flat_rd h).1
              rw [hrd] at l1
              obtain ⟨q1, q2⟩ := snapArgs_local (ob := ob) (ob' := ob') (xs := (args.toList.zip ts.toList).map fun p => opT E ρ p.2 p.1) l1
              rw [← argsOf_local (ob := ob) (ob' := ob') fun o ho => by
                obtain ⟨x, hx, hx'⟩ := List.mem_flatMap.1 ho
                exact l1 o (List.mem_flatMap.2 ⟨x, hx, seenT_looks o hx'⟩), hxs]
              simp only
              rw [← (snapArgs_local (ob := ob) (ob' := ob') fun o ho => by
                rw [List.flatMap_append, looks_caps, List.append_nil] at ho
                exact l1 o ho).1, hsn]
              simp only
              rw [← q2]
              exact h
            · cases h
      · split at h
        · rename_i hg
          rw [if_pos hg]
          obtain ⟨rfl, rfl, rfl⟩ := l3 (mvCall_all h)
          exact h
        · rename_i hg
          rw [if_neg hg]
          split at h
          · rename_i xs hsn
            have hrd := (flat_rd h).1
            rw [hrd] at l1
            obtain ⟨q1, q2⟩ := snapArgs_local (ob := ob) (ob' := ob') (xs := (args.toList.zip ts.toList).map fun p => opT E ρ p.2 p.1) fun o ho => l1 o (List.mem_append_left _ ho)
            obtain ⟨q3, q4⟩ := snapL_local (ob := ob) (ob' := ob') _ fun o ho => l1 o (List.mem_append_right _ ho)
            rw [← (snapArgs_local (ob := ob) (ob' := ob') fun o ho => by
              rw [List.flatMap_append, looks_one] at ho
              exact l1 o ho).1, hsn]
            simp only
            rw [← q2, ← q4]
            exact h
          · cases h
      · cases h
    · cases h
  · cases h

theorem zero_local {t : TypeId} {ti : TI} (h : E.T t = some ti) : pvL ob ti.zero = pvL ob' ti.zero := by
  obtain ⟨_, _, _, _, _, _, _, hz, _⟩ := (tiOk h).base
  exact pvL_local fun o ho => by rw [zero_seen hz] at ho; cases ho

theorem evOp_local {o : Oper} {u : Upd} (h : evOp E gen call base ρ ob rt nx o = some u) (l : Like u ob ob' rt rt' nx nx') :
    evOp E gen call base ρ ob' rt' nx' o = some u := by
  unfold evOp at h ⊢
  split at h
  · exact h
  · exact h
  · exact h
  · split at h
    · rename_i e1 e2
      split at h
      · rename_i e3
        cases h
        rw [← l.1 _ (by simp), e3]
      · cases h
    · cases h
  · split at h
    · split at h
      · rename_i e3
        cases h
        rw [← l.1 _ (by simp), e3]
      · cases h
    · cases h
  · exact h
  · split at h
    · split at h
      · rename_i hk
        rw [if_pos hk]
        split at h
        · split at h
          · split at h
            · rename_i te hte _ z hz hl
              rw [← zero_local (ob := ob) (ob' := ob') hte, hz]
              simp only
              rw [if_pos hl]
              simp only [Option.map_eq_some_iff] at h ⊢
              obtain ⟨rs, hrs, rfl⟩ := h
              refine ⟨rs, ?_, ?_⟩
              · rw [← fillR_local (ob := ob) (ob' := ob') l.1]; exact hrs
              · rw [icy_local (ob := ob) (ob' := ob') l.1]
            · cases h
          · cases h
        · cases h
      · cases h
    · cases h
  · split at h
    · split at h
      · split at h
        · rename_i hob
          simp only [Option.map_eq_some_iff] at h ⊢
          obtain ⟨x, hx, rfl⟩ := h
          rw [← l.1 _ (by simp), hob]
          simp only [hx, Option.map_some]
        · cases h
      · split at h
        · split at h
          · rename_i hob _ _ hrow
            simp only [Option.map_eq_some_iff] at h ⊢
            obtain ⟨x, hx, rfl⟩ := h
            rw [← l.1 _ (by simp), hob]
            simp only [hrow, hx, Option.map_some]
          · cases h
        · cases h
      · exact h
      · cases h
    · cases h
  · split at h
    · split at h
      · rename_i hob
        split at h
        · rename_i hb
          cases h
          rw [← l.1 _ (by simp), hob]
          simp only
          rw [if_pos hb]
        · cases h
      · cases h
    · split at h
      · rename_i hob hpv
        split at h
        · rename_i hrow
          split at h
          · rename_i hb
            cases h
            rw [← l.1 _ (by simp), ← pvL_local (ob := ob) (ob' := ob') fun q hq => l.1 q (by simp only [List.mem_cons]; exact .inr hq), hob, hpv]
            simp only [hrow]
            rw [if_pos hb, icy_local (ob := ob) (ob' := ob') fun q hq => l.1 q (by simp only [List.mem_cons]; exact .inr hq)]
          · cases h
        · cases h
      · cases h
    · cases h
  · exact h
  · exact h
  · split at h
    · split at h
      · rename_i hk
        rw [if_pos hk]
        exact h
      · rename_i hk
        rw [if_neg hk]
        split at h
        · rename_i hk
          rw [if_pos hk]
          split at h
          · exact h
          · split at h
            · rename_i hob
              split at h
              · rename_i hb
                cases h
                rw [← l.1 _ (by simp), hob]
                simp only
                rw [if_pos hb]
              · cases h
            · cases h
          · cases h
        · cases h
    · cases h
  · exact h
  · split at h
    · exact h
    · split at h
      · rename_i hob
        simp only at h ⊢
        split at h
        · rename_i hb
          cases h
          rw [← l.1 _ (by simp), hob]
          simp only
          rw [if_pos hb]
        · cases h
      · cases h
    · exact h
  · split at h
    · split at h
      · rename_i te hte
        split at h
        · rename_i z hz
          rw [← zero_local (ob := ob) (ob' := ob') hte, hz]
          simp only
          split at h
          · rename_i hb
            rw [if_pos hb]
            split at h
            · rename_i h0
              cases h
              obtain ⟨rfl, rfl⟩ := l.2.1 rfl
              rw [if_pos h0]
            · rename_i h0
              rw [if_neg h0]
              split at h
              · rename_i h1
                rw [if_pos h1]
                split at h
                · rename_i hob
                  cases h
                  rw [← l.1 _ (by simp), hob]
                · cases h
              · cases h
          · cases h
        · cases h
      · cases h
    · cases h
  · split at h
    · split at h
      · rename_i hob
        cases h
        rw [← l.1 _ (by simp), hob]
      · cases h
    · cases h
  · split at h
    · split at h
      · rename_i hob
        simp only [Option.map_eq_some_iff] at h ⊢
        obtain ⟨x, hx, rfl⟩ := h
        rw [← l.1 _ (by simp), hob]
        simp only [hx, Option.map_some]
      · cases h
    · cases h
  · split at h
    · split at h
      · rename_i hob
        simp only [Option.map_eq_some_iff] at h ⊢
        obtain ⟨x, hx, rfl⟩ := h
        rw [← l.1 _ (by simp), hob]
        simp only [hx, Option.map_some]
      · cases h
    · cases h
  · exact h
  · exact h
  · exact h
  · split at h
    · split at h
      · rename_i hu
        cases h
        rw [evCall_local hu l]
      · rename_i hu
        have hl : ∀ (c : Call), c.callee = .builtin .len → evCall E gen call base ρ ob rt nx o.dst c = evCall E gen call base ρ ob' rt' nx' o.dst c := by
          intro c hc
          obtain ⟨callee, args, ts⟩ := c
          simp only at hc
          subst hc
          unfold evCall
          simp only
          generalize args.toList = as
          generalize ts.toList = us
          rcases as with _ | ⟨x, _ | ⟨y, l⟩⟩ <;> rcases us with _ | ⟨t, _ | ⟨t', us⟩⟩ <;> rfl
        rename_i hc _
        rw [← hl _ hc, hu]
        exact h
    · exact evCall_local h l
    · exact evCall_local h l
    · exact evCall_local h l
    · split at h
      · rename_i hb
        rw [if_pos hb]
        exact evCall_local h l
      · rename_i hb
        rw [if_neg hb]
        exact h
    · cases h
  all_goals first | exact h | cases h
end
end Go.Proofs.Ytcmaohhcbiienaa.X
