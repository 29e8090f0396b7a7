import Derived.Test.YtcmaohhcbiienaaWD
import Derived.Laws.StructEq
/-! WE: structs, compared. -/
set_option linter.unusedVariables false
namespace Go.Proofs.Ytcmaohhcbiienaa.X
open Go.RowKit

section
variable {E : Env} {B : Blk} {lim : Nat} {g : Gh} {w : World} {ob : ObF} {rt : RtF} {nx : Nat} {P : Program}

theorem eqA_ok : ∀ {n : Nat} {t : TypeId} {a b : AT} {r : Bool}, eqA P n t a b = some r → ∀ {D : Nat}, n ≤ D → ∀ {v u : Value}, RelA g w ob rt nx v a → RelA g w ob rt nx u b → (Op.equalIn D t v u).run P w = .ok r w
  | 0, t, a, b, r, h, D, hD, v, u, hv, hu => by simp [eqA] at h
  | n + 1, t, a, b, r, h, D, hD, v, u, hv, hu => by
    obtain ⟨D, rfl⟩ : ∃ q, D = q + 1 := ⟨D - 1, by omega⟩
    simp only [eqA] at h
    split at h
    · rename_i ht
      split at h
      · cases h
        have e1 := valOf_eq hv rfl
        have e2 := valOf_eq hu rfl
        subst e1; subst e2
        exact run_equalIn_bool' w D t _ _ ht
      · cases h
    · rename_i k ht
      split at h
      · split at h
        · rename_i hk
          subst hk
          cases h
          have e1 := valOf_eq hv rfl
          have e2 := valOf_eq hu rfl
          subst e1; subst e2
          exact run_equalIn_int w D t _ _ _ _ ht
        · cases h
      · cases h
    · rename_i ht
      split at h
      · cases h
        have e1 := valOf_eq hv rfl
        have e2 := valOf_eq hu rfl
        subst e1; subst e2
        exact run_equalIn_string w D t _ _ ht
      · cases h
    · rename_i fs ht
      split at h
      · rename_i cs ds
        split at h
        · rename_i hst
          cases hv with
          | of hv => cases hv with
            | @agg vs _ hv => cases hu with
              | of hu => cases hu with
                | @agg us _ hu =>
                  have hfs : P.fieldsOf t = fs := by simp only [Program.fieldsOf, ht]
                  rw [run_equalIn_struct w D t vs us (by rw [hfs]; exact ht) hst, hfs]
                  have key : ∀ (l : List Field) (r : Bool), eqFs P (eqA P n) cs ds l = some r → (Op.eqFields D vs us l).run P w = .ok r w := by
                    intro l
                    induction l with
                    | nil =>
                      intro r h
                      simp only [eqFs, Option.some.injEq] at h
                      subst h
                      rfl
                    | cons f l ih =>
                      intro r h
                      simp only [eqFs] at h
                      simp only [Op.eqFields]
                      split at h
                      · rename_i hn
                        rw [if_neg (by simpa using hn)]
                        exact ih r h
                      · rename_i hn
                        rw [if_pos hn]
                        split at h
                        · rename_i i d hi hd
                          split at h
                          · rename_i a b ha hb
                            simp only [Option.bind_eq_some_iff, Option.map_eq_some_iff] at h
                            obtain ⟨r1, h1, r2, h2, rfl⟩ := h
                            obtain ⟨va, hva, ra⟩ := run_part hd hi hv ha
                            obtain ⟨vb, hvb, rb⟩ := run_part hd hi hu hb
                            have h3 := eqA_ok h1 (D := D) (by omega) ra rb
                            simp only [Sem.run_bind, hva, hvb, h3, Result.andThen_ok]
                            cases r1 with
                            | false => simp
                            | true => simpa using ih r2 h2
                          · cases h
                        · cases h
                  exact key _ _ h
        · cases h
      · cases h
    · cases h

theorem Cur.aggB {s : St} {a : Act} (c : Cur E B lim s g a w) {o : Oper} {op : BinOp} {t : TypeId} {x y : Operand} {q : TypeId} (ho : o.op = .binOp op t x y q) {u : Upd} (h : X.aggB E.P op t (evOpd E s.tm x) (evOpd E s.tm y) = some u) : OpOk E B lim s g a w o u := by
  unfold X.aggB at h
  have hx := c.opd x
  have hy := c.opd y
  split at h
  · rename_i cs ds e1 e2
    split at h
    · rename_i hg
      rw [e1] at hx
      rw [e2] at hy
      have hx' := hx
      have hy' := hy
      generalize hev : a.eval x = ev at hx hx'
      generalize hew : a.eval y = ew at hy hy'
      cases hx' with
      | of hx' => cases hx' with
        | @agg vs _ hx' => cases hy' with
          | of hy' => cases hy' with
            | @agg us _ hy' =>
              split at h
              · simp only [Option.map_eq_some_iff] at h
                obtain ⟨r, hr, rfl⟩ := h
                have h1 := eqA_ok hr (D := 10000) (by decide) hx hy
                refine c.pure (v := .bool r) ?_ (.of (.one (.p (.sc rfl))))
                simp only [execOp, ho, hev, hew, Sem.run_bind, run_eqGuard_agg w .eql t x y vs us hg, Result.andThen_ok, run_eql_struct, h1, Sem.run_pure]
              · simp only [Option.map_eq_some_iff] at h
                obtain ⟨r, hr, rfl⟩ := h
                have h1 := eqA_ok hr (D := 10000) (by decide) hx hy
                refine c.pure (v := .bool (!r)) ?_ (.of (.one (.p (.sc rfl))))
                simp only [execOp, ho, hev, hew, Sem.run_bind, run_eqGuard_agg w .neq t x y vs us hg, Result.andThen_ok, run_neq_struct, h1, Sem.run_pure]
              · cases h
    · cases h
  · cases h
end
end Go.Proofs.Ytcmaohhcbiienaa.X
