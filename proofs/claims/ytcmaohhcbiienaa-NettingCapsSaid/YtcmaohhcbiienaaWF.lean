import Derived.Test.YtcmaohhcbiienaaWE
import Derived.MapKept
/-! WF: own maps. -/
set_option linter.unusedVariables false
namespace Go.Proofs.Ytcmaohhcbiienaa.X
open Go.RowKit

section
variable {E : Env} {B : Blk} {lim : Nat} {g : Gh} {w w' : World} {ob : ObF} {rt : RtF} {nx : Nat}

theorem mt_rep {v : Value} {m : Nat} {es : List MapEntry} {k : Nat} (hm : ob m = some (.mp es k)) (h : RelA g w ob rt nx v (.one (.mt m))) : v = .map (some (g.φ m)) := by
  have h := one_rep h
  cases h with
  | mt => rfl

theorem Cur.makeMap {s : St} {a : Act} (c : Cur E B lim s g a w) {o : Oper} {t : TypeId} (ho : o.op = .makeMap t none) {q : Nat} {rd : List Nat} (hq : s.ob q = none) (hql : q < lim) :
    OpOk E B lim s g a w o { val := .one (.mt q), ow := [(q, .mp [] 0)], rd := rd } := by
  have hE : Ext B lim g w s.ob s.rt s.nx { g with φ := upd g.φ q w.heap.size } (w.alloc (.map #[] 0)) (upd s.ob q (some (.mp [] 0))) s.rt s.nx := Ext.var c.mem hq _ _
  have hM := RelM.var c.mem c.lab hq (.map #[] 0) (.mp [] 0) (.mp (heap_new w _) fun i hi => absurd (c.mem.bnd _ i hi) (Nat.lt_irrefl _))
  refine .value (g' := { g with φ := upd g.φ q w.heap.size }) (v := .map (some w.heap.size)) (w' := w.alloc (.map #[] 0)) ?_ ⟨hE, hM, fun p hp => ?_, ?_⟩
  · simp [execOp, ho, Instr.makeMap]
  · by_cases hpq : p = q
    · exact hpq ▸ hql
    · exact c.lab p (by simpa [apU, upd_ne _ _ hpq] using hp)
  · have := RelC.mt (g := { g with φ := upd g.φ q w.heap.size }) (w := w.alloc (.map #[] 0)) (ob := upd s.ob q (some (.mp [] 0))) (rt := s.rt) (nx := s.nx) (o := q) (es := []) (k := 0) (upd_same _ _ _)
    simp only [upd_same] at this
    exact .of (.one this)

theorem Cur.lookup {s : St} {a : Act} (c : Cur E B lim s g a w) {o : Oper} {t : TypeId} {x i : Operand} {ok : Bool} (ho : o.op = .lookup t x i ok) {m : Nat} {es : List MapEntry} {n : Nat} {k : Value}
    (hx : evOpd E s.tm x = .one (.mt m)) (hm : s.ob m = some (.mp es n)) (hk : valOf (evOpd E s.tm i) = some k) {b : AT} {rd : List Nat} (h : mapGet E t es k ok = some b) :
    OpOk E B lim s g a w o { val := b, rd := rd } := by
  have h1 := c.opd x
  rw [hx] at h1
  have hv := mt_rep hm h1
  have hi := valOf_eq (c.opd i) hk
  obtain ⟨q, _⟩ := c.mem.obj m _ hm
  cases q with
  | mp hh hI =>
    unfold mapGet at h
    split at h
    · rename_i kt et ht
      split at h
      · rename_i u r hc hf
        split at h
        · rename_i y hy
          have hc := tryP_run hc (w := w)
          have hf := tryP_run hf (w := w)
          have he : es.toArray.isEmpty = es.isEmpty := by cases es <;> rfl
          obtain ⟨z, hrun, hzr⟩ : ∃ z, (Instr.lookup t (a.eval x) (a.eval i) ok).run E.P w = .ok (if ok then .tuple #[z, .bool r.isSome] else z) w ∧ RelA g w s.ob s.rt s.nx z (mapAt E et r) := by
            cases r with
            | some p =>
              obtain ⟨j, v⟩ := p
              refine ⟨v, ?_, ?_⟩
              · simp [Instr.lookup, hv, hi, Result.andThen, run_underlying ht, MapKept.run_getObj_map hh, hc, hf]
              simp only [mapAt] at hy ⊢
              cases ha : atOfV v with
              | some x => exact atOfV_rep ha
              | none => exact .of .no
            | none =>
              simp only [mapAt] at hy ⊢
              cases hT : tryP E.P (zeroValue et) with
              | none => rw [hT] at hy; simp [cvA] at hy
              | some v =>
                have hz := tryP_run hT (w := w)
                refine ⟨v, ?_, ?_⟩
                · simp [Instr.lookup, hv, hi, Result.andThen, run_underlying ht, MapKept.run_getObj_map hh, hc, hf, hz]
                simp only [Option.bind_some]
                cases ha : atOfV v with
                | some x => exact atOfV_rep ha
                | none => exact .of .no
          cases h
          cases ok with
          | false => exact c.pure (v := z) (by simp [execOp, ho, hrun]) hzr
          | true =>
            refine c.pure (v := .tuple #[z, .bool r.isSome]) (by simp [execOp, ho, hrun]) (.tup (by simp) fun j t u ht hu => ?_)
            cases j with
            | zero =>
              simp at ht hu
              subst ht
              subst hu
              exact cvA_rep hzr hy
            | succ j =>
              cases j with
              | zero =>
                simp at ht hu
                subst ht
                subst hu
                exact .one (.p (.sc rfl))
              | succ j => simp at ht
        · cases h
      · cases h
    · cases h

theorem Cur.mapUpdate {s : St} {a : Act} (c : Cur E B lim s g a w) {o : Oper} {t : TypeId} {x i y : Operand} (ho : o.op = .mapUpdate t x i y) {m : Nat} {es : List MapEntry} {n : Nat} {k v : Value}
    (hx : evOpd E s.tm x = .one (.mt m)) (hm : s.ob m = some (.mp es n)) (hk : valOf (evOpd E s.tm i) = some k) (hy : valOf (evOpd E s.tm y) = some v) {q : Obj} {rd : List Nat} (h : mapPut E.P t es n k v = some q) :
    OpOk E B lim s g a w o { val := .no, ow := [(m, q)], rd := rd } := by
  have h1 := c.opd x
  rw [hx] at h1
  have hv := mt_rep hm h1
  have hi := valOf_eq (c.opd i) hk
  have hyv := valOf_eq (c.opd y) hy
  obtain ⟨q', _⟩ := c.mem.obj m _ hm
  cases q' with
  | mp hh hI =>
    obtain ⟨es', n', rfl, hrun⟩ : ∃ es' n', q = .mp es' n' ∧ (Instr.mapUpdate t (a.eval x) (a.eval i) (a.eval y)).run E.P w = .ok () { w with heap := w.heap.setIfInBounds (g.φ m) (.map es'.toArray n') } := by
      unfold mapPut at h
      split at h
      · rename_i kt et ht
        split at h
        · rename_i u j val hc hf
          split at h
          · rename_i hs
            cases h
            refine ⟨_, _, rfl, ?_⟩
            have hc := tryP_run hc (w := w)
            have hf := tryP_run hf (w := w)
            have hs' : Instr.sameBits 10000 (((es.toArray[j]?).map (·.key)).getD k) k = true := by simpa using hs
            simp [Instr.mapUpdate, hv, hi, hyv, Result.andThen, run_underlying ht, MapKept.run_getObj_map hh, hc, hf, Instr.keyThatStays, hs, MapKept.run_setObj_map _ hh]
          · cases h
        · rename_i u hc hf
          cases h
          refine ⟨_, _, rfl, ?_⟩
          have hc := tryP_run hc (w := w)
          have hf := tryP_run hf (w := w)
          simp [Instr.mapUpdate, hv, hi, hyv, Result.andThen, run_underlying ht, MapKept.run_getObj_map hh, hc, hf, MapKept.run_setObj_map _ hh]
        · cases h
      · cases h
    have hw : PutB (g.φ m) w { w with heap := w.heap.setIfInBounds (g.φ m) (.map es'.toArray n') } := ⟨rfl, rfl, rfl, by simp, (MapKept.heap_set hh).2⟩
    have hE : Ext B lim g w s.ob s.rt s.nx g _ (upd s.ob m (some (.mp es' n'))) s.rt s.nx := Ext.put c.mem hm trivial trivial hw hI
    have hM := RelM.put c.mem c.lab hm (y := .mp es' n') trivial trivial hw hI (.mp (MapKept.heap_set hh).1 hI)
    refine .skip (g' := g) (by simp [execOp, ho, hrun]) ⟨hE, hM, ?_, .of .no⟩
    intro p hp
    by_cases hpm : p = m
    · exact hpm ▸ c.lab m (by simp [hm])
    · exact c.lab p (by simpa [apU, upd_ne _ _ hpm] using hp)
end
end Go.Proofs.Ytcmaohhcbiienaa.X
