import Derived.Test.YtcmaohhcbiienaaXL
import Derived.Great.BuildSlice
/-! XM: structs, arrays, and slices out of their parts. -/
set_option linter.unusedVariables false
namespace Go.Proofs.Ytcmaohhcbiienaa.X
open Go.RowKit

theorem foldl_set (off : Nat) : ∀ (l : List Value) (k : Nat) (cur : Array Value), off + k + l.length ≤ cur.size →
    ((l.zipIdx k).foldl (fun cs p => cs.setIfInBounds (off + p.2) p.1) cur) = (splice cur.toList (off + k) l).toArray
  | [], k, cur, h => by
    simp only [List.zipIdx_nil, List.foldl_nil, splice, List.append_nil, List.length_nil, Nat.add_zero, List.take_append_drop, Array.toArray_toList]
  | v :: l, k, cur, h => by
    simp only [List.length_cons] at h
    rw [List.zipIdx_cons, List.foldl_cons, foldl_set off l (k + 1) (cur.setIfInBounds (off + k) v) (by simp; omega)]
    apply Array.ext'
    apply List.ext_getElem?
    intro m
    have hc : cur.toList.length = cur.size := Array.length_toList
    rw [splice_at (by simp; omega), splice_at (by simp; omega)]
    simp only [List.length_cons, Array.getElem?_toList, Array.getElem?_setIfInBounds]
    by_cases h1 : m < off + k
    · rw [if_pos (show m < off + (k + 1) by omega), if_neg (show ¬ off + k = m by omega), if_pos h1]
    · by_cases h2 : m = off + k
      · subst h2
        rw [if_pos (show off + k < off + (k + 1) by omega), if_pos rfl, if_pos (show off + k < cur.size by omega), if_neg h1, if_pos (show off + k < off + k + (l.length + 1) by omega), Nat.sub_self]
        rfl
      · by_cases h3 : m < off + (k + 1) + l.length
        · rw [if_neg (show ¬ m < off + (k + 1) by omega), if_pos h3, if_neg h1, if_pos (show m < off + k + (l.length + 1) by omega)]
          have : m - (off + k) = (m - (off + (k + 1))) + 1 := by omega
          rw [this, List.getElem?_cons_succ]
        · rw [if_neg (show ¬ m < off + (k + 1) by omega), if_neg h3, if_neg (show ¬ off + k = m by omega), if_neg h1, if_neg (show ¬ m < off + k + (l.length + 1) by omega)]

theorem fold_cells (off : Nat) (us cur : Array Value) (h : off + us.size ≤ cur.size) :
    us.zipIdx.foldl (fun cs (x : Value × Nat) => match x with | (c, j) => cs.setIfInBounds (off + j) c) cur = (splice cur.toList off us.toList).toArray := by
  have := foldl_set off us.toList 0 cur (by simpa using h)
  rw [Nat.add_zero] at this
  rw [← this, ← Array.foldl_toList, Array.toList_zipIdx]

section
variable {E : Env} {B : Blk} {lim : Nat} {g g' : Gh} {w w' : World} {ob ob' : ObF} {rt rt' : RtF} {nx nx' : Nat}

theorem fillS_rep {s : St} {a : Act} (c : Cur E B lim s g a w) {fs : List (Nat × Nat × Bool × TypeId)} {place : Nat → Option (Nat × Nat)} (hp : ∀ (i : Nat) y, fs[i]? = some y → place i = some (y.1, y.2.1)) :
    ∀ {parts : List (Nat × Operand)} {cs cs' : List CV} {cur : Array Value}, RelL g w s.ob s.rt s.nx cur cs → fillS fs E (evOpd E s.tm) cs parts = some cs' →
    ∃ cells, Instr.fill place cur (parts.map fun p => (p.1, a.eval p.2)) = some cells ∧ RelL g w s.ob s.rt s.nx cells cs'
  | [], cs, cs', cur, h, hf => by
    simp only [fillS, Option.some.injEq] at hf
    subst hf
    exact ⟨cur, rfl, h⟩
  | (i, x) :: r, cs, cs', cur, h, hf => by
    simp only [fillS] at hf
    split at hf
    · rename_i off sz ag t hfs
      split at hf
      · rename_i vs hvs
        split at hf
        · rename_i hc
          have hr := cells_rep (c.opT t x) hvs
          have h2 : RelL g w s.ob s.rt s.nx (splice cur.toList off (a.eval x).cells.toList).toArray (splice cs off vs) := h.splice hr (by rw [hc.1]; exact hc.2)
          obtain ⟨cells, q1, q2⟩ := fillS_rep c hp h2 hf
          refine ⟨cells, ?_, q2⟩
          have e1 : ¬ ((a.eval x).cells.size ≠ sz ∨ off + (a.eval x).cells.size > cur.size) := by
            rw [hr.1, h.1]
            omega
          simp only [List.map_cons, Instr.fill, hp i _ hfs]
          rw [if_neg (by simpa using e1), fold_cells off _ cur (by rw [hr.1, h.1]; omega)]
          exact q1
        · cases hf
      · cases hf
    · cases hf

theorem fillA_rep {s : St} {a : Act} (c : Cur E B lim s g a w) {ti : TI} : ∀ {parts : List (Nat × Operand)} {cs cs' : List CV} {cur : Array Value}, RelL g w s.ob s.rt s.nx cur cs →
    fillA ti E (evOpd E s.tm) cs parts = some cs' →
    ∃ cells, Instr.fill (fun i => some (i * ti.esz, ti.esz)) cur (parts.map fun p => (p.1, a.eval p.2)) = some cells ∧ RelL g w s.ob s.rt s.nx cells cs'
  | [], cs, cs', cur, h, hf => by
    simp only [fillA, Option.some.injEq] at hf
    subst hf
    exact ⟨cur, rfl, h⟩
  | (i, x) :: r, cs, cs', cur, h, hf => by
    simp only [fillA] at hf
    split at hf
    · rename_i vs hvs
      split at hf
      · rename_i hc
        have hr := cells_rep (c.opT ti.e x) hvs
        have h2 : RelL g w s.ob s.rt s.nx (splice cur.toList (i * ti.esz) (a.eval x).cells.toList).toArray (splice cs (i * ti.esz) vs) := h.splice hr (by rw [hc.1]; exact hc.2)
        obtain ⟨cells, q1, q2⟩ := fillA_rep c h2 hf
        refine ⟨cells, ?_, q2⟩
        have e1 : ¬ ((a.eval x).cells.size ≠ ti.esz ∨ i * ti.esz + (a.eval x).cells.size > cur.size) := by
          rw [hr.1, h.1]
          omega
        simp only [List.map_cons, Instr.fill]
        rw [if_neg (by simpa using e1), fold_cells _ _ cur (by rw [hr.1, h.1]; omega)]
        exact q1
      · cases hf
    · cases hf

theorem parts_eq (parts : Array (Nat × Operand)) (f : Operand → Value) : (parts.map fun (i, x) => (i, f x)).toList = parts.toList.map fun p => (p.1, f p.2) := by simp

theorem Cur.buildS {s : St} {a : Act} (c : Cur E B lim s g a w) {o : Oper} {t : TypeId} {parts : Array (Nat × Operand)} (ho : o.op = .build t parts) {ti : TI} (hT : E.T t = some ti) (hk : ti.kd = 1) {cs : List CV}
    (hf : fillS ti.fs E (evOpd E s.tm) ti.zero parts.toList = some cs) : OpOk E B lim s g a w o { val := .agg cs } := by
  obtain ⟨d, i, zv, hd, hi, hsz, hzv, hza, hzl, hag⟩ := (tiOk hT).base
  obtain ⟨fs, hd', hfs⟩ := (tiOk hT).str hk
  have hz : RelL g w s.ob s.rt s.nx zv.cells ti.zero := by simpa using zero_all hza
  have hm1 := (tiOk hT).places hk fs hd'
  obtain ⟨cells, q1, q2⟩ := fillS_rep c (place := ((ti.fs.map fun y => (y.1, y.2.1)).toArray[·]?)) (fun k y hy => by simp [hy]) hz hf
  refine c.pure (v := .agg cells) ?_ (.of (.agg q2))
  have hr := run_build (P := E.P) w t (parts.map fun (i, x) => (i, a.eval x)) cells (by
    unfold Program.built
    simp only [hi, hd', hzv, hm1, parts_eq]
    exact q1)
  simp only [execOp, ho, hr, Sem.run_bind, Result.andThen_ok, Sem.run_pure]

theorem Cur.buildA {s : St} {a : Act} (c : Cur E B lim s g a w) {o : Oper} {t : TypeId} {parts : Array (Nat × Operand)} (ho : o.op = .build t parts) {ti : TI} (hT : E.T t = some ti) (hk : ti.kd = 2) {cs : List CV}
    (hf : fillA ti E (evOpd E s.tm) ti.zero parts.toList = some cs) : OpOk E B lim s g a w o { val := .agg cs } := by
  obtain ⟨d, i, zv, hd, hi, hsz, hzv, hza, hzl, hag⟩ := (tiOk hT).base
  obtain ⟨hd', j, hj, hjz, _, _⟩ := (tiOk hT).arr hk
  have hz : RelL g w s.ob s.rt s.nx zv.cells ti.zero := by simpa using zero_all hza
  obtain ⟨cells, q1, q2⟩ := fillA_rep c hz hf
  refine c.pure (v := .agg cells) ?_ (.of (.agg q2))
  have hr := run_build (P := E.P) w t (parts.map fun (i, x) => (i, a.eval x)) cells (by
    unfold Program.built
    simp only [hi, hd', hzv, hj, hjz, parts_eq]
    exact q1)
  simp only [execOp, ho, hr, Sem.run_bind, Result.andThen_ok, Sem.run_pure]
end
end Go.Proofs.Ytcmaohhcbiienaa.X
