import Derived.Test.YtcmaohhcbiienaaXG
/-! XH: the operations that read, and write, memory. -/
set_option linter.unusedVariables false
namespace Go.Proofs.Ytcmaohhcbiienaa.X
open Go.RowKit

section
variable {E : Env} {B : Blk} {lim : Nat} {g g' : Gh} {w w' : World} {ob ob' : ObF} {rt rt' : RtF} {nx nx' : Nat}

theorem run_sizeOf {P : Program} {t : TypeId} {i : TypeInfo} (h : P.info? t = some i) (w : World) : (sizeOf t).run P w = .ok i.size w := by simp [sizeOf, typeInfo, h]
theorem run_zeroValue {P : Program} {t : TypeId} {i : TypeInfo} {v : Value} (h : P.info? t = some i) (hz : i.zero = some v) (w : World) : (zeroValue t).run P w = .ok v w := by
  simp [zeroValue, typeInfo, h, hz]
theorem run_isAgg {P : Program} {t : TypeId} {d : TypeDesc} (h : P.underlying t = some d) (w : World) : (isAgg t).run P w = .ok (descAgg d) w := by
  simp [isAgg, run_underlying h]
  cases d <;> rfl

theorem flat_cells {v : Value} (h : flatV v = true) : v.cells = #[v] := by cases v <;> first | rfl | simp [flatV] at h

theorem cells_rep {v : Value} {x : AT} {cs : List CV} (h : RelA g w ob rt nx v x) (hc : cellsOf x = some cs) : RelL g w ob rt nx v.cells cs := by
  cases h with
  | tup => simp [cellsOf] at hc
  | of h =>
    cases h with
    | no => simp [cellsOf] at hc
    | one h =>
      simp [cellsOf] at hc
      subst hc
      rw [flat_cells h.flat]
      refine ⟨rfl, fun j x v hx hv => ?_⟩
      cases j with
      | zero => simp at hx hv; subst hx; subst hv; exact h
      | succ j => simp at hx
    | agg h => simp [cellsOf] at hc; subst hc; exact h

theorem RelL.flat {vs : Array Value} {cs : List CV} (h : RelL g w ob rt nx vs cs) : ∀ v ∈ vs.toList, v.oneCell' = true := by
  intro v hv
  obtain ⟨j, hj, e⟩ := List.mem_iff_getElem.1 hv
  have hj' : j < cs.length := by rw [← h.1, ← Array.length_toList]; exact hj
  exact flat_one (h.2 j cs[j] v (List.getElem?_eq_getElem hj') (by rw [← Array.getElem?_toList, List.getElem?_eq_getElem hj, e])).flat

/-- A part of a row of cells. -/
theorem part_rep {vs : Array Value} {cs : List CV} {off sz : Nat} {agg : Bool} {x : AT} (h : RelL g w ob rt nx vs cs) (hp : partOf cs off sz agg = some x) :
    (agg = true → off + sz ≤ vs.size ∧ RelA g w ob rt nx (.agg (vs.extract off (off + sz))) x) ∧
    (agg = false → ∃ v, vs[off]? = some v ∧ RelA g w ob rt nx v x) := by
  unfold partOf at hp
  cases agg with
  | true =>
    simp only [if_true] at hp
    split at hp
    · rename_i hle
      cases hp
      refine ⟨fun _ => ⟨by rw [h.1]; exact hle, .of (.agg ⟨?_, fun j x v hx hv => ?_⟩)⟩, fun h => by cases h⟩
      · simp [h.1]
        omega
      · rw [List.getElem?_take] at hx
        split at hx
        · rw [List.getElem?_drop] at hx
          rw [Array.getElem?_extract] at hv
          split at hv
          · exact h.2 _ _ _ hx hv
          · cases hv
        · cases hx
    · cases hp
  | false =>
    simp only [Bool.false_eq_true, if_false, Option.map_eq_some_iff] at hp
    obtain ⟨c, hc, rfl⟩ := hp
    refine ⟨(fun h => by cases h), fun _ => ?_⟩
    have hlt : off < vs.size := by rw [h.1]; exact (List.getElem?_eq_some_iff.1 hc).1
    exact ⟨vs[off], Array.getElem?_eq_getElem hlt, .of (.one (h.2 off c _ hc (Array.getElem?_eq_getElem hlt)))⟩

theorem load_part {t : TypeId} {ti : TI} (hT : E.T t = some ti) {vs : Array Value} {cs : List CV} {b o off : Nat} {x : AT} (h : RelL g w ob rt nx vs cs)
    (hcell : ∀ j, j < vs.size → w.cell? ⟨b, o + j, none⟩ = vs[j]?) (hp : partOf cs off ti.sz ti.agg = some x) :
    ∃ v, (loadVar t ⟨b, o + off, none⟩).run E.P w = .ok v w ∧ RelA g w ob rt nx v x := by
  obtain ⟨d, i, zv, hd, hi, hsz, hzv, hza, hzl, hag⟩ := (tiOk hT).base
  obtain ⟨h1, h2⟩ := part_rep h hp
  cases ha : ti.agg with
  | true =>
    obtain ⟨hle, hr⟩ := h1 ha
    refine ⟨_, ?_, hr⟩
    have hlen : (vs.extract off (off + ti.sz)).toList.length = i.size := by simp; omega
    have hl := run_loadCells_list (P := E.P) w ⟨b, o + off, none⟩ (vs.extract off (off + ti.sz)).toList (fun j v hv => by
      rw [Array.getElem?_toList, Array.getElem?_extract] at hv
      split at hv
      · rename_i hj
        rw [Addr.add_lit, Nat.add_assoc, hcell _ (by omega)]
        exact hv
      · cases hv)
    rw [hlen, Array.toArray_toList] at hl
    simp [loadVar, run_isAgg hd, hag, ha, run_sizeOf hi, hl]
  | false =>
    obtain ⟨v, hv, hr⟩ := h2 ha
    refine ⟨v, ?_, hr⟩
    have hlt : off < vs.size := (Array.getElem?_eq_some_iff.1 hv).1
    have hc := hcell off hlt
    rw [hv] at hc
    simp [loadVar, run_isAgg hd, hag, ha, hc]

theorem row_cells {b : Nat} {e : TypeId} {vs : Array Value} (hh : w.heap[b]? = some (.cells vs e (0, 0))) (j : Nat) : w.cell? ⟨b, j, none⟩ = vs[j]? := cell_of_row w b j vs e (0, 0) hh

/-- A row of an own array, as cells. -/
theorem arr_row {b : Nat} {fz : Bool} {z : Nat} {rows : List (List PV)} (h : RelObj g w ob rt nx b (.arr fz z rows)) {r : Nat} {row : List PV} (hr : rows[r]? = some row) :
    ∃ vs : Array Value, RelL g w ob rt nx vs (row.map (.p none)) ∧ ∀ j, j < vs.size → w.cell? ⟨b, r * z + j, none⟩ = vs[j]? := by
  cases h with
  | nil => simp at hr
  | arr e vs h1 h2 h3 h4 h5 h6 h7 =>
    have hrl := h4 r row hr
    have hrn := (List.getElem?_eq_some_iff.1 hr).1
    have hle : r * z + z ≤ rows.length * z := by
      have := Nat.mul_le_mul_right z hrn
      rwa [Nat.succ_mul] at this
    refine ⟨vs.extract (r * z) (r * z + z), ⟨by simp [hrl]; omega, fun j x v hx hv => ?_⟩, fun j hj => ?_⟩
    · simp only [List.getElem?_map, Option.map_eq_some_iff] at hx
      obtain ⟨y, hy, rfl⟩ := hx
      rw [Array.getElem?_extract] at hv
      split at hv
      · exact .p (h5 r row j y v hr hy hv)
      · cases hv
    · simp only [Array.size_extract] at hj
      rw [row_cells h1, Array.getElem?_extract, if_pos (by omega)]

/-- Cells that are fixed. -/
theorem ref_row {b o : Nat} {cs : List PV} (h : RepP g.I w (.pointer (some ⟨b, o, none⟩)) (.ref cs)) :
    ∃ vs : Array Value, RelL g w ob rt nx vs (cs.map (.p none)) ∧ ∀ j, j < vs.size → w.cell? ⟨b, o + j, none⟩ = vs[j]? := by
  cases h with
  | ref f h1 h2 =>
    refine ⟨((List.range cs.length).map f).toArray, ⟨by simp, fun j x v hx hv => ?_⟩, fun j hj => ?_⟩
    · simp only [List.getElem?_map, Option.map_eq_some_iff] at hx
      obtain ⟨y, hy, rfl⟩ := hx
      have hlt := (List.getElem?_eq_some_iff.1 hy).1
      simp only [List.getElem?_toArray, List.getElem?_map, List.getElem?_range hlt, Option.map_some, Option.some.injEq] at hv
      subst hv
      exact .p (h2 j y hy)
    · simp only [List.size_toArray, List.length_map, List.length_range] at hj
      rw [(h1 j cs[j] (List.getElem?_eq_getElem hj)).2]
      simp [hj]

theorem ref_addr {v : Value} {cs : List PV} (h : RepP g.I w v (.ref cs)) : ∃ b o, v = .pointer (some ⟨b, o, none⟩) := by cases h; exact ⟨_, _, rfl⟩

theorem Cur.move {s : St} {a : Act} (c : Cur E B lim s g a w) {o : Oper} {x : Operand} (ho : o.op = .move x ∨ o.op = .assign x) :
    OpOk E B lim s g a w o { val := X.opT E (evOpd E s.tm) o.type x } := by
  refine c.pure ?_ (c.opT o.type x)
  rcases ho with ho | ho <;> simp [execOp, ho]

theorem asg_rel {v : Value} {x : AT} {b : Bool} (h : RelA g w ob rt nx v x) : RelA g w ob rt nx v (asg b x) := by
  unfold asg
  split
  · split
    · cases h with
      | of h => cases h with
        | one h => cases h with
          | p h => exact .of (.one (.p h))
          | p0 h => exact .of (.one (.p h))
          | pn _ _ h => exact .of (.one (.p h))
    · exact h
  · exact h
theorem Cur.assign {s : St} {a : Act} (c : Cur E B lim s g a w) {o : Oper} {x : Operand} {b : Bool} (ho : o.op = .assign x) :
    OpOk E B lim s g a w o { val := asg b (X.opT E (evOpd E s.tm) o.type x) } := by
  refine c.pure ?_ (asg_rel (c.opT o.type x))
  simp [execOp, ho]

theorem Cur.pick {s : St} {a : Act} (c : Cur E B lim s g a w) {o : Oper} {x y z : Operand} (ho : o.op = .pick x y z) {p : Option Nat} {t : Bool}
    (hx : evOpd E s.tm x = .one (.p p (.sc (.bool t)))) :
    OpOk E B lim s g a w o { val := if t then X.opT E (evOpd E s.tm) o.type y else X.opT E (evOpd E s.tm) o.type z } := by
  have hv := valOf_eq (c.opd x) (v' := .bool t) (by rw [hx]; rfl)
  cases t with
  | true => exact c.pure (by simp [execOp, ho, hv, asBool]) (c.opT o.type y)
  | false => exact c.pure (by simp [execOp, ho, hv, asBool]) (c.opT o.type z)

theorem Cur.load {s : St} {a : Act} (c : Cur E B lim s g a w) {o : Oper} {t : TypeId} {x : Operand} (ho : o.op = .load t x) {ti : TI} (hT : E.T t = some ti) {u : Upd}
    (h : (match evOpd E s.tm x with
      | .one (.pt c off) => match s.ob c with
        | some (.var cs) => (partOf cs off ti.sz ti.agg).map fun a => ({ val := a, rd := [c] } : Upd)
        | _ => none
      | .one (.pr c r off) => match s.ob c with
        | some (.arr _ _ rows) => match rows[r]? with
          | some row => (partOf (row.map (.p none)) off ti.sz ti.agg).map fun a => { val := a, rd := [c] }
          | none => none
        | _ => none
      | .one (.p _ (.ref cs)) => (partOf (cs.map (.p none)) 0 ti.sz ti.agg).map fun a => { val := a }
      | _ => none) = some u) : OpOk E B lim s g a w o u := by
  have hx := c.opd x
  have fin : ∀ {b off : Nat} {v : Value} {y : AT} {rd : List Nat}, a.eval x = .pointer (some ⟨b, off, none⟩) → (loadVar t ⟨b, off, none⟩).run E.P w = .ok v w → RelA g w s.ob s.rt s.nx v y →
      OpOk E B lim s g a w o { val := y, rd := rd } := by
    intro b off v y rd he hl hy
    exact c.pure (by simp [execOp, ho, he, Instr.loadAt, Instr.sureAddr, hl]) hy
  split at h
  · rename_i p off hp
    rw [hp] at hx
    generalize hev : a.eval x = ev at hx
    cases hx with
    | of hx =>
      cases hx with
      | one hx =>
        cases hx with
        | pt hcs =>
          rename_i cs'
          rw [hcs] at h
          simp only [Option.map_eq_some_iff] at h
          obtain ⟨y, hy, rfl⟩ := h
          obtain ⟨q, _⟩ := c.mem.obj p _ hcs
          cases q with
          | var e vs h1 h2 h3 =>
            obtain ⟨v, hv, hr⟩ := load_part hT (b := g.φ p) (o := 0) h2 (fun j _ => by rw [Nat.zero_add]; exact row_cells h1 j) hy
            rw [Nat.zero_add] at hv
            exact fin hev hv hr
  · rename_i p r off hp
    rw [hp] at hx
    generalize hev : a.eval x = ev at hx
    cases hx with
    | of hx =>
      cases hx with
      | one hx =>
        cases hx with
        | pr hcs =>
          rename_i fz z rows
          rw [hcs] at h
          simp only at h
          split at h
          · rename_i row hrow
            simp only [Option.map_eq_some_iff] at h
            obtain ⟨y, hy, rfl⟩ := h
            obtain ⟨vs, h2, h3⟩ := arr_row (c.mem.obj p _ hcs).1 hrow
            obtain ⟨v, hv, hr⟩ := load_part hT (b := g.φ p) (o := r * z) h2 h3 hy
            exact fin hev hv hr
          · cases h
  · rename_i p cs hp
    rw [hp] at hx
    generalize hev : a.eval x = ev at hx
    simp only [Option.map_eq_some_iff] at h
    obtain ⟨y, hy, rfl⟩ := h
    have hrep : RepP g.I w ev (.ref cs) := by
      cases hx with
      | of hx =>
        cases hx with
        | one hx =>
          cases hx with
          | p hx => exact hx
    obtain ⟨b, off, rfl⟩ := ref_addr hrep
    obtain ⟨vs, h2, h3⟩ := ref_row (ob := s.ob) (rt := s.rt) (nx := s.nx) hrep
    obtain ⟨v, hv, hr⟩ := load_part hT (b := b) (o := off) (off := 0) h2 h3 hy
    exact fin hev hv hr
  · cases h
end
end Go.Proofs.Ytcmaohhcbiienaa.X
