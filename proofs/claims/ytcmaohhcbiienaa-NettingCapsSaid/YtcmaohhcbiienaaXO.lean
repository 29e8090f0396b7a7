import Derived.Test.YtcmaohhcbiienaaXN
/-! XO: slices out of their parts; function values. -/
set_option linter.unusedVariables false
namespace Go.Proofs.Ytcmaohhcbiienaa.X
open Go.RowKit

section
variable {E : Env} {B : Blk} {lim : Nat} {g g' : Gh} {w w' : World} {ob ob' : ObF} {rt rt' : RtF} {nx nx' : Nat} {I : Nat → Nat → Prop}

theorem zero_seen : ∀ {cs : List CV} {vs : List Value}, zeroAll cs vs = true → cs.flatMap seenC = []
  | [], _, _ => rfl
  | c :: cs, [], h => by simp [zeroAll] at h
  | c :: cs, v :: vs, h => by
    simp only [zeroAll, Bool.and_eq_true] at h
    rw [List.flatMap_cons, zero_seen h.2, List.append_nil]
    have := h.1
    unfold zeroFits at this
    split at this <;> first | rfl | cases this

/-- Rows of zero values. -/
theorem zero_rows {G : Nat → Option (List PV)} (h : RelM G g w ob rt nx B) {zv : Value} {zc : List CV} {z : List PV} (hza : zeroAll zc zv.cells.toList = true) (hz : pvL ob zc = some z) {n k : Nat} (hk : z.length = k) (hk0 : 0 < k) :
    RowsRel g.I w k ((Array.range (n * k)).map (zv.cells[· % zv.cells.size]!)) (List.replicate n z) := by
  have hrel := zero_all (g := g) (w := w) (ob := ob) (rt := rt) (nx := nx) hza
  simp only [Array.toArray_toList] at hrel
  obtain ⟨hl, hr⟩ := RelL.seen h (I := g.I) (fun _ _ q => q) (vs := zv.cells.toList) (by rw [Array.length_toList]; exact hrel.1) (fun j x v hx hv => hrel.2 j x v hx (by simpa using hv)) hz
    (fun o ho => by rw [zero_seen hza] at ho; cases ho)
  have hzz : zv.cells.size = k := by rw [hrel.1, ← hl, hk]
  refine ⟨by simp, fun i r hr' => ?_, fun i r j x v hr' hx hv => ?_⟩
  · rw [List.getElem?_replicate] at hr'
    split at hr'
    · cases hr'; exact hk
    · cases hr'
  · rw [List.getElem?_replicate] at hr'
    split at hr'
    · rename_i hi
      cases hr'
      have hj : j < k := by rw [← hk]; exact (List.getElem?_eq_some_iff.1 hx).1
      have hlt : i * k + j < n * k := at_lt hi hj
      rw [Array.getElem?_map, Array.getElem?_range, if_pos hlt] at hv
      simp only [Option.map_some, Option.some.injEq] at hv
      have e1 : (i * k + j) % zv.cells.size = j := by rw [hzz, Nat.mul_comm, Nat.mul_add_mod, Nat.mod_eq_of_lt hj]
      rw [e1] at hv
      have hj2 : j < zv.cells.size := by omega
      refine hr j x v hx ?_
      rw [Array.getElem?_toList, Array.getElem?_eq_getElem hj2, ← hv]
      simp [hj2]
    · cases hr'

theorem cells_seen {x : AT} {cs : List CV} (h : cellsOf x = some cs) : cs.flatMap seenC = seenT x := by
  cases x with
  | one c => simp [cellsOf] at h; subst h; simp [seenT]
  | agg cs => simp [cellsOf] at h; subst h; rfl
  | _ => simp [cellsOf] at h

theorem opT_seen (m : Nat → AT) (t : TypeId) (x : Operand) : ∀ o ∈ seenT (X.opT E (evOpd E m) t x), o ∈ seenT (evOpd E m x) := by
  intro o ho
  unfold X.opT at ho
  split at ho
  · simp [seenT, seenC] at ho
  · exact ho

theorem fillR_rep {s : St} {a : Act} (c : Cur E B lim s g a w) {ti : TI} (hI : ∀ b i, g.I b i → I b i) :
    ∀ {parts : List (Nat × Operand)} {rows rows' : List (List PV)} {cur : Array Value}, RowsRel I w ti.esz cur rows → fillR ti E s.ob (evOpd E s.tm) rows parts = some rows' →
    (∀ o ∈ parts.flatMap (fun p => seenT (evOpd E s.tm p.2)), ∀ fz z rows, s.ob o = some (.arr fz z rows) → ∀ i, i < rows.length * z → I (g.φ o) i) →
    ∃ cells, Instr.fill (fun i => some (i * ti.esz, ti.esz)) cur (parts.map fun p => (p.1, a.eval p.2)) = some cells ∧ RowsRel I w ti.esz cells rows' ∧ rows'.length = rows.length
  | [], rows, rows', cur, h, hf, _ => by
    simp only [fillR, Option.some.injEq] at hf
    subst hf
    exact ⟨cur, rfl, h, rfl⟩
  | (i, x) :: r, rows, rows', cur, h, hf, hs => by
    simp only [fillR] at hf
    split at hf
    · rename_i xs hxs
      simp only [Option.bind_eq_some_iff] at hxs
      obtain ⟨vs, hvs, hpv⟩ := hxs
      split at hf
      · rename_i hc
        obtain ⟨hc1, hc2⟩ := hc
        have hr := cells_rep (c.opT ti.e x) hvs
        obtain ⟨hxl, hxv⟩ := RelL.seen c.mem (I := I) hI (vs := (a.eval x).cells.toList) (by rw [Array.length_toList]; exact hr.1) (fun j x v hx hv => hr.2 j x v hx (by simpa using hv)) hpv
          (fun o ho => hs o (by
            rw [cells_seen hvs] at ho
            simp only [List.flatMap_cons, List.mem_append]
            exact .inl (opT_seen _ _ _ o ho)))
        have hrow : rows[i]? = some rows[i] := List.getElem?_eq_getElem hc2
        have hrl := h.2.1 i _ hrow
        have hus : (a.eval x).cells.size = xs.length := by rw [hr.1, hxl]
        have h2 := h.set hrow hus (off := 0) (by omega) (fun j x v hx hv => hxv j x v hx (by simpa using hv))
        have e2 : splice rows[i] 0 xs = xs := by
          unfold splice
          rw [List.take_zero, List.nil_append, Nat.zero_add, List.drop_eq_nil_of_le (by omega), List.append_nil]
        rw [e2] at h2
        simp only [Nat.add_zero] at h2
        obtain ⟨cells, q1, q2, q3⟩ := fillR_rep c hI h2 hf (fun o ho => hs o (by simp only [List.flatMap_cons, List.mem_append]; exact .inr ho))
        refine ⟨cells, ?_, q2, by rw [q3, List.length_set]⟩
        have hend : i * ti.esz + ti.esz ≤ rows.length * ti.esz := by
          have := Nat.mul_le_mul_right ti.esz hc2
          rwa [Nat.succ_mul] at this
        have e1 : ¬ ((a.eval x).cells.size ≠ ti.esz ∨ i * ti.esz + (a.eval x).cells.size > cur.size) := by
          rw [hus, hc1, h.1]
          omega
        simp only [List.map_cons, Instr.fill]
        rw [if_neg (by simpa using e1), fold_cells _ _ cur (by rw [hus, hc1, h.1]; exact hend)]
        exact q1
      · cases hf
    · cases hf

theorem Cur.buildSlice {s : St} {a : Act} (c : Cur E B lim s g a w) {o : Oper} {t : TypeId} {n : Nat} {parts : Array (Nat × Operand)} (ho : o.op = .buildSlice t n parts) {ti te : TI} (hT : E.T t = some ti) (hk : ti.kd = 3) (h0 : 0 < ti.esz)
    (hn : n ≤ 65536) (he : ti.esz ≤ 256) (hTe : E.T ti.e = some te) {z : List PV} (hz : pvL s.ob te.zero = some z) (hzl : z.length = ti.esz) {rows : List (List PV)}
    (hf : fillR ti E s.ob (evOpd E s.tm) (List.replicate n z) parts.toList = some rows) :
    OpOk E B lim s g a w o { val := .one (.p (some 0) (.sl ti.esz rows)), ow := icy s.ob (parts.toList.flatMap fun p => seenT (evOpd E s.tm p.2)), rd := parts.toList.flatMap fun p => seenT (evOpd E s.tm p.2) } := by
  obtain ⟨hd, j, hj, hjz, hjb, _⟩ := (tiOk hT).sli hk
  obtain ⟨d, i, zv, hd', hi, hsz, hzv, hza, hzl', _⟩ := (tiOk hTe).base
  rw [hj] at hi
  cases hi
  obtain ⟨g1, hE1, hM1, hφ1, hb1, hs1⟩ := icy_all (parts.toList.flatMap fun p => seenT (evOpd E s.tm p.2)) c.mem c.lab
  obtain ⟨z1, z2, z3⟩ := zero_rows (n := n) c.mem hza hz hzl h0
  have hz0 : RowsRel g1.I w ti.esz ((Array.range (n * ti.esz)).map (zv.cells[· % zv.cells.size]!)) (List.replicate n z) := ⟨z1, z2, fun i r j x v a b c => (z3 i r j x v a b c).ext hE1⟩
  obtain ⟨cells, q1, q2, q3⟩ := fillR_rep c hE1.I hz0 hf hs1
  rw [List.length_replicate] at q3
  by_cases hn0 : n = 0
  · subst hn0
    have hrows : rows = [] := List.eq_nil_of_length_eq_zero q3
    subst hrows
    have hcells : cells = #[] := by
      have := q2.1
      simp at this
      exact this
    have hp : parts.toList = [] := by
      cases hp : parts.toList with
      | nil => rfl
      | cons p r =>
        rw [hp] at hf
        simp only [fillR, List.replicate] at hf
        split at hf
        · split at hf
          · rename_i h; simp at h
          · cases hf
        · cases hf
    have hE2 : Ext B lim g1 w (putAll s.ob (icy s.ob (parts.toList.flatMap fun p => seenT (evOpd E s.tm p.2)))) s.rt s.nx _ (w.alloc (.cells #[] ti.e)) _ s.rt s.nx := Ext.block hM1 (.cells #[] ti.e) (fun _ => False)
    have hM2 := RelM.block hM1 hb1 (.cells #[] ti.e) (fun _ => False)
    refine .value (v := .slice (some ⟨w.heap.size, 0, none⟩) 0 0) (w' := w.alloc (.cells #[] ti.e)) ?_ ⟨hE1.trans hE2, hM2, hb1, .of (.one (.p0 ?_))⟩
    · have hp2 : parts = #[] := Array.toList_eq_nil_iff.1 hp
      subst hp2
      simp [execOp, ho, Instr.buildSlice, run_underlying hd, sizeOf, typeInfo, hj, Instr.fill, Go.newRow, Array.range_zero']
    · exact .sl (l := []) (fun _ _ => undef) (Nat.le_refl _) (Nat.zero_le _) (fun h => by cases h) (fun a ha => by cases ha; rfl) (fun i r h => by simp at h) (fun a ha i r j x h => by simp at h) fun i r j x h => by simp at h
  · have hpos : ¬ n * j.size = 0 := by
      rw [hjz]
      exact Nat.mul_ne_zero hn0 (by omega)
    have hsmall : ¬ n * j.size > 2 ^ 24 := by
      have := Nat.mul_le_mul hn he
      rw [hjz]
      omega
    have hr := run_buildSlice (P := E.P) w t ti.e n (parts.map fun (i, x) => (i, a.eval x)) cells j zv hd hj hzv hsmall hpos (by
      rw [hjz, parts_eq]
      exact q1)
    have hE2 : Ext B lim g1 w (putAll s.ob (icy s.ob (parts.toList.flatMap fun p => seenT (evOpd E s.tm p.2)))) s.rt s.nx _ (w.alloc (.cells cells ti.e)) _ s.rt s.nx := Ext.block hM1 (.cells cells ti.e) (fun i => i < cells.size)
    have hM2 := RelM.block hM1 hb1 (.cells cells ti.e) (fun i => i < cells.size)
    refine .value (v := .slice (some ⟨w.heap.size, 0, none⟩) n n) (w' := w.alloc (.cells cells ti.e)) ?_ ⟨hE1.trans hE2, hM2, hb1, .of (.one (.p0 ?_))⟩
    · simp only [execOp, ho, hr, Sem.run_bind, Result.andThen_ok, Sem.run_pure]
    · have := RepP.ofCells (I := fun b i => g1.I b i ∨ (b = w.heap.size ∧ i < cells.size)) (w := w.alloc (.cells cells ti.e)) (b := w.heap.size) (o := 0) (cap := n) (z := ti.esz) (l := rows) cells.toList
        (by rw [Array.length_toList, q2.1])
        (fun k v hv => by
          rw [Array.getElem?_toList] at hv
          rw [Nat.zero_add]
          exact ⟨.inr ⟨rfl, (Array.getElem?_eq_some_iff.1 hv).1⟩, by rw [cell_of_row _ w.heap.size k cells ti.e (0, 0) (heap_new w _)]; exact hv⟩)
        (by omega) (by simp only [maxLen]; omega) q2.2.1
        (fun i r k x hr hx => by
          have hk' : k < ti.esz := by rw [← q2.2.1 i r hr]; exact (List.getElem?_eq_some_iff.1 hx).1
          have hlt : i * ti.esz + k < cells.size := by rw [q2.1]; exact at_lt (List.getElem?_eq_some_iff.1 hr).1 hk'
          refine ⟨cells[i * ti.esz + k], by rw [Array.getElem?_toList]; exact Array.getElem?_eq_getElem hlt, ?_⟩
          exact RepP.ext hE2 (q2.2.2 i r k x _ hr hx (Array.getElem?_eq_getElem hlt)))
      rw [q3] at this
      exact this
end
end Go.Proofs.Ytcmaohhcbiienaa.X
