import Derived.Test.YtcmaohhcbiienaaXM
/-! XN: slices out of their parts; stores into own arrays; copy; function values. -/
set_option linter.unusedVariables false
namespace Go.Proofs.Ytcmaohhcbiienaa.X
open Go.RowKit

/-- Cells that are rows, one behind the other. -/
def RowsRel (I : Nat → Nat → Prop) (w : World) (z : Nat) (vs : Array Value) (rows : List (List PV)) : Prop :=
  vs.size = rows.length * z ∧ (∀ (i : Nat) (r : List PV), rows[i]? = some r → r.length = z) ∧
  ∀ (i : Nat) (r : List PV) (j : Nat) (x : PV) (v : Value), rows[i]? = some r → r[j]? = some x → vs[i * z + j]? = some v → RepP I w v x
/-- So, too, where the block is longer. -/
def RowsGe (I : Nat → Nat → Prop) (w : World) (z : Nat) (vs : Array Value) (rows : List (List PV)) : Prop :=
  rows.length * z ≤ vs.size ∧ (∀ (i : Nat) (r : List PV), rows[i]? = some r → r.length = z) ∧
  ∀ (i : Nat) (r : List PV) (j : Nat) (x : PV) (v : Value), rows[i]? = some r → r[j]? = some x → vs[i * z + j]? = some v → RepP I w v x

section
variable {E : Env} {B : Blk} {lim : Nat} {g g' : Gh} {w w' : World} {ob ob' : ObF} {rt rt' : RtF} {nx nx' : Nat} {I : Nat → Nat → Prop}

theorem RowsGe.set {z : Nat} {vs us : Array Value} {rows : List (List PV)} {xs : List PV} (h : RowsGe I w z vs rows) {i off : Nat} {row : List PV} (hr : rows[i]? = some row) (hu : us.size = xs.length) (hle : off + xs.length ≤ row.length)
    (hx : ∀ (j : Nat) (x : PV) (v : Value), xs[j]? = some x → us[j]? = some v → RepP I w v x) :
    RowsGe I w z (splice vs.toList (i * z + off) us.toList).toArray (rows.set i (splice row off xs)) := by
  obtain ⟨h1, h2, h3⟩ := h
  have hi : i < rows.length := (List.getElem?_eq_some_iff.1 hr).1
  have hrow := h2 i row hr
  have hus : us.toList.length = xs.length := by rw [Array.length_toList]; exact hu
  have hvs : rows.length * z ≤ vs.toList.length := by rw [Array.length_toList]; exact h1
  have hend : i * z + z ≤ rows.length * z := by
    have := Nat.mul_le_mul_right z hi
    rwa [Nat.succ_mul] at this
  refine ⟨?_, fun k r hk => ?_, fun k r j x v hk hx' hv => ?_⟩
  · rw [List.size_toArray, splice_length (by omega), List.length_set]
    exact hvs
  · rw [List.getElem?_set] at hk
    split at hk
    · cases hk
      rw [splice_length hle]
      exact hrow
    · exact h2 k r hk
  · rw [List.getElem?_toArray, splice_at (by omega), hus] at hv
    rw [List.getElem?_set] at hk
    split at hk
    · rename_i hik
      subst hik
      cases hk
      rw [splice_at hle] at hx'
      split at hx'
      · rename_i hj
        rw [if_pos (by omega)] at hv
        exact h3 i row j x v hr hx' (by simpa using hv)
      · rename_i hj
        rw [if_neg (by omega)] at hv
        split at hx'
        · rename_i hj2
          rw [if_pos (by omega)] at hv
          refine hx (j - off) x v hx' ?_
          have : i * z + j - (i * z + off) = j - off := by omega
          rw [this] at hv
          simpa using hv
        · rename_i hj2
          rw [if_neg (by omega)] at hv
          exact h3 i row j x v hr hx' (by simpa using hv)
    · rename_i hik
      have hj : j < z := by rw [← h2 k r hk]; exact (List.getElem?_eq_some_iff.1 hx').1
      have hout : ¬ (i * z + off ≤ k * z + j ∧ k * z + j < i * z + off + xs.length) := by
        rintro ⟨a, b⟩
        rcases Nat.lt_or_gt_of_ne hik with hlt | hgt
        · have := Nat.mul_le_mul_right z hlt
          rw [Nat.succ_mul] at this
          omega
        · have := Nat.mul_le_mul_right z hgt
          rw [Nat.succ_mul] at this
          omega
      have hv' : vs.toList[k * z + j]? = some v := by
        split at hv
        · exact hv
        · split at hv
          · exact absurd ⟨by omega, by omega⟩ hout
          · exact hv
      exact h3 k r j x v hk hx' (by simpa using hv')

theorem RowsRel.ge {z : Nat} {vs : Array Value} {rows : List (List PV)} (h : RowsRel I w z vs rows) : RowsGe I w z vs rows := ⟨Nat.le_of_eq h.1.symm, h.2⟩
theorem RowsRel.set {z : Nat} {vs us : Array Value} {rows : List (List PV)} {xs : List PV} (h : RowsRel I w z vs rows) {i off : Nat} {row : List PV} (hr : rows[i]? = some row) (hu : us.size = xs.length) (hle : off + xs.length ≤ row.length)
    (hx : ∀ (j : Nat) (x : PV) (v : Value), xs[j]? = some x → us[j]? = some v → RepP I w v x) :
    RowsRel I w z (splice vs.toList (i * z + off) us.toList).toArray (rows.set i (splice row off xs)) := by
  have q := h.ge.set hr hu hle hx
  refine ⟨?_, q.2⟩
  have hi : i < rows.length := (List.getElem?_eq_some_iff.1 hr).1
  have hrow := h.2.1 i row hr
  have hus : us.toList.length = xs.length := by rw [Array.length_toList]; exact hu
  have hvs : vs.toList.length = rows.length * z := by rw [Array.length_toList]; exact h.1
  have hend : i * z + z ≤ rows.length * z := by
    have := Nat.mul_le_mul_right z hi
    rwa [Nat.succ_mul] at this
  rw [List.size_toArray, splice_length (by omega), List.length_set, hvs]

theorem RelObj.rows {b : Nat} {fz : Bool} {z : Nat} {rows : List (List PV)} (h : RelObj g w ob rt nx b (.arr fz z rows)) (hne : rows ≠ []) :
    ∃ e vs, w.heap[b]? = some (.cells vs e (0, 0)) ∧ RowsGe g.I w z vs rows ∧ rows.length ≤ maxLen := by
  cases h with
  | nil => exact absurd rfl hne
  | arr e vs h1 h2 h3 h4 h5 h6 h7 => exact ⟨e, vs, h1, ⟨h2, h4, h5⟩, h3⟩

theorem RowsRel.ext {z : Nat} {vs : Array Value} {rows : List (List PV)} (h : RowsRel g.I w z vs rows) (hE : Ext B lim g w ob rt nx g' w' ob' rt' nx') : RowsRel g'.I w' z vs rows :=
  ⟨h.1, h.2.1, fun i r j x v a b c => (h.2.2 i r j x v a b c).ext hE⟩

theorem RelM.frozen {G : Nat → Option (List PV)} (h : RelM G g w ob rt nx B) {o : Nat} {z : Nat} {rows : List (List PV)} (ho : ob o = some (.arr false z rows)) (hne : rows ≠ []) : ∀ i, ¬ g.I (g.φ o) i := by
  have := (h.obj o _ ho).1
  cases this with
  | nil => exact absurd rfl hne
  | arr e vs h1 h2 h3 h4 h5 h6 h7 => exact h6 rfl

theorem Cur.storeArr {s : St} {a : Act} (c : Cur E B lim s g a w) {o : Oper} {t : TypeId} {x y : Operand} (ho : o.op = .store t x y) {ti : TI} (hT : E.T t = some ti)
    {p r off : Nat} {vs : List CV} {xs : List PV} {z : Nat} {rows : List (List PV)} {row : List PV} (hx : evOpd E s.tm x = .one (.pr p r off)) (hy : cellsOf (X.opT E (evOpd E s.tm) t y) = some vs) (hp : s.ob p = some (.arr false z rows))
    (hxs : pvL s.ob vs = some xs) (hr : rows[r]? = some row) (hl : xs.length = ti.sz) (hle : off + xs.length ≤ row.length) (hns : p ∉ vs.flatMap seenC) :
    OpOk E B lim s g a w o { val := .no, ow := icy s.ob (vs.flatMap seenC) ++ [(p, .arr false z (rows.set r (splice row off xs)))], rd := p :: vs.flatMap seenC } := by
  obtain ⟨d, i, zv, hd, hi, hsz, hzv, hza, hzl, hag⟩ := (tiOk hT).base
  have hcr := cells_rep (c.opT t y) hy
  have hxr := c.opd x
  rw [hx] at hxr
  generalize hev : a.eval x = ev at hxr
  have hxr := one_rep hxr
  cases hxr with
  | pr hcs =>
    rw [hp] at hcs
    cases hcs
    obtain ⟨g1, hE1, hM1, hφ1, hb1, hs1⟩ := icy_all (vs.flatMap seenC) c.mem c.lab
    have hp1 : putAll s.ob (icy s.ob (vs.flatMap seenC)) p = some (.arr false z rows) := by
      rw [putAll_other (p := p) fun q hq e => hns (by rw [← e]; exact icy_mem q hq)]
      exact hp
    obtain ⟨hxl, hxv⟩ := RelL.seen c.mem (I := g1.I) hE1.I (vs := (a.eval y).cells.toList) (by rw [Array.length_toList]; exact hcr.1) (fun j x v hx hv => hcr.2 j x v hx (by simpa using hv)) hxs
      (fun o ho fz z rows hob => hs1 o ho fz z rows hob)
    have hne : rows ≠ [] := fun e => by rw [e] at hr; simp at hr
    obtain ⟨e, cur, hh, hR, hmx⟩ := (hM1.obj p _ hp1).1.rows hne
    rw [hφ1] at hh
    have hrow := hR.2.1 r row hr
    have hrl := (List.getElem?_eq_some_iff.1 hr).1
    have hend : r * z + z ≤ rows.length * z := by
      have := Nat.mul_le_mul_right z hrl
      rwa [Nat.succ_mul] at this
    have hus : (a.eval y).cells.size = xs.length := by rw [hcr.1, hxl]
    have hst := run_storeCells_at E.P (g.φ p) (r * z + off) e (a.eval y).cells.toList 0 cur w hh (by have q := hR.1; rw [Array.length_toList, hus]; omega) hcr.flat
    simp only [Nat.add_zero] at hst
    have hR2 := hR.set hr hus hle (fun j x v hx hv => hxv j x v hx (by simpa using hv))
    have hlike : Obj.like (.arr false z rows) (.arr false z (rows.set r (splice row off xs))) := ⟨rfl, List.length_set⟩
    have hI := hM1.frozen hp1 hne
    have hE2 : Ext B lim g1 w (putAll s.ob (icy s.ob (vs.flatMap seenC))) s.rt s.nx g1 (w.setRow (g1.φ p) (splice cur.toList (r * z + off) (a.eval y).cells.toList).toArray)
        (upd (putAll s.ob (icy s.ob (vs.flatMap seenC))) p (some (.arr false z (rows.set r (splice row off xs))))) s.rt s.nx := Ext.store hM1 hp1 hlike (Obj.solid_ne hne) _ hI
    have hR3 := hR2
    have hM2 := RelM.store hM1 hb1 hp1 hlike (Obj.solid_ne hne) (splice cur.toList (r * z + off) (a.eval y).cells.toList).toArray hI
      (.arr e _ (setRow_heap w _ cur _ e (0, 0) (by rw [hφ1]; exact hh)) hR2.1 (by rw [List.length_set]; exact hmx) hR2.2.1 (fun i r j x v q1 q2 q3 => (hR2.2.2 i r j x v q1 q2 q3).ext hE2) (fun _ => hI) (fun h => by cases h))
    have e0 : (apU none ({ val := .no, ow := icy s.ob (vs.flatMap seenC) ++ [(p, .arr false z (rows.set r (splice row off xs)))], rd := p :: vs.flatMap seenC } : Upd) s).ob =
        upd (putAll s.ob (icy s.ob (vs.flatMap seenC))) p (some (.arr false z (rows.set r (splice row off xs)))) := by
      simp only [apU, List.foldl_append, List.foldl_cons, List.foldl_nil]
      rfl
    refine .skip (g' := g1) (w' := w.setRow (g1.φ p) (splice cur.toList (r * z + off) (a.eval y).cells.toList).toArray) ?_ ⟨?_, ?_, ?_, .of .no⟩
    · have e1 : (a.eval y).cells.size = i.size := by rw [hus, hl, hsz]
      rw [hφ1]
      simp only [execOp, ho, hev, Instr.storeAt, Instr.sureAddr, Go.storeVar, Sem.run_bind, Sem.run_pure, Result.andThen_ok, run_sizeOf hi, e1, ne_eq, not_true_eq_false, if_false, hst]
      rfl
    · rw [e0]; exact hE1.trans hE2
    · rw [e0]; exact hM2
    · rw [e0]
      intro q hq
      by_cases hqp : q = p
      · exact hqp ▸ c.lab p (by simp [hp])
      · exact hb1 q (by simpa [upd_ne _ _ hqp] using hq)

theorem cvA_rep {v : Value} {x : AT} {y : Bool × List CV} (h : RelA g w ob rt nx v x) (hx : cvA x = some y) : RelA1 g w ob rt nx v (atC y) := by
  cases h with
  | tup => simp [cvA] at hx
  | of h =>
    cases h with
    | no => simp [cvA] at hx
    | one h => simp [cvA] at hx; subst hx; exact .one h
    | agg h => simp [cvA] at hx; subst hx; exact .agg h
end
end Go.Proofs.Ytcmaohhcbiienaa.X
