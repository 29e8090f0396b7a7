import Derived.Test.YtcmaohhcbiienaaXH
/-! XI: stores, new variables. -/
set_option linter.unusedVariables false
namespace Go.Proofs.Ytcmaohhcbiienaa.X
open Go.RowKit

theorem splice_at {α : Type} {l cs : List α} {off : Nat} (h : off + cs.length ≤ l.length) (k : Nat) :
    (splice l off cs)[k]? = if k < off then l[k]? else if k < off + cs.length then cs[k - off]? else l[k]? := by
  unfold splice
  have h1 : (l.take off).length = off := by rw [List.length_take]; omega
  rw [List.append_assoc]
  by_cases hk : k < off
  · rw [if_pos hk, List.getElem?_append_left (by omega), List.getElem?_take, if_pos hk]
  · rw [if_neg hk, List.getElem?_append_right (by omega), h1]
    by_cases hk2 : k < off + cs.length
    · rw [if_pos hk2, List.getElem?_append_left (by omega)]
    · rw [if_neg hk2, List.getElem?_append_right (by omega), List.getElem?_drop]
      congr 1
      omega
theorem splice_length {α : Type} {l cs : List α} {off : Nat} (h : off + cs.length ≤ l.length) : (splice l off cs).length = l.length := by
  unfold splice
  simp
  omega

section
variable {E : Env} {B : Blk} {lim : Nat} {g g' : Gh} {w w' : World} {ob ob' : ObF} {rt rt' : RtF} {nx nx' : Nat}

theorem RelL.splice {vs us : Array Value} {cs xs : List CV} {off : Nat} (h : RelL g w ob rt nx vs cs) (k : RelL g w ob rt nx us xs) (hle : off + xs.length ≤ cs.length) :
    RelL g w ob rt nx (X.splice vs.toList off us.toList).toArray (X.splice cs off xs) := by
  have hu : us.toList.length = xs.length := by rw [Array.length_toList]; exact k.1
  have hv : vs.toList.length = cs.length := by rw [Array.length_toList]; exact h.1
  refine ⟨?_, fun j x v hx hv' => ?_⟩
  · rw [List.size_toArray, splice_length (by omega), splice_length hle, hv]
  · rw [List.getElem?_toArray, splice_at (by omega), hu] at hv'
    rw [splice_at hle] at hx
    split at hx
    · rename_i h1
      rw [if_pos h1] at hv'
      exact h.2 j x v hx (by simpa using hv')
    · rename_i h1
      rw [if_neg h1] at hv'
      split at hx
      · rename_i h2
        rw [if_pos h2] at hv'
        exact k.2 _ x v hx (by simpa using hv')
      · rename_i h2
        rw [if_neg h2] at hv'
        exact h.2 j x v hx (by simpa using hv')

theorem Cur.storeVar {s : St} {a : Act} (c : Cur E B lim s g a w) {o : Oper} {t : TypeId} {x y : Operand} (ho : o.op = .store t x y) {ti : TI} (hT : E.T t = some ti)
    {p off : Nat} {vs cs : List CV} (hx : evOpd E s.tm x = .one (.pt p off)) (hy : cellsOf (X.opT E (evOpd E s.tm) t y) = some vs) (hp : s.ob p = some (.var cs))
    (hl : vs.length = ti.sz) (hle : off + vs.length ≤ cs.length) :
    OpOk E B lim s g a w o { val := .no, ow := [(p, .var (X.splice cs off vs))], rd := [p] } := by
  obtain ⟨d, i, zv, hd, hi, hsz, hzv, hza, hzl, hag⟩ := (tiOk hT).base
  have hr := cells_rep (c.opT t y) hy
  have hxr := c.opd x
  rw [hx] at hxr
  generalize hev : a.eval x = ev at hxr
  cases hxr with
  | of hxr =>
    cases hxr with
    | one hxr =>
      cases hxr with
      | pt hcs =>
        obtain ⟨q, hB⟩ := c.mem.obj p _ hp
        cases q with
        | var e cur h1 h2 h3 =>
          have hst := run_storeCells_at E.P (g.φ p) off e (a.eval y).cells.toList 0 cur w h1 (by rw [Array.length_toList, hr.1, h2.1]; omega) hr.flat
          simp only [Nat.add_zero] at hst
          have hlike : Obj.like (.var cs) (.var (X.splice cs off vs)) := splice_length hle
          have hE : Ext B lim g w s.ob s.rt s.nx g (w.setRow (g.φ p) (X.splice cur.toList off (a.eval y).cells.toList).toArray) (upd s.ob p (some (.var (X.splice cs off vs)))) s.rt s.nx :=
            Ext.store c.mem hp hlike trivial _ h3
          have hM := RelM.store c.mem c.lab hp hlike trivial (X.splice cur.toList off (a.eval y).cells.toList).toArray h3
            (.var e _ (setRow_heap w (g.φ p) cur _ e (0, 0) h1) ((h2.splice hr hle).ext hE c.lab) h3)
          refine .skip (g' := g) (w' := w.setRow (g.φ p) (X.splice cur.toList off (a.eval y).cells.toList).toArray) ?_ ⟨hE, hM, ?_, .of .no⟩
          · have e1 : (a.eval y).cells.size = i.size := by rw [hr.1, hl, hsz]
            simp only [execOp, ho, hev, Instr.storeAt, Instr.sureAddr, Go.storeVar, Sem.run_bind, Sem.run_pure, Result.andThen_ok, run_sizeOf hi, e1, ne_eq, not_true_eq_false, if_false, hst]
            rfl
          · intro q hq
            by_cases hqp : q = p
            · exact hqp ▸ c.lab p (by simp [hp])
            · exact c.lab q (by simpa [apU, upd_ne _ _ hqp] using hq)

theorem putAll_other {l : List (Nat × Obj)} {p : Nat} (h : ∀ q ∈ l, q.1 ≠ p) : putAll ob l p = ob p := by
  induction l generalizing ob with
  | nil => rfl
  | cons a l ih =>
    show putAll (upd ob a.1 (some a.2)) l p = _
    rw [ih fun q hq => h q (List.mem_cons_of_mem _ hq), upd_ne _ _ (h a (List.mem_cons_self ..)).symm]
theorem icy_mem {os : List Nat} : ∀ q ∈ icy ob os, q.1 ∈ os := by
  intro q hq
  unfold icy at hq
  obtain ⟨o, ho, h⟩ := List.mem_filterMap.1 hq
  split at h
  · cases h; exact ho
  · cases h

/-- What a row of cells tells, when the own arrays that it shows are written no more. -/
theorem RelL.seen {G : Nat → Option (List PV)} (h : RelM G g w ob rt nx B) {I : Nat → Nat → Prop} (hI : ∀ b i, g.I b i → I b i) : ∀ {cs : List CV} {vs : List Value} {xs : List PV}, vs.length = cs.length →
    (∀ (j : Nat) (x : CV) (v : Value), cs[j]? = some x → vs[j]? = some v → RelC g w ob rt nx v x) → pvL ob cs = some xs →
    (∀ o ∈ cs.flatMap seenC, ∀ fz z rows, ob o = some (.arr fz z rows) → ∀ i, i < rows.length * z → I (g.φ o) i) →
    xs.length = cs.length ∧ ∀ (j : Nat) (x : PV) (v : Value), xs[j]? = some x → vs[j]? = some v → RepP I w v x
  | [], vs, xs, hl, _, hp, _ => by
    simp [pvL] at hp
    subst hp
    exact ⟨rfl, fun j x v hx => by simp at hx⟩
  | c :: cs, [], xs, hl, _, _, _ => by simp at hl
  | c :: cs, v :: vs, xs, hl, hr, hp, hs => by
    simp only [pvL] at hp
    split at hp
    · rename_i y ys hy hys
      cases hp
      obtain ⟨h1, h2⟩ := RelL.seen h hI (cs := cs) (vs := vs) (xs := ys) (by simpa using hl) (fun j x u hx hu => hr (j + 1) x u (by simpa using hx) (by simpa using hu)) hys
        fun o ho => hs o (by simp only [List.flatMap_cons, List.mem_append]; exact .inr ho)
      refine ⟨by simpa using h1, fun j x u hx hu => ?_⟩
      cases j with
      | zero =>
        simp at hx hu
        subst hx
        subst hu
        exact (hr 0 c v rfl rfl).seen h hy hI fun o ho => hs o (by simp only [List.flatMap_cons, List.mem_append]; exact .inl ho)
      | succ j => exact h2 j x u (by simpa using hx) (by simpa using hu)
    · cases hp

theorem Cur.newVar {s : St} {a : Act} (c : Cur E B lim s g a w) {o : Oper} {q : Nat} {cs : List CV} {vs : Array Value} {e : TypeId} {rd : List Nat} (hq : s.ob q = none) (hql : q < lim)
    (hv : RelL g w s.ob s.rt s.nx vs cs) (h : (execOp a.eval o).run E.P w = .ok (.value (.pointer (some ⟨w.heap.size, 0, none⟩))) (w.alloc (.cells vs e))) :
    OpOk E B lim s g a w o { val := .one (.pt q 0), ow := [(q, .var cs)], rd := rd } := by
  have hE : Ext B lim g w s.ob s.rt s.nx { g with φ := upd g.φ q w.heap.size } (w.alloc (.cells vs e)) (upd s.ob q (some (.var cs))) s.rt s.nx := Ext.var c.mem hq _ _
  have hM := RelM.var c.mem c.lab hq (.cells vs e) (.var cs) (.var e vs (heap_new w _) (hv.ext hE c.lab) fun i hi => absurd (c.mem.bnd _ i hi) (Nat.lt_irrefl _))
  refine .value (g' := { g with φ := upd g.φ q w.heap.size }) h ⟨hE, hM, fun p hp => ?_, ?_⟩
  · by_cases hpq : p = q
    · exact hpq ▸ hql
    · exact c.lab p (by simpa [apU, upd_ne _ _ hpq] using hp)
  · have := RelC.pt (g := { g with φ := upd g.φ q w.heap.size }) (w := w.alloc (.cells vs e)) (ob := upd s.ob q (some (.var cs))) (rt := s.rt) (nx := s.nx) (o := q) (off := 0) (upd_same _ _ _)
    simp only [upd_same] at this
    exact .of (.one this)

theorem Cur.alloc {s : St} {a : Act} (c : Cur E B lim s g a w) {o : Oper} {t : TypeId} (ho : o.op = .alloc t) {ti : TI} (hT : E.T t = some ti) {q : Nat} {rd : List Nat} (hq : s.ob q = none) (hql : q < lim) :
    OpOk E B lim s g a w o { val := .one (.pt q 0), ow := [(q, .var ti.zero)], rd := rd } := by
  obtain ⟨d, i, zv, hd, hi, hsz, hzv, hza, hzl, hag⟩ := (tiOk hT).base
  have hr : RelL g w s.ob s.rt s.nx zv.cells ti.zero := by simpa using zero_all hza
  refine c.newVar (e := t) hq hql hr ?_
  simp [execOp, ho, Instr.alloc, run_zeroValue hi hzv, Go.newVar, Go.newRow]

theorem Cur.box {s : St} {a : Act} (c : Cur E B lim s g a w) {o : Oper} {t : TypeId} {x : Operand} (ho : o.op = .box t x) {cs : List CV} (hx : cellsOf (X.opT E (evOpd E s.tm) t x) = some cs) {q : Nat} {rd : List Nat}
    (hq : s.ob q = none) (hql : q < lim) : OpOk E B lim s g a w o { val := .one (.pt q 0), ow := [(q, .var cs)], rd := rd } := by
  refine c.newVar (e := t) hq hql (cells_rep (c.opT t x) hx) ?_
  simp [execOp, ho, Instr.box, Go.newVar, Go.newRow]
end
end Go.Proofs.Ytcmaohhcbiienaa.X
