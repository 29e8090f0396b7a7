import Derived.Test.YtcmaohhcbiienaaXI
/-! XJ: addresses, parts, pieces of slices, function values, lengths. -/
set_option linter.unusedVariables false
namespace Go.Proofs.Ytcmaohhcbiienaa.X
open Go.RowKit

section
variable {E : Env} {B : Blk} {lim : Nat} {g g' : Gh} {w w' : World} {ob ob' : ObF} {rt rt' : RtF} {nx nx' : Nat}

theorem one_rep {v : Value} {c : CV} (h : RelA g w ob rt nx v (.one c)) : RelC g w ob rt nx v c := by
  cases h with
  | of h => cases h with
    | one h => exact h
theorem agg_rep {v : Value} {cs : List CV} (h : RelA g w ob rt nx v (.agg cs)) : ∃ vs, v = .agg vs ∧ RelL g w ob rt nx vs cs := by
  cases h with
  | of h => cases h with
    | agg h => exact ⟨_, rfl, h⟩
theorem idx_rep {v : Value} {x : AT} {n : Int} (h : RelA g w ob rt nx v x) (hx : idxOf x = some n) : ∃ k, v = .int k n := by
  unfold idxOf at hx
  split at hx
  · rename_i p k m
    cases hx
    have := one_rep h
    cases this with
    | p h => cases h; exact ⟨k, rfl⟩
  · cases hx
theorem sl_rep {v : Value} {p : Option Nat} {z : Nat} {l : List (List PV)} (h : RelC g w ob rt nx v (.p p (.sl z l))) : RepP g.I w v (.sl z l) := by
  cases h <;> assumption

/-- Going on within what an address tells. -/
theorem ptr_rep {v : Value} {x y : AT} {d : Nat} (h : RelA g w ob rt nx v x) (hp : evPtr x d = some y) : ∃ b o, v = .pointer (some ⟨b, o, none⟩) ∧ RelA g w ob rt nx (.pointer (some ⟨b, o + d, none⟩)) y := by
  unfold evPtr at hp
  split at hp
  · cases hp
    have := one_rep h
    cases this with
    | pt ho => exact ⟨_, _, rfl, .of (.one (.pt ho))⟩
  · cases hp
    have := one_rep h
    cases this with
    | pr ho =>
      refine ⟨_, _, rfl, .of (.one ?_)⟩
      rw [Nat.add_assoc]
      exact .pr ho
  · cases hp
    have := one_rep h
    cases this with
    | p h =>
      cases h with
      | ref f h1 h2 =>
        refine ⟨_, _, rfl, .of (.one (.p (.ref (fun j => f (d + j)) (fun j x hx => ?_) fun j x hx => ?_)))⟩
        · rw [List.getElem?_drop] at hx
          have := h1 _ x hx
          rw [Nat.add_assoc]
          exact this
        · rw [List.getElem?_drop] at hx
          exact h2 _ x hx
  · cases hp

theorem Cur.fieldAddr {s : St} {a : Act} (c : Cur E B lim s g a w) {o : Oper} {t : TypeId} {x : Operand} {f : Nat} (ho : o.op = .fieldAddr t x f) {ti : TI} (hT : E.T t = some ti) (hk : ti.kd = 1)
    {y : Nat × Nat × Bool × TypeId} (hf : ti.fs[f]? = some y) (hz : y.2.1 ≠ 0) {q : AT} (hq : evPtr (evOpd E s.tm x) y.1 = some q) : OpOk E B lim s g a w o { val := q } := by
  obtain ⟨b, off, hv, hr⟩ := ptr_rep (c.opd x) hq
  obtain ⟨fs, hd, hfs⟩ := (tiOk hT).str hk
  obtain ⟨fd, hfd, e1, e2, e3, e4⟩ := hfs f y hf
  simp only [szT, Option.map_eq_some_iff] at e2
  obtain ⟨i, hi, hiz⟩ := e2
  refine c.pure ?_ hr
  simp [execOp, ho, hv, Instr.fieldAt, run_underlying hd, hfd, Instr.sureAddr, fieldPlace, run_sizeOf hi, hiz, hz, e1, Addr.add_lit]

theorem run_part {P : Program} {t : TypeId} {d : TypeDesc} {i : TypeInfo} (hd : P.underlying t = some d) (hi : P.info? t = some i) {vs : Array Value} {cs : List CV} {off : Nat} {x : AT}
    (h : RelL g w ob rt nx vs cs) (hp : partOf cs off i.size (descAgg d) = some x) : ∃ v, (part t vs off).run P w = .ok v w ∧ RelA g w ob rt nx v x := by
  obtain ⟨h1, h2⟩ := part_rep h hp
  cases ha : descAgg d with
  | true =>
    obtain ⟨hle, hr⟩ := h1 ha
    exact ⟨_, by simp [part, run_isAgg hd, ha, run_sizeOf hi], hr⟩
  | false =>
    obtain ⟨v, hv, hr⟩ := h2 ha
    exact ⟨v, by simp [part, run_isAgg hd, ha, hv], hr⟩

theorem aggT_some {P : Program} {t : TypeId} {b : Bool} (h : aggT P t = some b) : ∃ d, P.underlying t = some d ∧ descAgg d = b := by
  simpa [aggT, Option.map_eq_some_iff] using h

theorem Cur.field {s : St} {a : Act} (c : Cur E B lim s g a w) {o : Oper} {t : TypeId} {x : Operand} {f : Nat} (ho : o.op = .field t x f) {ti : TI} (hT : E.T t = some ti) (hk : ti.kd = 1)
    {y : Nat × Nat × Bool × TypeId} (hf : ti.fs[f]? = some y) {cs : List CV} (hx : evOpd E s.tm x = .agg cs) {q : AT} (hq : partOf cs y.1 y.2.1 y.2.2.1 = some q) : OpOk E B lim s g a w o { val := q } := by
  have hr := c.opd x
  rw [hx] at hr
  obtain ⟨vs, hv, hl⟩ := agg_rep hr
  obtain ⟨fs, hd, hfs⟩ := (tiOk hT).str hk
  obtain ⟨fd, hfd, e1, e2, e3, e4⟩ := hfs f y hf
  simp only [szT, Option.map_eq_some_iff] at e2
  obtain ⟨i, hi, hiz⟩ := e2
  obtain ⟨d, hd', ha⟩ := aggT_some e3
  rw [← hiz, ← ha] at hq
  obtain ⟨v, hp, hvr⟩ := run_part hd' hi hl hq
  refine c.pure ?_ hvr
  simp [execOp, ho, hv, Instr.field, run_underlying hd, hfd, asAgg, e1, hp]

theorem Cur.extract {s : St} {a : Act} (c : Cur E B lim s g a w) {o : Oper} {x : Operand} {i : Nat} (ho : o.op = .extract x i) {ts : List (Bool × List CV)} (hx : evOpd E s.tm x = .tup ts)
    {r : Bool × List CV} (hr : ts[i]? = some r) : OpOk E B lim s g a w o { val := atC r } := by
  have h := c.opd x
  rw [hx] at h
  generalize hev : a.eval x = ev at h
  cases h with
  | of h => cases h
  | tup hl h =>
    rename_i vs
    have hlt : i < vs.size := by rw [hl]; exact (List.getElem?_eq_some_iff.1 hr).1
    have hv : vs[i]? = some vs[i] := Array.getElem?_eq_getElem hlt
    refine c.pure ?_ (.of (h i r vs[i] hr hv))
    simp [execOp, ho, hev, Instr.extract, hv]

theorem Cur.nilCheck {s : St} {a : Act} (c : Cur E B lim s g a w) {o : Oper} {x : Operand} (ho : o.op = .nilCheck x) {q : CV} (hx : evOpd E s.tm x = .one q)
    (hq : (∃ o k, q = .pt o k) ∨ (∃ o r k, q = .pr o r k) ∨ (∃ p cs, q = .p p (.ref cs)) ∨ (∃ p f cs, q = .p p (.fn f cs)) ∨ ∃ f cs, q = .cl f cs) : OpOk E B lim s g a w o { val := .one q } := by
  have h := c.opd x
  rw [hx] at h
  refine c.pure ?_ h
  have h := one_rep h
  generalize hev : a.eval x = ev at h
  rcases hq with ⟨p, k, rfl⟩ | ⟨p, r, k, rfl⟩ | ⟨p, cs, rfl⟩ | ⟨p, f, cs, rfl⟩ | ⟨f, cs, rfl⟩
  · cases h; simp [execOp, ho, hev]
  · cases h; simp [execOp, ho, hev]
  · cases h with
    | p h => cases h; simp [execOp, ho, hev]
  · cases h with
    | p h => cases h; simp [execOp, ho, hev]
  · cases h; simp [execOp, ho, hev]

theorem Cur.indexArr {s : St} {a : Act} (c : Cur E B lim s g a w) {o : Oper} {t : TypeId} {x i : Operand} (ho : o.op = .indexAddr t x i) {ti : TI} (hT : E.T t = some ti) (hk : ti.kd = 2)
    {n : Int} (hi : idxOf (evOpd E s.tm i) = some n) (h0 : 0 ≤ n) (h1 : n < ti.len) {q : AT} (hq : evPtr (evOpd E s.tm x) (n.toNat * ti.esz) = some q) : OpOk E B lim s g a w o { val := q } := by
  obtain ⟨b, off, hv, hr⟩ := ptr_rep (c.opd x) hq
  obtain ⟨k, hn⟩ := idx_rep (c.opd i) hi
  obtain ⟨hd, j, hj, hjz, _, _⟩ := (tiOk hT).arr hk
  refine c.pure ?_ hr
  simp [execOp, ho, hv, hn, Instr.indexAt, asIntOf, run_underlying hd, Instr.sureAddr, h0, h1, run_sizeOf hj, hjz, Addr.add_lit]

theorem Cur.indexSl {s : St} {a : Act} (c : Cur E B lim s g a w) {o : Oper} {t : TypeId} {x i : Operand} (ho : o.op = .indexAddr t x i) {ti : TI} (hT : E.T t = some ti) (hk : ti.kd = 3)
    {n : Int} (hi : idxOf (evOpd E s.tm i) = some n) (h0 : 0 ≤ n) {p : Option Nat} {l : List (List PV)} (hx : evOpd E s.tm x = .one (.p p (.sl ti.esz l))) {r : List PV} (hr : l[n.toNat]? = some r) :
    OpOk E B lim s g a w o { val := .one (.p none (.ref r)) } := by
  have h := c.opd x
  rw [hx] at h
  have h := sl_rep (one_rep h)
  obtain ⟨k, hn⟩ := idx_rep (c.opd i) hi
  obtain ⟨hd, j, hj, hjz, _, _⟩ := (tiOk hT).sli hk
  generalize hev : a.eval x = ev at h
  cases h with
  | sl f h1 h2 h3 h4 h5 h6 h7 =>
    rename_i A cap
    have hlt := (List.getElem?_eq_some_iff.1 hr).1
    cases A with
    | none => have := h3 rfl; omega
    | some ad =>
      have hs := h4 ad rfl
      obtain ⟨b, off, sp⟩ := ad
      subst hs
      have hn' : n < (l.length : Int) := by omega
      refine c.pure (v := .pointer (some ⟨b, off + n.toNat * ti.esz, none⟩)) ?_ (.of (.one (.p (.ref (fun j => f n.toNat j) (fun j x hx => ?_) fun j x hx => h7 _ r j x hr hx))))
      · simp [execOp, ho, hev, hn, Instr.indexAt, asIntOf, run_underlying hd, h0, hn', run_sizeOf hj, hjz, Addr.add_lit]
      · have := h6 _ rfl _ r j x hr hx
        rw [Nat.add_assoc]
        exact this

theorem Cur.indexVw {s : St} {a : Act} (c : Cur E B lim s g a w) {o : Oper} {t : TypeId} {x i : Operand} (ho : o.op = .indexAddr t x i) {ti : TI} (hT : E.T t = some ti) (hk : ti.kd = 3)
    {n : Int} (hi : idxOf (evOpd E s.tm i) = some n) (h0 : 0 ≤ n) {q lo m : Nat} (hx : evOpd E s.tm x = .one (.vw q lo m)) (hm : n.toNat < m) {fz : Bool} {rows : List (List PV)}
    (hq : s.ob q = some (.arr fz ti.esz rows)) : OpOk E B lim s g a w o { val := .one (.pr q (lo + n.toNat) 0), rd := [q] } := by
  have h := c.opd x
  rw [hx] at h
  have h := one_rep h
  obtain ⟨k, hn⟩ := idx_rep (c.opd i) hi
  obtain ⟨hd, j, hj, hjz, _, _⟩ := (tiOk hT).sli hk
  generalize hev : a.eval x = ev at h
  cases h with
  | vw hq' h1 h2 h3 h4 h5 h6 =>
    rw [hq] at hq'
    cases hq'
    have hA := h6 (by omega)
    subst hA
    have hn' : n < (m : Int) := by omega
    refine c.pure (v := .pointer (some ⟨g.φ q, lo * ti.esz + n.toNat * ti.esz, none⟩)) ?_ (.of (.one ?_))
    · simp [execOp, ho, hev, hn, Instr.indexAt, asIntOf, run_underlying hd, h0, hn', run_sizeOf hj, hjz, Addr.add_lit]
    · rw [← Nat.add_mul]
      have := RelC.pr (g := g) (w := w) (rt := s.rt) (nx := s.nx) (r := lo + n.toNat) (off := 0) hq
      rw [Nat.add_zero] at this
      exact this

theorem Cur.indexAgg {s : St} {a : Act} (c : Cur E B lim s g a w) {o : Oper} {t : TypeId} {x i : Operand} (ho : o.op = .index t x i) {ti : TI} (hT : E.T t = some ti) (hk : ti.kd = 2)
    {n : Int} (hi : idxOf (evOpd E s.tm i) = some n) (h0 : 0 ≤ n) (h1 : n < ti.len) {cs : List CV} (hx : evOpd E s.tm x = .agg cs) {q : AT} (hq : partOf cs (n.toNat * ti.esz) ti.esz ti.eagg = some q) :
    OpOk E B lim s g a w o { val := q } := by
  have hr := c.opd x
  rw [hx] at hr
  obtain ⟨vs, hv, hl⟩ := agg_rep hr
  obtain ⟨k, hn⟩ := idx_rep (c.opd i) hi
  obtain ⟨hd, j, hj, hjz, _, he⟩ := (tiOk hT).arr hk
  obtain ⟨d, hd', ha⟩ := aggT_some he
  have hq' := hq
  rw [← hjz, ← ha] at hq
  obtain ⟨v, hp, hvr⟩ := run_part hd' hj hl hq
  refine c.pure ?_ hvr
  simp [execOp, ho, hv, hn, Instr.index, asIntOf, run_underlying hd, h0, h1, run_sizeOf hj, hp]
end
end Go.Proofs.Ytcmaohhcbiienaa.X
