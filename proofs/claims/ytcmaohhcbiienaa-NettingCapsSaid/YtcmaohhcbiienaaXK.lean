import Derived.Test.YtcmaohhcbiienaaXJ
/-! XK: lengths, pieces of slices, new slices, append, function values. -/
set_option linter.unusedVariables false
namespace Go.Proofs.Ytcmaohhcbiienaa.X
open Go.RowKit

section
variable {E : Env} {B : Blk} {lim : Nat} {g g' : Gh} {w w' : World} {ob ob' : ObF} {rt rt' : RtF} {nx nx' : Nat}

theorem Cur.lenSl {s : St} {a : Act} (c : Cur E B lim s g a w) {o : Oper} {t : TypeId} {x : Operand} (ho : o.op = .call { callee := .builtin .len, args := #[x], argTypes := #[t] }) {ti : TI} (hT : E.T t = some ti) (hk : ti.kd = 3)
    {p : Option Nat} {z : Nat} {l : List (List PV)} (hx : evOpd E s.tm x = .one (.p p (.sl z l))) : OpOk E B lim s g a w o { val := .one (.p none (.sc (.int .i64 l.length))) } := by
  have h := c.opd x
  rw [hx] at h
  have h := sl_rep (one_rep h)
  obtain ⟨hd, _⟩ := (tiOk hT).sli hk
  generalize hev : a.eval x = ev at h
  cases h with
  | sl f h1 h2 h3 h4 h5 h6 h7 =>
    exact c.pure (by simp [execOp, ho, hev, resolve, invoke, builtin, Builtin.len_, run_underlying hd, goInt]) (.of (.one (.p (.sc rfl))))

theorem Cur.lenVw {s : St} {a : Act} (c : Cur E B lim s g a w) {o : Oper} {t : TypeId} {x : Operand} (ho : o.op = .call { callee := .builtin .len, args := #[x], argTypes := #[t] }) {ti : TI} (hT : E.T t = some ti) (hk : ti.kd = 3)
    {q lo n : Nat} (hx : evOpd E s.tm x = .one (.vw q lo n)) : OpOk E B lim s g a w o { val := .one (.p none (.sc (.int .i64 n))) } := by
  have h := c.opd x
  rw [hx] at h
  have h := one_rep h
  obtain ⟨hd, _⟩ := (tiOk hT).sli hk
  generalize hev : a.eval x = ev at h
  cases h with
  | vw hq' h1 h2 h3 h4 h5 h6 =>
    exact c.pure (by simp [execOp, ho, hev, resolve, invoke, builtin, Builtin.len_, run_underlying hd, goInt]) (.of (.one (.p (.sc rfl))))

theorem Cur.append {s : St} {a : Act} (c : Cur E B lim s g a w) {o : Oper} {t : TypeId} {x y : Operand} (ho : o.op = .call { callee := .builtin .append, args := #[x, y], argTypes := #[t, t] }) {ti te : TI}
    (hT : E.T t = some ti) (hk : ti.kd = 3) (hTe : E.T ti.e = some te) {n : Nat} {l l' : List (List PV)} {p : Option Nat} (hx : X.opT E (evOpd E s.tm) t x = .one (.p (some n) (.sl ti.esz l)))
    (hy : X.opT E (evOpd E s.tm) t y = .one (.p p (.sl ti.esz l'))) (h0 : 0 < ti.esz) (hn : n = 0 ∨ s.rt n = true) (hlen : l.length + l'.length ≤ 16777216) (hby : ti.eby ≤ 4096) :
    OpOk E B lim s g a w o { val := .one (.p (some s.nx) (.sl ti.esz (l ++ l'))), rw := some n, nl := true } := by
  have h1 := c.opT t x
  rw [hx] at h1
  have h2 := c.opT t y
  rw [hy] at h2
  obtain ⟨hd, j, hj, hjz, hjb, _⟩ := (tiOk hT).sli hk
  obtain ⟨d, i, zv, hd', hi, hsz, hzv, hza, hzl, _⟩ := (tiOk hTe).base
  rw [hj] at hi
  cases hi
  have hzz : zv.cells.size = ti.esz := by
    have := (zero_all (g := g) (w := w) (ob := s.ob) (rt := s.rt) (nx := s.nx) hza).1
    simp at this
    omega
  obtain ⟨v', w', g', hr, hE, hM, hC⟩ := append_step (P := E.P) (base := lim) t o.type ti.e j zv hd hj hzv hjz h0 hzz (by omega) c.mem c.lab (one_rep h1) hn (sl_rep (one_rep h2)) hlen
  refine .value (g' := g') (w' := w') (v := v') ?_ ⟨hE, hM, c.lab, .of (.one hC)⟩
  simp only [execOp, ho, resolve, invoke, builtin, Sem.run_bind, Sem.run_pure, Result.andThen_ok, List.map_toArray, List.map_cons, List.map_nil, hr]

theorem rows_piece {l : List (List PV)} {lo hi : Nat} {i : Nat} {r : List PV} (h : ((l.take hi).drop lo)[i]? = some r) : lo + i < hi ∧ l[lo + i]? = some r := by
  rw [List.getElem?_drop, List.getElem?_take] at h
  split at h
  · exact ⟨by assumption, h⟩
  · cases h

/-- A piece of a slice. -/
theorem piece_rep {I : Nat → Nat → Prop} {A : Option Addr} {n cap z : Nat} {l : List (List PV)} (h : RepP I w (.slice A n cap) (.sl z l)) {lo hi m : Nat} (h1 : lo ≤ hi) (h2 : hi ≤ l.length) (h3 : hi ≤ m) (h4 : m ≤ cap) :
    RepP I w (.slice (if m = lo then A else A.map (·.add (lo * z))) (hi - lo) (m - lo)) (.sl z ((l.take hi).drop lo)) := by
  cases h with
  | sl f q1 q2 q3 q4 q5 q6 q7 =>
    have hlen : ((l.take hi).drop lo).length = hi - lo := by simp; omega
    have hadd : ∀ a, A = some a → ∃ b o, a = ⟨b, o, none⟩ ∧ a.add (lo * z) = ⟨b, o + lo * z, none⟩ := by
      intro a ha
      obtain ⟨b, o, sp⟩ := a
      have := q4 _ ha
      simp only at this
      subst this
      exact ⟨b, o, rfl, Addr.add_lit b o _⟩
    have := RepP.sl (I := I) (w := w) (A := if m = lo then A else A.map (·.add (lo * z))) (cap := m - lo) (z := z) (l := (l.take hi).drop lo) (fun i j => f (lo + i) j) (by omega) (by omega)
      (fun hn => by
        split at hn
        · omega
        · simp only [Option.map_eq_none_iff] at hn
          have := q3 hn
          omega)
      (fun a ha => by
        split at ha
        · exact q4 a ha
        · simp only [Option.map_eq_some_iff] at ha
          obtain ⟨a', ha', rfl⟩ := ha
          obtain ⟨b, o, rfl, e⟩ := hadd a' ha'
          rw [e])
      (fun i r hr => q5 _ r (rows_piece hr).2)
      (fun a ha i r j x hr hx => by
        obtain ⟨hlt, hr'⟩ := rows_piece hr
        rw [if_neg (by omega)] at ha
        simp only [Option.map_eq_some_iff] at ha
        obtain ⟨a', ha', rfl⟩ := ha
        obtain ⟨b, o, rfl, e⟩ := hadd a' ha'
        rw [e]
        have := q6 _ ha' _ r j x hr' hx
        have e2 : o + lo * z + (i * z + j) = o + ((lo + i) * z + j) := by rw [Nat.add_mul]; omega
        simp only [e2]
        exact this)
      (fun i r j x hr hx => q7 _ r j x (rows_piece hr).2 hx)
    rw [hlen] at this
    exact this

theorem opt_idx {s : St} {a : Act} (c : Cur E B lim s g a w) {x : Option Operand} {n : Option Int} (h : optIdx (evOpd E s.tm) x = some n) :
    (x.map a.eval = none ∧ n = none) ∨ ∃ k m, x.map a.eval = some (.int k m) ∧ n = some m := by
  cases x with
  | none => simp [optIdx] at h; exact .inl ⟨rfl, h.symm⟩
  | some x =>
    simp only [optIdx, Option.map_eq_some_iff] at h
    obtain ⟨m, hm, rfl⟩ := h
    obtain ⟨k, hk⟩ := idx_rep (c.opd x) hm
    exact .inr ⟨k, m, by simp [hk], rfl⟩

theorem run_bounds {P : Program} {b : Bool} {len cap : Nat} {lo hi mx : Option Value} {lo' hi' mx' : Option Int} (h1 : (lo = none ∧ lo' = none) ∨ ∃ k m, lo = some (.int k m) ∧ lo' = some m)
    (h2 : (hi = none ∧ hi' = none) ∨ ∃ k m, hi = some (.int k m) ∧ hi' = some m) (h3 : (mx = none ∧ mx' = none) ∨ ∃ k m, mx = some (.int k m) ∧ mx' = some m)
    (q1 : 0 ≤ lo'.getD 0) (q2 : lo'.getD 0 ≤ hi'.getD len) (q3 : hi'.getD len ≤ mx'.getD cap) (q4 : mx'.getD cap ≤ cap) (q5 : mx'.isSome → hi'.isSome) :
    (Instr.sliceBounds b len cap lo hi mx).run P w = .ok ((lo'.getD 0).toNat, (hi'.getD len).toNat, (mx'.getD cap).toNat) w := by
  rcases h1 with ⟨rfl, rfl⟩ | ⟨k1, m1, rfl, rfl⟩ <;> rcases h2 with ⟨rfl, rfl⟩ | ⟨k2, m2, rfl, rfl⟩ <;> rcases h3 with ⟨rfl, rfl⟩ | ⟨k3, m3, rfl, rfl⟩ <;>
    simp only [Option.getD_some, Option.getD_none, Option.isSome_some, Option.isSome_none] at q1 q2 q3 q4 q5 <;>
    (try simp at q5) <;>
    simp [Instr.sliceBounds, Instr.sliceBound, asIntOf] <;> (try rw [if_pos (by omega)]) <;> (try simp) <;> (try rw [if_pos (by omega)]) <;> (try simp) <;> (try rw [if_pos (by omega)]) <;> (try simp) <;> (try omega)
end
end Go.Proofs.Ytcmaohhcbiienaa.X
