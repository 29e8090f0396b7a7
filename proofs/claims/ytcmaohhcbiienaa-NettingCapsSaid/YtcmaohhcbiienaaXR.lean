import Derived.Test.YtcmaohhcbiienaaXQ
/-! XR: function values. -/
set_option linter.unusedVariables false
namespace Go.Proofs.Ytcmaohhcbiienaa.X
open Go.RowKit

section
variable {E : Env} {B : Blk} {lim base : Nat} {g g' : Gh} {w w' : World} {ob ob' : ObF} {rt rt' : RtF} {nx nx' : Nat} {I : Nat → Nat → Prop}

theorem caps_rep {s : St} {a : Act} (c : Cur E B lim s g a w) : ∀ {l : List Operand} {cs : List (Bool × List CV)}, cvAs (l.map (evOpd E s.tm)) = some cs → cs.all (fun c => !c.1) = true →
    (cs.flatMap (·.2)).length = l.length ∧ ∀ (j : Nat) (x : CV) (v : Value), (cs.flatMap (·.2))[j]? = some x → (l.map a.eval)[j]? = some v → RelC g w s.ob s.rt s.nx v x
  | [], cs, h, _ => by
    simp [cvAs] at h
    subst h
    exact ⟨rfl, fun j x v hx => by simp at hx⟩
  | o :: l, cs, h, hall => by
    simp only [List.map_cons, cvAs] at h
    split at h
    · rename_i y ys hy hys
      cases h
      simp only [List.all_cons, Bool.and_eq_true] at hall
      obtain ⟨h1, h2⟩ := caps_rep c hys hall.2
      have ho := c.opd o
      obtain ⟨x0, hx0, hr⟩ : ∃ x0, y = (false, [x0]) ∧ RelC g w s.ob s.rt s.nx (a.eval o) x0 := by
        generalize evOpd E s.tm o = z at hy ho
        cases z with
        | one c0 => simp [cvA] at hy; exact ⟨c0, hy.symm, one_rep ho⟩
        | agg cs0 => simp [cvA] at hy; subst hy; simp at hall
        | _ => simp [cvA] at hy
      subst hx0
      refine ⟨by simp [h1], fun j x v hx hv => ?_⟩
      cases j with
      | zero => simp at hx hv; subst hx; subst hv; exact hr
      | succ j => exact h2 j x v (by simpa using hx) (by simpa using hv)
    · cases h

theorem pvL_noOb : ∀ {xs : List CV} {ps : List PV}, pvL noOb xs = some ps → ps.length = xs.length ∧ ∀ (j : Nat) (x : CV) (y : PV), xs[j]? = some x → ps[j]? = some y → ∃ p, x = .p p y
  | [], ps, h => by
    simp [pvL] at h
    subst h
    exact ⟨rfl, fun j x y hx => by simp at hx⟩
  | c :: xs, ps, h => by
    simp only [pvL] at h
    split at h
    · rename_i y ys hy hys
      cases h
      obtain ⟨h1, h2⟩ := pvL_noOb hys
      refine ⟨by simp [h1], fun j x z hx hz => ?_⟩
      cases j with
      | zero =>
        simp at hx hz
        subst hx
        subst hz
        cases c with
        | p q x => simp [pvC] at hy; exact ⟨q, by rw [hy]⟩
        | vw => simp [pvC, noOb] at hy
        | _ => simp [pvC] at hy
      | succ j => exact h2 j x z (by simpa using hx) (by simpa using hz)
    · cases h

theorem p_rep {v : Value} {p : Option Nat} {x : PV} (h : RelC g w ob rt nx v (.p p x)) : RepP g.I w v x := by cases h <;> assumption

theorem Cur.makeFunc {s : St} {a : Act} (c : Cur E B lim s g a w) {o : Oper} {f : FuncId} {first caps : Array Operand} (ho : o.op = .makeFunc (.func f) first caps) (h0 : first.size = 0) {cs : List (Bool × List CV)}
    (hcs : cvAs (caps.toList.map (evOpd E s.tm)) = some cs) (hall : cs.all (fun c => !c.1) = true) :
    (∀ ps, pvL noOb (cs.flatMap (·.2)) = some ps → OpOk E B lim s g a w o { val := .one (.p none (.fn f ps)) }) ∧ OpOk E B lim s g a w o { val := .one (.cl f (cs.flatMap (·.2))) } := by
  obtain ⟨h1, h2⟩ := caps_rep c hcs hall
  have hf : first = #[] := Array.eq_empty_of_size_eq_zero h0
  subst hf
  have hr : (execOp a.eval o).run E.P w = .ok (.value (.func (.func f) #[] (caps.map a.eval))) w := by simp [execOp, ho, Instr.makeFunc]
  refine ⟨fun ps hps => c.pure hr (.of (.one (.p (.fn ?_ fun j y v hy hv => ?_)))), c.pure hr (.of (.one (.cl ?_ fun j x v hx hv => ?_)))⟩
  · rw [(pvL_noOb hps).1, h1]; simp
  · obtain ⟨hl, hp⟩ := pvL_noOb hps
    have hj : j < (cs.flatMap (·.2)).length := by rw [← hl]; exact (List.getElem?_eq_some_iff.1 hy).1
    have hx := List.getElem?_eq_getElem hj
    obtain ⟨p, e⟩ := hp j _ y hx hy
    have := h2 j _ v hx (by simpa using hv)
    rw [e] at this
    exact p_rep this
  · rw [h1]; simp
  · exact h2 j x v hx (by simpa using hv)
end
end Go.Proofs.Ytcmaohhcbiienaa.X
