import Derived.Test.YtcmaohhcbiienaaXT
/-! XU: rows of a region, in the order of the text. -/
set_option linter.unusedVariables false
namespace Go.Proofs.Ytcmaohhcbiienaa.X
open Go.RowKit

section
variable {E : Env} {B : Blk} {base lim nt : Nat} {g g' : Gh} {w w' : World}

/-- A state, the temporaries (so many), and the memory. -/
structure CurN (E : Env) (B : Blk) (lim nt : Nat) (s : St) (g : Gh) (a : Act) (w : World) : Prop where
  cur : Cur E B lim s g a w
  size : a.tmps.size = nt
  defers : a.defers = []

theorem eval_put (a : Act) (d : Nat) (v : Value) (t : Nat) (h : d < a.tmps.size) : (a.put (some d) v).eval (.tmp t) = if t = d then v else a.eval (.tmp t) := by
  simp only [Act.put, Act.eval, Array.getD_eq_getD_getElem?, Array.getElem?_setIfInBounds]
  by_cases e : d = t
  · subst e
    simp [h]
  · simp [e, Ne.symm e]

/-- Behind an operation. -/
theorem After.next {s : St} {a : Act} {u : Upd} {v : Value} {dst : Option Nat} (c : CurN E B lim nt s g a w) (hd : ∀ d, dst = some d → d < nt) (k : After E B lim s g w u v g' w') :
    CurN E B lim nt (apU dst u s) g' (a.put dst v) w' := by
  have tm : ∀ t, RelA g' w' (apU none u s).ob (apU none u s).rt (apU none u s).nx (a.eval (.tmp t)) (s.tm t) := fun t => (c.cur.tm t).ext k.ext c.cur.lab
  cases dst with
  | none => exact ⟨⟨k.mem, k.lab, tm⟩, c.size, c.defers⟩
  | some d =>
    have hlt : d < a.tmps.size := by rw [c.size]; exact hd d rfl
    refine ⟨⟨k.mem, k.lab, fun t => ?_⟩, by simp [Act.put, c.size], by simp [Act.put, c.defers]⟩
    rw [eval_put a d v t hlt]
    by_cases e : t = d
    · subst e
      simp only [apU, upd_same, if_true]
      exact k.val
    · simp only [apU, upd_ne _ _ e, if_neg e]
      exact tm t

theorem guard_ok {s : St} {a : Act} {ops : Array Oper} (c : Cur E B lim s g a w) {gd : Option (Nat × Bool)} {b : Bool} (h : evGuard ops s.tm gd = some b) {o : Oper} (ho : o.guard = gd) :
    Region.wanted o (yielded ops a.tmps) = b := by
  unfold evGuard at h
  unfold Region.wanted
  rw [ho]
  split at h
  · cases h; rfl
  · rename_i j want
    split at h
    · rename_i t ht
      split at h
      · rename_i p b' hb
        cases h
        have hv := valOf_eq (c.tm t) (v' := .bool b') (by rw [hb]; rfl)
        have hy : yielded ops a.tmps j = some b' := by
          unfold yielded
          rw [ht]
          simp only [Act.eval, Array.getD_eq_getD_getElem?] at hv
          cases hx : a.tmps[t]? with
          | none => rw [hx] at hv; simp [undef] at hv
          | some x => rw [hx] at hv; simp at hv; subst hv; simp [hx]
        simp [hy]
      · rename_i ts hb
        cases h
        have hr := c.tm t
        rw [hb] at hr
        have hy : yielded ops a.tmps j = none := by
          generalize hv : a.eval (.tmp t) = v at hr
          cases hr with
          | of hr => cases hr
          | @tup vs _ hl hv' =>
            unfold yielded
            rw [ht]
            simp only [Act.eval, Array.getD_eq_getD_getElem?] at hv
            cases hx : a.tmps[t]? with
            | none => simp [hx]
            | some x => rw [hx] at hv; simp at hv; subst hv; simp [hx]
        simp [hy]
      · cases h
    · cases h

/-- From one state to a later one. -/
def Goes (E : Env) (B : Blk) (lim nt : Nat) (s : St) (g : Gh) (w : World) (s' : St) (K : Act → World → Prop) : Prop :=
  ∀ a' w' g', CurN E B lim nt s' g' a' w' → Ext B lim g w s.ob s.rt s.nx g' w' s'.ob s'.rt s'.nx → K a' w'

theorem row_ok {gen : Nat → Bool} {call : CallF} (hcall : CallOk E call) (hnt : nt ≤ 4096) {s : St} {a : Act} (c : CurN E B (base + 16384) nt s g a w) {ops : Array Oper} {o : Oper} {u : Upd}
    (h : evRow E gen call base nt ops s o = some u) {K : Act → World → Prop} {Q : Exit → Act → World → Prop} (hK : Goes E B (base + 16384) nt s g w (apU o.dst u s) K) :
    if Region.wanted o (yielded ops a.tmps) then o.wp E.P a w K Q else K (a.put o.dst undef) w := by
  unfold evRow at h
  split at h
  · rename_i hdst
    have hd : ∀ d, o.dst = some d → d < nt := fun d e => by rw [e] at hdst; simpa [okDst] using hdst
    split at h
    · rename_i hg
      rw [guard_ok c.cur hg rfl, if_pos rfl]
      refine evOp_ok hcall c.cur (fun d e => Nat.lt_of_lt_of_le (hd d e) hnt) h K Q fun v g' w' k => hK _ _ g' (k.next c hd) ?_
      exact k.ext
    · rename_i hg
      rw [guard_ok c.cur hg rfl, if_neg (by simp)]
      cases h
      have k : After E B (base + 16384) s g w { val := .tup [] } undef g w := ⟨Ext.refl .., c.cur.mem, c.cur.lab, .tup rfl fun j t v ht => by simp at ht⟩
      exact hK _ _ g (k.next c hd) k.ext
    · cases h
  · cases h

theorem rows_ok {gen : Nat → Bool} {call : CallF} (hcall : CallOk E call) (hnt : nt ≤ 4096) {ops : Array Oper} {Q : Exit → Act → World → Prop} : ∀ {l : List Oper} {s s' : St} {us : List Upd} {a : Act} {w : World} {g : Gh},
    CurN E B (base + 16384) nt s g a w → evRows E gen call base nt ops l s = some (s', us) → Goes E B (base + 16384) nt s g w s' (Q .normal) → wpList E.P ops Q l a w
  | [], s, s', us, a, w, g, c, h, hQ => by
    simp only [evRows, Option.some.injEq, Prod.mk.injEq] at h
    obtain ⟨rfl, rfl⟩ := h
    exact wpList_nil (hQ _ _ g c (Ext.refl ..))
  | o :: r, s, s', us, a, w, g, c, h, hQ => by
    simp only [evRows] at h
    split at h
    · rename_i u hu
      split at h
      · rename_i s2 us2 hr
        cases h
        refine wpList_step fun K hK => row_ok hcall hnt c hu fun a' w' g' c' e' => hK _ _ (rows_ok hcall hnt c' hr fun a2 w2 g2 c2 e2 => hQ _ _ g2 c2 (e'.trans e2))
      · cases h
    · cases h
end
end Go.Proofs.Ytcmaohhcbiienaa.X
