import Derived.Test.YtcidmdjhmhkmgaaDoorS16
import Derived.Test.YtcidmdjhmhkmgaaDoorS3
import Derived.Test.YtcidmdjhmhkmgaaDoorS4
import Derived.Test.YtcidmdjhmhkmgaaDoorNatL
import Derived.Test.YtcidmdjhmhkmgaaDoorRefE
set_option linter.unusedVariables false
namespace Go.Proofs.YtcidmdjhmhkmgaaDoor.Pure
open Go.RowKit Go.Proofs.YtcidmdjhmhkmgaaDoorW.PrintWords Go.Proofs.YtcidmdjhmhkmgaaDoorW.PrintMore Go.Proofs.YtcidmdjhmhkmgaaDoor.S Go.Proofs.YtcidmdjhmhkmgaaDoor.L
theorem alive_ev : Ev (fun k => cashbooklaw01_alive.f k) true := ev_some cashbooklaw01_alive.mono ⟨_, cashbooklaw01_alive.now⟩
theorem short_eq (l : List Int) (n : Nat) : cashbooklaw01_short.f l (n : Int) = some (decide (l.length ≤ n)) := congrArg some (decide_eq_decide.2 (by omega))
theorem same32 {a b : List Int} (ha : C32 a) (hb : C32 b) (h : v32 a = v32 b) : a = b := cn_unique K0 ha hb h
theorem NatCommon : cashbooklaw01_NatCommon.Pure := by
  intro l0 l1 _ _ w0 _ _ w1
  refine ev_rounds ?_
  have d0 := d32_of w0
  have d1 := d32_of w1
  have hA : Ev (fun k => cashbooklaw01_NatCommon.j0 k l0 l1 true) true :=
    Ev.step (fun k => by simp only [cashbooklaw01_NatCommon.j0]; rfl) (ev_pos (c := true = true) rfl (ev_call alive_ev ev_ret))
  unfold cashbooklaw01_NatCommon.f
  refine ev_pure (short_eq l0 10) ?_
  by_cases h0 : l0.length ≤ 10
  · refine ev_pos (by simpa using h0) (ev_pure (short_eq l1 10) ?_)
    by_cases h1 : l1.length ≤ 10
    · rw [decide_eq_true h1]
      obtain ⟨r, e, p1, p2⟩ := Gcd_ev d0 d1 (by omega) (by omega)
      obtain ⟨r', e', q1, q2⟩ := GcdR_ev d0 d1 (by omega) (by omega)
      have er : r = r' ∧ e = e' ∧ r.length ≤ 256 := by
        rcases p2 with ⟨n, rfl, rfl⟩ | ⟨a, b, c1, c2, c3, c4, rfl⟩ <;> rcases q2 with ⟨n', rfl, rfl⟩ | ⟨a', b', c1', c3', rfl⟩
        · exact ⟨rfl, rfl, by simp⟩
        · exact absurd ⟨a', b'⟩ n
        · exact absurd ⟨a, b⟩ n'
        · exact ⟨same32 c1 c1' (by rw [c3, c3']; rfl), rfl, c2.1⟩
      obtain ⟨rfl, rfl, hr⟩ := er
      refine Ev.step (fun k => by simp only [cashbooklaw01_NatCommon.j0]; rfl) (ev_neg (by decide) ?_)
      refine ev_call p1 (ev_call q1 ?_)
      refine ev_call (Same_ev (by show r.length ≤ _; omega)) (ev_call alive_ev ?_)
      exact ev_pos (c := true = true) rfl (ev_pos (c := true = true) rfl (ev_eq (by simp)))
    · rw [decide_eq_false h1]
      exact hA
  · exact ev_neg (by simpa using h0) hA
end Go.Proofs.YtcidmdjhmhkmgaaDoor.Pure
