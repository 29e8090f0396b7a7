import Derived.Test.YtcidmdjhmhkmgaaDoorS15
import Derived.Test.YtcidmdjhmhkmgaaDoorS3
import Derived.Test.YtcidmdjhmhkmgaaDoorS4
import Derived.Test.YtcidmdjhmhkmgaaDoorNatK
import Derived.Test.YtcidmdjhmhkmgaaDoorRefD
set_option linter.unusedVariables false
namespace Go.Proofs.YtcidmdjhmhkmgaaDoor.Pure
open Go.RowKit Go.Proofs.YtcidmdjhmhkmgaaDoorW.PrintWords Go.Proofs.YtcidmdjhmhkmgaaDoorW.PrintMore Go.Proofs.YtcidmdjhmhkmgaaDoor.S Go.Proofs.YtcidmdjhmhkmgaaDoor.L
theorem alive_ev : Ev (fun k => cashbooklaw01_alive.f k) true := ev_some cashbooklaw01_alive.mono ⟨_, cashbooklaw01_alive.now⟩
theorem short_eq (l : List Int) (n : Nat) : cashbooklaw01_short.f l (n : Int) = some (decide (l.length ≤ n)) := congrArg some (decide_eq_decide.2 (by omega))
/-- What goes in, and the rest, are one. -/
theorem div_unique {a b q r q' r' : Int} (h1 : a = b * q + r) (h2 : a = b * q' + r') (r0 : 0 ≤ r) (r1 : r < b) (s0 : 0 ≤ r') (s1 : r' < b) : q = q' ∧ r = r' := by
  have e1 : a / b = q := by
    rw [h1, Int.add_comm, Int.add_mul_ediv_left _ _ (by omega), Int.ediv_eq_zero_of_lt r0 r1, Int.zero_add]
  have e2 : a / b = q' := by
    rw [h2, Int.add_comm, Int.add_mul_ediv_left _ _ (by omega), Int.ediv_eq_zero_of_lt s0 s1, Int.zero_add]
  have e : q = q' := by rw [← e1, e2]
  subst e
  exact ⟨rfl, by omega⟩
theorem same32 {a b : List Int} (ha : C32 a) (hb : C32 b) (h : v32 a = v32 b) : a = b := cn_unique K0 ha hb h
theorem NatQuotients : cashbooklaw01_NatQuotients.Pure := by
  intro l0 l1 _ _ w0 _ _ w1
  refine ev_rounds ?_
  have d0 := d32_of w0
  have d1 := d32_of w1
  have hA : Ev (fun k => cashbooklaw01_NatQuotients.j0 k l0 l1 true) true :=
    Ev.step (fun k => by simp only [cashbooklaw01_NatQuotients.j0]; rfl) (ev_pos (c := true = true) rfl (ev_call alive_ev ev_ret))
  unfold cashbooklaw01_NatQuotients.f
  refine ev_pure (short_eq l0 10) ?_
  by_cases h0 : l0.length ≤ 10
  · refine ev_pos (by simpa using h0) (ev_pure (short_eq l1 10) ?_)
    by_cases h1 : l1.length ≤ 10
    · rw [decide_eq_true h1]
      obtain ⟨q, r, e, p1, p2⟩ := DivMod_ev d0 d1 (by omega) (by omega)
      obtain ⟨q', r', e', q1, q2⟩ := DivModR_ev d0 d1 (by omega) (by omega)
      have er : q = q' ∧ r = r' ∧ e = e' ∧ q.length ≤ 256 ∧ r.length ≤ 256 := by
        rcases p2 with ⟨n, rfl, rfl, rfl⟩ | ⟨a, b, ⟨c, rfl, rfl, rfl⟩ | ⟨c, c1, c2, c3, c4, c5, c6, c7, rfl⟩⟩ <;> rcases q2 with ⟨n', rfl, rfl, rfl⟩ | ⟨a', b', ⟨c', rfl, rfl, rfl⟩ | ⟨c', c1', c2', c5', c6', c7', rfl⟩⟩
        · exact ⟨rfl, rfl, rfl, by simp, by simp⟩
        · exact absurd ⟨a', b'⟩ n
        · exact absurd ⟨a', b'⟩ n
        · exact absurd ⟨a, b⟩ n'
        · exact ⟨rfl, rfl, rfl, by simp, by simp⟩
        · exact absurd c c'
        · exact absurd ⟨a, b⟩ n'
        · exact absurd c' c
        · obtain ⟨eq, er⟩ := div_unique c5 c5' c6 c7 c6' c7'
          exact ⟨same32 c1 c1' eq, same32 c2 c2' er, rfl, c3.1, c4.1⟩
      obtain ⟨rfl, rfl, rfl, hq, hr⟩ := er
      refine Ev.step (fun k => by simp only [cashbooklaw01_NatQuotients.j0]; rfl) (ev_neg (by decide) ?_)
      refine ev_call p1 (ev_call q1 ?_)
      refine ev_call (Same_ev (by show q.length ≤ _; omega)) (ev_call (Same_ev (by show r.length ≤ _; omega)) (ev_call alive_ev ?_))
      exact ev_pos (c := true = true) rfl (ev_pos (c := true = true) rfl (ev_pos (c := true = true) rfl (ev_eq (by simp))))
    · rw [decide_eq_false h1]
      exact hA
  · exact ev_neg (by simpa using h0) hA
end Go.Proofs.YtcidmdjhmhkmgaaDoor.Pure
