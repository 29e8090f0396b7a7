import Derived.Test.YtcidmdjhmhkmgaaDoorS19
import Derived.Test.YtcidmdjhmhkmgaaDoorNatO
import Derived.Test.YtcidmdjhmhkmgaaDoorRefA
set_option linter.unusedVariables false
namespace Go.Proofs.YtcidmdjhmhkmgaaDoor.Pure
open Go.RowKit Go.Proofs.YtcidmdjhmhkmgaaDoorW.PrintWords Go.Proofs.YtcidmdjhmhkmgaaDoorW.PrintMore Go.Proofs.YtcidmdjhmhkmgaaDoor.S Go.Proofs.YtcidmdjhmhkmgaaDoor.L
theorem NatDivided : cashbooklaw01_NatDivided.Pure := by
  intro a b _ _ wa _ _ wb
  refine ev_rounds ?_
  unfold cashbooklaw01_NatDivided.f
  refine ev_pure (right_ev a b []) ?_
  by_cases hr : a.length ≤ 60 ∧ b.length ≤ 60 ∧ ([] : List Int).length ≤ 60 ∧ rt a ∧ rt b ∧ rt []
  · refine ev_pos (decide_eq_true hr) ?_
    obtain ⟨h1, h2, _, r1, r2, _⟩ := hr
    have ca := rt_cn r1 (d32_of wa)
    have cb := rt_cn r2 (d32_of wb)
    by_cases h0 : b = []
    · subst h0
      obtain ⟨q, r, e, p1, p2⟩ := DivMod_ev ca.dg cb.dg (by omega) (by omega)
      rcases p2 with ⟨h, _⟩ | ⟨_, _, ⟨_, rfl, rfl, rfl⟩ | ⟨h, _⟩⟩
      · exact absurd ⟨r1, r2⟩ h
      · refine ev_call p1 (ev_pos (by simp) (ev_call alive_ev ?_))
        exact ev_pos (c := true = true) rfl (ev_pos (c := (10 : Int) = 10) rfl (ev_eq (by simp [show wrap64 0 = 0 from by unfold wrap64; omega])))
      · exact absurd rfl h
    · have hbp := v_pos cb h0
      have hlp : 0 < b.length := List.length_pos_iff.2 h0
      obtain ⟨q, r, p1, q1, s1, e1, g0, g1, lq, lr⟩ := DivMod_ok ca cb (by omega) (by omega) h0
      obtain ⟨p, p2, q2, e2, l2⟩ := Mul_ok q1 cb (show q.length ≤ 60 by omega) h2 (by omega)
      obtain ⟨s, p3, q3, e3, l3⟩ := Add_ok q2 s1 l2 (show r.length ≤ 120 by omega) (by omega)
      have es : s = a := same32 q3 ca (by rw [e3, e2, e1, Int.mul_comm])
      subst es
      have hc := Compare_ev s1 cb (by omega) (by omega)
      rw [sgn_lt g1] at hc
      obtain ⟨ab, p4, q4, e4, l4⟩ := Mul_ok q3 cb h1 h2 (by omega)
      obtain ⟨c, d, p5, q5, s5, e5, g50, g51, l5, m5⟩ := DivMod_ok q4 cb (by omega) (by omega) h0
      obtain ⟨ec, ed⟩ := div_unique (a := v32 ab) (b := v32 b) (q' := v32 s) (r' := 0) e5 (by rw [e4, Int.mul_comm]; omega) g50 g51 (by omega) hbp
      have ec2 : c = s := same32 q5 q3 ec
      subst ec2
      have ed2 : d = [] := nil_of_v s5 ed
      subst ed2
      have hsame := Same_ev (a := c) (by omega)
      refine ev_call p1 (ev_neg (show ¬ (b.length : Int) = 0 by omega) ?_)
      refine ev_call p2 ?_
      refine ev_call p3 ?_
      refine ev_call hsame ?_
      refine ev_pos (c := (0 : Int) = 0) rfl (ev_pos (c := (0 : Int) = 0) rfl (ev_pos (c := (0 : Int) = 0) rfl (ev_pos (c := true = true) rfl ?_)))
      refine ev_call hc (ev_pos (c := (-1 : Int) = -1) rfl ?_)
      refine ev_pure (Right_eq (l := q) (by omega)) (ev_pos (decide_eq_true ((cn_rt q1).2 (by omega))) ?_)
      refine ev_pure (Right_eq (l := r) (by omega)) ?_
      rw [decide_eq_true ((cn_rt s1).2 (by omega))]
      refine Ev.step (fun k => by simp only [cashbooklaw01_NatDivided.j0]; rfl) (ev_neg (by decide) ?_)
      refine ev_call p4 ?_
      refine ev_call p5 ?_
      refine ev_call hsame ?_
      refine ev_call alive_ev ?_
      exact ev_pos (c := true = true) rfl (ev_pos (c := (0 : Int) = 0) rfl (ev_pos (c := (0 : Int) = 0) rfl (ev_pos (c := true = true) rfl (ev_eq rfl))))
  · exact ev_neg (by rw [decide_eq_false hr]; decide) (ev_call alive_ev ev_ret)
end Go.Proofs.YtcidmdjhmhkmgaaDoor.Pure
