/- NettingNets, as a plain law over the printed functions: which claims may be, their net, and how any numbers are settled, are as the document says. -/
import Derived.Test.YtcmaohhcbiienaaPureA
import Derived.Test.YtcmaohhcbiienaaPureB
set_option linter.unusedVariables false
namespace Go.Proofs.Ytcmaohhcbiienaa.Pure
open Go.RowKit Go.Proofs.YtcmaohhcbiienaaW.PrintWords Go.Proofs.YtcmaohhcbiienaaW.PrintMore Go.Proofs.Ytcmaohhcbiienaa.S Go.Proofs.Ytcmaohhcbiienaa.L

theorem nets_part1 (n : List Int) (hn : n.length ≤ 20) : ∃ p : List S45 × Int, Ev (fun k => netting_Settle.f k n) p ∧
    ∀ x0 x1 x2 x9 x10 r, Ev (fun k => cashbooklaw30_NettingNets.j1 k x0 x1 x2 x9 x10) r → Ev (fun k => cashbooklaw30_NettingNets.j0 k x0 x1 x2 n x9 x10 p.1 p.2 false) r := by
  obtain ⟨p, h1, h2, h3, h4⟩ := settle_loop n hn
  refine ⟨p, h1, fun x0 x1 x2 x9 x10 r hr => ?_⟩
  refine Ev.step (fun k => by simp only [cashbooklaw30_NettingNets.j0]; rfl) (ev_neg (by simp) ?_)
  obtain ⟨b, hb, hb1, hb2⟩ := may_ev n hn
  refine ev_call hb ?_
  cases b with
  | false =>
    obtain rfl := h4 (hb2 rfl)
    exact ev_neg (by simp) (ev_pos rfl (ev_pos rfl hr))
  | true =>
    have hA := hb1 rfl
    refine ev_pos rfl (ev_call (sum_ev n hn) ?_)
    by_cases h0 : wsum n n.length = 0
    · obtain ⟨e, e1, e2⟩ := h2 hA h0
      refine ev_pos h0 (ev_pos e (ev_call e1 (ev_call (rows_self _ ?_) (ev_pos rfl hr))))
      have hz := nz_le n
      have := e2.len
      omega
    · obtain rfl := h3 hA h0
      exact ev_neg h0 (ev_pos rfl (ev_pos rfl hr))

theorem net_part (l : List S58) (hl : l.length ≤ 310) (cur day : Int) : ∃ q : List Int × Int, Ev (fun k => netting_Net.f k l cur day) q ∧ Ev (fun k => cashbooklaw30_NettingNets.j1 k l cur day q.1 q.2) true := by
  obtain ⟨b, e1, e2, hp⟩ := right_ev l hl
  cases b with
  | false =>
    refine ⟨([], 1), ?_, ?_⟩
    · unfold netting_Net.f
      refine ev_call (a := 1) ?_ (ev_neg (by omega) ev_ret)
      unfold netting_may.f
      exact ev_call e1 (ev_neg (by simp) ev_ret)
    · refine Ev.step (fun k => by simp only [cashbooklaw30_NettingNets.j1]; rfl) ?_
      exact ev_call e2 (ev_neg (by simp) (ev_pos (by simp) (ev_eq rfl)))
  | true =>
    have hok := hp rfl
    by_cases hc : 0 ≤ cur ∧ cur ≤ 3
    · by_cases hd : -50000 ≤ day ∧ day ≤ 50000
      · obtain ⟨r, h1, h2⟩ := net_ev cur day l hok
        refine ⟨(r, 0), ?_, ?_⟩
        · unfold netting_Net.f
          refine ev_call (a := 0) ?_ (ev_pos rfl (ev_call h1 ev_ret))
          unfold netting_may.f
          refine ev_call e1 (ev_pos rfl (ev_pure (isCur_eq cur) (ev_pos (by simpa using hc) (ev_pure (date_eq day) (ev_pos (by simpa using hd) ev_ret)))))
        · refine Ev.step (fun k => by simp only [cashbooklaw30_NettingNets.j1]; rfl) ?_
          refine ev_call e2 (ev_pos rfl (ev_neg (by omega) ?_))
          refine Ev.step (fun k => by simp only [cashbooklaw30_NettingNets.j2]; rfl) ?_
          refine ev_neg (by simp; omega) ?_
          refine ev_pure (date_eq' day) (ev_pos (by simpa using hd) (ev_pos (by simp) (ev_call (refnet_ev cur day l hok) ?_)))
          have he := inv_eq h2
          show Ev (fun k => (cashbookref30_Nets.f k r ((List.range 16).map (bal cur day l))).bind fun t => some t) true
          rw [← he]
          exact ev_call (nets_self r (by rw [h2.len]; omega)) ev_ret
      · refine ⟨([], 11), ?_, ?_⟩
        · unfold netting_Net.f
          refine ev_call (a := 11) ?_ (ev_neg (by omega) ev_ret)
          unfold netting_may.f
          refine ev_call e1 (ev_pos rfl (ev_pure (isCur_eq cur) (ev_pos (by simpa using hc) (ev_pure (date_eq day) (ev_neg (by simpa using hd) ev_ret)))))
        · refine Ev.step (fun k => by simp only [cashbooklaw30_NettingNets.j1]; rfl) ?_
          refine ev_call e2 (ev_pos rfl (ev_neg (by omega) ?_))
          refine Ev.step (fun k => by simp only [cashbooklaw30_NettingNets.j2]; rfl) ?_
          refine ev_neg (by simp; omega) ?_
          exact ev_pure (date_eq' day) (ev_neg (by simpa using hd) (ev_pos (by simp) (ev_eq rfl)))
    · refine ⟨([], 12), ?_, ?_⟩
      · unfold netting_Net.f
        refine ev_call (a := 12) ?_ (ev_neg (by omega) ev_ret)
        unfold netting_may.f
        exact ev_call e1 (ev_pos rfl (ev_pure (isCur_eq cur) (ev_neg (by simpa using hc) ev_ret)))
      · refine Ev.step (fun k => by simp only [cashbooklaw30_NettingNets.j1]; rfl) ?_
        refine ev_call e2 (ev_pos rfl ?_)
        have j2 : Ev (fun k => cashbooklaw30_NettingNets.j2 k l cur day [] 12 true) true := by
          refine Ev.step (fun k => by simp only [cashbooklaw30_NettingNets.j2]; rfl) ?_
          exact ev_pos (by simp) (ev_pos (by simp) (ev_eq rfl))
        refine ev_ite (fun _ => j2) (fun h => ?_)
        have : decide (cur > 3) = true := decide_eq_true (by omega)
        rw [this]
        exact j2

theorem NettingNets : cashbooklaw30_NettingNets.PureS := by
  intro l0 a1 a2 l3 _ _ _ _
  refine ev_rounds ?_
  unfold cashbooklaw30_NettingNets.f cashbooklaw30_few.f cashbooklaw30_cut.f
  have hl : (l0.take 310).length ≤ 310 := List.length_take_le _ _
  have hn : (l3.take 20).length ≤ 20 := List.length_take_le _ _
  generalize l0.take 310 = l at *
  generalize l3.take 20 = n at *
  obtain ⟨p, p1, p2⟩ := nets_part1 n hn
  obtain ⟨q, q1, q2⟩ := net_part l hl a1 a2
  obtain ⟨b, e1, e2, _⟩ := right_ev l hl
  refine ev_let (ev_let (ev_call q1 (ev_call p1 (ev_call e1 (ev_call e2 (ev_neg (by simp) (ev_call alive_ev ?_)))))))
  exact p2 _ _ _ _ _ _ q2
end Go.Proofs.Ytcmaohhcbiienaa.Pure
