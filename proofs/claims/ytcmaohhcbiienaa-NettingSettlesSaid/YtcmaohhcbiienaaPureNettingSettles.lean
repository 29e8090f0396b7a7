/- NettingSettles, as a plain law over the printed functions: each bank gets, and pays, as its net tells; there are fewer transfers than banks whose number is not 0. -/
import Derived.Test.YtcmaohhcbiienaaPureA
import Derived.Test.YtcmaohhcbiienaaPureB
set_option linter.unusedVariables false
namespace Go.Proofs.Ytcmaohhcbiienaa.Pure
open Go.RowKit Go.Proofs.YtcmaohhcbiienaaW.PrintWords Go.Proofs.YtcmaohhcbiienaaW.PrintMore Go.Proofs.Ytcmaohhcbiienaa.S Go.Proofs.Ytcmaohhcbiienaa.L

/-- No number wraps: the wrapped sum is the sum. -/
theorem wsum_sum (l : List Int) (hl : l.length = 16) (hb : Bd l) : wsum l l.length = l.sum := by
  have key : ∀ i, i ≤ l.length → wsum l i = (l.take i).sum ∧ -(i : Int) * 300000000000000 ≤ (l.take i).sum ∧ (l.take i).sum ≤ (i : Int) * 300000000000000 := by
    refine up l.length ⟨rfl, by simp, by simp⟩ ?_
    intro i hi ⟨h1, h2, h3⟩
    have := hb i (by omega)
    rw [wsum_succ hi, h1, take_snoc hi 0, List.sum_append]
    simp only [List.sum_cons, List.sum_nil]
    refine ⟨?_, by omega, by omega⟩
    rw [wrap_id (by omega) (by omega)]; omega
  have := (key l.length (Nat.le_refl _)).1
  rwa [List.take_of_length_le (Nat.le_refl _)] at this
theorem rd45 (l : List S45) (i : Nat) : rd_T45 l (i : Int) = l.getD i z45 := rfl

theorem settles_last (ts : List S45) (hts : ts.length ≤ 16) (n : Nat) (hn : n ≤ 16) (x : List Int) (hx : x.length = 16) (h0 : ∀ j, j < 16 → x.getD j 0 = 0) (hc : (ts = [] ∧ n = 0) ∨ ts.length + 1 ≤ n) :
    Ev (fun k => cashbooklaw30_NettingSettles.l2 k ts (n : Int) x (x.length : Int) 0) true := by
  have key : ∀ i, i ≤ x.length → Ev (fun k => cashbooklaw30_NettingSettles.l2 k ts (n : Int) x (x.length : Int) (i : Int)) true := by
    refine down x.length ?_ ?_
    · refine Ev.step (fun k => by simp only [cashbooklaw30_NettingSettles.l2]; rfl) ?_
      refine ev_neg (by omega) ?_
      rcases hc with ⟨rfl, rfl⟩ | hc
      · exact ev_pos (by simp) (ev_pos (by simp) ev_ret)
      · refine ev_ite (fun h => ?_) (fun h => ev_eq (decide_eq_true (by omega)))
        exact ev_neg (by omega) (ev_eq (decide_eq_true (by omega)))
    · intro i hi ih
      refine Ev.step (fun k => by simp only [cashbooklaw30_NettingSettles.l2]; rfl) ?_
      refine ev_pos (by omega) (ev_pos (by omega) (ev_pos (by omega) (ev_pos ?_ ?_)))
      · rw [rd_nat]; exact h0 i (by omega)
      · rw [inc64 (by omega)]; exact ih
  exact key 0 (Nat.zero_le _)

theorem settles_apply (net : List Int) (hnet : net.length = 16) (ts : List S45) (hts : ts.length ≤ 16) (n : Nat) (hn : n ≤ 16) (he : Fin' net ts) (r : Bool) :
    ∀ i, i ≤ ts.length → ∀ x, x.length = 16 → (∀ y : List Int, y.length = 16 → y = (ts.drop i).foldl app x → Ev (fun k => cashbooklaw30_NettingSettles.l2 k ts (n : Int) y (y.length : Int) 0) r) → Ev (fun k => cashbooklaw30_NettingSettles.l1 k net ts x (n : Int) ts (ts.length : Int) (i : Int)) r := by
  refine down ts.length ?_ ?_
  · intro x hx h
    refine Ev.step (fun k => by simp only [cashbooklaw30_NettingSettles.l1]; rfl) (ev_neg (by omega) ?_)
    exact h x hx (by rw [List.drop_of_length_le (Nat.le_refl _)]; rfl)
  · intro i hi ih x hx h
    have ht := he.each _ (getD_mem hi z45)
    rw [drop_cons hi z45] at h
    refine Ev.step (fun k => by simp only [cashbooklaw30_NettingSettles.l1]; rfl) ?_
    refine ev_pos (by omega) (ev_pos (by omega) (ev_pos (by omega) ?_))
    rw [rd45]
    generalize ts.getD i z45 = t at *
    obtain ⟨e1, e2, e3, e4, e5, e6, e7⟩ := ht
    refine ev_neg (by omega) (ev_neg (by omega) (ev_neg (by omega) (ev_neg (by omega) (ev_neg (by omega) (ev_pos (by omega) (ev_pos (by omega) (ev_neg (by omega) (ev_pos (by omega) (ev_pos (by omega) (ev_neg (by omega) (ev_pos (by omega) ?_)))))))))))
    refine ev_let (ev_pos (by omega) ?_)
    rw [inc64 (by omega)]
    exact ih (app x t) (by unfold app; simp [hx]) (fun y hy hy2 => h y hy hy2)

theorem settles_count (net : List Int) (hnet : net.length = 16) (ts : List S45) (r : Bool) (x : List Int) (h : Ev (fun k => cashbooklaw30_NettingSettles.l1 k net ts x (nz net : Int) ts (ts.length : Int) 0) r) :
    Ev (fun k => cashbooklaw30_NettingSettles.l0 k net ts x 0 net (net.length : Int) 0) r := by
  have key : ∀ i, i ≤ net.length → Ev (fun k => cashbooklaw30_NettingSettles.l0 k net ts x (nz (net.take i) : Int) net (net.length : Int) (i : Int)) r := by
    refine down net.length ?_ ?_
    · refine Ev.step (fun k => by simp only [cashbooklaw30_NettingSettles.l0]; rfl) (ev_neg (by omega) ?_)
      rw [List.take_of_length_le (Nat.le_refl _)]; exact h
    · intro i hi ih
      have hz := nz_le (net.take i)
      rw [List.length_take] at hz
      rw [take_snoc hi 0, nz_append] at ih
      refine Ev.step (fun k => by simp only [cashbooklaw30_NettingSettles.l0]; rfl) ?_
      refine ev_pos (by omega) (ev_pos (by omega) (ev_pos (by omega) ?_))
      rw [inc64 (i := i) (by omega), rd_nat]
      by_cases h0 : net.getD i 0 = 0
      · refine ev_pos h0 ?_
        simp only [nz, h0, if_true] at ih
        exact ih
      · refine ev_neg h0 ?_
        simp only [nz, h0, if_false] at ih
        rw [inc64 (by omega)]
        exact ih
  exact key 0 (Nat.zero_le _)

theorem NettingSettles : cashbooklaw30_NettingSettles.PureS := by
  intro l0 a1 a2 _ _ _
  refine ev_rounds ?_
  unfold cashbooklaw30_NettingSettles.f cashbooklaw30_few.f
  have hl : (l0.take 310).length ≤ 310 := List.length_take_le _ _
  generalize l0.take 310 = l at *
  refine ev_let ?_
  obtain ⟨q, q1, q2⟩ := Net_ev l hl a1 a2
  refine ev_call q1 ?_
  rcases q2 with ⟨h0, hok, hi⟩ | ⟨h0, h1⟩
  · have hlen := hi.len
    have hb : Bd q.1 := fun j hj => by
      have := hi.lo j hj
      have := hi.hi j hj
      have := hok.2
      omega
    obtain ⟨p, p1, p2, _, _⟩ := settle_loop q.1 (by omega)
    have hs := wsum_sum q.1 hlen hb
    obtain ⟨s0, s1, s2⟩ := p2 ⟨fun j hj => hb j (by omega), hlen⟩ (by rw [hs, hi.sum])
    refine ev_pos h0 (ev_call p1 (ev_pos s0 (ev_pos (by omega) (ev_call alive_ev ?_))))
    refine Ev.step (fun k => by simp only [cashbooklaw30_NettingSettles.j0]; rfl) (ev_neg (by simp) ?_)
    have hz := nz_le q.1
    have hts := s2.len
    refine ev_let (ev_pos (by simp; omega) ?_)
    rw [List.nil_append]
    refine settles_count q.1 hlen p.1 true q.1 ?_
    refine settles_apply q.1 hlen p.1 (by omega) (nz q.1) (by omega) s2 true 0 (Nat.zero_le _) q.1 hlen (fun y hy hy2 => ?_)
    rw [List.drop_zero] at hy2
    refine settles_last p.1 (by omega) (nz q.1) (by omega) y hy (fun j hj => ?_) (s2.few hi.sum)
    rw [hy2]
    exact s2.zero hi.sum j hj
  · refine ev_neg h0 (ev_call alive_ev (ev_pos rfl (ev_eq ?_)))
    rw [h1]; rfl
end Go.Proofs.Ytcmaohhcbiienaa.Pure
