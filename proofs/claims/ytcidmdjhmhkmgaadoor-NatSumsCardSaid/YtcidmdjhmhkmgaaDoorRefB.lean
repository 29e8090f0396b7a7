import Derived.Test.YtcidmdjhmhkmgaaDoorS6
import Derived.Test.YtcidmdjhmhkmgaaDoorS7
import Derived.Test.YtcidmdjhmhkmgaaDoorS9
import Derived.Test.YtcidmdjhmhkmgaaDoorRefA
set_option linter.unusedVariables false
namespace Go.Proofs.YtcidmdjhmhkmgaaDoor.Pure
open Go.RowKit Go.Proofs.YtcidmdjhmhkmgaaDoorW.PrintWords Go.Proofs.YtcidmdjhmhkmgaaDoorW.PrintMore Go.Proofs.YtcidmdjhmhkmgaaDoor.S Go.Proofs.YtcidmdjhmhkmgaaDoor.L

theorem sum_j1 {x y : List Int} (hx : D16 x) (hy : D16 y) {i : Nat} {x5 : List Int} {c : Int} (h0 : 0 ≤ c) (h1 : c ≤ 1) (hl : x5.length ≤ 1000000) (hi : i ≤ 1000000) {r : List Int}
    (h : Ev (fun k => cashbookref01_sum.l0 k x y (x5 ++ [(x.getD i 0 + y.getD i 0 + c) % 65536]) ((x.getD i 0 + y.getD i 0 + c) / 65536) ((i + 1 : Nat) : Int)) r) :
    Ev (fun k => cashbookref01_sum.j1 k x y x5 c (i : Int) true) r := by
  have g1 := hx.get G0 i
  have g2 := hy.get G0 i
  refine Ev.step (fun k => by simp only [cashbookref01_sum.j1]; rfl) (ev_pos (c := true = true) rfl (ev_pure (at_eq x i) (ev_pure (at_eq y i) ?_)))
  refine ev_pos (by omega) ?_
  rw [inc64 (by omega), w64_id (x := x.getD i 0 + y.getD i 0) (by omega) (by omega), w64_id (x := x.getD i 0 + y.getD i 0 + c) (by omega) (by omega), tmod_pos (by omega), tdiv_pos (by omega), w64_id (by omega) (by omega)]
  exact h
theorem sum_end {x y : List Int} {i : Nat} {x5 : List Int} (hd : D16 x5) (hi : x.length ≤ i) (hj : y.length ≤ i) (hl : x5.length ≤ 1000000) (hv : v16 x5 = v16 x + v16 y) :
    ∃ r, Ev (fun k => cashbookref01_sum.l0 k x y x5 0 (i : Int)) r ∧ C16 r ∧ v16 r = v16 x + v16 y ∧ r.length ≤ x5.length := by
  obtain ⟨r, h1, h2, h3, h4⟩ := trimR_ev hd (by omega)
  refine ⟨r, ?_, h2, by omega, h4⟩
  refine Ev.step (fun k => by simp only [cashbookref01_sum.l0]; rfl) (ev_neg (by omega) (ev_neg (by omega) ?_))
  exact Ev.step (fun k => by simp only [cashbookref01_sum.j1]; rfl) (ev_neg (by decide) (ev_call h1 ev_ret))
theorem getD_out {l : List Int} {i : Nat} (h : l.length ≤ i) : l.getD i 0 = 0 := by rw [List.getD_eq_getElem?_getD, List.getElem?_eq_none h]; rfl
theorem sum_loop {x y : List Int} (hx : D16 x) (hy : D16 y) (M : Nat) (hM : M = max x.length y.length) (hb : M ≤ 100000) : ∀ i, i ≤ M → ∀ (x5 : List Int) (c : Int), D16 x5 → x5.length = i → 0 ≤ c → c ≤ 1 →
    v16 x5 + 65536 ^ i * c = v16 (x.take i) + v16 (y.take i) → ∃ r, Ev (fun k => cashbookref01_sum.l0 k x y x5 c (i : Int)) r ∧ C16 r ∧ v16 r = v16 x + v16 y ∧ r.length ≤ M + 1 := by
  refine down M ?_ ?_
  · intro x5 c hd hn h0 h1 hv
    rw [List.take_of_length_le (by omega), List.take_of_length_le (by omega)] at hv
    rcases Int.lt_or_le 0 c with h | h
    · have hc : c = 1 := by omega
      subst hc
      have hd2 : D16 (x5 ++ [(1 : Int)]) := hd.append (Dg.cons (by decide) (Dg.nil _))
      have hv2 : v16 (x5 ++ [(1 : Int)]) = v16 x + v16 y := by
        show dv _ _ = _
        rw [dv_append, hn]
        simp only [dv]
        simpa using hv
      obtain ⟨r, q1, q2, q3, q4⟩ := sum_end (x := x) (y := y) (i := M + 1) hd2 (by omega) (by omega) (by simp; omega) hv2
      refine ⟨r, ?_, q2, q3, by simp [hn] at q4; omega⟩
      refine Ev.step (fun k => by simp only [cashbookref01_sum.l0]; rfl) (ev_neg (by omega) (ev_neg (by omega) ?_))
      refine sum_j1 (r := r) (i := M) hx hy (by decide) (by decide) (by omega) (by omega) ?_
      rw [getD_out (by omega), getD_out (by omega)]
      exact q1
    · have hc : c = 0 := by omega
      subst hc
      obtain ⟨r, q1, q2, q3, q4⟩ := sum_end (x := x) (y := y) (i := M) hd (by omega) (by omega) (by omega) (by simpa using hv)
      exact ⟨r, q1, q2, q3, by omega⟩
  · intro i hi ih x5 c hd hn h0 h1 hv
    have g1 := hx.get G0 i
    have g2 := hy.get G0 i
    obtain ⟨r, q1, q2, q3, q4⟩ := ih (x5 ++ [(x.getD i 0 + y.getD i 0 + c) % 65536]) ((x.getD i 0 + y.getD i 0 + c) / 65536) (hd.append (Dg.cons (by omega) (Dg.nil _))) (by simp; omega) (by omega) (by omega) (by
      show dv _ _ + _ = dv _ _ + dv _ _
      have hv' : dv 65536 x5 + 65536 ^ i * c = dv 65536 (x.take i) + dv 65536 (y.take i) := hv
      rw [dv_append, hn, dv_take_succ, dv_take_succ, Int.pow_succ]
      simp only [dv]
      have e := Int.emod_add_mul_ediv (x.getD i 0 + y.getD i 0 + c) 65536
      obtain ⟨s, hs⟩ : ∃ s, s = x.getD i 0 + y.getD i 0 + c := ⟨_, rfl⟩
      rw [← hs] at e ⊢
      grind)
    refine ⟨r, ?_, q2, q3, q4⟩
    by_cases hxi : i < x.length
    · exact Ev.step (fun k => by simp only [cashbookref01_sum.l0]; rfl) (ev_pos (by omega) (sum_j1 hx hy h0 h1 (by omega) (by omega) q1))
    · exact Ev.step (fun k => by simp only [cashbookref01_sum.l0]; rfl) (ev_neg (by omega) (ev_pos (by omega) (sum_j1 hx hy h0 h1 (by omega) (by omega) q1)))
theorem sum_ev {x y : List Int} (hx : D16 x) (hy : D16 y) (hlx : x.length ≤ 100000) (hly : y.length ≤ 100000) : ∃ r, Ev (fun k => cashbookref01_sum.f k x y) r ∧ C16 r ∧ v16 r = v16 x + v16 y ∧ r.length ≤ max x.length y.length + 1 :=
  sum_loop hx hy _ rfl (by omega) 0 (by omega) [] 0 (Dg.nil _) rfl (by decide) (by decide) (by simp [dv])
theorem less_loop {x y : List Int} (hx : D16 x) (hy : D16 y) : ∀ i : Nat, i ≤ 1000000 → v16 (x.drop i) = v16 (y.drop i) → Ev (fun k => cashbookref01_less.l0 k x y ((i : Int) - 1)) (decide (v16 x < v16 y))
  | 0, _, he => by
    rw [List.drop_zero, List.drop_zero] at he
    rw [decide_eq_false (by omega)]
    exact Ev.step (fun k => by simp only [cashbookref01_less.l0]; rfl) (ev_neg (by omega) ev_ret)
  | i + 1, hi, he => by
    have e1 : ((i + 1 : Nat) : Int) - 1 = (i : Int) := by omega
    rw [e1]
    refine Ev.step (fun k => by simp only [cashbookref01_less.l0]; rfl) (ev_pos (by omega) (ev_pure (at_eq x i) (ev_pure (at_eq y i) ?_)))
    by_cases h : x.getD i 0 = y.getD i 0
    · refine ev_pos h ?_
      rw [dec64 (by omega)]
      refine less_loop hx hy i (by omega) ?_
      show dv _ _ = dv _ _
      rw [dv_drop, dv_drop 65536 y i, h]
      have he' : dv 65536 (x.drop (i + 1)) = dv 65536 (y.drop (i + 1)) := he
      rw [he']
    · refine ev_neg h (ev_eq ?_)
      rcases Int.lt_or_le (x.getD i 0) (y.getD i 0) with h1 | h1
      · rw [decide_eq_true h1, decide_eq_true (show v16 x < v16 y from dv_lt_at G0 hx hy i he h1)]
      · have h2 : v16 y < v16 x := dv_lt_at G0 hy hx i he.symm (by omega)
        rw [decide_eq_false (by omega), decide_eq_false (by omega)]
theorem mx_nat (a b : Nat) : mx (a : Int) (b : Int) = ((max a b : Nat) : Int) := by unfold mx; split <;> omega
theorem less_ev {x y : List Int} (hx : D16 x) (hy : D16 y) (hlx : x.length ≤ 100000) (hly : y.length ≤ 100000) : Ev (fun k => cashbookref01_less.f k x y) (decide (v16 x < v16 y)) := by
  unfold cashbookref01_less.f
  rw [mx_nat, dec64 (by omega)]
  exact less_loop hx hy _ (by omega) (by rw [List.drop_eq_nil_of_le (by omega), List.drop_eq_nil_of_le (by omega)])
theorem rest_loop {x y : List Int} (hx : D16 x) (hy : D16 y) (hlx : x.length ≤ 100000) (hle : v16 y ≤ v16 x) (hly : y.length ≤ x.length) : ∀ i, i ≤ x.length → ∀ (x5 : List Int) (b : Int), D16 x5 → x5.length = i → 0 ≤ b → b ≤ 1 →
    v16 x5 - 65536 ^ i * b = v16 (x.take i) - v16 (y.take i) → ∃ r, Ev (fun k => cashbookref01_rest.l0 k x y x5 b (i : Int)) r ∧ C16 r ∧ v16 r = v16 x - v16 y ∧ r.length ≤ x.length := by
  refine down x.length ?_ ?_
  · intro x5 b hd hn h0 h1 hv
    rw [List.take_length, List.take_of_length_le (by omega)] at hv
    have hlt := dv_lt G0 hd
    rw [hn] at hlt
    have hb : b = 0 := by
      rcases Int.lt_or_le 0 b with h | h
      · have hb : b = 1 := by omega
        rw [hb, Int.mul_one] at hv
        have hv' : dv 65536 x5 - 65536 ^ x.length = v16 x - v16 y := hv
        omega
      · omega
    rw [hb, Int.mul_zero] at hv
    obtain ⟨r, q1, q2, q3, q4⟩ := trimR_ev hd (by omega)
    exact ⟨r, Ev.step (fun k => by simp only [cashbookref01_rest.l0]; rfl) (ev_neg (by omega) (ev_call q1 ev_ret)), q2, by omega, by omega⟩
  · intro i hi ih x5 b hd hn h0 h1 hv
    have g1 := hx.get G0 i
    have g2 := hy.get G0 i
    have hv' : dv 65536 x5 - 65536 ^ i * b = dv 65536 (x.take i) - dv 65536 (y.take i) := hv
    have e1 : wrap64 (wrap64 (x.getD i 0 - y.getD i 0) - b) = x.getD i 0 - y.getD i 0 - b := by
      rw [wrap_id (x := x.getD i 0 - y.getD i 0) (by omega) (by omega), wrap_id (by omega) (by omega)]
    by_cases hneg : x.getD i 0 - y.getD i 0 - b < 0
    · obtain ⟨r, q1, q2, q3, q4⟩ := ih (x5 ++ [x.getD i 0 - y.getD i 0 - b + 65536]) 1 (hd.append (Dg.cons (by omega) (Dg.nil _))) (by simp; omega) (by decide) (by decide) (by
        show dv _ _ - _ = dv _ _ - dv _ _
        rw [dv_append, hn, dv_take_succ, dv_take_succ, Int.pow_succ]
        simp only [dv]
        grind)
      refine ⟨r, Ev.step (fun k => by simp only [cashbookref01_rest.l0]; rfl) (ev_pos (by omega) (ev_pure (at_eq x i) (ev_pure (at_eq y i) ?_))), q2, q3, q4⟩
      rw [e1]
      refine ev_pos hneg (ev_pos (by omega) ?_)
      rw [wrap_id (by omega) (by omega), inc64 (by omega)]
      exact q1
    · obtain ⟨r, q1, q2, q3, q4⟩ := ih (x5 ++ [x.getD i 0 - y.getD i 0 - b]) 0 (hd.append (Dg.cons (by omega) (Dg.nil _))) (by simp; omega) (by decide) (by decide) (by
        show dv _ _ - _ = dv _ _ - dv _ _
        rw [dv_append, hn, dv_take_succ, dv_take_succ, Int.pow_succ]
        simp only [dv]
        grind)
      refine ⟨r, Ev.step (fun k => by simp only [cashbookref01_rest.l0]; rfl) (ev_pos (by omega) (ev_pure (at_eq x i) (ev_pure (at_eq y i) ?_))), q2, q3, q4⟩
      rw [e1]
      refine ev_neg hneg (ev_pos (by omega) ?_)
      rw [inc64 (by omega)]
      exact q1
theorem rest_ev {x y : List Int} (hx : C16 x) (hy : C16 y) (hlx : x.length ≤ 100000) (hle : v16 y ≤ v16 x) : ∃ r, Ev (fun k => cashbookref01_rest.f k x y) r ∧ C16 r ∧ v16 r = v16 x - v16 y ∧ r.length ≤ x.length := by
  have hly : y.length ≤ x.length := Nat.le_of_not_lt fun h => by have := cn_len_lt G0 hx.dg hy h; show False; have h2 : dv 65536 y ≤ dv 65536 x := hle; omega
  exact rest_loop hx.dg hy.dg hlx hle hly 0 (by omega) [] 0 (Dg.nil _) rfl (by decide) (by decide) (by simp [dv])
end Go.Proofs.YtcidmdjhmhkmgaaDoor.Pure
