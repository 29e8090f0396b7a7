import Derived.Test.YtcidmdjhmhkmgaaDoorS5
import Derived.Test.YtcidmdjhmhkmgaaDoorS8
import Derived.Test.YtcidmdjhmhkmgaaDoorS3
import Derived.Test.YtcidmdjhmhkmgaaDoorNatA
set_option linter.unusedVariables false
namespace Go.Proofs.YtcidmdjhmhkmgaaDoor.Pure
open Go.RowKit Go.Proofs.YtcidmdjhmhkmgaaDoorW.PrintWords Go.Proofs.YtcidmdjhmhkmgaaDoorW.PrintMore Go.Proofs.YtcidmdjhmhkmgaaDoor.S Go.Proofs.YtcidmdjhmhkmgaaDoor.L

abbrev D16 (l : List Int) : Prop := Dg 65536 l
abbrev C16 (l : List Int) : Prop := Cn 65536 l
abbrev v16 (l : List Int) : Int := dv 65536 l
theorem G0 : (0 : Int) < 65536 := by decide
theorem G1 : (1 : Int) < 65536 := by decide
theorem tmod_pos {a b : Int} (ha : 0 ≤ a) : Int.tmod a b = a % b := Int.tmod_eq_emod_of_nonneg ha
theorem tdiv_pos {a b : Int} (ha : 0 ≤ a) : Int.tdiv a b = a / b := Int.tdiv_eq_ediv_of_nonneg ha
theorem w64_id {x : Int} (h1 : 0 ≤ x) (h2 : x ≤ 9223372036854775807) : wrap64 x = x := wrap_id (by omega) h2
theorem RightR_eq {l : List Int} (hl : l.length ≤ 1000000000) : cashbookref01_Right.f l = some (decide (rt l)) := Right_eq hl
theorem trimR_loop {l : List Int} (hd : D16 l) (hb : l.length ≤ 1000000000) : ∀ n : Nat, n ≤ l.length → v16 (l.take n) = v16 l → ∃ r, Ev (fun k => cashbookref01_trim.l0 k l (n : Int)) r ∧ C16 r ∧ v16 r = v16 l ∧ r.length ≤ l.length
  | 0, hn, hv => by
    refine ⟨[], Ev.step (fun k => by simp only [cashbookref01_trim.l0]; rfl) (ev_neg (by decide) (ev_pos (by decide) (ev_pos (by omega) (ev_eq (by simp))))), cn_nil _, ?_, by simp⟩
    rw [← hv]; simp
  | n + 1, hn, hv => by
    have e1 : wrap64 (((n + 1 : Nat) : Int) - 1) = (n : Int) := by unfold wrap64; omega
    by_cases hz : l.getD n 0 = 0
    · have hv2 : v16 (l.take n) = v16 l := by
        have e := dv_take_succ 65536 l n
        rw [hz, Int.mul_zero, Int.add_zero] at e
        show dv _ _ = _
        rw [← e]; exact hv
      obtain ⟨r, h1, h2, h3, h4⟩ := trimR_loop hd hb n (by omega) hv2
      refine ⟨r, Ev.step (fun k => by simp only [cashbookref01_trim.l0]; rfl) ?_, h2, h3, h4⟩
      rw [e1]
      refine ev_pos (by omega) (ev_pos (by omega) (ev_pos (by omega) ?_))
      rw [rd_nat]
      exact ev_pos hz h1
    · refine ⟨l.take (n + 1), Ev.step (fun k => by simp only [cashbookref01_trim.l0]; rfl) ?_, ⟨hd.take _, fun _ => ?_⟩, hv, by rw [List.length_take]; omega⟩
      · rw [e1]
        refine ev_pos (by omega) (ev_pos (by omega) (ev_pos (by omega) ?_))
        rw [rd_nat]
        refine ev_neg hz (ev_pos (by omega) (ev_pos (by omega) ?_))
        rw [Int.toNat_natCast]
        exact ev_ret
      · rw [List.length_take, Nat.min_eq_left hn, Nat.add_sub_cancel, List.getD_eq_getElem?_getD, List.getElem?_take, if_pos (by omega), ← List.getD_eq_getElem?_getD]
        exact hz
theorem trimR_ev {l : List Int} (hd : D16 l) (hb : l.length ≤ 1000000000) : ∃ r, Ev (fun k => cashbookref01_trim.f k l) r ∧ C16 r ∧ v16 r = v16 l ∧ r.length ≤ l.length :=
  trimR_loop hd hb l.length (Nat.le_refl _) (by rw [List.take_length])
theorem pow_pair (i : Nat) : (65536 : Int) ^ (2 * i) = 4294967296 ^ i := by rw [Int.pow_mul]; rfl
theorem figs_loop {a : List Int} (ha : D32 a) (hl : a.length ≤ 100000) : ∀ i, i ≤ a.length → ∀ x3 : List Int, D16 x3 → x3.length = 2 * i → v16 x3 = v32 (a.take i) → ∃ r, Ev (fun k => cashbookref01_figures.l0 k a x3 (i : Int)) r ∧ C16 r ∧ v16 r = v32 a ∧ r.length ≤ 2 * a.length := by
  refine down a.length ?_ ?_
  · intro x3 hd hn hv
    obtain ⟨r, h1, h2, h3, h4⟩ := trimR_ev hd (by omega)
    refine ⟨r, Ev.step (fun k => by simp only [cashbookref01_figures.l0]; rfl) (ev_neg (by omega) (ev_call h1 ev_ret)), h2, ?_, by omega⟩
    rw [h3, hv, List.take_length]
  · intro i hi ih x3 hd hn hv
    have hg := ha.get K0 i
    have e1 : wrap64 (rd a (i : Int)) = a.getD i 0 := by rw [rd_nat]; exact w64_id hg.1 (by omega)
    have e2 : wrap64 (Int.tdiv (a.getD i 0) 65536) = a.getD i 0 / 65536 := by rw [tdiv_pos hg.1]; exact w64_id (by omega) (by omega)
    obtain ⟨r, h1, h2, h3, h4⟩ := ih (x3 ++ [a.getD i 0 % 65536, a.getD i 0 / 65536]) (hd.append (Dg.cons (by omega) (Dg.cons (by omega) (Dg.nil _)))) (by simp; omega) (by
      show dv _ _ = dv _ _
      rw [dv_append, hn, dv_take_succ, pow_pair]
      have hv' : dv 65536 x3 = dv 4294967296 (a.take i) := hv
      rw [hv']
      have e3 : dv 65536 [a.getD i 0 % 65536, a.getD i 0 / 65536] = a.getD i 0 := by simp only [dv]; omega
      rw [e3])
    refine ⟨r, Ev.step (fun k => by simp only [cashbookref01_figures.l0]; rfl) ?_, h2, h3, h4⟩
    refine ev_pos (by omega) (ev_pos (by omega) (ev_let ?_))
    rw [e1, e2, tmod_pos hg.1]
    refine ev_pos (by simp; omega) ?_
    rw [inc64 (by omega)]
    exact h1
theorem figs_ev {a : List Int} (ha : D32 a) (hl : a.length ≤ 100000) : ∃ r, Ev (fun k => cashbookref01_figures.f k a) r ∧ C16 r ∧ v16 r = v32 a ∧ r.length ≤ 2 * a.length :=
  figs_loop ha hl 0 (by omega) [] (Dg.nil _) rfl rfl
theorem nat_loop {l : List Int} (hd : D16 l) (hl : l.length ≤ 1000000) : ∀ (d j : Nat), l.length + 1 - 2 * j ≤ d → 2 * j ≤ l.length + 1 → ∀ x3 : List Int, D32 x3 → x3.length = j → v32 x3 = v16 (l.take (2 * j)) → ∃ r, Ev (fun k => cashbookref01_nat.l0 k l x3 ((2 * j : Nat) : Int)) r ∧ D32 r ∧ v32 r = v16 l ∧ 2 * r.length ≤ l.length + 1
  | d, j, hdj, hj, x3, h3, hn, hv => by
    by_cases hlt : 2 * j < l.length
    · match d, hdj with
      | 0, hdj => omega
      | d + 1, hdj =>
        have g1 := hd.get G0 (2 * j)
        have g2 := hd.get G0 (2 * j + 1)
        have ew : wrap64 (((2 * j : Nat) : Int) + 1) = ((2 * j + 1 : Nat) : Int) := by unfold wrap64; omega
        have ew2 : wrap64 (((2 * j : Nat) : Int) + 2) = ((2 * (j + 1) : Nat) : Int) := by unfold wrap64; omega
        have hstep : ∀ n : Int, n = l.getD (2 * j) 0 + 65536 * l.getD (2 * j + 1) 0 → ∃ r, Ev (fun k => cashbookref01_nat.l0 k l (x3 ++ [n]) ((2 * (j + 1) : Nat) : Int)) r ∧ D32 r ∧ v32 r = v16 l ∧ 2 * r.length ≤ l.length + 1 := by
          intro n e
          refine nat_loop hd hl d (j + 1) (by omega) (by omega) (x3 ++ [n]) (h3.append (Dg.cons (by omega) (Dg.nil _))) (by simp; omega) ?_
          show dv _ _ = dv _ _
          have hv' : dv 4294967296 x3 = dv 65536 (l.take (2 * j)) := hv
          rw [dv_append, hn, hv', show 2 * (j + 1) = 2 * j + 1 + 1 by omega, dv_take_succ, dv_take_succ, Int.pow_succ, pow_pair, e]
          simp only [dv]
          grind
        by_cases hlt2 : 2 * j + 1 < l.length
        · obtain ⟨r, q1, q2, q3, q4⟩ := hstep _ rfl
          refine ⟨r, Ev.step (fun k => by simp only [cashbookref01_nat.l0]; rfl) ?_, q2, q3, q4⟩
          rw [ew, ew2]
          refine ev_pos (by omega) (ev_pos (by omega) (ev_pos (by omega) (ev_pos (by omega) (ev_pos (by omega) ?_))))
          rw [rd_nat, rd_nat, w64_id (x := 65536 * l.getD (2 * j + 1) 0) (by omega) (by omega), w64_id (by omega) (by omega), Int.emod_eq_of_lt (by omega) (by omega)]
          exact q1
        · have hz : l.getD (2 * j + 1) 0 = 0 := by rw [List.getD_eq_getElem?_getD, List.getElem?_eq_none (by omega)]; rfl
          obtain ⟨r, q1, q2, q3, q4⟩ := hstep (l.getD (2 * j) 0) (by rw [hz]; omega)
          refine ⟨r, Ev.step (fun k => by simp only [cashbookref01_nat.l0]; rfl) ?_, q2, q3, q4⟩
          rw [ew, ew2]
          refine ev_pos (by omega) (ev_pos (by omega) (ev_neg (by omega) (ev_pos (by omega) ?_)))
          rw [rd_nat, Int.emod_eq_of_lt (by omega) (by omega)]
          exact q1
    · refine ⟨x3, Ev.step (fun k => by simp only [cashbookref01_nat.l0]; rfl) (ev_neg (by omega) ev_ret), h3, ?_, by omega⟩
      rw [hv, List.take_of_length_le (by omega)]
theorem nat_ev {l : List Int} (hc : C16 l) (hl : l.length ≤ 1000000) : ∃ r, Ev (fun k => cashbookref01_nat.f k l) r ∧ C32 r ∧ v32 r = v16 l ∧ 2 * r.length ≤ l.length + 1 := by
  obtain ⟨r, h1, h2, h3, h4⟩ := nat_loop hc.dg hl (l.length + 1) 0 (by omega) (by omega) [] (Dg.nil _) rfl rfl
  refine ⟨r, h1, ⟨h2, fun h0 hz => ?_⟩, h3, h4⟩
  have e1 := top_zero_lt K0 h2 h0 hz
  have hp : 0 < r.length := List.length_pos_iff.2 h0
  have hl0 : l ≠ [] := fun e => by
    subst e
    simp at h4; omega
  have e2 := cn_pow_le G0 hc hl0
  have e3 := pow_mono (B := 65536) (by decide) (show 2 * (r.length - 1) ≤ l.length - 1 by omega)
  rw [pow_pair] at e3
  have h3' : dv 4294967296 r = dv 65536 l := h3
  omega
theorem fitR_ev {l : List Int} (hd : D16 l) (hl : l.length ≤ 1000000) : ∃ r e, Ev (fun k => cashbookref01_fit.f k l) (r, e) ∧ ((v16 l < 4294967296 ^ 256 ∧ C32 r ∧ v32 r = v16 l ∧ e = 0) ∨ (4294967296 ^ 256 ≤ v16 l ∧ r = [] ∧ e = 4)) := by
  obtain ⟨t, h1, h2, h3, h4⟩ := trimR_ev hd (by omega)
  obtain ⟨r, q1, q2, q3, q4⟩ := nat_ev h2 (by omega)
  by_cases h5 : rt r
  · have := (cn_rt' q2).1 h5
    exact ⟨r, 0, ev_call h1 (ev_call q1 (ev_pure (RightR_eq (by omega)) (ev_pos (by simpa using h5) ev_ret))), .inl ⟨by omega, q2, by omega, rfl⟩⟩
  · have : ¬ v32 r < 4294967296 ^ 256 := fun h => h5 ((cn_rt' q2).2 h)
    exact ⟨[], 4, ev_call h1 (ev_call q1 (ev_pure (RightR_eq (by omega)) (ev_neg (by simpa using h5) ev_ret))), .inr ⟨by omega, rfl, rfl⟩⟩
theorem at_eq (l : List Int) (i : Nat) : cashbookref01_at.f l (i : Int) = some (l.getD i 0) := by
  unfold cashbookref01_at.f
  rw [if_neg (by omega)]
  by_cases h : (i : Int) ≥ (l.length : Int)
  · rw [if_pos h, List.getD_eq_getElem?_getD, List.getElem?_eq_none (by omega)]; rfl
  · rw [if_neg h, if_pos (by omega), if_pos (by omega), rd_nat]
theorem Same_ev {a : List Int} (hl : a.length ≤ 1000000000) : Ev (fun k => cashbookref01_Same.f k a a) true := by
  have h : ∀ i, i ≤ a.length → Ev (fun k => cashbookref01_Same.l0 k a a (i : Int)) true := by
    refine down a.length ?_ ?_
    · exact Ev.step (fun k => by simp only [cashbookref01_Same.l0]; rfl) (ev_neg (by omega) ev_ret)
    · intro i hi ih
      refine Ev.step (fun k => by simp only [cashbookref01_Same.l0]; rfl) (ev_pos (by omega) (ev_pos (by omega) (ev_pos (by omega) (ev_pos (c := rd a (i : Int) = rd a (i : Int)) rfl ?_))))
      rw [inc64 (by omega)]
      exact ih
  unfold cashbookref01_Same.f
  exact ev_pos (c := (a.length : Int) = (a.length : Int)) rfl (h 0 (by omega))
end Go.Proofs.YtcidmdjhmhkmgaaDoor.Pure
