/- NettingRuns, as a plain law over the evaluator's functions: the settlement of any claims by any caps is as the document says, or refused. -/
import Derived.Test.YtcmaohhcbiienaaNtA
import Derived.Test.YtcmaohhcbiienaaNtB
set_option linter.unusedVariables false
namespace Go.Proofs.Ytcmaohhcbiienaa.P30
open Go.RowKit Go.Proofs.Ytcmaohhcbiienaa.X Go.Proofs.Ytcmaohhcbiienaa.L

theorem rows_self (l : List S45) (h : l.length ≤ 1000) : Ev (fun k => cashbookref30_Rows.f k l l) true := by
  have key : ∀ i, i ≤ l.length → Ev (fun k => cashbookref30_Rows.l0 k l l (l.length : Int) (i : Int)) true := by
    refine down l.length (Ev.step (fun k => by rw [cashbookref30_Rows.l0]) (ev_neg (by omega) ev_ret)) ?_
    intro i hi ih
    refine Ev.step (fun k => by rw [cashbookref30_Rows.l0]) ?_
    refine ev_pos (by omega) (ev_pos (by omega) (ev_pos (by omega) (ev_pos (by omega) (ev_pos (by simp) ?_))))
    rw [inc64 (by omega)]
    exact ih
  unfold cashbookref30_Rows.f
  exact ev_pos rfl (key 0 (Nat.zero_le _))
theorem nets_self (l : List Int) (h : l.length ≤ 1000) : Ev (fun k => cashbookref30_Nets.f k l l) true := by
  have key : ∀ i, i ≤ l.length → Ev (fun k => cashbookref30_Nets.l0 k l l (l.length : Int) (i : Int)) true := by
    refine down l.length (Ev.step (fun k => by rw [cashbookref30_Nets.l0]) (ev_neg (by omega) ev_ret)) ?_
    intro i hi ih
    refine Ev.step (fun k => by rw [cashbookref30_Nets.l0]) ?_
    refine ev_pos (by omega) (ev_pos (by omega) (ev_pos (by omega) (ev_pos (by omega) (ev_pos rfl ?_))))
    rw [inc64 (by omega)]
    exact ih
  unfold cashbookref30_Nets.f
  exact ev_pos rfl (key 0 (Nat.zero_le _))
theorem same_self (r : S49) (h0 : r.f0.length ≤ 1000) (h1 : r.f1.length ≤ 1000) (h2 : r.f2.length ≤ 1000) : Ev (fun k => cashbookref30_Same.f k r r) true := by
  have key : ∀ i, i ≤ r.f0.length → Ev (fun k => cashbookref30_Same.l0 k (r.f0.length : Int) (i : Int) r r) true := by
    refine down r.f0.length (Ev.step (fun k => by rw [cashbookref30_Same.l0]) (ev_neg (by omega) ev_ret)) ?_
    intro i hi ih
    refine Ev.step (fun k => by rw [cashbookref30_Same.l0]) ?_
    refine ev_pos (by omega) (ev_pos (by omega) (ev_pos (by omega) (ev_pos (by omega) (ev_pos rfl ?_))))
    rw [inc64 (by omega)]
    exact ih
  unfold cashbookref30_Same.f
  refine ev_pos rfl (ev_call (nets_self _ h1) (ev_pos rfl (ev_call (rows_self _ h2) ?_)))
  refine Ev.step (fun k => by rw [cashbookref30_Same.j0]) ?_
  exact ev_neg (by simp) (key 0 (Nat.zero_le _))
theorem alive_ev : Ev (fun k => cashbooklaw30_alive.f k) true := Ev.of (cashbooklaw30_alive.mono) (k := 200) (by decide +kernel)

/-! ### the worst -/
def Wst (net : List Int) (r : Int) : Prop := r = -1 ∨ ∃ w : Nat, w < 16 ∧ r = (w : Int) ∧ net.getD w 0 < 0
theorem worst_ev (net caps : List Int) (hn : net.length = 16) (hc : caps.length = 16) : ∃ r, Wst net r ∧ Ev (fun k => netting_worst.f k net caps) r ∧ Ev (fun k => cashbookref30_worst.f k net caps) r := by
  have key : ∀ i : Nat, i ≤ 16 → ∀ a m : Int, Wst net a → ∃ r, Wst net r ∧ Ev (fun k => netting_worst.l0 k caps a m net (net.length : Int) (i : Int)) r ∧ Ev (fun k => cashbookref30_worst.l0 k caps a m net (net.length : Int) (i : Int)) r := by
    refine down 16 ?_ ?_
    · intro a m ha
      exact ⟨a, ha, Ev.step (fun k => by rw [netting_worst.l0]) (ev_neg (by omega) ev_ret), Ev.step (fun k => by rw [cashbookref30_worst.l0]) (ev_neg (by omega) ev_ret)⟩
    · intro i hi ih a m ha
      have j1 : ∀ a m r, Ev (fun k => netting_worst.l0 k caps a m net (net.length : Int) ((i + 1 : Nat) : Int)) r → Ev (fun k => netting_worst.j1 k caps a m net (net.length : Int) (i : Int)) r := fun a m r h =>
        Ev.step (fun k => by rw [netting_worst.j1]) (by rw [inc64 (by omega)]; exact h)
      have j1' : ∀ a m r, Ev (fun k => cashbookref30_worst.l0 k caps a m net (net.length : Int) ((i + 1 : Nat) : Int)) r → Ev (fun k => cashbookref30_worst.j1 k caps a m net (net.length : Int) (i : Int)) r := fun a m r h =>
        Ev.step (fun k => by rw [cashbookref30_worst.j1]) (by rw [inc64 (by omega)]; exact h)
      by_cases h1 : net.getD i 0 < 0
      · by_cases h2 : m < wrap64 (wrap64 (0 - net.getD i 0) - caps.getD i 0)
        · obtain ⟨r, hr, e1, e2⟩ := ih (i : Int) (wrap64 (wrap64 (0 - net.getD i 0) - caps.getD i 0)) (.inr ⟨i, hi, rfl, h1⟩)
          refine ⟨r, hr, Ev.step (fun k => by rw [netting_worst.l0]) ?_, Ev.step (fun k => by rw [cashbookref30_worst.l0]) ?_⟩
          · refine ev_pos (by omega) (ev_pos (by omega) (ev_pos (by omega) (ev_pos (by omega) ?_)))
            rw [Int.toNat_natCast, decide_eq_true h2]
            exact ev_pos h1 (Ev.step (fun k => by rw [netting_worst.j0]) (ev_pos rfl (j1 _ _ _ e1)))
          · refine ev_pos (by omega) (ev_pos (by omega) (ev_pos (by omega) ?_))
            rw [Int.toNat_natCast, decide_eq_true h2]
            refine ev_pos h1 (ev_pos (by omega) (Ev.step (fun k => by rw [cashbookref30_worst.j0]) (ev_pos rfl (ev_pos (by omega) (ev_pos (by omega) ?_)))))
            rw [Int.toNat_natCast]
            exact j1' _ _ _ e2
        · obtain ⟨r, hr, e1, e2⟩ := ih a m ha
          refine ⟨r, hr, Ev.step (fun k => by rw [netting_worst.l0]) ?_, Ev.step (fun k => by rw [cashbookref30_worst.l0]) ?_⟩
          · refine ev_pos (by omega) (ev_pos (by omega) (ev_pos (by omega) (ev_pos (by omega) ?_)))
            rw [Int.toNat_natCast, decide_eq_false h2]
            exact ev_pos h1 (Ev.step (fun k => by rw [netting_worst.j0]) (ev_neg (by simp) (j1 _ _ _ e1)))
          · refine ev_pos (by omega) (ev_pos (by omega) (ev_pos (by omega) ?_))
            rw [Int.toNat_natCast, decide_eq_false h2]
            exact ev_pos h1 (ev_pos (by omega) (Ev.step (fun k => by rw [cashbookref30_worst.j0]) (ev_neg (by simp) (j1' _ _ _ e2))))
      · obtain ⟨r, hr, e1, e2⟩ := ih a m ha
        refine ⟨r, hr, Ev.step (fun k => by rw [netting_worst.l0]) ?_, Ev.step (fun k => by rw [cashbookref30_worst.l0]) ?_⟩
        · refine ev_pos (by omega) (ev_pos (by omega) (ev_pos (by omega) (ev_pos (by omega) ?_)))
          rw [Int.toNat_natCast]
          exact ev_neg h1 (Ev.step (fun k => by rw [netting_worst.j0]) (ev_neg (by simp) (j1 _ _ _ e1)))
        · refine ev_pos (by omega) (ev_pos (by omega) (ev_pos (by omega) ?_))
          rw [Int.toNat_natCast]
          exact ev_neg h1 (Ev.step (fun k => by rw [cashbookref30_worst.j0]) (ev_neg (by simp) (j1' _ _ _ e2)))
  exact key 0 (by omega) (-1) 0 (.inl rfl)

/-! ### caps -/
theorem caps_ev (caps : List Int) (h : caps.length ≤ 20) : ∃ c, Ev (fun k => slices_ContainsFunc_int64_int64_s0.f k caps) c ∧ Ev (fun k => cashbookref30_Caps.f k caps) (!c && decide ((caps.length : Int) = 16)) := by
  have key : ∀ i : Nat, i ≤ caps.length → ∃ t, Ev (fun k => slices_IndexFunc_int64_int64_s0.l0 k caps (caps.length : Int) (i : Int)) t ∧ Ev (fun k => cashbookref30_Caps.l0 k caps caps (caps.length : Int) (i : Int)) (!decide (0 ≤ t) && decide ((caps.length : Int) = 16)) := by
    refine down caps.length ?_ ?_
    · exact ⟨-1, Ev.step (fun k => by rw [slices_IndexFunc_int64_int64_s0.l0]) (ev_neg (by omega) ev_ret), Ev.step (fun k => by rw [cashbookref30_Caps.l0]) (ev_neg (by omega) (ev_eq (by simp)))⟩
    · intro i hi ⟨t, e1, e2⟩
      by_cases hn : caps.getD i 0 < 0
      · refine ⟨(i : Int), Ev.step (fun k => by rw [slices_IndexFunc_int64_int64_s0.l0]) ?_, Ev.step (fun k => by rw [cashbookref30_Caps.l0]) ?_⟩
        · refine ev_pos (by omega) (ev_pos (by omega) (ev_pos (by omega) ?_))
          rw [Int.toNat_natCast]
          refine ev_pure (a := true) ?_ (ev_pos rfl ev_ret)
          unfold netting_Run_1.f
          rw [decide_eq_true hn]
        · refine ev_pos (by omega) (ev_pos (by omega) (ev_pos (by omega) (ev_pos hn (ev_eq ?_))))
          simp
      · refine ⟨t, Ev.step (fun k => by rw [slices_IndexFunc_int64_int64_s0.l0]) ?_, Ev.step (fun k => by rw [cashbookref30_Caps.l0]) ?_⟩
        · refine ev_pos (by omega) (ev_pos (by omega) (ev_pos (by omega) ?_))
          rw [Int.toNat_natCast]
          refine ev_pure (a := false) ?_ (ev_neg (by simp) ?_)
          · unfold netting_Run_1.f
            rw [decide_eq_false hn]
          · rw [inc64 (by omega)]; exact e1
        · refine ev_pos (by omega) (ev_pos (by omega) (ev_pos (by omega) (ev_neg hn ?_)))
          rw [inc64 (by omega)]; exact e2
  obtain ⟨t, e1, e2⟩ := key 0 (Nat.zero_le _)
  refine ⟨decide (0 ≤ t), ?_, e2⟩
  unfold slices_ContainsFunc_int64_int64_s0.f
  exact ev_call (show Ev (fun k => slices_IndexFunc_int64_int64_s0.f k caps) t from e1) ev_ret

/-! ### claims that are left -/
def hit (b : Int) (c : S58) : Bool := decide (c.f1 = b) || decide (c.f2 = b)
def left (b : Int) (l : List S58) : List S58 := l.filter fun c => !hit b c
theorem hit0 (b : Int) (c : S58) : netting_Run_2_s0.f c b = some (hit b c) := by
  unfold netting_Run_2_s0.f hit
  by_cases h : c.f1 = b <;> simp [h]
theorem hit1 (b : Int) (c : S58) : netting_Run_2_s1.f c b = some (hit b c) := by
  unfold netting_Run_2_s1.f hit
  by_cases h : c.f1 = b <;> simp [h]
theorem left_snoc (b : Int) {l : List S58} {i : Nat} (h : i < l.length) : left b (l.take (i + 1)) = left b (l.take i) ++ if hit b (l.getD i z58) then [] else [l.getD i z58] := by
  unfold left
  rw [take_snoc h z58, List.filter_append]
  congr 1
  generalize l.getD i z58 = c
  cases hh : hit b c <;> simp [hh]
theorem left_all (b : Int) (l : List S58) : left b (l.take l.length) = left b l := by rw [List.take_length]
theorem without_ev (l : List S58) (b : Int) (hl : l.length ≤ 310) : Ev (fun k => cashbookref30_without.f k l b) (left b l) := by
  have key : ∀ i : Nat, i ≤ l.length → Ev (fun k => cashbookref30_without.l0 k b (left b (l.take i)) l (l.length : Int) (i : Int)) (left b l) := by
    refine down l.length ?_ ?_
    · rw [left_all]
      exact Ev.step (fun k => by rw [cashbookref30_without.l0]) (ev_neg (by omega) ev_ret)
    · intro i hi ih
      rw [left_snoc b hi] at ih
      have hlen : (left b (l.take i)).length ≤ 310 := by
        have := List.length_filter_le (fun c => !hit b c) (l.take i)
        unfold left
        rw [List.length_take] at this
        omega
      have j1 : ∀ y, Ev (fun k => cashbookref30_without.l0 k b y l (l.length : Int) ((i + 1 : Nat) : Int)) (left b l) → Ev (fun k => cashbookref30_without.j1 k b y l (l.length : Int) (i : Int)) (left b l) := fun y h =>
        Ev.step (fun k => by rw [cashbookref30_without.j1]) (by rw [inc64 (by omega)]; exact h)
      refine Ev.step (fun k => by rw [cashbookref30_without.l0]) (ev_pos (by omega) (ev_pos (by omega) (ev_pos (by omega) ?_)))
      rw [Int.toNat_natCast]
      generalize l.getD i z58 = c at *
      by_cases h1 : c.f1 = b
      · have hh : hit b c = true := by simp [hit, h1]
        rw [hh, if_pos rfl, List.append_nil] at ih
        exact ev_pos h1 (Ev.step (fun k => by rw [cashbookref30_without.j0]) (ev_neg (by simp) (j1 _ ih)))
      · by_cases h2 : c.f2 = b
        · have hh : hit b c = true := by simp [hit, h2]
          rw [hh, if_pos rfl, List.append_nil] at ih
          exact ev_neg h1 (Ev.step (fun k => by rw [cashbookref30_without.j0]) (ev_neg (by simp [h2]) (j1 _ ih)))
        · have hh : hit b c = false := by simp [hit, h1, h2]
          rw [hh, if_neg (by simp)] at ih
          exact ev_neg h1 (Ev.step (fun k => by rw [cashbookref30_without.j0]) (ev_pos (by simp [h2]) (ev_pos (by omega) (j1 _ ih))))
  exact key 0 (Nat.zero_le _)

theorem take_set_succ {α : Type} : ∀ {y : List α} {i : Nat} {e : α}, i < y.length → (y.set i e).take (i + 1) = y.take i ++ [e]
  | [], i, e, h => by simp at h
  | a :: y, 0, e, h => by simp
  | a :: y, i + 1, e, h => by
    simp only [List.set_cons_succ, List.take_succ_cons, List.cons_append]
    rw [take_set_succ (by simpa using h)]
theorem del_loop (l : List S58) (b : Int) (hl : l.length ≤ 310) : ∀ j : Nat, j ≤ l.length → ∀ (i : Nat) (y : List S58), y.length = l.length → i ≤ j → y.take i = left b (l.take j) → (∀ q, j ≤ q → q < l.length → y.getD q z58 = l.getD q z58) →
    ∃ n y', Ev (fun k => slices_DeleteFunc_api_Claim_api_Claim_s2.l0 k (i : Int) (j : Int) y b) (n, y', b) ∧ y'.take n = left b l := by
  refine down l.length ?_ ?_
  · intro i y hy hij ht hq
    rw [left_all] at ht
    refine ⟨i, y.take i ++ List.replicate ((y.length : Int) - (i : Int)).toNat z58 ++ y.drop (i + ((y.length : Int) - (i : Int)).toNat), ?_, ?_⟩
    · refine Ev.step (fun k => by rw [slices_DeleteFunc_api_Claim_api_Claim_s2.l0]) ?_
      exact ev_neg (by omega) (ev_pos (by omega) (ev_pos (by omega) ev_ret))
    rw [List.append_assoc, List.take_append_of_le_length (by rw [List.length_take]; omega), List.take_take, Nat.min_self]
    exact ht
  · intro j hj ih i y hy hij ht hq
    have hc := hq j (Nat.le_refl _) hj
    have go : ∀ (r : Nat × List S58 × Int), (hit b (l.getD j z58) = true → Ev (fun k => slices_DeleteFunc_api_Claim_api_Claim_s2.l0 k (i : Int) ((j + 1 : Nat) : Int) y b) r) →
        (hit b (l.getD j z58) = false → Ev (fun k => slices_DeleteFunc_api_Claim_api_Claim_s2.l0 k ((i + 1 : Nat) : Int) ((j + 1 : Nat) : Int) (y.set i (l.getD j z58)) b) r) → Ev (fun k => slices_DeleteFunc_api_Claim_api_Claim_s2.l0 k (i : Int) (j : Int) y b) r := by
      intro r h1 h2
      refine Ev.step (fun k => by rw [slices_DeleteFunc_api_Claim_api_Claim_s2.l0]) (ev_pos (by omega) (ev_pos (by omega) (ev_pos (by omega) ?_)))
      rw [Int.toNat_natCast, Int.toNat_natCast, hc]
      refine ev_pure (hit1 b (l.getD j z58)) ?_
      by_cases hh : hit b (l.getD j z58) = true
      · exact ev_pos hh (Ev.step (fun k => by rw [slices_DeleteFunc_api_Claim_api_Claim_s2.j0]) (by rw [inc64 (by omega)]; exact h1 hh))
      · refine ev_neg hh (ev_pos (by omega) (ev_pos (by omega) (Ev.step (fun k => by rw [slices_DeleteFunc_api_Claim_api_Claim_s2.j0]) ?_)))
        rw [inc64 (by omega), inc64 (by omega)]
        exact h2 (by simpa using hh)
    have hs := left_snoc b hj
    by_cases hh : hit b (l.getD j z58) = true
    · rw [hh, if_pos rfl, List.append_nil] at hs
      obtain ⟨n, y', e, h⟩ := ih i y hy (by omega) (by rw [hs]; exact ht) fun q h1 h2 => hq q (by omega) h2
      exact ⟨n, y', go _ (fun _ => e) (fun h => by rw [hh] at h; cases h), h⟩
    · have hh' : hit b (l.getD j z58) = false := by simpa using hh
      rw [hh', if_neg (by simp)] at hs
      obtain ⟨n, y', e, h⟩ := ih (i + 1) (y.set i (l.getD j z58)) (by rw [List.length_set]; exact hy) (by omega) (by rw [hs, take_set_succ (by omega), ht]) fun q h1 h2 => by
        rw [gset_ne (by omega)]
        exact hq q (by omega) h2
      exact ⟨n, y', go _ (fun h => by rw [hh'] at h; cases h) (fun _ => e), h⟩
theorem index_ev (l : List S58) (b : Int) (hl : l.length ≤ 310) : (Ev (fun k => slices_IndexFunc_api_Claim_api_Claim_s1.f k l b) (-1) ∧ left b l = l) ∨
    ∃ F : Nat, F < l.length ∧ Ev (fun k => slices_IndexFunc_api_Claim_api_Claim_s1.f k l b) (F : Int) ∧ l.take F = left b (l.take (F + 1)) := by
  have key : ∀ i : Nat, i ≤ l.length → left b (l.take i) = l.take i → (Ev (fun k => slices_IndexFunc_api_Claim_api_Claim_s1.l0 k l b (l.length : Int) (i : Int)) (-1) ∧ left b l = l) ∨
      ∃ F : Nat, F < l.length ∧ Ev (fun k => slices_IndexFunc_api_Claim_api_Claim_s1.l0 k l b (l.length : Int) (i : Int)) (F : Int) ∧ l.take F = left b (l.take (F + 1)) := by
    refine down l.length ?_ ?_
    · intro h
      rw [left_all, List.take_length] at h
      exact .inl ⟨Ev.step (fun k => by rw [slices_IndexFunc_api_Claim_api_Claim_s1.l0]) (ev_neg (by omega) ev_ret), h⟩
    · intro i hi ih h
      have hs := left_snoc b hi
      have go : ∀ (r : Int), (if hit b (l.getD i z58) = true then r = (i : Int) else Ev (fun k => slices_IndexFunc_api_Claim_api_Claim_s1.l0 k l b (l.length : Int) ((i + 1 : Nat) : Int)) r) → Ev (fun k => slices_IndexFunc_api_Claim_api_Claim_s1.l0 k l b (l.length : Int) (i : Int)) r := by
        intro r hr
        refine Ev.step (fun k => by rw [slices_IndexFunc_api_Claim_api_Claim_s1.l0]) (ev_pos (by omega) (ev_pos (by omega) (ev_pos (by omega) ?_)))
        rw [Int.toNat_natCast]
        refine ev_pure (hit0 b (l.getD i z58)) ?_
        split at hr
        · rename_i hh
          exact ev_pos hh (ev_eq hr.symm)
        · rename_i hh
          exact ev_neg hh (by rw [inc64 (by omega)]; exact hr)
      by_cases hh : hit b (l.getD i z58) = true
      · rw [hh, if_pos rfl, List.append_nil] at hs
        exact .inr ⟨i, hi, go _ (by rw [if_pos hh]), by rw [hs, h]⟩
      · have hh' : hit b (l.getD i z58) = false := by simpa using hh
        rw [hh', if_neg (by simp), h] at hs
        rcases ih (by rw [hs, take_snoc hi z58]) with ⟨e, q⟩ | ⟨F, h1, e, h2⟩
        · exact .inl ⟨go _ (by rw [if_neg hh]; exact e), q⟩
        · exact .inr ⟨F, h1, go _ (by rw [if_neg hh]; exact e), h2⟩
  exact key 0 (Nat.zero_le _) rfl
theorem delete_ev (l : List S58) (b : Int) (hl : l.length ≤ 310) : ∃ n y, Ev (fun k => slices_DeleteFunc_api_Claim_api_Claim_s2.f k l b) (n, y, b) ∧ y.take n = left b l := by
  rcases index_ev l b hl with ⟨e, h⟩ | ⟨F, hF, e, h⟩
  · refine ⟨l.length, l, ?_, by rw [List.take_length, h]⟩
    unfold slices_DeleteFunc_api_Claim_api_Claim_s2.f
    exact ev_call e (ev_pos rfl ev_ret)
  · obtain ⟨n, y, e', h'⟩ := del_loop l b hl (F + 1) (by omega) F l rfl (by omega) h (fun _ _ _ => rfl)
    refine ⟨n, y, ?_, h'⟩
    unfold slices_DeleteFunc_api_Claim_api_Claim_s2.f
    refine ev_call e (ev_neg (by omega) ?_)
    rw [inc64 (by omega)]
    exact e'

/-! ### who owes has a claim -/
theorem okl_mem {l : List S58} : OKL l ↔ (∀ c ∈ l, okc c) ∧ l.length ≤ 300 := by
  constructor
  · rintro ⟨h, k⟩
    refine ⟨fun c hc => ?_, k⟩
    obtain ⟨i, hi, rfl⟩ := List.mem_iff_getElem.1 hc
    have := h i hi
    rwa [getD_lt hi] at this
  · rintro ⟨h, k⟩
    exact ⟨fun j hj => h _ (getD_mem hj _), k⟩
theorem okl_left {l : List S58} (b : Int) (h : OKL l) : OKL (left b l) := by
  obtain ⟨h1, h2⟩ := okl_mem.1 h
  exact okl_mem.2 ⟨fun c hc => h1 c (List.mem_filter.1 hc).1, Nat.le_trans (List.length_filter_le _ _) h2⟩
theorem bal_nn (cur day : Int) {l : List S58} (hok : OKL l) {w : Nat} (h : ∀ c ∈ l, c.f1 ≠ (w : Int)) : 0 ≤ bal cur day l w := by
  have key : ∀ i : Nat, i ≤ l.length → 0 ≤ bal cur day (l.take i) w ∧ bal cur day (l.take i) w ≤ (i : Int) * 1000000000000 := by
    refine up l.length ⟨Int.le_refl _, Int.le_refl _⟩ ?_
    intro i hi ⟨a1, a2⟩
    obtain ⟨c0, c1, c2, c3, c4, c5, c6, c7, c8, c9, _, _⟩ := hok.1 i hi
    have hne := h _ (getD_mem hi z58)
    have hl := hok.2
    rw [bal_snoc cur day hi]
    generalize l.getD i z58 = c at *
    generalize bal cur day (l.take i) w = n at *
    unfold stp
    split
    · split
      · rw [wrap_id (by omega) (by omega)]; omega
      · omega
    · omega
  have := (key l.length (Nat.le_refl _)).1
  rwa [List.take_length] at this
theorem left_less (cur day : Int) {l : List S58} (hok : OKL l) {w : Nat} (h : bal cur day l w < 0) : (left (w : Int) l).length < l.length := by
  refine Nat.lt_of_not_le fun hle => ?_
  have hge : (left (w : Int) l).length = l.length := Nat.le_antisymm (List.length_filter_le _ _) hle
  have hall := List.length_filter_eq_length_iff.1 hge
  have := bal_nn cur day hok (w := w) fun c hc e => by
    have := hall c hc
    simp [hit, e] at this
  omega

/-! ### the run -/
def netL (cur day : Int) (l : List S58) : List Int := (List.range 16).map (bal cur day l)
theorem netL_get (cur day : Int) (l : List S58) {w : Nat} (h : w < 16) : (netL cur day l).getD w 0 = bal cur day l w := by
  unfold netL
  rw [getD_lt (by simpa using h)]
  simp
theorem netL_len (cur day : Int) (l : List S58) : (netL cur day l).length = 16 := by simp [netL]
theorem run_main (cur day : Int) (caps : List Int) (hc : caps.length = 16) (y y' : S49) : ∀ (m : Nat) (l : List S58) (out : List Int), l.length ≤ m → OKL l → out.length + l.length ≤ 300 →
    ∃ R : S49, Ev (fun k => netting_Run.l0 k l cur day caps ⟨out, netL cur day l, []⟩ y) (R, 0) ∧ Ev (fun k => cashbookref30_Run.l0 k l cur day caps out (netL cur day l) y') R ∧ R.f0.length ≤ 1000 ∧ R.f1.length ≤ 1000 ∧ R.f2.length ≤ 1000 := by
  intro m
  induction m with
  | zero =>
    intro l out hl hok ho
    obtain rfl : l = [] := List.eq_nil_of_length_eq_zero (by omega)
    exact run_step hok ho (fun w hw hneg => by have := left_less cur day hok (w := w) hneg; simp at this)
  | succ m ih =>
    intro l out hl hok ho
    exact run_step hok ho fun w hw hneg => by
      have := left_less cur day hok (w := w) hneg
      exact ih (left (w : Int) l) (out ++ [(w : Int)]) (by omega) (okl_left _ hok) (by simp; omega)
where
  run_step {l : List S58} {out : List Int} (hok : OKL l) (ho : out.length + l.length ≤ 300)
      (rec : ∀ w : Nat, w < 16 → bal cur day l w < 0 → ∃ R : S49, Ev (fun k => netting_Run.l0 k (left (w : Int) l) cur day caps ⟨out ++ [(w : Int)], netL cur day (left (w : Int) l), []⟩ y) (R, 0) ∧
        Ev (fun k => cashbookref30_Run.l0 k (left (w : Int) l) cur day caps (out ++ [(w : Int)]) (netL cur day (left (w : Int) l)) y') R ∧ R.f0.length ≤ 1000 ∧ R.f1.length ≤ 1000 ∧ R.f2.length ≤ 1000) :
      ∃ R : S49, Ev (fun k => netting_Run.l0 k l cur day caps ⟨out, netL cur day l, []⟩ y) (R, 0) ∧ Ev (fun k => cashbookref30_Run.l0 k l cur day caps out (netL cur day l) y') R ∧ R.f0.length ≤ 1000 ∧ R.f1.length ≤ 1000 ∧ R.f2.length ≤ 1000 := by
    have hl := hok.2
    obtain ⟨r, hr, e1, e2⟩ := worst_ev (netL cur day l) caps (netL_len ..) hc
    rcases hr with rfl | ⟨w, hw, rfl, hneg⟩
    · obtain ⟨nr, n1, n2⟩ := net_ev cur day l hok
      have hnr : nr = netL cur day l := inv_eq n2
      subst hnr
      have hbd : Bd (netL cur day l) := fun j hj => by
        have a := n2.lo j hj
        have b := n2.hi j hj
        constructor <;> omega
      obtain ⟨ts, s1, s2, s3⟩ := settled_ev (netL cur day l) (netL_len ..) hbd
      refine ⟨⟨out, netL cur day l, ts⟩, ?_, ?_, by show out.length ≤ 1000; omega, by show (netL cur day l).length ≤ 1000; rw [netL_len]; omega, ?_⟩
      · refine Ev.step (fun k => by rw [netting_Run.l0]) (ev_call e1 ?_)
        exact ev_pos (by omega) (ev_call s1 ev_ret)
      · refine Ev.step (fun k => by rw [cashbookref30_Run.l0]) (ev_call e2 ?_)
        exact ev_neg (by omega) (ev_call s2 ev_ret)
      have := s3.len
      have := nz_le (netL cur day l)
      rw [netL_len] at this
      show ts.length ≤ 1000
      omega
    · rw [netL_get cur day l hw] at hneg
      obtain ⟨R, r1, r2, r3⟩ := rec w hw hneg
      have hlt := left_less cur day hok (w := w) hneg
      obtain ⟨n, z, d1, d2⟩ := delete_ev l (w : Int) (by omega)
      obtain ⟨nr, n1, n2⟩ := net_ev cur day (left (w : Int) l) (okl_left _ hok)
      have hnr : nr = netL cur day (left (w : Int) l) := inv_eq n2
      subst hnr
      refine ⟨R, ?_, ?_, r3⟩
      · refine Ev.step (fun k => by rw [netting_Run.l0]) (ev_call e1 ?_)
        refine ev_neg (by omega) (ev_pure (a := l) ?_ (ev_call d1 ?_))
        · unfold slices_Clone_api_Claim_api_Claim_s0.f
          rw [if_pos (by omega), if_pos (by omega)]
        · refine ev_pos (by simp; omega) ?_
          simp only [d2]
          exact ev_call n1 r1
      · refine Ev.step (fun k => by rw [cashbookref30_Run.l0]) (ev_call e2 ?_)
        refine ev_pos (by omega) (ev_pos (by omega) (ev_call (without_ev l _ (by omega)) (ev_call (refnet_ev cur day _ (okl_left _ hok)) ?_)))
        exact r2

theorem few_eq (l : List S58) : ∃ l', cashbooklaw30_few.f l = some l' ∧ l'.length ≤ 310 := by
  unfold cashbooklaw30_few.f
  rw [if_pos (by omega), if_pos (by omega)]
  exact ⟨_, rfl, by rw [List.length_take]; omega⟩
theorem cut_eq (l : List Int) : ∃ l', cashbooklaw30_cut.f l = some l' ∧ l'.length ≤ 20 := by
  unfold cashbooklaw30_cut.f
  rw [if_pos (by omega), if_pos (by omega)]
  exact ⟨_, rfl, by rw [List.length_take]; omega⟩

def Z49 : S49 := ⟨[], [], []⟩
theorem bad_end (l : List S58) (cur day : Int) (caps : List Int) (w : Int) (hw : w ≠ 0) : Ev (fun k => cashbooklaw30_NettingRuns.j1 k l cur day caps w w Z49) true := by
  refine Ev.step (fun k => by rw [cashbooklaw30_NettingRuns.j1]) ?_
  refine ev_neg hw (ev_call alive_ev (ev_pos rfl (ev_pos rfl (ev_call (same_self Z49 ?_ ?_ ?_) ev_ret))))
  all_goals (show ([] : List _).length ≤ 1000; simp)
theorem ndec {p : Prop} [Decidable p] (h : ¬ p) : ¬ decide p = true := by simpa using h
theorem may_ok {l : List S58} {cur day : Int} (r1 : Ev (fun k => netting_Right.f k l) true) (hc : 0 ≤ cur ∧ cur ≤ 3) (hd : -50000 ≤ day ∧ day ≤ 50000) : Ev (fun k => netting_may.f k l cur day) 0 := by
  unfold netting_may.f
  exact ev_call r1 (ev_pos rfl (ev_pure (isCur_eq cur) (ev_pos (decide_eq_true hc) (ev_pure (date_eq day) (ev_pos (decide_eq_true hd) ev_ret)))))
theorem may_day {l : List S58} {cur day : Int} (r1 : Ev (fun k => netting_Right.f k l) true) (hc : 0 ≤ cur ∧ cur ≤ 3) (hd : ¬ (-50000 ≤ day ∧ day ≤ 50000)) : Ev (fun k => netting_may.f k l cur day) 11 := by
  unfold netting_may.f
  exact ev_call r1 (ev_pos rfl (ev_pure (isCur_eq cur) (ev_pos (decide_eq_true hc) (ev_pure (date_eq day) (ev_neg (ndec hd) ev_ret)))))
theorem may_cur {l : List S58} {cur day : Int} (r1 : Ev (fun k => netting_Right.f k l) true) (hc : ¬ (0 ≤ cur ∧ cur ≤ 3)) : Ev (fun k => netting_may.f k l cur day) 12 := by
  unfold netting_may.f
  exact ev_call r1 (ev_pos rfl (ev_pure (isCur_eq cur) (ev_neg (ndec hc) ev_ret)))
theorem may_bad {l : List S58} {cur day : Int} (r1 : Ev (fun k => netting_Right.f k l) false) : Ev (fun k => netting_may.f k l cur day) 1 := by
  unfold netting_may.f
  exact ev_call r1 (ev_neg (by simp) ev_ret)
/-- What a run comes to: refused, with the reason, or the document's. -/
inductive RunIs (l : List S58) (cur day : Int) (caps : List Int) : S49 × Int → Prop
  | arg (h : Ev (fun k => cashbookref30_Right.f k l) false) : RunIs l cur day caps (Z49, 1)
  | cur (h : Ev (fun k => cashbookref30_Right.f k l) true) (hc : ¬ (0 ≤ cur ∧ cur ≤ 3)) : RunIs l cur day caps (Z49, 12)
  | day (h : Ev (fun k => cashbookref30_Right.f k l) true) (hc : 0 ≤ cur ∧ cur ≤ 3) (hd : ¬ (-50000 ≤ day ∧ day ≤ 50000)) : RunIs l cur day caps (Z49, 11)
  | caps (h : Ev (fun k => cashbookref30_Right.f k l) true) (hc : 0 ≤ cur ∧ cur ≤ 3) (hd : -50000 ≤ day ∧ day ≤ 50000) (hp : Ev (fun k => cashbookref30_Caps.f k caps) false) : RunIs l cur day caps (Z49, 1)
  | ok (R : S49) (h : Ev (fun k => cashbookref30_Right.f k l) true) (hc : 0 ≤ cur ∧ cur ≤ 3) (hd : -50000 ≤ day ∧ day ≤ 50000) (hp : Ev (fun k => cashbookref30_Caps.f k caps) true) (hr : Ev (fun k => cashbookref30_Run.f k l cur day caps) R)
      (h0 : R.f0.length ≤ 1000) (h1 : R.f1.length ≤ 1000) (h2 : R.f2.length ≤ 1000) : RunIs l cur day caps (R, 0)
theorem run_is (l : List S58) (cur day : Int) (caps : List Int) (hl : l.length ≤ 310) (hcl : caps.length ≤ 20) : ∃ p, Ev (fun k => netting_Run.f k l cur day caps) p ∧ RunIs l cur day caps p := by
  obtain ⟨b, r1, r2, hp⟩ := right_ev l hl
  have bad : ∀ w : Int, w ≠ 0 → Ev (fun k => netting_may.f k l cur day) w → Ev (fun k => netting_Run.f k l cur day caps) (Z49, w) := by
    intro w hw h
    unfold netting_Run.f
    exact ev_call h (ev_neg hw ev_ret)
  cases b with
  | false => exact ⟨_, bad 1 (by omega) (may_bad r1), .arg r2⟩
  | true =>
    have hok := hp rfl
    by_cases hc : 0 ≤ cur ∧ cur ≤ 3
    · by_cases hd : -50000 ≤ day ∧ day ≤ 50000
      · obtain ⟨c, c1, c2⟩ := caps_ev caps hcl
        have may := may_ok r1 hc hd
        by_cases hg : (caps.length : Int) = 16 ∧ c = false
        · obtain ⟨h16, rfl⟩ := hg
          obtain ⟨R, m1, m2, m3, m4, m5⟩ := run_main cur day caps (by omega) Z49 Z49 l.length l [] (Nat.le_refl _) hok (by have := hok.2; simpa using this)
          obtain ⟨nr, n1, n2⟩ := net_ev cur day l hok
          have hnr : nr = netL cur day l := inv_eq n2
          subst hnr
          refine ⟨(R, 0), ?_, .ok R r2 hc hd (by simpa [h16] using c2) ?_ m3 m4 m5⟩
          · unfold netting_Run.f
            refine ev_call may (ev_pos rfl (ev_pos h16 (ev_call c1 ?_)))
            refine Ev.step (fun k => by rw [netting_Run.j0]) ?_
            exact ev_neg (by simp) (ev_call n1 m1)
          · unfold cashbookref30_Run.f
            exact ev_call (refnet_ev cur day l hok) m2
        · refine ⟨(Z49, 1), ?_, .caps r2 hc hd ?_⟩
          · unfold netting_Run.f
            refine ev_call may (ev_pos rfl ?_)
            by_cases h16 : (caps.length : Int) = 16
            · have hct : c = true := by
                cases c with
                | true => rfl
                | false => exact absurd ⟨h16, rfl⟩ hg
              subst hct
              refine ev_pos h16 (ev_call c1 ?_)
              refine Ev.step (fun k => by rw [netting_Run.j0]) ?_
              exact ev_pos rfl ev_ret
            · refine ev_neg h16 ?_
              refine Ev.step (fun k => by rw [netting_Run.j0]) ?_
              exact ev_pos rfl ev_ret
          · have e : (!c && decide ((caps.length : Int) = 16)) = false := by
              cases c with
              | true => rfl
              | false => simpa using fun h => hg ⟨h, rfl⟩
            rw [e] at c2
            exact c2
      · exact ⟨_, bad 11 (by omega) (may_day r1 hc hd), .day r2 hc hd⟩
    · exact ⟨_, bad 12 (by omega) (may_cur r1 hc), .cur r2 hc⟩

theorem NettingRuns (l : List S58) (cur day : Int) (caps : List Int) : ∃ k, cashbooklaw30_NettingRuns.f k l cur day caps = some true := by
  refine Ev.rounds (g := fun k => cashbooklaw30_NettingRuns.f k l cur day caps) ?_
  obtain ⟨l, e1, hl⟩ := few_eq l
  obtain ⟨caps, e2, hcl⟩ := cut_eq caps
  unfold cashbooklaw30_NettingRuns.f
  refine ev_pure e1 (ev_pure e2 ?_)
  obtain ⟨p, hrun, hp⟩ := run_is l cur day caps hl hcl
  refine ev_call hrun ?_
  have toJ0 : ∀ (R : S49) (w : Int), 0 ≤ cur ∧ cur ≤ 3 → Ev (fun k => cashbooklaw30_NettingRuns.j0 k l cur day caps w 0 false R) true → Ev (fun k => if cur < 0 then cashbooklaw30_NettingRuns.j0 k l cur day caps w 0 true R else cashbooklaw30_NettingRuns.j0 k l cur day caps w 0 (decide (3 < cur)) R) true := by
    intro R w hc h
    rw [decide_eq_false (by omega)]
    exact ev_neg (by omega) h
  cases hp with
  | arg h => exact ev_call h (ev_neg (by simp) (bad_end _ _ _ _ 1 (by omega)))
  | cur h hc =>
    refine ev_call h (ev_pos rfl ?_)
    have e : Ev (fun k => cashbooklaw30_NettingRuns.j0 k l cur day caps 12 0 true Z49) true := by
      refine Ev.step (fun k => by rw [cashbooklaw30_NettingRuns.j0]) ?_
      exact ev_pos rfl (bad_end _ _ _ _ 12 (by omega))
    by_cases h0 : cur < 0
    · exact ev_pos h0 e
    · have h3 : 3 < cur := by omega
      refine ev_neg h0 ?_
      rw [decide_eq_true h3]
      exact e
  | day h hc hd =>
    refine ev_call h (ev_pos rfl (toJ0 _ _ hc ?_))
    refine Ev.step (fun k => by rw [cashbooklaw30_NettingRuns.j0]) ?_
    exact ev_neg (by simp) (ev_pure (date_eq' day) (ev_neg (ndec hd) (bad_end _ _ _ _ 11 (by omega))))
  | caps h hc hd hp =>
    refine ev_call h (ev_pos rfl (toJ0 _ _ hc ?_))
    refine Ev.step (fun k => by rw [cashbooklaw30_NettingRuns.j0]) ?_
    exact ev_neg (by simp) (ev_pure (date_eq' day) (ev_pos (decide_eq_true hd) (ev_call hp (ev_neg (by simp) (bad_end _ _ _ _ 1 (by omega))))))
  | ok R h hc hd hp hr h0 h1 h2 =>
    refine ev_call h (ev_pos rfl (toJ0 _ _ hc ?_))
    refine Ev.step (fun k => by rw [cashbooklaw30_NettingRuns.j0]) ?_
    refine ev_neg (by simp) (ev_pure (date_eq' day) (ev_pos (decide_eq_true hd) (ev_call hp (ev_pos rfl ?_))))
    refine Ev.step (fun k => by rw [cashbooklaw30_NettingRuns.j1]) ?_
    exact ev_pos rfl (ev_call alive_ev (ev_pos rfl (ev_pos rfl (ev_call hr (ev_call (same_self R h0 h1 h2) ev_ret)))))
end Go.Proofs.Ytcmaohhcbiienaa.P30
