/- Netting: what claims may be, their net, and how a net is settled: plain laws over the printed functions. -/
import Derived.Test.YtcmaohhcbiienaaXQ1
import Derived.Test.YtcmaohhcbiienaaLEvX
set_option linter.unusedVariables false
namespace Go.Proofs.Ytcmaohhcbiienaa.P30
open Go.RowKit Go.Proofs.Ytcmaohhcbiienaa.X Go.Proofs.Ytcmaohhcbiienaa.L

/-! ### which claims may be -/
def okc (c : S58) : Prop := 1 ≤ c.f0 ∧ 0 ≤ c.f1 ∧ c.f1 ≤ 15 ∧ 0 ≤ c.f2 ∧ c.f2 ≤ 15 ∧ c.f1 ≠ c.f2 ∧ 0 ≤ c.f3.f0 ∧ c.f3.f0 ≤ 3 ∧ 1 ≤ c.f3.f1 ∧ c.f3.f1 ≤ 1000000000000 ∧ -50000 ≤ c.f4 ∧ c.f4 ≤ 50000
theorem bank_eq (a : Int) : cashbookref30_bank.f a = some (decide (0 ≤ a ∧ a ≤ 15)) := by
  unfold cashbookref30_bank.f
  by_cases h : 0 ≤ a
  · rw [if_pos h]; exact congrArg some (decide_eq_decide.2 (by omega))
  · rw [if_neg h]; exact congrArg some (decide_eq_false (by omega)).symm
theorem isBank_eq (a : Int) : netting_isBank.f a = some (decide (0 ≤ a ∧ a ≤ 15)) := by
  unfold netting_isBank.f
  by_cases h : 0 ≤ a
  · rw [if_pos h]; exact congrArg some (decide_eq_decide.2 (by omega))
  · rw [if_neg h]; exact congrArg some (decide_eq_false (by omega)).symm
theorem isCur_eq (a : Int) : netting_isCurrency.f a = some (decide (0 ≤ a ∧ a ≤ 3)) := by
  unfold netting_isCurrency.f
  by_cases h : 0 ≤ a
  · rw [if_pos h]; exact congrArg some (decide_eq_decide.2 (by omega))
  · rw [if_neg h]; exact congrArg some (decide_eq_false (by omega)).symm
theorem date_eq (a : Int) : date_Right.f a = some (decide (-50000 ≤ a ∧ a ≤ 50000)) := by
  unfold date_Right.f
  by_cases h : -50000 ≤ a
  · rw [if_pos h]; exact congrArg some (decide_eq_decide.2 (by omega))
  · rw [if_neg h]; exact congrArg some (decide_eq_false (by omega)).symm
theorem date_eq' (a : Int) : cashbookref04_Right.f a = some (decide (-50000 ≤ a ∧ a ≤ 50000)) := by
  unfold cashbookref04_Right.f
  by_cases h : -50000 ≤ a
  · rw [if_pos h]; exact congrArg some (decide_eq_decide.2 (by omega))
  · rw [if_neg h]; exact congrArg some (decide_eq_false (by omega)).symm
theorem claim_some (c : S58) : ∃ b, cashbookref30_claim.f c = some b ∧ (b = true → okc c) := by
  unfold cashbookref30_claim.f
  simp only [bank_eq, date_eq', Option.bind_some]
  unfold okc
  repeat' split
  all_goals refine ⟨_, rfl, fun h => ?_⟩
  all_goals first
    | (cases h; done)
    | (simp only [decide_eq_true_eq] at *; omega)
theorem claim_eq (c : S58) : netting_isClaim.f c = cashbookref30_claim.f c := by
  unfold netting_isClaim.f cashbookref30_claim.f
  simp only [bank_eq, isBank_eq, isCur_eq, date_eq, date_eq', Option.bind_some]
  by_cases h1 : 0 ≤ c.f3.f0 <;> by_cases h2 : c.f3.f0 ≤ 3 <;> simp [h1, h2]
theorem right_eq (k : Nat) : (∀ x0 x5 x6 x7, netting_Right.l0 k x0 x5 x6 x7 = cashbookref30_Right.l0 k x0 x5 x6 x7) ∧ ∀ x0 x5 x6 x7 b, netting_Right.j0 k x0 x5 x6 x7 b = cashbookref30_Right.j0 k x0 x5 x6 x7 b := by
  induction k with
  | zero => exact ⟨fun _ _ _ _ => rfl, fun _ _ _ _ _ => rfl⟩
  | succ k ih =>
    obtain ⟨i1, i2⟩ := ih
    refine ⟨?_, ?_⟩
    · intro x0 x5 x6 x7
      rw [netting_Right.l0, cashbookref30_Right.l0]
      simp only [claim_eq, i2]
    · intro x0 x5 x6 x7 b
      rw [netting_Right.j0, cashbookref30_Right.j0, i1]
theorem right_eq' (k : Nat) (l : List S58) : netting_Right.f k l = cashbookref30_Right.f k l := by
  unfold netting_Right.f cashbookref30_Right.f
  exact (right_eq k).1 ..
theorem right_loop (l : List S58) (hl : l.length ≤ 310) : ∀ i : Nat, i ≤ l.length → ∃ b, Ev (fun k => cashbookref30_Right.l0 k l l (l.length : Int) (i : Int)) b ∧ (b = true → (∀ j, i ≤ j → j < l.length → okc (l.getD j z58)) ∧ l.length ≤ 300) := by
  refine down l.length ?_ ?_
  · refine ⟨decide ((l.length : Int) ≤ 300), Ev.step (fun k => by rw [cashbookref30_Right.l0]) (ev_neg (by omega) ev_ret), fun h => ⟨fun j h1 h2 => by omega, ?_⟩⟩
    simp only [decide_eq_true_eq] at h; omega
  · intro i hi ⟨b, hb, hp⟩
    obtain ⟨q, hq, hqp⟩ := claim_some (l.getD i z58)
    have go : ∀ r, (q = true → Ev (fun k => if 0 < (i : Int) then (if 0 ≤ wrap64 ((i : Int) - 1) then (if wrap64 ((i : Int) - 1) < (l.length : Int) then cashbookref30_Right.j0 k l l (l.length : Int) (i : Int) (decide ((l.getD i z58).f0 ≤ (l.getD (wrap64 ((i : Int) - 1)).toNat z58).f0)) else none) else none) else cashbookref30_Right.j0 k l l (l.length : Int) (i : Int) false) r) →
        (q = false → Ev (fun k => cashbookref30_Right.j0 k l l (l.length : Int) (i : Int) true) r) → Ev (fun k => cashbookref30_Right.l0 k l l (l.length : Int) (i : Int)) r := by
      intro r h1 h2
      refine Ev.step (fun k => by rw [cashbookref30_Right.l0]) (ev_pos (by omega) (ev_pos (by omega) (ev_pos (by omega) ?_)))
      rw [Int.toNat_natCast]
      refine ev_pure (a := q) hq ?_
      cases q with
      | true => exact ev_pos rfl (h1 rfl)
      | false => exact ev_neg (by simp) (h2 rfl)
    cases q with
    | false =>
      exact ⟨false, go _ (by simp) fun _ => Ev.step (fun k => by rw [cashbookref30_Right.j0]) (ev_pos rfl ev_ret), by simp⟩
    | true =>
      have hc := hqp rfl
      have hn : ∀ j, (∀ j, i + 1 ≤ j → j < l.length → okc (l.getD j z58)) → i ≤ j → j < l.length → okc (l.getD j z58) := by
        intro j h h1 h2
        rcases Nat.eq_or_lt_of_le h1 with rfl | h3
        · exact hc
        · exact h j h3 h2
      have nxt : Ev (fun k => cashbookref30_Right.j0 k l l (l.length : Int) (i : Int) false) b :=
        Ev.step (fun k => by rw [cashbookref30_Right.j0]) (ev_neg (by simp) (by rw [inc64 (by omega)]; exact hb))
      by_cases h0 : i = 0
      · exact ⟨b, go _ (fun _ => ev_neg (by omega) nxt) (by simp), fun h => ⟨fun j => hn j (hp h).1, (hp h).2⟩⟩
      · have hw : wrap64 ((i : Int) - 1) = ((i - 1 : Nat) : Int) := by unfold wrap64; omega
        by_cases hr : (l.getD i z58).f0 ≤ (l.getD (i - 1) z58).f0
        · refine ⟨false, go _ (fun _ => ?_) (by simp), by simp⟩
          rw [hw, Int.toNat_natCast, decide_eq_true hr]
          exact ev_pos (by omega) (ev_pos (by omega) (ev_pos (by omega) (Ev.step (fun k => by rw [cashbookref30_Right.j0]) (ev_pos rfl ev_ret))))
        · refine ⟨b, go _ (fun _ => ?_) (by simp), fun h => ⟨fun j => hn j (hp h).1, (hp h).2⟩⟩
          rw [hw, Int.toNat_natCast, decide_eq_false hr]
          exact ev_pos (by omega) (ev_pos (by omega) (ev_pos (by omega) nxt))
def OKL (l : List S58) : Prop := (∀ j, j < l.length → okc (l.getD j z58)) ∧ l.length ≤ 300
theorem right_ev (l : List S58) (hl : l.length ≤ 310) : ∃ b, Ev (fun k => netting_Right.f k l) b ∧ Ev (fun k => cashbookref30_Right.f k l) b ∧ (b = true → OKL l) := by
  obtain ⟨b, h, hp⟩ := right_loop l hl 0 (Nat.zero_le _)
  have h' : Ev (fun k => cashbookref30_Right.f k l) b := h
  refine ⟨b, Ev.congr (fun k => right_eq' k l) h', h', fun hb => ⟨fun j hj => (hp hb).1 j (Nat.zero_le _) hj, (hp hb).2⟩⟩

/-! ### the net -/
def stp (cur day : Int) (b : Nat) (n : Int) (c : S58) : Int := if c.f3.f0 = cur ∧ c.f4 = day then (if c.f2 = (b : Int) then wrap64 (n + c.f3.f1) else if c.f1 = (b : Int) then wrap64 (n - c.f3.f1) else n) else n
def bal (cur day : Int) (l : List S58) (b : Nat) : Int := l.foldl (stp cur day b) 0
theorem bal_snoc (cur day : Int) {l : List S58} {i : Nat} (h : i < l.length) (b : Nat) : bal cur day (l.take (i + 1)) b = stp cur day b (bal cur day (l.take i) b) (l.getD i z58) := by
  unfold bal
  rw [take_snoc h z58, List.foldl_append]; rfl
/-- The net after i claims. -/
structure NetInv (cur day : Int) (l : List S58) (i : Nat) (x : List Int) : Prop where
  len : x.length = 16
  val : ∀ b, b < 16 → x.getD b 0 = bal cur day (l.take i) b
  lo : ∀ b, b < 16 → -(i : Int) * 1000000000000 ≤ x.getD b 0
  hi : ∀ b, b < 16 → x.getD b 0 ≤ (i : Int) * 1000000000000
  sum : x.sum = 0
theorem net_loop (cur day : Int) (l : List S58) (hok : OKL l) : ∀ i : Nat, i ≤ l.length → ∀ x, NetInv cur day l i x → ∃ r, Ev (fun k => netting_netOf.l0 k cur day l (l.length : Int) (i : Int) x) r ∧ NetInv cur day l l.length r := by
  obtain ⟨hok, hl⟩ := hok
  refine down l.length ?_ ?_
  · intro x hx
    exact ⟨x, Ev.step (fun k => by rw [netting_netOf.l0]) (ev_neg (by omega) ev_ret), hx⟩
  · intro i hi ih x hx
    have hc := hok i hi
    obtain ⟨c0, c1, c2, c3, c4, c5, c6, c7, c8, c9, _, _⟩ := hc
    have hb := bal_snoc cur day hi
    generalize hcd : l.getD i z58 = c at *
    by_cases hm : c.f3.f0 = cur ∧ c.f4 = day
    · obtain ⟨F, hF⟩ := Int.eq_ofNat_of_zero_le c1
      obtain ⟨T, hT⟩ := Int.eq_ofNat_of_zero_le c3
      have hF16 : F < 16 := by omega
      have hT16 : T < 16 := by omega
      have hFT : F ≠ T := by omega
      have lF := hx.lo F hF16
      have uF := hx.hi F hF16
      have lT := hx.lo T hT16
      have uT := hx.hi T hT16
      have wF : wrap64 (x.getD F 0 - c.f3.f1) = x.getD F 0 - c.f3.f1 := wrap_id (by omega) (by omega)
      have wT : wrap64 (x.getD T 0 + c.f3.f1) = x.getD T 0 + c.f3.f1 := wrap_id (by omega) (by omega)
      have gT : (x.set F (x.getD F 0 - c.f3.f1)).getD T 0 = x.getD T 0 := gset_ne hFT _ _
      have hxl := hx.len
      have inv : NetInv cur day l (i + 1) ((x.set F (x.getD F 0 - c.f3.f1)).set T (x.getD T 0 + c.f3.f1)) := by
        have gv : ∀ b, b < 16 → ((x.set F (x.getD F 0 - c.f3.f1)).set T (x.getD T 0 + c.f3.f1)).getD b 0 = if b = T then x.getD T 0 + c.f3.f1 else if b = F then x.getD F 0 - c.f3.f1 else x.getD b 0 := by
          intro b hb
          by_cases h1 : b = T
          · rw [if_pos h1, h1, gset_same (by simp; omega)]
          · rw [if_neg h1, gset_ne (Ne.symm h1)]
            by_cases h2 : b = F
            · rw [if_pos h2, h2, gset_same (by omega)]
            · rw [if_neg h2, gset_ne (Ne.symm h2)]
        refine ⟨by simp [hxl], fun b hb16 => ?_, fun b hb16 => ?_, fun b hb16 => ?_, ?_⟩
        · rw [gv b hb16, hb b]
          unfold stp
          rw [if_pos hm, ← hx.val b hb16]
          by_cases h1 : b = T
          · have e1 : c.f2 = (b : Int) := by omega
            rw [if_pos h1, if_pos e1, h1, wT]
          · have e1 : ¬ c.f2 = (b : Int) := by omega
            rw [if_neg h1, if_neg e1]
            by_cases h2 : b = F
            · have e2 : c.f1 = (b : Int) := by omega
              rw [if_pos h2, if_pos e2, h2, wF]
            · have e2 : ¬ c.f1 = (b : Int) := by omega
              rw [if_neg h2, if_neg e2]
        · rw [gv b hb16]
          have := hx.lo b hb16
          split
          · omega
          · split <;> omega
        · rw [gv b hb16]
          have := hx.hi b hb16
          split
          · omega
          · split <;> omega
        · rw [sum_set _ _ _ (by simp; omega), sum_set _ _ _ (by omega), gT, hx.sum]; omega
      obtain ⟨r, hr, hri⟩ := ih _ inv
      refine ⟨r, Ev.step (fun k => by rw [netting_netOf.l0]) ?_, hri⟩
      refine ev_pos (by omega) (ev_pos (by omega) (ev_pos (by omega) ?_))
      rw [Int.toNat_natCast, hcd, decide_eq_true hm.2]
      refine ev_pos hm.1 (Ev.step (fun k => by rw [netting_netOf.j0]) (ev_pos rfl ?_))
      show Ev (fun k => if 0 ≤ c.f1 then _ else _) r
      simp only [hF, hT, Int.toNat_natCast, wF, gT, wT, List.length_set]
      refine ev_pos (by omega) (ev_pos (by omega) (ev_pos (by omega) (ev_pos (by omega) (ev_pos (by omega) (ev_pos (by omega) (Ev.step (fun k => by rw [netting_netOf.j1]) ?_))))))
      rw [inc64 (by omega)]
      exact hr
    · have inv : NetInv cur day l (i + 1) x := by
        refine ⟨hx.len, fun b hb16 => ?_, fun b hb16 => ?_, fun b hb16 => ?_, hx.sum⟩
        · rw [hb b, hx.val b hb16]; unfold stp; rw [if_neg hm]
        · have := hx.lo b hb16; omega
        · have := hx.hi b hb16; omega
      obtain ⟨r, hr, hri⟩ := ih _ inv
      refine ⟨r, Ev.step (fun k => by rw [netting_netOf.l0]) ?_, hri⟩
      refine ev_pos (by omega) (ev_pos (by omega) (ev_pos (by omega) ?_))
      rw [Int.toNat_natCast, hcd]
      have nxt : Ev (fun k => netting_netOf.j1 k cur day l (l.length : Int) (i : Int) x) r := Ev.step (fun k => by rw [netting_netOf.j1]) (by rw [inc64 (by omega)]; exact hr)
      by_cases h1 : c.f3.f0 = cur
      · rw [decide_eq_false (fun h2 => hm ⟨h1, h2⟩)]
        exact ev_pos h1 (Ev.step (fun k => by rw [netting_netOf.j0]) (ev_neg (by simp) nxt))
      · exact ev_neg h1 (Ev.step (fun k => by rw [netting_netOf.j0]) (ev_neg (by simp) nxt))
theorem net_ev (cur day : Int) (l : List S58) (hok : OKL l) : ∃ r, Ev (fun k => netting_netOf.f k l cur day) r ∧ NetInv cur day l l.length r := by
  have inv : NetInv cur day l 0 (List.replicate 16 0) := by
    refine ⟨by simp, fun b hb => ?_, fun b hb => ?_, fun b hb => ?_, by decide⟩
    all_goals (rw [getD_lt (by simpa using hb), List.getElem_replicate]; first | rfl | omega)
  obtain ⟨r, hr, hi⟩ := net_loop cur day l hok 0 (Nat.zero_le _) _ inv
  refine ⟨r, ?_, hi⟩
  unfold netting_netOf.f
  exact hr
theorem inv_eq {cur day : Int} {l : List S58} {r : List Int} (h : NetInv cur day l l.length r) : r = (List.range 16).map (bal cur day l) := by
  refine list_ext 0 (by simp [h.len]) fun i hi => ?_
  have hi' : i < 16 := by rw [← h.len]; exact hi
  rw [h.val i hi', getD_lt (by simpa using hi'), List.getElem_map, List.getElem_range, List.take_of_length_le (Nat.le_refl _)]

theorem refnet_inner (cur day : Int) (l : List S58) (hok : OKL l) (out : List Int) (b : Nat) (r : List Int)
    (h : Ev (fun k => cashbookref30_Net.l1 k l cur day out (b : Int) (bal cur day l b) l (l.length : Int) (l.length : Int)) r) :
    ∀ i : Nat, i ≤ l.length → Ev (fun k => cashbookref30_Net.l1 k l cur day out (b : Int) (bal cur day (l.take i) b) l (l.length : Int) (i : Int)) r := by
  obtain ⟨hok, hl⟩ := hok
  refine down l.length (by rw [List.take_of_length_le (Nat.le_refl _)]; exact h) ?_
  intro i hi ih
  obtain ⟨c0, c1, c2, c3, c4, c5, c6, c7, c8, c9, _, _⟩ := hok i hi
  rw [bal_snoc cur day hi] at ih
  generalize hcd : l.getD i z58 = c at *
  refine Ev.step (fun k => by rw [cashbookref30_Net.l1]) (ev_pos (by omega) (ev_pos (by omega) (ev_pos (by omega) ?_)))
  rw [Int.toNat_natCast, hcd]
  generalize bal cur day (l.take i) b = n at *
  have nxt : ∀ m, Ev (fun k => cashbookref30_Net.l1 k l cur day out (b : Int) m l (l.length : Int) ((i + 1 : Nat) : Int)) r → Ev (fun k => cashbookref30_Net.j1 k l cur day out (b : Int) m l (l.length : Int) (i : Int)) r := fun m hm =>
    Ev.step (fun k => by rw [cashbookref30_Net.j1]) (by rw [inc64 (by omega)]; exact hm)
  unfold stp at ih
  by_cases h1 : c.f3.f0 = cur
  · refine ev_pos h1 (Ev.step (fun k => by rw [cashbookref30_Net.j0]) ?_)
    by_cases h2 : c.f4 = day
    · rw [if_pos ⟨h1, h2⟩] at ih
      refine ev_neg (by simp [h2]) ?_
      by_cases h3 : c.f2 = (b : Int)
      · rw [if_pos h3] at ih
        exact ev_pos h3 (Ev.step (fun k => by rw [cashbookref30_Net.j2]) (ev_neg (show ¬ c.f1 = (b : Int) by omega) (nxt _ ih)))
      · rw [if_neg h3] at ih
        refine ev_neg h3 (Ev.step (fun k => by rw [cashbookref30_Net.j2]) ?_)
        by_cases h4 : c.f1 = (b : Int)
        · rw [if_pos h4] at ih
          exact ev_pos h4 (nxt _ ih)
        · rw [if_neg h4] at ih
          exact ev_neg h4 (nxt _ ih)
    · rw [if_neg (fun h => h2 h.2)] at ih
      exact ev_pos (by simp [h2]) (nxt _ ih)
  · rw [if_neg (fun h => h1 h.1)] at ih
    exact ev_neg h1 (Ev.step (fun k => by rw [cashbookref30_Net.j0]) (ev_pos (by simp) (nxt _ ih)))
theorem refnet_ev (cur day : Int) (l : List S58) (hok : OKL l) : Ev (fun k => cashbookref30_Net.f k l cur day) ((List.range 16).map (bal cur day l)) := by
  have key : ∀ b : Nat, b ≤ 16 → Ev (fun k => cashbookref30_Net.l0 k l cur day ((List.range b).map (bal cur day l)) (b : Int)) ((List.range 16).map (bal cur day l)) := by
    refine down 16 ?_ ?_
    · exact Ev.step (fun k => by rw [cashbookref30_Net.l0]) (ev_neg (by omega) ev_ret)
    · intro b hb ih
      refine Ev.step (fun k => by rw [cashbookref30_Net.l0]) (ev_pos (by omega) ?_)
      refine refnet_inner cur day l hok _ b _ ?_ 0 (Nat.zero_le _)
      refine Ev.step (fun k => by rw [cashbookref30_Net.l1]) (ev_neg (by omega) (ev_pos (by simp; omega) ?_))
      rw [inc64 (by omega)]
      rw [List.range_succ, List.map_append] at ih
      exact ih
  exact key 0 (by omega)
theorem Net_ev (l : List S58) (hl : l.length ≤ 310) (cur day : Int) : ∃ q : List Int × Int, Ev (fun k => netting_Net.f k l cur day) q ∧ ((q.2 = 0 ∧ OKL l ∧ NetInv cur day l l.length q.1) ∨ (q.2 ≠ 0 ∧ q.1 = [])) := by
  obtain ⟨b, e1, e2, hp⟩ := right_ev l hl
  have bad : ∀ c, c ≠ 0 → Ev (fun k => netting_may.f k l cur day) c → ∃ q : List Int × Int, Ev (fun k => netting_Net.f k l cur day) q ∧ ((q.2 = 0 ∧ OKL l ∧ NetInv cur day l l.length q.1) ∨ (q.2 ≠ 0 ∧ q.1 = [])) := by
    intro c hc h
    refine ⟨([], c), ?_, .inr ⟨hc, rfl⟩⟩
    unfold netting_Net.f
    exact ev_call h (ev_neg hc ev_ret)
  cases b with
  | false =>
    refine bad 1 (by omega) ?_
    unfold netting_may.f
    exact ev_call e1 (ev_neg (by simp) ev_ret)
  | true =>
    have hok := hp rfl
    by_cases hc : 0 ≤ cur ∧ cur ≤ 3
    · by_cases hd : -50000 ≤ day ∧ day ≤ 50000
      · obtain ⟨r, h1, h2⟩ := net_ev cur day l hok
        refine ⟨(r, 0), ?_, .inl ⟨rfl, hok, h2⟩⟩
        unfold netting_Net.f
        refine ev_call (a := 0) ?_ (ev_pos rfl (ev_call h1 ev_ret))
        unfold netting_may.f
        exact ev_call e1 (ev_pos rfl (ev_pure (isCur_eq cur) (ev_pos (by simpa using hc) (ev_pure (date_eq day) (ev_pos (by simpa using hd) ev_ret)))))
      · refine bad 11 (by omega) ?_
        unfold netting_may.f
        exact ev_call e1 (ev_pos rfl (ev_pure (isCur_eq cur) (ev_pos (by simpa using hc) (ev_pure (date_eq day) (ev_neg (by simpa using hd) ev_ret)))))
    · refine bad 12 (by omega) ?_
      unfold netting_may.f
      exact ev_call e1 (ev_pos rfl (ev_pure (isCur_eq cur) (ev_neg (by simpa using hc) ev_ret)))
end Go.Proofs.Ytcmaohhcbiienaa.P30
