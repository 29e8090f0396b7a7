/- NettingCaps, as a plain law over the evaluator's functions: behind a settlement nobody is over; who is left out has nothing to pay, and gets nothing; each was over ahead of being left out; with caps that are great enough nobody is. -/
import Derived.Test.YtcmaohhcbiienaaNtRuns
set_option linter.unusedVariables false
namespace Go.Proofs.Ytcmaohhcbiienaa.P30
open Go.RowKit Go.Proofs.Ytcmaohhcbiienaa.X Go.Proofs.Ytcmaohhcbiienaa.L

/-! ### claims that may be: just when -/
def Srt (l : List S58) : Prop := List.Pairwise (fun a b : S58 => a.f0 < b.f0) l
def May (l : List S58) : Prop := (∀ c ∈ l, cashbookref30_claim.f c = some true) ∧ Srt l ∧ l.length ≤ 300
theorem srt_at {l : List S58} (h : Srt l) {i j : Nat} (hij : i < j) (hj : j < l.length) : (l.getD i z58).f0 < (l.getD j z58).f0 := by
  have := List.pairwise_iff_getElem.1 h i j (by omega) hj hij
  rwa [getD_lt (by omega), getD_lt hj]
theorem srt_of {l : List S58} (h : ∀ i, i + 1 < l.length → (l.getD i z58).f0 < (l.getD (i + 1) z58).f0) : Srt l := by
  refine List.pairwise_iff_getElem.2 fun i j hi hj hij => ?_
  have key : ∀ d, i + d + 1 < l.length → (l.getD i z58).f0 < (l.getD (i + d + 1) z58).f0 := by
    intro d
    induction d with
    | zero => exact h i
    | succ d ih =>
      intro hd
      have h1 := ih (by omega)
      have h2 := h (i + d + 1) (by omega)
      have e : i + (d + 1) + 1 = i + d + 1 + 1 := by omega
      rw [e]
      omega
  have := key (j - i - 1) (by omega)
  have e : i + (j - i - 1) + 1 = j := by omega
  rw [e, getD_lt hi, getD_lt hj] at this
  exact this
theorem may_left {l : List S58} (b : Int) (h : May l) : May (left b l) :=
  ⟨fun c hc => h.1 c (List.mem_filter.1 hc).1, h.2.1.filter _, Nat.le_trans (List.length_filter_le _ _) h.2.2⟩
theorem may_okl {l : List S58} (h : May l) : OKL l := okl_mem.2 ⟨fun c hc => by
  obtain ⟨b, hb, hp⟩ := claim_some c
  rw [h.1 c hc] at hb
  cases hb
  exact hp rfl, h.2.2⟩
theorem may_right {l : List S58} (h : May l) : Ev (fun k => cashbookref30_Right.f k l) true := by
  have hl := h.2.2
  have key : ∀ i : Nat, i ≤ l.length → Ev (fun k => cashbookref30_Right.l0 k l l (l.length : Int) (i : Int)) true := by
    refine down l.length ?_ ?_
    · exact Ev.step (fun k => by rw [cashbookref30_Right.l0]) (ev_neg (by omega) (ev_eq (decide_eq_true (by omega))))
    · intro i hi ih
      refine Ev.step (fun k => by rw [cashbookref30_Right.l0]) (ev_pos (by omega) (ev_pos (by omega) (ev_pos (by omega) ?_)))
      rw [Int.toNat_natCast]
      refine ev_pure (h.1 _ (getD_mem hi _)) (ev_pos rfl ?_)
      have nxt : Ev (fun k => cashbookref30_Right.j0 k l l (l.length : Int) (i : Int) false) true :=
        Ev.step (fun k => by rw [cashbookref30_Right.j0]) (ev_neg (by simp) (by rw [inc64 (by omega)]; exact ih))
      by_cases h0 : i = 0
      · exact ev_neg (by omega) nxt
      · have hw : wrap64 ((i : Int) - 1) = ((i - 1 : Nat) : Int) := by unfold wrap64; omega
        have hs := srt_at h.2.1 (i := i - 1) (j := i) (by omega) hi
        rw [hw, Int.toNat_natCast, decide_eq_false (by omega)]
        exact ev_pos (by omega) (ev_pos (by omega) (ev_pos (by omega) nxt))
  exact key 0 (Nat.zero_le _)
theorem right_may {l : List S58} (hl : l.length ≤ 310) (h : Ev (fun k => cashbookref30_Right.f k l) true) : May l := by
  have key : ∀ i : Nat, i ≤ l.length → ∃ b, Ev (fun k => cashbookref30_Right.l0 k l l (l.length : Int) (i : Int)) b ∧ (b = true → (∀ j, i ≤ j → j < l.length → cashbookref30_claim.f (l.getD j z58) = some true) ∧
      (∀ j, i ≤ j → 0 < j → j < l.length → (l.getD (j - 1) z58).f0 < (l.getD j z58).f0) ∧ l.length ≤ 300) := by
    refine down l.length ?_ ?_
    · refine ⟨decide ((l.length : Int) ≤ 300), Ev.step (fun k => by rw [cashbookref30_Right.l0]) (ev_neg (by omega) ev_ret), fun h => ⟨fun j h1 h2 => by omega, fun j h1 h2 h3 => by omega, ?_⟩⟩
      simp only [decide_eq_true_eq] at h; omega
    · intro i hi ⟨b, hb, hp⟩
      obtain ⟨q, hq, _⟩ := claim_some (l.getD i z58)
      cases q with
      | false =>
        refine ⟨false, Ev.step (fun k => by rw [cashbookref30_Right.l0]) ?_, by simp⟩
        refine ev_pos (by omega) (ev_pos (by omega) (ev_pos (by omega) ?_))
        rw [Int.toNat_natCast]
        exact ev_pure hq (ev_neg (by simp) (Ev.step (fun k => by rw [cashbookref30_Right.j0]) (ev_pos rfl ev_ret)))
      | true =>
        have fw : ∀ (P : Nat → Prop), P i → (∀ j, i + 1 ≤ j → P j) → ∀ j, i ≤ j → P j := fun P h1 h2 j hj => by
          rcases Nat.eq_or_lt_of_le hj with rfl | h
          · exact h1
          · exact h2 j h
        have nxt : Ev (fun k => cashbookref30_Right.j0 k l l (l.length : Int) (i : Int) false) b :=
          Ev.step (fun k => by rw [cashbookref30_Right.j0]) (ev_neg (by simp) (by rw [inc64 (by omega)]; exact hb))
        by_cases h0 : i = 0
        · refine ⟨b, Ev.step (fun k => by rw [cashbookref30_Right.l0]) ?_, fun hbt => ?_⟩
          · refine ev_pos (by omega) (ev_pos (by omega) (ev_pos (by omega) ?_))
            rw [Int.toNat_natCast]
            exact ev_pure hq (ev_pos rfl (ev_neg (by omega) nxt))
          · obtain ⟨q1, q2, q3⟩ := hp hbt
            exact ⟨fw (fun j => j < l.length → _) (fun _ => hq) q1, fw (fun j => 0 < j → j < l.length → _) (fun h => by omega) q2, q3⟩
        · have hw : wrap64 ((i : Int) - 1) = ((i - 1 : Nat) : Int) := by unfold wrap64; omega
          by_cases hr : (l.getD i z58).f0 ≤ (l.getD (i - 1) z58).f0
          · refine ⟨false, Ev.step (fun k => by rw [cashbookref30_Right.l0]) ?_, by simp⟩
            refine ev_pos (by omega) (ev_pos (by omega) (ev_pos (by omega) ?_))
            rw [Int.toNat_natCast]
            refine ev_pure hq (ev_pos rfl ?_)
            rw [hw, Int.toNat_natCast, decide_eq_true hr]
            exact ev_pos (by omega) (ev_pos (by omega) (ev_pos (by omega) (Ev.step (fun k => by rw [cashbookref30_Right.j0]) (ev_pos rfl ev_ret))))
          · refine ⟨b, Ev.step (fun k => by rw [cashbookref30_Right.l0]) ?_, fun hbt => ?_⟩
            · refine ev_pos (by omega) (ev_pos (by omega) (ev_pos (by omega) ?_))
              rw [Int.toNat_natCast]
              refine ev_pure hq (ev_pos rfl ?_)
              rw [hw, Int.toNat_natCast, decide_eq_false hr]
              exact ev_pos (by omega) (ev_pos (by omega) (ev_pos (by omega) nxt))
            · obtain ⟨q1, q2, q3⟩ := hp hbt
              exact ⟨fw (fun j => j < l.length → _) (fun _ => hq) q1, fw (fun j => 0 < j → j < l.length → _) (fun _ _ => by omega) q2, q3⟩
  obtain ⟨b, e, hp⟩ := key 0 (Nat.zero_le _)
  obtain rfl := ev_unique h e
  obtain ⟨q1, q2, q3⟩ := hp rfl
  refine ⟨fun c hc => ?_, srt_of fun i hi => ?_, q3⟩
  · obtain ⟨i, hi, rfl⟩ := List.mem_iff_getElem.1 hc
    have := q1 i (Nat.zero_le _) hi
    rwa [getD_lt hi] at this
  · have := q2 (i + 1) (Nat.zero_le _) (by omega) hi
    simpa using this
theorem net_of_may {l : List S58} {cur day : Int} (h : May l) (hc : 0 ≤ cur ∧ cur ≤ 3) (hd : -50000 ≤ day ∧ day ≤ 50000) : Ev (fun k => netting_Net.f k l cur day) (netL cur day l, 0) := by
  have r1 : Ev (fun k => netting_Right.f k l) true := Ev.congr (fun k => right_eq' k l) (may_right h)
  obtain ⟨nr, n1, n2⟩ := net_ev cur day l (may_okl h)
  have hnr : nr = netL cur day l := inv_eq n2
  subst hnr
  unfold netting_Net.f
  exact ev_call (may_ok r1 hc hd) (ev_pos rfl (ev_call n1 ev_ret))
theorem bal_bd (cur day : Int) {l : List S58} (h : OKL l) {w : Nat} (hw : w < 16) : -300000000000000 ≤ bal cur day l w ∧ bal cur day l w ≤ 300000000000000 := by
  obtain ⟨nr, n1, n2⟩ := net_ev cur day l h
  have a := n2.lo w hw
  have b := n2.hi w hw
  have v := n2.val w hw
  rw [List.take_length] at v
  have := h.2
  rw [v] at a b
  constructor <;> omega
theorem bal_zero (cur day : Int) {l : List S58} {w : Nat} (h : ∀ c ∈ l, hit (w : Int) c = false) : bal cur day l w = 0 := by
  have key : ∀ i : Nat, i ≤ l.length → bal cur day (l.take i) w = 0 := by
    refine up l.length rfl ?_
    intro i hi ih
    have := h _ (getD_mem hi z58)
    rw [bal_snoc cur day hi, ih]
    generalize l.getD i z58 = c at *
    simp only [hit, Bool.or_eq_false_iff, decide_eq_false_iff_not] at this
    unfold stp
    rw [if_neg this.2, if_neg this.1]
    split <;> rfl
  have := key l.length (Nat.le_refl _)
  rwa [List.take_length] at this

/-! ### how a run goes -/
inductive Play (cur day : Int) (caps : List Int) : List S58 → List Nat → List S58 → Prop
  | nil {l : List S58} (h : ∀ b, b < 16 → - bal cur day l b ≤ caps.getD b 0) : Play cur day caps l [] l
  | cons {l l' : List S58} {w : Nat} {ws : List Nat} (hw : w < 16) (hn : bal cur day l w < 0) (ho : caps.getD w 0 < - bal cur day l w) (h : Play cur day caps (left (w : Int) l) ws l') : Play cur day caps l (w :: ws) l'
theorem play_sub {cur day : Int} {caps : List Int} {l l' : List S58} {ws : List Nat} (h : Play cur day caps l ws l') : ∀ c ∈ l', c ∈ l := by
  induction h with
  | nil => exact fun c hc => hc
  | cons _ _ _ _ ih => exact fun c hc => (List.mem_filter.1 (ih c hc)).1
theorem play_out {cur day : Int} {caps : List Int} {l l' : List S58} {ws : List Nat} (h : Play cur day caps l ws l') : ∀ w ∈ ws, w < 16 ∧ ∀ c ∈ l', hit (w : Int) c = false := by
  induction h with
  | nil => intro w hw; cases hw
  | cons hw hn ho h ih =>
    intro v hv
    rcases List.mem_cons.1 hv with rfl | hv
    · refine ⟨hw, fun c hc => ?_⟩
      have := (List.mem_filter.1 (play_sub h c hc)).2
      simpa using this
    · exact ih v hv
theorem play_fresh {cur day : Int} {caps : List Int} {l l' : List S58} {ws : List Nat} (h : Play cur day caps l ws l') : ∀ p : Nat, (∀ c ∈ l, hit (p : Int) c = false) → p ∉ ws := by
  induction h with
  | nil => intro p _ hp; cases hp
  | @cons l l' w ws hw hn ho h ih =>
    intro p hp hm
    rcases List.mem_cons.1 hm with rfl | hm
    · have := bal_zero cur day hp
      omega
    · exact ih p (fun c hc => hp c (List.mem_filter.1 hc).1) hm
theorem play_nodup {cur day : Int} {caps : List Int} {l l' : List S58} {ws : List Nat} (h : Play cur day caps l ws l') : ws.Nodup := by
  induction h with
  | nil => exact List.nodup_nil
  | cons hw hn ho h ih =>
    refine List.nodup_cons.2 ⟨play_fresh h _ fun c hc => ?_, ih⟩
    have := (List.mem_filter.1 hc).2
    simpa using this
theorem nodup_len : ∀ (n : Nat) (ws : List Nat), ws.Nodup → (∀ w ∈ ws, w < n) → ws.length ≤ n
  | 0, [], _, _ => Nat.le_refl _
  | 0, w :: _, _, h => absurd (h w (List.mem_cons_self ..)) (Nat.not_lt_zero _)
  | n + 1, ws, hd, h => by
    by_cases hm : n ∈ ws
    · have := nodup_len n (ws.erase n) (hd.erase n) fun w hw => by
        obtain ⟨h1, h2⟩ := (hd.mem_erase_iff).1 hw
        have := h w h2
        omega
      rw [List.length_erase_of_mem hm] at this
      omega
    · have := nodup_len n ws hd fun w hw => by
        have := h w hw
        have : w ≠ n := fun e => hm (e ▸ hw)
        omega
      omega
theorem play_len {cur day : Int} {caps : List Int} {l l' : List S58} {ws : List Nat} (h : Play cur day caps l ws l') : ws.length ≤ 16 := by
  exact nodup_len 16 ws (play_nodup h) fun w hw => (play_out h w hw).1
theorem play_may {cur day : Int} {caps : List Int} {l l' : List S58} {ws : List Nat} (h : Play cur day caps l ws l') : May l → May l' := by
  induction h with
  | nil => exact id
  | cons _ _ _ _ ih => exact fun hm => ih (may_left _ hm)
theorem play_end {cur day : Int} {caps : List Int} {l l' : List S58} {ws : List Nat} (h : Play cur day caps l ws l') : ∀ b, b < 16 → - bal cur day l' b ≤ caps.getD b 0 := by
  induction h with
  | nil h => exact h
  | cons _ _ _ _ ih => exact ih

theorem worst_is (net caps : List Int) (hn : net.length = 16) (hc : caps.length = 16) (hb : Bd net) (hcap : ∀ b, b < 16 → 0 ≤ caps.getD b 0 ∧ caps.getD b 0 ≤ 9223372036854775807) :
    (Ev (fun k => cashbookref30_worst.f k net caps) (-1) ∧ ∀ b, b < 16 → - net.getD b 0 ≤ caps.getD b 0) ∨ ∃ w : Nat, w < 16 ∧ Ev (fun k => cashbookref30_worst.f k net caps) (w : Int) ∧ net.getD w 0 < 0 ∧ caps.getD w 0 < - net.getD w 0 := by
  have key : ∀ i : Nat, i ≤ 16 → ∀ a m : Int, (a = -1 ∧ m = 0 ∧ (∀ b, b < i → - net.getD b 0 ≤ caps.getD b 0)) ∨ (0 ≤ m ∧ ∃ w : Nat, w < 16 ∧ a = (w : Int) ∧ net.getD w 0 < 0 ∧ caps.getD w 0 < - net.getD w 0) →
      (Ev (fun k => cashbookref30_worst.l0 k caps a m net (net.length : Int) (i : Int)) (-1) ∧ ∀ b, b < 16 → - net.getD b 0 ≤ caps.getD b 0) ∨ ∃ w : Nat, w < 16 ∧ Ev (fun k => cashbookref30_worst.l0 k caps a m net (net.length : Int) (i : Int)) (w : Int) ∧ net.getD w 0 < 0 ∧ caps.getD w 0 < - net.getD w 0 := by
    refine down 16 ?_ ?_
    · intro a m h
      rcases h with ⟨rfl, _, h⟩ | ⟨_, w, hw, rfl, h1, h2⟩
      · exact .inl ⟨Ev.step (fun k => by rw [cashbookref30_worst.l0]) (ev_neg (by omega) ev_ret), h⟩
      · exact .inr ⟨w, hw, Ev.step (fun k => by rw [cashbookref30_worst.l0]) (ev_neg (by omega) ev_ret), h1, h2⟩
    · intro i hi ih a m h
      have b1 := hb i hi
      have b2 := hcap i hi
      have j1 : ∀ a m r, Ev (fun k => cashbookref30_worst.l0 k caps a m net (net.length : Int) ((i + 1 : Nat) : Int)) r → Ev (fun k => cashbookref30_worst.j1 k caps a m net (net.length : Int) (i : Int)) r := fun a m r h =>
        Ev.step (fun k => by rw [cashbookref30_worst.j1]) (by rw [inc64 (by omega)]; exact h)
      have w1 : net.getD i 0 < 0 → wrap64 (wrap64 (0 - net.getD i 0) - caps.getD i 0) = - net.getD i 0 - caps.getD i 0 := fun h1 => by
        rw [wrap_id (x := 0 - net.getD i 0) (by omega) (by omega), wrap_id (by omega) (by omega)]
        omega
      have stay : ∀ (a m : Int), (net.getD i 0 < 0 → ¬ m < wrap64 (wrap64 (0 - net.getD i 0) - caps.getD i 0)) → ∀ r, Ev (fun k => cashbookref30_worst.l0 k caps a m net (net.length : Int) ((i + 1 : Nat) : Int)) r → Ev (fun k => cashbookref30_worst.l0 k caps a m net (net.length : Int) (i : Int)) r := by
        intro a m hs r hr
        refine Ev.step (fun k => by rw [cashbookref30_worst.l0]) (ev_pos (by omega) (ev_pos (by omega) (ev_pos (by omega) ?_)))
        rw [Int.toNat_natCast]
        by_cases h1 : net.getD i 0 < 0
        · rw [decide_eq_false (hs h1)]
          exact ev_pos h1 (ev_pos (by omega) (Ev.step (fun k => by rw [cashbookref30_worst.j0]) (ev_neg (by simp) (j1 _ _ _ hr))))
        · exact ev_neg h1 (Ev.step (fun k => by rw [cashbookref30_worst.j0]) (ev_neg (by simp) (j1 _ _ _ hr)))
      by_cases hg : net.getD i 0 < 0 ∧ m < wrap64 (wrap64 (0 - net.getD i 0) - caps.getD i 0)
      · obtain ⟨h1, h2⟩ := hg
        have go : ∀ r, Ev (fun k => cashbookref30_worst.l0 k caps (i : Int) (wrap64 (wrap64 (0 - net.getD i 0) - caps.getD i 0)) net (net.length : Int) ((i + 1 : Nat) : Int)) r → Ev (fun k => cashbookref30_worst.l0 k caps a m net (net.length : Int) (i : Int)) r := by
          intro r hr
          refine Ev.step (fun k => by rw [cashbookref30_worst.l0]) (ev_pos (by omega) (ev_pos (by omega) (ev_pos (by omega) ?_)))
          rw [Int.toNat_natCast, decide_eq_true h2]
          refine ev_pos h1 (ev_pos (by omega) (Ev.step (fun k => by rw [cashbookref30_worst.j0]) (ev_pos rfl (ev_pos (by omega) (ev_pos (by omega) ?_)))))
          rw [Int.toNat_natCast]
          exact j1 _ _ _ hr
        have hm : 0 ≤ m := by
          rcases h with ⟨_, rfl, _⟩ | ⟨h, _⟩ <;> omega
        rw [w1 h1] at h2 go
        rcases ih (i : Int) (- net.getD i 0 - caps.getD i 0) (.inr ⟨by omega, i, hi, rfl, h1, by omega⟩) with ⟨e, q⟩ | ⟨w, hw, e, q1, q2⟩
        · exact .inl ⟨go _ e, q⟩
        · exact .inr ⟨w, hw, go _ e, q1, q2⟩
      · have hs : net.getD i 0 < 0 → ¬ m < wrap64 (wrap64 (0 - net.getD i 0) - caps.getD i 0) := fun h1 h2 => hg ⟨h1, h2⟩
        have inv : (a = -1 ∧ m = 0 ∧ (∀ b, b < i + 1 → - net.getD b 0 ≤ caps.getD b 0)) ∨ (0 ≤ m ∧ ∃ w : Nat, w < 16 ∧ a = (w : Int) ∧ net.getD w 0 < 0 ∧ caps.getD w 0 < - net.getD w 0) := by
          rcases h with ⟨rfl, rfl, h⟩ | h
          · refine .inl ⟨rfl, rfl, fun b hbi => ?_⟩
            rcases Nat.lt_succ_iff_lt_or_eq.1 hbi with h1 | rfl
            · exact h b h1
            · by_cases h1 : net.getD b 0 < 0
              · have := hs h1
                rw [w1 h1] at this
                omega
              · omega
          · exact .inr h
        rcases ih a m inv with ⟨e, q⟩ | ⟨w, hw, e, q1, q2⟩
        · exact .inl ⟨stay _ _ hs _ e, q⟩
        · exact .inr ⟨w, hw, stay _ _ hs _ e, q1, q2⟩
  exact key 0 (by omega) (-1) 0 (.inl ⟨rfl, rfl, fun b hb => by omega⟩)
theorem bd_net (cur day : Int) {l : List S58} (h : OKL l) : Bd (netL cur day l) := fun j hj => by
  rw [netL_get cur day l hj]
  exact bal_bd cur day h hj
theorem run_play (cur day : Int) (caps : List Int) (hc : caps.length = 16) (hcap : ∀ b, b < 16 → 0 ≤ caps.getD b 0 ∧ caps.getD b 0 ≤ 9223372036854775807) (y' : S49) : ∀ (m : Nat) (l : List S58) (out : List Int), l.length ≤ m → OKL l → out.length + l.length ≤ 300 →
    ∃ ws l' ts, Play cur day caps l ws l' ∧ Ev (fun k => cashbookref30_Run.l0 k l cur day caps out (netL cur day l) y') ⟨out ++ ws.map (fun w : Nat => (w : Int)), netL cur day l', ts⟩ := by
  have step : ∀ (l : List S58) (out : List Int), OKL l → out.length + l.length ≤ 300 → (∀ w : Nat, w < 16 → bal cur day l w < 0 → ∃ ws l' ts, Play cur day caps (left (w : Int) l) ws l' ∧ Ev (fun k => cashbookref30_Run.l0 k (left (w : Int) l) cur day caps (out ++ [(w : Int)]) (netL cur day (left (w : Int) l)) y') ⟨out ++ [(w : Int)] ++ ws.map (fun w : Nat => (w : Int)), netL cur day l', ts⟩) →
      ∃ ws l' ts, Play cur day caps l ws l' ∧ Ev (fun k => cashbookref30_Run.l0 k l cur day caps out (netL cur day l) y') ⟨out ++ ws.map (fun w : Nat => (w : Int)), netL cur day l', ts⟩ := by
    intro l out hok ho rec
    have hl := hok.2
    rcases worst_is (netL cur day l) caps (netL_len ..) hc (bd_net cur day hok) hcap with ⟨e, q⟩ | ⟨w, hw, e, q1, q2⟩
    · obtain ⟨ts, s1, s2, s3⟩ := settled_ev (netL cur day l) (netL_len ..) (bd_net cur day hok)
      refine ⟨[], l, ts, .nil fun b hb => ?_, ?_⟩
      · have := q b hb
        rwa [netL_get cur day l hb] at this
      · rw [List.map_nil, List.append_nil]
        refine Ev.step (fun k => by rw [cashbookref30_Run.l0]) (ev_call e ?_)
        exact ev_neg (by omega) (ev_call s2 ev_ret)
    · rw [netL_get cur day l hw] at q1 q2
      obtain ⟨ws, l', ts, p, r⟩ := rec w hw q1
      have hlt := left_less cur day hok (w := w) q1
      refine ⟨w :: ws, l', ts, .cons hw q1 q2 p, ?_⟩
      rw [List.map_cons, List.append_cons]
      refine Ev.step (fun k => by rw [cashbookref30_Run.l0]) (ev_call e ?_)
      exact ev_pos (by omega) (ev_pos (by omega) (ev_call (without_ev l _ (by omega)) (ev_call (refnet_ev cur day _ (okl_left _ hok)) r)))
  intro m
  induction m with
  | zero =>
    intro l out hl hok ho
    obtain rfl : l = [] := List.eq_nil_of_length_eq_zero (by omega)
    exact step _ _ hok ho (fun w hw hneg => by have := left_less cur day hok (w := w) hneg; simp at this)
  | succ m ih =>
    intro l out hl hok ho
    exact step _ _ hok ho fun w hw hneg => by
      have := left_less cur day hok (w := w) hneg
      exact ih (left (w : Int) l) (out ++ [(w : Int)]) (by omega) (okl_left _ hok) (by simp; omega)
theorem run_ref (cur day : Int) (caps : List Int) (hc : caps.length = 16) (hcap : ∀ b, b < 16 → 0 ≤ caps.getD b 0 ∧ caps.getD b 0 ≤ 9223372036854775807) {l : List S58} (hok : OKL l) {R : S49} (h : Ev (fun k => cashbookref30_Run.f k l cur day caps) R) :
    ∃ ws l' ts, Play cur day caps l ws l' ∧ R = ⟨ws.map (fun w : Nat => (w : Int)), netL cur day l', ts⟩ := by
  obtain ⟨ws, l', ts, p, e⟩ := run_play cur day caps hc hcap Z49 l.length l [] (Nat.le_refl _) hok (by have := hok.2; simpa using this)
  refine ⟨ws, l', ts, p, ev_unique h ?_⟩
  unfold cashbookref30_Run.f
  rw [List.nil_append] at e
  exact ev_call (refnet_ev cur day l hok) e

/-! ### the map of those that were met -/
def Met (m : MapE) (pre : List Nat) : Prop := ∀ e ∈ m.1, ∃ p ∈ pre, e.key = .int .i64 (p : Int)
theorem find_none (n : Int) : ∀ (es : List MapEntry) (i : Nat), (∀ e ∈ es, ∃ a : Int, e.key = .int .i64 a ∧ n ≠ a) → Instr.findNow (.int .i64) (.int .i64 n) es i = some none
  | [], i, _ => rfl
  | e :: es, i, h => by
    obtain ⟨a, ha, hne⟩ := h e (List.mem_cons_self ..)
    have ih := find_none n es (i + 1) fun e he => h e (List.mem_cons_of_mem _ he)
    have hb : (n == a) = false := beq_false_of_ne hne
    simp [Instr.findNow, Instr.sameNow, ha, hb, ih]
theorem find_last (n : Int) (v : Value) (b : Nat) : ∀ (es : List MapEntry) (i : Nat), (∀ e ∈ es, ∃ a : Int, e.key = .int .i64 a ∧ n ≠ a) → Instr.findNow (.int .i64) (.int .i64 n) (es ++ [⟨.int .i64 n, v, b⟩]) i = some (some (i + es.length, v))
  | [], i, _ => by simp [Instr.findNow, Instr.sameNow]
  | e :: es, i, h => by
    obtain ⟨a, ha, hne⟩ := h e (List.mem_cons_self ..)
    have ih := find_last n v b es (i + 1) fun e he => h e (List.mem_cons_of_mem _ he)
    have hb : (n == a) = false := beq_false_of_ne hne
    simp [Instr.findNow, Instr.sameNow, ha, hb, ih]
    omega
theorem met_new {m : MapE} {pre : List Nat} (h : Met m pre) {w : Nat} (hw : w ∉ pre) :
    mGetI .i64 .i64 m (w : Int) = some 0 ∧ ∃ m', mPutI .i64 .i64 m (w : Int) (wrap64 (0 + 1)) = some m' ∧ mGetI .i64 .i64 m' (w : Int) = some 1 ∧ Met m' (pre ++ [w]) := by
  have hk : ∀ e ∈ m.1, ∃ a : Int, e.key = .int .i64 a ∧ (w : Int) ≠ a := fun e he => by
    obtain ⟨p, hp, hk⟩ := h e he
    exact ⟨p, hk, fun e => hw (by have : w = p := by omega
                                  rw [this]; exact hp)⟩
  have h1 : mAt .i64 m (w : Int) = some none := find_none _ _ _ hk
  refine ⟨by simp [mGetI, h1], (m.1 ++ [⟨.int .i64 (w : Int), .int .i64 (wrap64 (0 + 1)), m.2⟩], m.2 + 1), by simp [mPutI, h1], ?_, ?_⟩
  · have h2 : mAt .i64 (m.1 ++ [⟨.int .i64 (w : Int), .int .i64 (wrap64 (0 + 1)), m.2⟩], m.2 + 1) (w : Int) = some (some (0 + m.1.length, .int .i64 (wrap64 (0 + 1)))) := find_last _ _ _ _ _ hk
    simp only [mGetI, h2, if_true]
    rw [wrap_id (by omega) (by omega)]
    rfl
  · intro e he
    rcases List.mem_append.1 he with he | he
    · obtain ⟨p, hp, hk⟩ := h e he
      exact ⟨p, List.mem_append_left _ hp, hk⟩
    · obtain rfl := List.mem_singleton.1 he
      exact ⟨w, List.mem_append_right _ (List.mem_singleton_self _), rfl⟩

/-! ### the loops -/
theorem inner (l : List S58) (cur day : Int) (caps : List Int) (b : Int) (xs : List Int) (n i0 : Int) (rest : List S58) (m : MapE) (R : S49) (r : Bool) (hl : rest.length ≤ 310)
    (h : Ev (fun k => cashbooklaw30_NettingCaps.l2 k l cur day caps b (left b rest) xs n i0 rest (rest.length : Int) (rest.length : Int) m R) r) :
    Ev (fun k => cashbooklaw30_NettingCaps.l2 k l cur day caps b [] xs n i0 rest (rest.length : Int) 0 m R) r := by
  have key : ∀ i : Nat, i ≤ rest.length → Ev (fun k => cashbooklaw30_NettingCaps.l2 k l cur day caps b (left b (rest.take i)) xs n i0 rest (rest.length : Int) (i : Int) m R) r := by
    refine down rest.length (by rw [left_all]; exact h) ?_
    intro i hi ih
    rw [left_snoc b hi] at ih
    have hlen : (left b (rest.take i)).length ≤ 310 := by
      have := List.length_filter_le (fun c => !hit b c) (rest.take i)
      unfold left
      rw [List.length_take] at this
      omega
    have j3 : ∀ y, Ev (fun k => cashbooklaw30_NettingCaps.l2 k l cur day caps b y xs n i0 rest (rest.length : Int) ((i + 1 : Nat) : Int) m R) r → Ev (fun k => cashbooklaw30_NettingCaps.j3 k l cur day caps b y xs n i0 rest (rest.length : Int) (i : Int) m R) r := fun y h =>
      Ev.step (fun k => by rw [cashbooklaw30_NettingCaps.j3]) (by rw [inc64 (by omega)]; exact h)
    refine Ev.step (fun k => by rw [cashbooklaw30_NettingCaps.l2]) (ev_pos (by omega) (ev_pos (by omega) (ev_pos (by omega) ?_)))
    rw [Int.toNat_natCast]
    generalize rest.getD i z58 = c at *
    by_cases h1 : c.f1 = b
    · have hh : hit b c = true := by simp [hit, h1]
      rw [hh, if_pos rfl, List.append_nil] at ih
      exact ev_pos h1 (Ev.step (fun k => by rw [cashbooklaw30_NettingCaps.j2]) (ev_neg (by simp) (j3 _ ih)))
    · by_cases h2 : c.f2 = b
      · have hh : hit b c = true := by simp [hit, h2]
        rw [hh, if_pos rfl, List.append_nil] at ih
        exact ev_neg h1 (Ev.step (fun k => by rw [cashbooklaw30_NettingCaps.j2]) (ev_neg (by simp [h2]) (j3 _ ih)))
      · have hh : hit b c = false := by simp [hit, h1, h2]
        rw [hh, if_neg (by simp)] at ih
        exact ev_neg h1 (Ev.step (fun k => by rw [cashbooklaw30_NettingCaps.j2]) (ev_pos (by simp [h2]) (ev_pos (by omega) (j3 _ ih))))
  exact key 0 (Nat.zero_le _)

theorem play_loop (l : List S58) (cur day : Int) (caps : List Int) (hc : caps.length = 16) (hcur : 0 ≤ cur ∧ cur ≤ 3) (hday : -50000 ≤ day ∧ day ≤ 50000) (R : S49) (L : List S58) (hR1 : R.f1 = netL cur day L) (r : Bool)
    (hend : Ev (fun k => cashbooklaw30_NettingCaps.l1 k l cur day caps L R.f1 (R.f1.length : Int) 0 R) r) : ∀ {rest l' : List S58} {ws : List Nat}, Play cur day caps rest ws l' → l' = L → ∀ (pre : List Nat) (m : MapE), Met m pre →
      (∀ p ∈ pre, ∀ c ∈ rest, hit (p : Int) c = false) → May rest → R.f0 = (pre ++ ws).map (fun w : Nat => (w : Int)) → R.f0.length ≤ 1000 → Ev (fun k => cashbooklaw30_NettingCaps.l0 k l cur day caps rest R.f0 (R.f0.length : Int) (pre.length : Int) m R) r := by
  intro rest l' ws hp
  induction hp with
  | @nil rest h =>
    intro e pre m hm hh hmay h0 h0l
    subst e
    refine Ev.step (fun k => by rw [cashbooklaw30_NettingCaps.l0]) (ev_neg ?_ hend)
    rw [h0]; simp
  | @cons rest l' w ws hw hn ho h ih =>
    intro e pre m hm hh hmay h0 h0l
    subst e
    have hlen : R.f0.length = pre.length + ws.length + 1 := by rw [h0]; simp; omega
    have hget : R.f0.getD pre.length 0 = (w : Int) := by
      rw [h0, List.map_append, List.getD_eq_getElem?_getD, List.getElem?_append_right (by simp)]
      simp
    have hnew : w ∉ pre := fun hin => by
      have := bal_zero cur day (hh w hin)
      omega
    have hout := (play_out h (w := w))
    have hz : bal cur day l' w = 0 := bal_zero cur day fun c hc => by
      have := (List.mem_filter.1 (play_sub h c hc)).2
      simpa using this
    have hbd := bal_bd cur day (may_okl hmay) hw
    obtain ⟨g1, m', g2, g3, g4⟩ := met_new hm hnew
    have hl := hmay.2.2
    refine Ev.step (fun k => by rw [cashbooklaw30_NettingCaps.l0]) (ev_pos (by omega) (ev_pos (by omega) (ev_pos (by omega) ?_)))
    rw [Int.toNat_natCast, hget, Int.toNat_natCast]
    refine ev_call (net_of_may hmay hcur hday) (ev_pos rfl ?_)
    simp only [netL_len, netL_get cur day rest hw]
    refine ev_pos rfl (ev_neg (by omega) (ev_neg (by omega) (ev_pos (by omega) (ev_pos (by omega) (ev_pos (by omega) ?_)))))
    rw [wrap_id (by omega) (by omega)]
    refine ev_neg (by omega) ?_
    rw [hR1, netL_len, netL_get cur day _ hw, hz]
    refine ev_pos (by omega) (Ev.step (fun k => by rw [cashbooklaw30_NettingCaps.j1]) (ev_neg (by simp) ?_))
    refine inner _ _ _ _ _ _ _ _ _ _ _ _ (by omega) ?_
    refine Ev.step (fun k => by rw [cashbooklaw30_NettingCaps.l2]) (ev_neg (by omega) (ev_pure g1 (ev_pure g2 (ev_pure g3 (ev_neg (show ¬ (1 : Int) < 1 by omega) ?_)))))
    rw [inc64 (by omega)]
    have := ih rfl (pre ++ [w]) m' g4 (fun p hp c hc => ?_) (may_left _ hmay) (by rw [h0]; simp) h0l
    · simpa using this
    · rcases List.mem_append.1 hp with hp | hp
      · exact hh p hp c (List.mem_filter.1 hc).1
      · obtain rfl := List.mem_singleton.1 hp
        have := (List.mem_filter.1 hc).2
        simpa using this

theorem over_loop (l : List S58) (cur day : Int) (caps : List Int) (hc : caps.length = 16) (L : List S58) (hL : OKL L) (hno : ∀ b, b < 16 → - bal cur day L b ≤ caps.getD b 0) (R : S49) (r : Bool)
    (h : Ev (fun k => cashbooklaw30_NettingCaps.l3 k l cur day L 16 0 (List.replicate 16 0) R) r) : Ev (fun k => cashbooklaw30_NettingCaps.l1 k l cur day caps L (netL cur day L) ((netL cur day L).length : Int) 0 R) r := by
  rw [netL_len]
  have key : ∀ i : Nat, i ≤ 16 → Ev (fun k => cashbooklaw30_NettingCaps.l1 k l cur day caps L (netL cur day L) ((16 : Nat) : Int) (i : Int) R) r := by
    have h' : Ev (fun k => cashbooklaw30_NettingCaps.l3 k l cur day L ((List.replicate 16 (0 : Int)).length : Int) 0 (List.replicate 16 0) R) r := h
    refine down 16 ?_ ?_
    · refine Ev.step (fun k => by rw [cashbooklaw30_NettingCaps.l1]) ?_
      exact ev_neg (by omega) h'
    intro i hi ih
    have h1 := hno i hi
    have h2 := bal_bd cur day hL hi
    refine Ev.step (fun k => by rw [cashbooklaw30_NettingCaps.l1]) (ev_pos (by omega) (ev_pos (by omega) (ev_pos (by rw [netL_len]; omega) (ev_pos (by omega) ?_))))
    rw [Int.toNat_natCast, netL_get cur day L hi, wrap_id (by omega) (by omega), inc64 (by omega)]
    exact ev_neg (by omega) ih
  exact key 0 (by omega)

def gr (i : Nat) : List Int := List.replicate i 1152921504606846976 ++ List.replicate (16 - i) 0
theorem gr_set : ∀ i : Nat, i < 16 → (gr i).set i 1152921504606846976 = gr (i + 1) := by decide +kernel
theorem gr_len : ∀ i : Nat, i ≤ 16 → (gr i).length = 16 := fun i hi => by simp [gr]; omega
theorem gr_get : ∀ b : Nat, b < 16 → (gr 16).getD b 0 = 1152921504606846976 := by decide +kernel
theorem great_loop (l : List S58) (cur day : Int) (L : List S58) (R : S49) (r : Bool) (h : Ev (fun k => cashbooklaw30_NettingCaps.l3 k l cur day L 16 ((16 : Nat) : Int) (gr 16) R) r) :
    Ev (fun k => cashbooklaw30_NettingCaps.l3 k l cur day L 16 0 (List.replicate 16 0) R) r := by
  have key : ∀ i : Nat, i ≤ 16 → Ev (fun k => cashbooklaw30_NettingCaps.l3 k l cur day L 16 (i : Int) (gr i) R) r := by
    refine down 16 h ?_
    intro i hi ih
    have := gr_len i (by omega)
    refine Ev.step (fun k => by rw [cashbooklaw30_NettingCaps.l3]) (ev_pos (by omega) (ev_pos (by omega) (ev_pos (by omega) ?_)))
    rw [Int.toNat_natCast, inc64 (by omega), gr_set i hi]
    exact ih
  exact key 0 (by omega)

theorem cut_in (l : List Int) : ∃ l', cashbooklaw30_cut.f l = some l' ∧ l'.length ≤ 20 ∧ ∀ x ∈ l', x ∈ l := by
  unfold cashbooklaw30_cut.f
  rw [if_pos (by omega), if_pos (by omega)]
  exact ⟨_, rfl, by rw [List.length_take]; omega, fun x hx => List.mem_of_mem_take hx⟩
theorem caps_nn (caps : List Int) (hl : caps.length ≤ 20) (h : Ev (fun k => cashbookref30_Caps.f k caps) true) : caps.length = 16 ∧ ∀ b, b < 16 → 0 ≤ caps.getD b 0 := by
  have key : ∀ i : Nat, i ≤ caps.length → ∃ b, Ev (fun k => cashbookref30_Caps.l0 k caps caps (caps.length : Int) (i : Int)) b ∧ (b = true → caps.length = 16 ∧ ∀ j, i ≤ j → j < caps.length → 0 ≤ caps.getD j 0) := by
    refine down caps.length ?_ ?_
    · refine ⟨_, Ev.step (fun k => by rw [cashbookref30_Caps.l0]) (ev_neg (by omega) ev_ret), fun h => ⟨?_, fun j h1 h2 => by omega⟩⟩
      simp only [decide_eq_true_eq] at h
      omega
    · intro i hi ⟨b, hb, hp⟩
      by_cases hn : caps.getD i 0 < 0
      · refine ⟨false, Ev.step (fun k => by rw [cashbookref30_Caps.l0]) ?_, by simp⟩
        refine ev_pos (by omega) (ev_pos (by omega) (ev_pos (by omega) ?_))
        rw [Int.toNat_natCast]
        exact ev_pos hn ev_ret
      · refine ⟨b, Ev.step (fun k => by rw [cashbookref30_Caps.l0]) ?_, fun hb => ⟨(hp hb).1, fun j h1 h2 => ?_⟩⟩
        · refine ev_pos (by omega) (ev_pos (by omega) (ev_pos (by omega) ?_))
          rw [Int.toNat_natCast]
          refine ev_neg hn ?_
          rw [inc64 (by omega)]; exact hb
        · rcases Nat.eq_or_lt_of_le h1 with rfl | h3
          · omega
          · exact (hp hb).2 j h3 h2
  obtain ⟨b, e, hp⟩ := key 0 (Nat.zero_le _)
  obtain rfl := ev_unique h e
  obtain ⟨q1, q2⟩ := hp rfl
  exact ⟨q1, fun b hb => q2 b (Nat.zero_le _) (by omega)⟩
theorem run_caps {l : List S58} {cur day : Int} {caps : List Int} (hl : l.length ≤ 310) (hm : May l) (hcur : 0 ≤ cur ∧ cur ≤ 3) (hday : -50000 ≤ day ∧ day ≤ 50000) (hcl : caps.length ≤ 20) (hp : Ev (fun k => cashbookref30_Caps.f k caps) true) :
    ∃ R : S49, Ev (fun k => netting_Run.f k l cur day caps) (R, 0) ∧ Ev (fun k => cashbookref30_Run.f k l cur day caps) R ∧ R.f0.length ≤ 1000 := by
  obtain ⟨p, e, h⟩ := run_is l cur day caps hl hcl
  cases h with
  | arg h => have := ev_unique h (may_right hm); cases this
  | cur h hc => exact absurd hcur hc
  | day h hc hd => exact absurd hday hd
  | caps h hc hd hq => have := ev_unique hp hq; cases this
  | ok R h hc hd hq hr h0 h1 h2 => exact ⟨R, e, hr, h0⟩

theorem NettingCaps (l : List S58) (cur : Int) (day : Int) (caps : List Int) (hw0 : ∀ x ∈ l, wf58 x) (hw1 : (Lit.int .i64 cur).wf = true) (hw2 : (Lit.int .i32 day).wf = true) (hw3 : ∀ x ∈ caps, (Lit.int .i64 x).wf = true) : ∃ k, cashbooklaw30_NettingCaps.f k l cur day caps = some true := by
  refine Ev.rounds (g := fun k => cashbooklaw30_NettingCaps.f k l cur day caps) ?_
  obtain ⟨l, e1, hl⟩ := few_eq l
  obtain ⟨caps', e2, hcl, hin⟩ := cut_in caps
  replace hw3 : ∀ x ∈ caps', x ≤ 9223372036854775807 := fun x hx => (lit64 (hw3 x (hin x hx))).2
  clear hin hw0
  generalize caps' = caps at *
  unfold cashbooklaw30_NettingCaps.f
  refine ev_pure e1 (ev_pure e2 ?_)
  obtain ⟨p, hrun, hp⟩ := run_is l cur day caps hl hcl
  refine ev_call hrun ?_
  have bad : ∀ w : Int, w ≠ 0 → Ev (fun k => (cashbooklaw30_alive.f k).bind fun t9 => if t9 = true then (if (Z49.f0.length : Int) = 0 then some (decide ((Z49.f1.length : Int) = 0)) else some false) else some false) true := fun w hw =>
    ev_call alive_ev (ev_pos rfl (ev_pos rfl (ev_eq rfl)))
  cases hp with
  | arg h => exact ev_neg (by simp) (bad 1 (by omega))
  | cur h hc => exact ev_neg (by simp) (bad 12 (by omega))
  | day h hc hd => exact ev_neg (by simp) (bad 11 (by omega))
  | caps h hc hd hp => exact ev_neg (by simp) (bad 1 (by omega))
  | ok R h hc hd hp hr h0 h1 h2 =>
    obtain ⟨hc16, hnn⟩ := caps_nn caps hcl hp
    have hcap : ∀ b, b < 16 → 0 ≤ caps.getD b 0 ∧ caps.getD b 0 ≤ 9223372036854775807 := fun b hb => ⟨hnn b hb, hw3 _ (getD_mem (by omega) _)⟩
    have hmay := right_may hl h
    have hok := may_okl hmay
    obtain ⟨ws, L, ts, pl, rfl⟩ := run_ref cur day caps hc16 hcap hok hr
    have hws := play_len pl
    have hLm := play_may pl hmay
    have hgc : Ev (fun k => cashbookref30_Caps.f k (gr 16)) true := Ev.of (cashbookref30_Caps.mono · (gr 16)) (k := 40) (by decide +kernel)
    obtain ⟨R', f1, f2, f3⟩ := run_caps hl hmay hc hd (by rw [gr_len 16 (Nat.le_refl _)]; omega) hgc
    obtain ⟨ws', L', ts', pl', rfl⟩ := run_ref cur day (gr 16) (gr_len 16 (Nat.le_refl _)) (fun b hb => by rw [gr_get b hb]; omega) hok f2
    have hfree : ws' = [] ∧ L' = l := by
      cases pl' with
      | nil h => exact ⟨rfl, rfl⟩
      | cons hw hn ho h =>
        rw [gr_get _ hw] at ho
        have := bal_bd cur day hok hw
        omega
    obtain ⟨rfl, rfl⟩ := hfree
    refine ev_pos rfl ?_
    simp only [netL_len, List.length_map]
    refine ev_pos rfl (ev_pos (by omega) (ev_neg (by omega) (ev_call alive_ev ?_)))
    refine Ev.step (fun k => by rw [cashbooklaw30_NettingCaps.j0]) (ev_neg (by simp) ?_)
    refine play_loop L' cur day caps hc16 hc hd _ L rfl true ?_ pl rfl [] ([], 0) (fun e he => by cases he) (fun p hp => by cases hp) hmay rfl h0
    refine over_loop L' cur day caps hc16 L (may_okl hLm) (play_end pl) _ true ?_
    refine great_loop L' cur day L _ true ?_
    refine Ev.step (fun k => by rw [cashbooklaw30_NettingCaps.l3]) (ev_neg (by omega) (ev_call f1 (ev_call (net_of_may hmay hc hd) (ev_call (net_of_may hLm hc hd) ?_))))
    refine ev_pos rfl (ev_pos rfl (ev_pos rfl (ev_pos rfl (ev_call (nets_self _ (by rw [netL_len]; omega)) (ev_pos rfl (ev_call (nets_self _ (by rw [netL_len]; omega)) ev_ret))))))
end Go.Proofs.Ytcmaohhcbiienaa.P30
