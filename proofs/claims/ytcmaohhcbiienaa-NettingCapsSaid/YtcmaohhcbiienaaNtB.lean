/- Netting: how a net is settled: plain laws over the evaluator's functions. -/
import Derived.Test.YtcmaohhcbiienaaXQ1
import Derived.Test.YtcmaohhcbiienaaLEvX
set_option linter.unusedVariables false
namespace Go.Proofs.Ytcmaohhcbiienaa.P30
open Go.RowKit Go.Proofs.Ytcmaohhcbiienaa.X Go.Proofs.Ytcmaohhcbiienaa.L

def rdI (xs : List Int) (i : Int) : Int := xs.getD i.toNat 0
theorem rdI_nat (xs : List Int) (i : Nat) : rdI xs (i : Int) = xs.getD i 0 := rfl
def nz : List Int → Nat
  | [] => 0
  | a :: x => (if a = 0 then 0 else 1) + nz x
theorem nz_set : ∀ (x : List Int) (i : Nat) (v : Int), i < x.length → nz (x.set i v) + (if x.getD i 0 = 0 then 0 else 1) = nz x + (if v = 0 then 0 else 1)
  | [], i, v, h => by simp at h
  | a :: x, 0, v, _ => by simp only [List.set_cons_zero, nz, List.getD_cons_zero]; omega
  | a :: x, i + 1, v, h => by
    have := nz_set x i v (by simpa using h)
    simp only [List.set_cons_succ, nz, List.getD_cons_succ]; omega
theorem nz_pos {x : List Int} {j : Nat} (hj : j < x.length) (h : x.getD j 0 ≠ 0) : 1 ≤ nz x := by
  have := nz_set x j 0 hj
  rw [if_neg h, if_pos rfl] at this
  omega
theorem nz_append (x y : List Int) : nz (x ++ y) = nz x + nz y := by
  induction x with
  | nil => simp [nz]
  | cons a x ih => simp only [List.cons_append, nz, ih]; omega
theorem nz_le (x : List Int) : nz x ≤ x.length := by
  induction x with
  | nil => simp [nz]
  | cons a x ih => simp only [nz, List.length_cons]; split <;> omega
theorem nz_zero {x : List Int} (h : ∀ j, j < x.length → x.getD j 0 = 0) : nz x = 0 := by
  induction x with
  | nil => rfl
  | cons a x ih =>
    have h0 := h 0 (by simp)
    simp only [List.getD_cons_zero] at h0
    simp only [nz, h0, if_true]
    rw [ih (fun j hj => by have := h (j + 1) (by simpa using hj); simpa using this)]
theorem sum_pos_zero {x : List Int} (h : ∀ j, j < x.length → 0 ≤ x.getD j 0) : 0 ≤ x.sum ∧ (x.sum = 0 → ∀ j, j < x.length → x.getD j 0 = 0) := by
  induction x with
  | nil => simp
  | cons a x ih =>
    have h0 := h 0 (by simp)
    simp only [List.getD_cons_zero] at h0
    obtain ⟨i1, i2⟩ := ih (fun j hj => by have := h (j + 1) (by simpa using hj); simpa using this)
    simp only [List.sum_cons]
    refine ⟨by omega, fun hs j hj => ?_⟩
    cases j with
    | zero => simp only [List.getD_cons_zero]; omega
    | succ j => simp only [List.getD_cons_succ]; exact i2 (by omega) j (by simpa using hj)
theorem sum_neg_zero {x : List Int} (h : ∀ j, j < x.length → x.getD j 0 ≤ 0) : x.sum ≤ 0 ∧ (x.sum = 0 → ∀ j, j < x.length → x.getD j 0 = 0) := by
  induction x with
  | nil => simp
  | cons a x ih =>
    have h0 := h 0 (by simp)
    simp only [List.getD_cons_zero] at h0
    obtain ⟨i1, i2⟩ := ih (fun j hj => by have := h (j + 1) (by simpa using hj); simpa using this)
    simp only [List.sum_cons]
    refine ⟨by omega, fun hs j hj => ?_⟩
    cases j with
    | zero => simp only [List.getD_cons_zero]; omega
    | succ j => simp only [List.getD_cons_succ]; exact i2 (by omega) j (by simpa using hj)
theorem least (p : Nat → Prop) (n : Nat) : ∀ i, i ≤ n → ∃ F, i ≤ F ∧ F ≤ n ∧ (∀ j, i ≤ j → j < F → ¬ p j) ∧ (F = n ∨ p F) := by
  refine down n ⟨n, Nat.le_refl _, Nat.le_refl _, fun j h1 h2 => by omega, .inl rfl⟩ ?_
  intro i hi ⟨F, h1, h2, h3, h4⟩
  by_cases hp : p i
  · exact ⟨i, Nat.le_refl _, by omega, fun j h1 h2 => by omega, .inr hp⟩
  · refine ⟨F, by omega, h2, fun j hj1 hj2 => ?_, h4⟩
    rcases Nat.eq_or_lt_of_le hj1 with rfl | h
    · exact hp
    · exact h3 j h hj2

/-! ### one transfer -/
def app (x : List Int) (t : S45) : List Int := (x.set t.f0.toNat (wrap64 (rdI x t.f0 + t.f2))).set t.f1.toNat (wrap64 (rdI (x.set t.f0.toNat (wrap64 (rdI x t.f0 + t.f2))) t.f1 - t.f2))
def Bd (x : List Int) : Prop := ∀ j, j < 16 → -300000000000000 ≤ x.getD j 0 ∧ x.getD j 0 ≤ 300000000000000
def tr (x : List Int) (F T : Nat) : S45 := ⟨(F : Int), (T : Int), min (wrap64 (0 - rdI x (F : Int))) (rdI x (T : Int))⟩
theorem tr_val {x : List Int} (hb : Bd x) {F T : Nat} (hF : F < 16) (hT : T < 16) (hn : x.getD F 0 < 0) (hp : 0 < x.getD T 0) :
    (tr x F T).f2 ≤ - x.getD F 0 ∧ (tr x F T).f2 ≤ x.getD T 0 ∧ 1 ≤ (tr x F T).f2 ∧ ((tr x F T).f2 = - x.getD F 0 ∨ (tr x F T).f2 = x.getD T 0) := by
  have b1 := hb F hF
  have b2 := hb T hT
  have e : (tr x F T).f2 = min (0 - (x.getD F 0)) (x.getD T 0) := by
    show min (wrap64 (0 - (x.getD F 0))) (x.getD T 0) = _
    rw [wrap_id (by omega) (by omega)]
  rw [e]
  omega
structure Step (x y : List Int) (F T : Nat) : Prop where
  len : y.length = 16
  bd : Bd y
  sum : y.sum = x.sum
  less : nz y + 1 ≤ nz x
  two : nz y = 0 → 2 ≤ nz x
  neg : ∀ j, j < 16 → y.getD j 0 < 0 → x.getD j 0 < 0
  pos : ∀ j, j < 16 → 0 < y.getD j 0 → 0 < x.getD j 0
theorem step_of {x : List Int} (hl : x.length = 16) (hb : Bd x) {F T : Nat} (hF : F < 16) (hT : T < 16) (hn : x.getD F 0 < 0) (hp : 0 < x.getD T 0) : Step x (app x (tr x F T)) F T := by
  have hne : F ≠ T := by rintro rfl; omega
  obtain ⟨v1, v2, v3, v4⟩ := tr_val hb hF hT hn hp
  have b1 := hb F hF
  have b2 := hb T hT
  generalize hm : (tr x F T).f2 = m at *
  have eF : wrap64 (x.getD F 0 + m) = x.getD F 0 + m := wrap_id (by omega) (by omega)
  have eT : wrap64 (x.getD T 0 - m) = x.getD T 0 - m := wrap_id (by omega) (by omega)
  have gT : (x.set F (x.getD F 0 + m)).getD T 0 = x.getD T 0 := gset_ne hne _ _
  have ea : app x (tr x F T) = (x.set F (x.getD F 0 + m)).set T (x.getD T 0 - m) := by
    unfold app
    show (x.set F (wrap64 (x.getD F 0 + (tr x F T).f2))).set T (wrap64 ((x.set F (wrap64 (x.getD F 0 + (tr x F T).f2))).getD T 0 - (tr x F T).f2)) = _
    rw [hm, eF, gT, eT]
  rw [ea]
  have gv : ∀ b, ((x.set F (x.getD F 0 + m)).set T (x.getD T 0 - m)).getD b 0 = if b = T then x.getD T 0 - m else if b = F then x.getD F 0 + m else x.getD b 0 := by
    intro b
    by_cases h1 : b = T
    · rw [if_pos h1, h1, gset_same (by simp; omega)]
    · rw [if_neg h1, gset_ne (Ne.symm h1)]
      by_cases h2 : b = F
      · rw [if_pos h2, h2, gset_same (by omega)]
      · rw [if_neg h2, gset_ne (Ne.symm h2)]
  have n1 := nz_set x F (x.getD F 0 + m) (by omega)
  have n2 := nz_set (x.set F (x.getD F 0 + m)) T (x.getD T 0 - m) (by simp; omega)
  rw [gT] at n2
  rw [if_neg (by omega)] at n1 n2
  have less : nz ((x.set F (x.getD F 0 + m)).set T (x.getD T 0 - m)) + 1 ≤ nz x := by
    rcases v4 with v4 | v4
    · rw [if_pos (by omega)] at n1
      split at n2 <;> omega
    · rw [if_pos (by omega)] at n2
      split at n1 <;> omega
  refine ⟨by simp [hl], fun j hj => ?_, ?_, less, fun h0 => ?_, fun j hj => ?_, fun j hj => ?_⟩
  · rw [gv]
    have := hb j hj
    split
    · omega
    · split <;> omega
  · rw [sum_set _ _ _ (by simp; omega), sum_set _ _ _ (by omega), gT]; omega
  · rw [h0] at n2
    have hz : x.getD F 0 + m = 0 := by
      by_cases hz : x.getD F 0 + m = 0
      · exact hz
      · have := nz_pos (x := (x.set F (x.getD F 0 + m)).set T (x.getD T 0 - m)) (j := F) (by simp; omega) (by rw [gv, if_neg hne, if_pos rfl]; exact hz)
        omega
    have hz2 : x.getD T 0 - m = 0 := by
      by_cases hz : x.getD T 0 - m = 0
      · exact hz
      · have := nz_pos (x := (x.set F (x.getD F 0 + m)).set T (x.getD T 0 - m)) (j := T) (by simp; omega) (by rw [gv, if_pos rfl]; exact hz)
        omega
    rw [if_pos hz] at n1
    rw [if_pos hz2] at n2
    omega
  · rw [gv]
    split
    · omega
    · split
      · rename_i h; rw [h]; omega
      · exact id
  · rw [gv]
    split
    · rename_i h; rw [h]; omega
    · split
      · omega
      · exact id

/-! ### all transfers -/
structure Fin' (x : List Int) (ts : List S45) : Prop where
  each : ∀ t ∈ ts, 0 ≤ t.f0 ∧ t.f0 ≤ 15 ∧ 0 ≤ t.f1 ∧ t.f1 ≤ 15 ∧ 1 ≤ t.f2 ∧ rdI x t.f0 < 0 ∧ 0 < rdI x t.f1
  zero : x.sum = 0 → ∀ j, j < 16 → (ts.foldl app x).getD j 0 = 0
  few : x.sum = 0 → (ts = [] ∧ nz x = 0) ∨ ts.length + 1 ≤ nz x
  len : ts.length ≤ nz x
theorem fin_none {x : List Int} (hl : x.length = 16) (h : (∀ j, j < 16 → 0 ≤ x.getD j 0) ∨ (∀ j, j < 16 → x.getD j 0 ≤ 0)) : Fin' x [] := by
  have hz : x.sum = 0 → ∀ j, j < 16 → x.getD j 0 = 0 := by
    intro hs j hj
    rcases h with h | h
    · exact (sum_pos_zero (fun j hj => h j (by omega))).2 hs j (by omega)
    · exact (sum_neg_zero (fun j hj => h j (by omega))).2 hs j (by omega)
  exact ⟨by simp, hz, fun hs => .inl ⟨rfl, nz_zero (fun j hj => hz hs j (by omega))⟩, by simp⟩
theorem fin_cons {x : List Int} {F T : Nat} {ts : List S45} (hb : Bd x) (hF : F < 16) (hT : T < 16) (hn : x.getD F 0 < 0) (hp : 0 < x.getD T 0) (s : Step x (app x (tr x F T)) F T) (h : Fin' (app x (tr x F T)) ts) : Fin' x (tr x F T :: ts) := by
  obtain ⟨v1, v2, v3, v4⟩ := tr_val hb hF hT hn hp
  refine ⟨fun t ht => ?_, fun hs j hj => ?_, fun hs => .inr ?_, by have := h.len; have := s.less; simp only [List.length_cons]; omega⟩
  · rcases List.mem_cons.1 ht with rfl | ht
    · refine ⟨?_, ?_, ?_, ?_, v3, ?_, ?_⟩
      · show (0 : Int) ≤ (F : Int); omega
      · show (F : Int) ≤ 15; omega
      · show (0 : Int) ≤ (T : Int); omega
      · show (T : Int) ≤ 15; omega
      · show x.getD F 0 < 0; exact hn
      · show 0 < x.getD T 0; exact hp
    · obtain ⟨e1, e2, e3, e4, e5, e6, e7⟩ := h.each t ht
      refine ⟨e1, e2, e3, e4, e5, ?_, ?_⟩
      · exact s.neg t.f0.toNat (by omega) e6
      · exact s.pos t.f1.toNat (by omega) e7
  · rw [List.foldl_cons]
    exact h.zero (by rw [s.sum]; exact hs) j hj
  · rcases h.few (by rw [s.sum]; exact hs) with ⟨rfl, h0⟩ | h1
    · have := s.two h0
      simp only [List.length_cons, List.length_nil]; omega
    · have := s.less
      simp only [List.length_cons]; omega

theorem first_some (x : List Int) (turn : Int) (F : Nat) (hx : x.length ≤ 20) (hF : F < x.length) (hp : wrap64 (turn * x.getD F 0) < 0) (hm : ∀ j, j < F → ¬ wrap64 (turn * x.getD j 0) < 0) : Ev (fun k => cashbookref30_first.f k x turn) (F : Int) := by
  have key : ∀ i, i ≤ F → Ev (fun k => cashbookref30_first.l0 k turn x (x.length : Int) (i : Int)) (F : Int) := by
    refine down F ?_ ?_
    · refine Ev.step (fun k => by rw [cashbookref30_first.l0]) ?_
      refine ev_pos (by omega) (ev_pos (by omega) (ev_pos (by omega) ?_))
      exact ev_pos hp ev_ret
    · intro i hi ih
      refine Ev.step (fun k => by rw [cashbookref30_first.l0]) ?_
      refine ev_pos (by omega) (ev_pos (by omega) (ev_pos (by omega) (ev_neg (hm i hi) ?_)))
      rw [inc64 (by omega)]; exact ih
  exact key 0 (Nat.zero_le _)
theorem first_none (x : List Int) (turn : Int) (hx : x.length ≤ 20) (hm : ∀ j, j < x.length → ¬ wrap64 (turn * x.getD j 0) < 0) : Ev (fun k => cashbookref30_first.f k x turn) (-1) := by
  have key : ∀ i, i ≤ x.length → Ev (fun k => cashbookref30_first.l0 k turn x (x.length : Int) (i : Int)) (-1) := by
    refine down x.length ?_ ?_
    · exact Ev.step (fun k => by rw [cashbookref30_first.l0]) (ev_neg (by omega) ev_ret)
    · intro i hi ih
      refine Ev.step (fun k => by rw [cashbookref30_first.l0]) ?_
      refine ev_pos (by omega) (ev_pos (by omega) (ev_pos (by omega) (ev_neg (hm i hi) ?_)))
      rw [inc64 (by omega)]; exact ih
  exact key 0 (Nat.zero_le _)
theorem l1_ev (x : List Int) (acc : List S45) (t F : Nat) (r : List S45) (hx : x.length ≤ 20) (hF : F ≤ x.length) (hp : F = x.length ∨ x.getD F 0 < 0) (h : Ev (fun k => netting_settled.l2 k acc (F : Int) (t : Int) x) r) :
    ∀ i, i ≤ F → (∀ j, i ≤ j → j < F → ¬ x.getD j 0 < 0) → Ev (fun k => netting_settled.l1 k acc (i : Int) (t : Int) x) r := by
  refine down F ?_ ?_
  · intro _
    refine Ev.step (fun k => by rw [netting_settled.l1]) ?_
    rcases hp with hp | hp
    · exact ev_neg (by omega) (Ev.step (fun k => by rw [netting_settled.j0]) (ev_neg (by simp) h))
    · have : F < x.length := by
        rcases Nat.lt_or_ge F x.length with h1 | h1
        · exact h1
        · rw [List.getD_eq_getElem?_getD, List.getElem?_eq_none h1] at hp; simp at hp
      refine ev_pos (by omega) (ev_pos (by omega) (ev_pos (by omega) ?_))
      rw [Int.toNat_natCast, decide_eq_false (by omega)]
      exact Ev.step (fun k => by rw [netting_settled.j0]) (ev_neg (by simp) h)
  · intro i hi ih hm
    have := hm i (Nat.le_refl _) hi
    refine Ev.step (fun k => by rw [netting_settled.l1]) (ev_pos (by omega) (ev_pos (by omega) (ev_pos (by omega) ?_)))
    rw [Int.toNat_natCast, decide_eq_true (by omega)]
    refine Ev.step (fun k => by rw [netting_settled.j0]) (ev_pos rfl ?_)
    rw [inc64 (by omega)]
    exact ih (fun j h1 h2 => hm j (by omega) h2)
theorem l2_go (x : List Int) (acc : List S45) (F T : Nat) (r : List S45) (hx : x.length ≤ 20) (hT : T ≤ x.length) (h : Ev (fun k => netting_settled.l2 k acc (F : Int) (T : Int) x) r) :
    ∀ i, i ≤ T → (∀ j, i ≤ j → j < T → ¬ 0 < x.getD j 0) → Ev (fun k => netting_settled.l2 k acc (F : Int) (i : Int) x) r := by
  refine down T (fun _ => h) ?_
  intro i hi ih hm
  have := hm i (Nat.le_refl _) hi
  refine Ev.step (fun k => by rw [netting_settled.l2]) (ev_pos (by omega) (ev_pos (by omega) (ev_pos (by omega) ?_)))
  rw [Int.toNat_natCast, decide_eq_true (by omega)]
  refine Ev.step (fun k => by rw [netting_settled.j1]) (ev_pos rfl ?_)
  rw [inc64 (by omega)]
  exact ih (fun j h1 h2 => hm j (by omega) h2)
theorem l2_end (x : List Int) (acc : List S45) (F T : Nat) (r : List S45) (hx : x.length ≤ 20) (hT : T ≤ x.length) (hp : T = x.length ∨ 0 < x.getD T 0) (h : Ev (fun k => netting_settled.j2 k acc (F : Int) (T : Int) (decide (F = x.length ∨ T = x.length)) x) r) :
    Ev (fun k => netting_settled.l2 k acc (F : Int) (T : Int) x) r := by
  have go : Ev (fun k => netting_settled.j1 k acc (F : Int) (T : Int) false x) r := by
    refine Ev.step (fun k => by rw [netting_settled.j1]) (ev_neg (by simp) ?_)
    by_cases h1 : F = x.length
    · refine ev_pos (by omega) ?_
      rw [decide_eq_true (Or.inl h1)] at h
      exact h
    · refine ev_neg (by omega) ?_
      have e : decide ((T : Int) = (x.length : Int)) = decide (F = x.length ∨ T = x.length) := decide_eq_decide.2 (by omega)
      rw [e]
      exact h
  refine Ev.step (fun k => by rw [netting_settled.l2]) ?_
  by_cases h2 : T = x.length
  · exact ev_neg (by omega) go
  · have := hp.resolve_left h2
    refine ev_pos (by omega) (ev_pos (by omega) (ev_pos (by omega) ?_))
    rw [Int.toNat_natCast, decide_eq_false (by omega)]
    exact go
theorem turn1 {y : Int} (h1 : -300000000000000 ≤ y) (h2 : y ≤ 300000000000000) : wrap64 (1 * y) = y := by rw [Int.one_mul]; exact wrap_id (by omega) (by omega)
theorem turn2 {y : Int} (h1 : -300000000000000 ≤ y) (h2 : y ≤ 300000000000000) : wrap64 (-1 * y) = -y := by
  rw [show (-1 : Int) * y = -y by omega]; exact wrap_id (by omega) (by omega)

theorem settle_step (x : List Int) (acc : List S45) (i t : Nat) (hl : x.length = 16) (hb : Bd x) (hi : i ≤ 16) (ht : t ≤ 16) (hpi : ∀ j, j < i → 0 ≤ x.getD j 0) (hpt : ∀ j, j < t → x.getD j 0 ≤ 0) (ha : acc.length ≤ 1000)
    (rec : ∀ F T, F < 16 → T < 16 → x.getD F 0 < 0 → 0 < x.getD T 0 → (∀ j, j < F → 0 ≤ x.getD j 0) → (∀ j, j < T → x.getD j 0 ≤ 0) →
      ∃ ts, Ev (fun k => netting_settled.l0 k (acc ++ [tr x F T]) (F : Int) (T : Int) (app x (tr x F T))) (acc ++ [tr x F T] ++ ts) ∧ Ev (fun k => cashbookref30_Settle.l0 k (acc ++ [tr x F T]) (app x (tr x F T))) (acc ++ [tr x F T] ++ ts) ∧ Fin' (app x (tr x F T)) ts) :
    ∃ ts, Ev (fun k => netting_settled.l0 k acc (i : Int) (t : Int) x) (acc ++ ts) ∧ Ev (fun k => cashbookref30_Settle.l0 k acc x) (acc ++ ts) ∧ Fin' x ts := by
  obtain ⟨F, hF1, hF2, hF3, hF4⟩ := least (fun j => x.getD j 0 < 0) 16 i hi
  obtain ⟨T, hT1, hT2, hT3, hT4⟩ := least (fun j => 0 < x.getD j 0) 16 t ht
  have aF : ∀ j, j < F → 0 ≤ x.getD j 0 := fun j hj => by
    rcases Nat.lt_or_ge j i with h | h
    · exact hpi j h
    · have := hF3 j h hj; omega
  have aT : ∀ j, j < T → x.getD j 0 ≤ 0 := fun j hj => by
    rcases Nat.lt_or_ge j t with h | h
    · exact hpt j h
    · have := hT3 j h hj; omega
  have f1 : Ev (fun k => cashbookref30_first.f k x 1) (if F = 16 then -1 else (F : Int)) := by
    by_cases hF : F = 16
    · rw [if_pos hF]
      exact first_none x 1 (by omega) (fun j hj => by rw [turn1 (hb j (by omega)).1 (hb j (by omega)).2]; have := aF j (by omega); omega)
    · rw [if_neg hF]
      have hn := hF4.resolve_left hF
      exact first_some x 1 F (by omega) (by omega) (by rw [turn1 (hb F (by omega)).1 (hb F (by omega)).2]; exact hn) (fun j hj => by rw [turn1 (hb j (by omega)).1 (hb j (by omega)).2]; have := aF j hj; omega)
  have f2 : Ev (fun k => cashbookref30_first.f k x (-1)) (if T = 16 then -1 else (T : Int)) := by
    by_cases hT : T = 16
    · rw [if_pos hT]
      exact first_none x (-1) (by omega) (fun j hj => by rw [turn2 (hb j (by omega)).1 (hb j (by omega)).2]; have := aT j (by omega); omega)
    · rw [if_neg hT]
      have hn := hT4.resolve_left hT
      exact first_some x (-1) T (by omega) (by omega) (by rw [turn2 (hb T (by omega)).1 (hb T (by omega)).2]; omega) (fun j hj => by rw [turn2 (hb j (by omega)).1 (hb j (by omega)).2]; have := aT j hj; omega)
  have go : ∀ r, Ev (fun k => netting_settled.j2 k acc (F : Int) (T : Int) (decide (F = x.length ∨ T = x.length)) x) r → Ev (fun k => netting_settled.l0 k acc (i : Int) (t : Int) x) r := by
    intro r hr
    refine Ev.step (fun k => by rw [netting_settled.l0]) ?_
    refine l1_ev x acc t F r (by omega) (by omega) (by rw [hl]; exact hF4) ?_ i hF1 hF3
    exact l2_go x acc F T r (by omega) (by omega) (l2_end x acc F T r (by omega) (by omega) (by rw [hl]; exact hT4) hr) t hT1 hT3
  have goR : ∀ r, Ev (fun k => cashbookref30_Settle.j0 k acc (if F = 16 then -1 else (F : Int)) (if T = 16 then -1 else (T : Int)) (decide (F = 16 ∨ T = 16)) x) r → Ev (fun k => cashbookref30_Settle.l0 k acc x) r := by
    intro r hr
    refine Ev.step (fun k => by rw [cashbookref30_Settle.l0]) (ev_call f1 (ev_call f2 ?_))
    by_cases h1 : F = 16
    · rw [decide_eq_true (Or.inl h1)] at hr
      exact ev_pos (by rw [if_pos h1]; omega) hr
    · refine ev_neg (by rw [if_neg h1]; omega) ?_
      have e : decide ((if T = 16 then (-1 : Int) else (T : Int)) < 0) = decide (F = 16 ∨ T = 16) := by
        refine decide_eq_decide.2 ?_
        split <;> omega
      rw [e]
      exact hr
  by_cases hFT : F = 16 ∨ T = 16
  · refine ⟨[], ?_, ?_, fin_none hl (hFT.imp (fun h j hj => aF j (by omega)) fun h j hj => aT j (by omega))⟩
    · rw [List.append_nil]
      refine go _ ?_
      rw [decide_eq_true (by omega)]
      exact Ev.step (fun k => by rw [netting_settled.j2]) (ev_pos rfl ev_ret)
    · rw [List.append_nil]
      refine goR _ ?_
      rw [decide_eq_true hFT]
      exact Ev.step (fun k => by rw [cashbookref30_Settle.j0]) (ev_pos rfl ev_ret)
  · have hF : F ≠ 16 := fun h => hFT (.inl h)
    have hT : T ≠ 16 := fun h => hFT (.inr h)
    have hn := hF4.resolve_left hF
    have hp := hT4.resolve_left hT
    obtain ⟨ts, h1, h2, h3⟩ := rec F T (by omega) (by omega) hn hp aF aT
    rw [List.append_assoc] at h1 h2
    refine ⟨tr x F T :: ts, ?_, ?_, fin_cons hb (by omega) (by omega) hn hp (step_of hl hb (by omega) (by omega) hn hp) h3⟩
    · refine go _ ?_
      rw [decide_eq_false (by omega)]
      refine Ev.step (fun k => by rw [netting_settled.j2]) (ev_neg (by simp) ?_)
      simp only [List.length_set]
      exact ev_pos (by omega) (ev_pos (by omega) (ev_pos (by omega) (ev_pos (by omega) (ev_pos (by omega) (ev_pos (by omega) (ev_pos (by omega) (ev_pos (by omega) (ev_pos (by omega) h1))))))))
    · refine goR _ ?_
      rw [decide_eq_false hFT, if_neg hF, if_neg hT]
      refine Ev.step (fun k => by rw [cashbookref30_Settle.j0]) (ev_neg (by simp) ?_)
      simp only [List.length_set]
      exact ev_pos (by omega) (ev_pos (by omega) (ev_pos (by omega) (ev_pos (by omega) (ev_pos (by omega) (ev_pos (by omega) (ev_pos (by omega) (ev_pos (by omega) (ev_pos (by omega) h2))))))))
theorem settle_main (m : Nat) : ∀ (x : List Int) (acc : List S45) (i t : Nat), nz x ≤ m → x.length = 16 → Bd x → i ≤ 16 → t ≤ 16 → (∀ j, j < i → 0 ≤ x.getD j 0) → (∀ j, j < t → x.getD j 0 ≤ 0) → acc.length + m ≤ 1000 →
    ∃ ts, Ev (fun k => netting_settled.l0 k acc (i : Int) (t : Int) x) (acc ++ ts) ∧ Ev (fun k => cashbookref30_Settle.l0 k acc x) (acc ++ ts) ∧ Fin' x ts := by
  induction m with
  | zero =>
    intro x acc i t hm hl hb hi ht hpi hpt ha
    exact settle_step x acc i t hl hb hi ht hpi hpt (by omega) (fun F T hF hT hn hp _ _ => by have := (step_of hl hb hF hT hn hp).less; omega)
  | succ m ih =>
    intro x acc i t hm hl hb hi ht hpi hpt ha
    refine settle_step x acc i t hl hb hi ht hpi hpt (by omega) (fun F T hF hT hn hp aF aT => ?_)
    have s := step_of hl hb hF hT hn hp
    have hF1 := s.neg
    have hT1 := s.pos
    have hless := s.less
    refine ih _ _ F T (by omega) s.len s.bd (by omega) (by omega) (fun j hj => ?_) (fun j hj => ?_) (by simp; omega)
    · rcases Int.lt_or_le ((app x (tr x F T)).getD j 0) 0 with h | h
      · have := hF1 j (by omega) h
        have := aF j hj
        omega
      · exact h
    · rcases Int.lt_or_le 0 ((app x (tr x F T)).getD j 0) with h | h
      · have := hT1 j (by omega) h
        have := aT j hj
        omega
      · exact h
theorem settled_ev (x : List Int) (hl : x.length = 16) (hb : Bd x) : ∃ ts, Ev (fun k => netting_settled.f k x) ts ∧ Ev (fun k => cashbookref30_Settle.f k x) ts ∧ Fin' x ts := by
  have hz := nz_le x
  obtain ⟨ts, h1, h2, h3⟩ := settle_main 16 x [] 0 0 (by omega) hl hb (by omega) (by omega) (fun j hj => by omega) (fun j hj => by omega) (by simp)
  rw [List.nil_append] at h1 h2
  refine ⟨ts, ?_, ?_, h3⟩
  · unfold netting_settled.f
    refine ev_pure (a := x) ?_ h1
    unfold slices_Clone_int64_int64_s0.f
    rw [if_pos (by omega), if_pos (by omega)]
  · unfold cashbookref30_Settle.f
    exact ev_pos (by omega) h2
end Go.Proofs.Ytcmaohhcbiienaa.P30
