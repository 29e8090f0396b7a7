import Derived.Test.YtjhljcnjafbkfaaDoorQB8
import Derived.Test.YtjhljcnjafbkfaaDoorQB9
set_option linter.unusedSimpArgs false
set_option linter.unusedVariables false
set_option linter.unusedVariables false
namespace Go.Proofs.YtjhljcnjafbkfaaDoor.Pure
open Go.RowKit Go.Proofs.YtjhljcnjafbkfaaDoor.X Go.Proofs.YtjhljcnjafbkfaaDoor.L
theorem ahead_step {y m n i : Int} {r : Int} (hy : 0 ≤ y) (hi : 1 ≤ i) (him : i < m) (hm : m ≤ 12) (hn : 0 ≤ n) (hn2 : n ≤ 1000) (h : Ev (fun k => daycount_ahead.l0 k y m (n + (cm y (i + 1) - cm y i)) (i + 1)) r) : Ev (fun k => daycount_ahead.l0 k y m n i) r := by
  have hl := lp_b y
  have w1 : wrap64 (i + 1) = i + 1 := wrap_id (by omega) (by omega)
  have j1 : ∀ a : Int, a = n + (cm y (i + 1) - cm y i) → Ev (fun k => daycount_ahead.j1 k y m a i) r := fun a e => by
    refine Ev.step (fun k => by simp only [daycount_ahead.j1]; rfl) ?_
    rw [w1, e]
    exact h
  have w29 : wrap64 (n + 29) = n + 29 := wrap_id (by omega) (by omega)
  have w28 : wrap64 (n + 28) = n + 28 := wrap_id (by omega) (by omega)
  have w30 : wrap64 (n + 30) = n + 30 := wrap_id (by omega) (by omega)
  have w31 : wrap64 (n + 31) = n + 31 := wrap_id (by omega) (by omega)
  have hml := ml_eq y i hi (by omega)
  refine Ev.step (fun k => by simp only [daycount_ahead.l0]; rfl) (ev_pos him ?_)
  by_cases e2 : i = 2
  · rw [if_pos e2] at hml
    refine ev_pos e2 (ev_pure (Leap_eq hy) (Ev.step (fun k => by simp only [daycount_ahead.j0]; rfl) ?_))
    rcases lp_cases y with ⟨h3, e⟩ | ⟨h3, e⟩
    · refine ev_pos (decide_eq_true h3) ?_
      rw [w29]
      exact j1 _ (by omega)
    · refine ev_neg (by simpa using h3) (ev_pos e2 ?_)
      rw [w28]
      exact j1 _ (by omega)
  · rw [if_neg e2] at hml
    refine ev_neg e2 (Ev.step (fun k => by simp only [daycount_ahead.j0]; rfl) (ev_neg (by decide) (ev_neg e2 ?_)))
    have j2 : ∀ b : Bool, (b = true → cm y (i + 1) - cm y i = 30) → (b = false → cm y (i + 1) - cm y i = 31) → Ev (fun k => daycount_ahead.j2 k y m n i b) r := fun b h1 h2 => by
      cases b with
      | true => refine Ev.step (fun k => by simp only [daycount_ahead.j2]; rfl) (ev_pos (c := true = true) rfl ?_); rw [w30]; exact j1 _ (by rw [h1 rfl])
      | false => refine Ev.step (fun k => by simp only [daycount_ahead.j2]; rfl) (ev_neg (by decide) ?_); rw [w31]; exact j1 _ (by rw [h2 rfl])
    by_cases e4 : i = 4
    · rw [if_pos (.inl e4)] at hml; exact ev_pos e4 (j2 true (fun _ => hml) (fun h => by cases h))
    · refine ev_neg e4 ?_
      by_cases e6 : i = 6
      · rw [if_pos (.inr (.inl e6))] at hml; exact ev_pos e6 (j2 true (fun _ => hml) (fun h => by cases h))
      · refine ev_neg e6 ?_
        by_cases e9 : i = 9
        · rw [if_pos (.inr (.inr (.inl e9)))] at hml; exact ev_pos e9 (j2 true (fun _ => hml) (fun h => by cases h))
        · refine ev_neg e9 (j2 _ (fun h => ?_) (fun h => ?_))
          · rw [if_pos (.inr (.inr (.inr (of_decide_eq_true h))))] at hml; exact hml
          · have := of_decide_eq_false h
            rw [if_neg (by omega)] at hml; exact hml
theorem ahead_loop {y m : Int} (hy : 0 ≤ y) (hm : m ≤ 12) : ∀ (j : Nat) (i n : Int), m - i = (j : Int) → 1 ≤ i → 0 ≤ n → n ≤ 30 + cm y i → Ev (fun k => daycount_ahead.l0 k y m n i) (n + (cm y m - cm y i))
  | 0, i, n, hj, hi, hn, _ => by
    obtain rfl : i = m := by omega
    exact Ev.step (fun k => by simp only [daycount_ahead.l0]; rfl) (ev_neg (by omega) (ev_eq (by omega)))
  | j + 1, i, n, hj, hi, hn, hb => by
    have hs := cm_step y i hi (by omega)
    have hc := cm_mono (y := y) (m := i) (n := 13) hi (by omega) (by omega)
    rw [cm_end] at hc
    have hl := lp_b y
    have := ahead_loop hy hm j (i + 1) (n + (cm y (i + 1) - cm y i)) (by omega) (by omega) (by omega) (by omega)
    rw [show n + (cm y (i + 1) - cm y i) + (cm y m - cm y (i + 1)) = n + (cm y m - cm y i) by omega] at this
    exact ahead_step hy hi (by omega) hm hn (by omega) this
theorem ahead_ev {x y m d : Int} (h : Day x y m d) : Ev (fun k => daycount_ahead.f k y m d) (x - ys y) := by
  have hb := h.b
  have y1 := h.y1
  have he := h.e
  unfold dn at he
  have := ahead_loop (y := y) (m := m) (by omega) hb.2.1 (m - 1).toNat 1 (d - 1) (by omega) (by omega) (by omega) (by rw [cm_one]; omega)
  rw [cm_one, show d - 1 + (cm y m - 0) = x - ys y by omega] at this
  unfold daycount_ahead.f
  rw [wrap_id (x := d - 1) (by omega) (by omega)]
  exact this
def pp (y x : Int) : Int := 133590 * y + (x - ys y) * (366 - lp y)
theorem pp_next (y : Int) : pp y (ys (y + 1)) = pp (y + 1) (ys (y + 1)) := by
  unfold pp
  rw [ys_succ]
  rcases lp_cases y with ⟨_, e⟩ | ⟨_, e⟩ <;> rw [e] <;> omega
theorem pp_diff (y a b : Int) : pp y b - pp y a = (b - a) * (366 - lp y) := by
  unfold pp
  rcases lp_cases y with ⟨_, e⟩ | ⟨_, e⟩ <;> rw [e] <;> omega
theorem pp_le {y a b : Int} (h : a ≤ b) : pp y a ≤ pp y b := by
  unfold pp
  rcases lp_cases y with ⟨_, e⟩ | ⟨_, e⟩ <;> rw [e] <;> omega
theorem pp_bound {y x : Int} (h1 : ys y ≤ x) (h2 : x ≤ ys (y + 1)) : 133590 * y ≤ pp y x ∧ pp y x ≤ 133590 * y + 133590 := by
  rw [ys_succ] at h2
  unfold pp
  rcases lp_cases y with ⟨_, e⟩ | ⟨_, e⟩ <;> rw [e] at h2 ⊢ <;> omega
theorem divInt_year (n y : Int) : Rat.divInt n (365 + lp y) = mkRat (n * (366 - lp y)) 133590 := by
  rcases lp_cases y with ⟨_, e⟩ | ⟨_, e⟩ <;> rw [e]
  · have h := Rat.mkRat_mul_right (n := n) (d := 366) (a := 365) (by decide)
    have h2 : Rat.divInt n (365 + 1) = mkRat n 366 := Rat.divInt_ofNat n 366
    rw [h2, ← h]; rfl
  · have h := Rat.mkRat_mul_right (n := n) (d := 365) (a := 366) (by decide)
    have h2 : Rat.divInt n (365 + 0) = mkRat n 365 := Rat.divInt_ofNat n 365
    rw [h2, ← h]; rfl
theorem mkRat_add_same (a b : Int) : mkRat a 133590 + mkRat b 133590 = mkRat (a + b) 133590 := by
  rw [Rat.mkRat_add_mkRat _ _ (by decide) (by decide), ← Rat.mkRat_mul_right (n := a + b) (d := 133590) (a := 133590) (by decide)]
  rw [Int.add_mul]
theorem wrap32_id {x : Int} (h1 : -2147483648 ≤ x) (h2 : x ≤ 2147483647) : wrap32 x = x := by unfold wrap32; omega
theorem years_ev {t yt : Int} (t1 : -50000 ≤ t) (t2 : t ≤ 50000) (ht1 : ys yt ≤ t) (ht2 : t < ys (yt + 1)) : ∀ (j : Nat) (f yf : Int) (s : RatT) (A : Int), t - f ≤ (j : Int) → -50000 ≤ f → f ≤ t → ys yf ≤ f → f < ys (yf + 1) → Rp s (mkRat A 133590) → 0 ≤ A → A + (pp yt t - pp yf f) ≤ 1000000000000 →
    ∃ r, Ev (fun k => daycount_Part.l k f t s) r ∧ Rp r (mkRat (A + (pp yt t - pp yf f)) 133590) := by
  intro j
  induction j with
  | zero =>
    intro f yf s A hj f1 hft hf1 hf2 hs hA hB
    obtain rfl : f = t := by omega
    obtain rfl := yr_one hf1 hf2 ht1 ht2
    refine ⟨s, Ev.step (fun k => by simp only [daycount_Part.l]; rfl) (ev_neg (by omega) ev_ret), ?_⟩
    rw [show A + (pp yf f - pp yf f) = A by omega]
    exact hs
  | succ j ih =>
    intro f yf s A hj f1 hft hf1 hf2 hs hA hB
    by_cases hlt : f < t
    · obtain ⟨y, m, d, hd⟩ := day_of f1 (by omega)
      have hyd := hd.v.year
      rw [hd.e] at hyd
      obtain rfl := yr_one hyd.1 hyd.2 hf1 hf2
      have y1 := hd.y1
      have y2 := hd.y2
      have hl := lp_b y
      have hsu := ys_succ y
      obtain ⟨x, hx⟩ : ∃ x, x = min t (ys (y + 1)) := ⟨_, rfl⟩
      have hyt : y ≤ yt := by
        refine Int.le_of_not_gt fun h => ?_
        have := ys_mono (show yt + 1 ≤ y by omega)
        omega
      -- where we are then
      have hnext : ∃ z, ys z ≤ x ∧ x < ys (z + 1) ∧ pp z x = pp y x := by
        by_cases h : t < ys (y + 1)
        · exact ⟨y, by omega, by omega, rfl⟩
        · refine ⟨y + 1, by omega, ?_, ?_⟩
          · have := ys_succ (y + 1)
            have := lp_b (y + 1)
            omega
          · rw [show x = ys (y + 1) by omega]; exact (pp_next y).symm
      obtain ⟨z, z1, z2, z3⟩ := hnext
      have hdiff := pp_diff y f x
      have hle := pp_le (y := y) (show f ≤ x by omega)
      have htot : pp z x ≤ pp yt t := by
        by_cases h : t < ys (y + 1)
        · have e1 : x = t := by omega
          rw [e1] at z1 z2 ⊢
          obtain rfl := yr_one z1 z2 ht1 ht2
          exact Int.le_refl _
        · have b1 := pp_bound z1 (Int.le_of_lt z2)
          have b2 := pp_bound ht1 (Int.le_of_lt ht2)
          have e1 : x = ys (y + 1) := by omega
          have e2 : pp z x = 133590 * (y + 1) := by
            rw [z3, e1, pp_next]; unfold pp; omega
          have : y + 1 ≤ yt := by
            refine Int.le_of_not_gt fun h' => ?_
            obtain rfl : yt = y := by omega
            omega
          omega
      have hA2 : A + (pp y x - pp y f) ≤ 1000000000000 := by omega
      obtain ⟨r1, o1, o2⟩ := Of_out (n := x - f) (d := 365 + lp y) (by omega) (by omega) (by omega) (by omega) (by omega)
      rw [divInt_year, ← hdiff] at o2
      obtain ⟨u, e, a1, a2⟩ := Add_out hs o2
      rw [mkRat_add_same] at a2
      have hfit : Fits (mkRat (A + (pp y x - pp y f)) 133590) := small_fits (by omega) (by decide) (by decide)
      rcases a2 with ⟨_, a2, rfl⟩ | ⟨h, _⟩
      · obtain ⟨r, b1, b2⟩ := ih x z u (A + (pp y x - pp y f)) (by omega) (by omega) (by omega) z1 z2 a2 (by omega) (by rw [z3]; omega)
        refine ⟨r, Ev.step (fun k => by simp only [daycount_Part.l]; rfl) (ev_pos hlt (ev_call hd.s (ev_pure (Leap_eq (y := y) (show 0 ≤ y by omega)) (ev_call (ahead_ev hd) ?_)))), ?_⟩
        · have hof : (if decide (isL y) = true then (366 : Int) else 365) = 365 + lp y := by
            rcases lp_cases y with ⟨h3, e⟩ | ⟨h3, e⟩ <;> simp [h3, e]
          have w1 : wrap32 (f - ys y) = f - ys y := wrap32_id (by omega) (by omega)
          have w2 : wrap32 (f - (f - ys y)) = ys y := by rw [wrap32_id (by omega) (by omega)]; omega
          have hys : ys 1860 ≤ ys y := ys_mono y1
          rw [ys_1860] at hys
          have w3 : wrap64 (ys y) = ys y := wrap_id (by omega) (by omega)
          have w4 : wrap64 (ys y + (365 + lp y)) = ys (y + 1) := by rw [wrap_id (by omega) (by omega)]; omega
          have w5 : wrap64 t = t := wrap_id (by omega) (by omega)
          have w6 : wrap64 f = f := wrap_id (by omega) (by omega)
          have w7 : wrap64 (x - f) = x - f := wrap_id (by omega) (by omega)
          have w8 : wrap32 (x - f) = x - f := wrap32_id (by omega) (by omega)
          have w9 : wrap32 (f + (x - f)) = x := by rw [wrap32_id (by omega) (by omega)]; omega
          simp only [hof, w1, w2, w3, w4, w5, w6, ← hx, w7, w8, w9]
          exact ev_call o1 (ev_call a1 b1)
        · rw [show A + (pp y x - pp y f) + (pp yt t - pp z x) = A + (pp yt t - pp y f) by rw [z3]; omega] at b2
          exact b2
      · exact absurd hfit h
    · obtain rfl : f = t := by omega
      obtain rfl := yr_one hf1 hf2 ht1 ht2
      refine ⟨s, Ev.step (fun k => by simp only [daycount_Part.l]; rfl) (ev_neg (by omega) ev_ret), ?_⟩
      rw [show A + (pp yf f - pp yf f) = A by omega]
      exact hs
theorem gcdR_loop {n d : Int} (n0 : 0 ≤ n) (n1 : n ≤ 1000000000000000) (d0 : 0 < d) (d1 : d ≤ 1000000000000000) {z : RatT} : ∀ (j : Nat) (a b : Int), b ≤ (j : Int) → 0 ≤ a → 0 ≤ b → (Nat.gcd a.toNat b.toNat = Nat.gcd n.toNat d.toNat) → ∃ r, Ev (fun k => cashbookref05_Of.l0 k n d a b z) r ∧ Rp r (mkRat n d.toNat) := by
  have fin : ∀ a b : Int, b = 0 → 0 ≤ a → (Nat.gcd a.toNat b.toNat = Nat.gcd n.toNat d.toNat) → ∃ r, Ev (fun k => cashbookref05_Of.l0 k n d a b z) r ∧ Rp r (mkRat n d.toNat) := fun a b hb ha hg => by
    subst hb
    rw [show (0 : Int).toNat = 0 from rfl, Nat.gcd_zero_right] at hg
    obtain ⟨g, hgd⟩ : ∃ g, g = Nat.gcd n.toNat d.toNat := ⟨_, rfl⟩
    have hgp : 0 < g := by rw [hgd]; exact Nat.gcd_pos_of_pos_right _ (by omega)
    obtain ⟨p, hp⟩ : g ∣ n.toNat := by rw [hgd]; exact Nat.gcd_dvd_left _ _
    obtain ⟨q, hq⟩ : g ∣ d.toNat := by rw [hgd]; exact Nat.gcd_dvd_right _ _
    have ea : a = (g : Int) := by omega
    have en : n = (g : Int) * (p : Int) := by
      have : ((n.toNat : Nat) : Int) = ((g * p : Nat) : Int) := by rw [hp]
      push_cast at this; omega
    have ed : d = (g : Int) * (q : Int) := by
      have : ((d.toNat : Nat) : Int) = ((g * q : Nat) : Int) := by rw [hq]
      push_cast at this; omega
    have e1 : Int.tdiv n a = (p : Int) := by rw [tdiv_pos n0, ea, en, Int.mul_ediv_cancel_left _ (by omega)]
    have e2 : Int.tdiv d a = (q : Int) := by rw [tdiv_pos (by omega), ea, ed, Int.mul_ediv_cancel_left _ (by omega)]
    have p1 : (p : Int) ≤ n := by have := Int.mul_le_mul_of_nonneg_right (show (1 : Int) ≤ (g : Int) by omega) (show 0 ≤ (p : Int) by omega); omega
    have q1 : (q : Int) ≤ d := by have := Int.mul_le_mul_of_nonneg_right (show (1 : Int) ≤ (g : Int) by omega) (show 0 ≤ (q : Int) by omega); omega
    obtain ⟨x, x1, x2, x3, x4⟩ := OfR_ev (u := (p : Int)) (by omega) (by omega)
    obtain ⟨y, y1, y2, y3, y4⟩ := OfR_ev (u := (q : Int)) (by omega) (by omega)
    have nx := nv_cast x2.dg
    have ny := nv_cast y2.dg
    have hz : d.toNat ≠ 0 := by omega
    have hgc : Nat.gcd d.toNat n.natAbs = g := by rw [Nat.gcd_comm, hgd]; congr 1; omega
    have qn : (mkRat n d.toNat).num = (p : Int) := by
      rw [Rat.num_mkRat, if_neg hz, hgc, en, Int.mul_ediv_cancel_left _ (by omega)]
    have qd : (mkRat n d.toNat).den = q := by
      rw [Rat.den_mkRat, if_neg hz, hgc, hq, Nat.mul_div_cancel_left _ hgp]
    refine ⟨⟨false, x, y⟩, Ev.step (fun k => by simp only [cashbookref05_Of.l0]; rfl) (ev_neg (by omega) (ev_neg (by omega) ?_)), ⟨x2, y2, by show x.length ≤ _; omega, by show y.length ≤ _; omega, ?_, ?_, ?_⟩⟩
    · rw [e1, e2, wrap_id (x := (p : Int)) (by omega) (by omega), wrap_id (x := (q : Int)) (by omega) (by omega), u64_id (n := (p : Int)) (by omega) (by omega), u64_id (n := (q : Int)) (by omega) (by omega)]
      exact ev_call x1 (ev_neg (by omega) (ev_call y1 ev_ret))
    · show nv x = _
      rw [qn]; omega
    · show nv y = _
      rw [qd]; omega
    · show false = _
      rw [qn]
      exact (decide_eq_false (by omega)).symm
  intro j
  induction j with
  | zero => intro a b hj ha hb hg; exact fin a b (by omega) ha hg
  | succ j ih =>
    intro a b hj ha hb hg
    by_cases h0 : b = 0
    · exact fin a b h0 ha hg
    · have m0 : 0 ≤ a % b := Int.emod_nonneg _ (by omega)
      have m1 : a % b < b := Int.emod_lt_of_pos _ (by omega)
      obtain ⟨r, r1, r2⟩ := ih b (a % b) (by omega) hb m0 (by
        rw [← hg, Int.toNat_emod ha hb, Nat.gcd_comm, ← Nat.gcd_rec, Nat.gcd_comm])
      refine ⟨r, Ev.step (fun k => by simp only [cashbookref05_Of.l0]; rfl) (ev_pos (by omega) (ev_neg h0 ?_)), r2⟩
      rw [tmod_pos ha]
      exact r1
theorem RefOf_ev {n d : Int} (n0 : 0 ≤ n) (n1 : n ≤ 1000000000000000) (d0 : 0 < d) (d1 : d ≤ 1000000000000000) : ∃ r, Ev (fun k => cashbookref05_Of.f k n d) r ∧ Rp r (mkRat n d.toNat) := by
  unfold cashbookref05_Of.f
  exact gcdR_loop n0 n1 d0 d1 d.toNat n d (by omega) n0 (by omega) rfl
theorem rat_eq (a b : RatT) : (a.f0 = b.f0 ∧ a.f1 = b.f1 ∧ a.f2 = b.f2) ↔ a = b := by cases a; cases b; simp
instance : DecidableEq RatT := fun a b => decidable_of_iff _ (rat_eq a b)
theorem RSame_ev {a b : RatT} (l1 : a.f1.length ≤ 1000000) (l2 : a.f2.length ≤ 1000000) : Ev (fun k => cashbookref05_Same.f k a b) (decide (a = b)) := by
  unfold cashbookref05_Same.f
  have hab : a = b ↔ a.f0 = b.f0 ∧ a.f1 = b.f1 ∧ a.f2 = b.f2 := by cases a; cases b; simp
  refine ev_call (Same_ev (by omega)) (ev_call (Same_ev (by omega)) ?_)
  by_cases h1 : a.f1 = b.f1
  · refine ev_pos (decide_eq_true h1) ?_
    by_cases h2 : a.f2 = b.f2
    · refine ev_pos (decide_eq_true h2) (ev_eq ?_)
      by_cases h3 : a.f0 = b.f0
      · rw [decide_eq_true (hab.2 ⟨h3, h1, h2⟩), h3]; simp
      · rw [decide_eq_false (fun h => h3 (hab.1 h).1)]; simpa using h3
    · refine ev_neg (by simpa using h2) (ev_eq ?_)
      exact (decide_eq_false (fun h => h2 (hab.1 h).2.2)).symm
  · refine ev_neg (by simpa using h1) (ev_eq ?_)
    exact (decide_eq_false (fun h => h1 (hab.1 h).2.1)).symm
theorem first_up {y : Int} (h0 : 2000 ≤ y) (h1 : y ≤ 2400) : ∀ (j : Nat) (x : Int), y - x = (j : Int) → 2000 ≤ x → Ev (fun k => cashbookref04_Of.l1 k y (ys x) x) (ys y)
  | 0, x, hj, hx => by
    obtain rfl : x = y := by omega
    refine Ev.step (fun k => by simp only [cashbookref04_Of.l1]; rfl) (ev_neg (by omega) ?_)
    exact Ev.step (fun k => by simp only [cashbookref04_Of.l2]; rfl) (ev_neg (by omega) ev_ret)
  | j + 1, x, hj, hx => by
    have hl := lp_b x
    have hs := ys_succ x
    have m1 := ys_mono (show 2000 ≤ x from hx)
    have m2 := ys_mono (show x ≤ 2400 by omega)
    have e : ys 2400 = 146097 := by decide
    rw [ys_2000] at m1
    have := first_up h0 h1 j (x + 1) (by omega) (by omega)
    refine Ev.step (fun k => by simp only [cashbookref04_Of.l1]; rfl) (ev_pos (by omega) (ev_pure (year_eq (by omega)) ?_))
    rw [wrap_id (x := ys x + (365 + lp x)) (by omega) (by omega), wrap_id (x := x + 1) (by omega) (by omega), show ys x + (365 + lp x) = ys (x + 1) by omega]
    exact this
theorem first_down {y : Int} (h0 : 1800 ≤ y) : ∀ (j : Nat) (x n : Int), 2000 - x = (j : Int) → y ≤ x → n = -(ys x - ys y) → Ev (fun k => cashbookref04_Of.l2 k n x) (ys y)
  | 0, x, n, hj, hx, hn => by
    obtain rfl : x = 2000 := by omega
    rw [ys_2000] at hn
    exact Ev.step (fun k => by simp only [cashbookref04_Of.l2]; rfl) (ev_neg (by omega) (ev_eq (by omega)))
  | j + 1, x, n, hj, hx, hn => by
    have hl := lp_b x
    have hs := ys_succ x
    have m1 := ys_mono (show 1800 ≤ y from h0)
    have m2 := ys_mono (show x ≤ 2000 by omega)
    have m3 := ys_mono hx
    have e : ys 1800 = -73048 := by decide
    rw [ys_2000] at m2
    have := first_down h0 j (x + 1) (n - (365 + lp x)) (by omega) (by omega) (by omega)
    refine Ev.step (fun k => by simp only [cashbookref04_Of.l2]; rfl) (ev_pos (by omega) (ev_pure (year_eq (by omega)) ?_))
    rw [wrap_id (x := n - (365 + lp x)) (by omega) (by omega), wrap_id (x := x + 1) (by omega) (by omega)]
    exact this
theorem first_ev {y : Int} (h0 : 1800 ≤ y) (h1 : y ≤ 2400) : Ev (fun k => cashbookref04_Of.f k y 1 1) (ys y) := by
  unfold cashbookref04_Of.f
  rw [show wrap64 ((1 : Int) - 1) = 0 by unfold wrap64; omega]
  refine Ev.step (fun k => by simp only [cashbookref04_Of.l0]; rfl) (ev_neg (by decide) ?_)
  by_cases h : 2000 ≤ y
  · have := first_up h h1 (y - 2000).toNat 2000 (by omega) (by omega)
    rw [ys_2000] at this
    exact this
  · refine Ev.step (fun k => by simp only [cashbookref04_Of.l1]; rfl) (ev_neg (by omega) ?_)
    exact first_down h0 (2000 - y).toNat y 0 (by omega) (by omega) (by omega)
end Go.Proofs.YtjhljcnjafbkfaaDoor.Pure
