import Derived.Test.YtjhljcnjafbkfaaDoorQC10
import Derived.Test.YtjhljcnjafbkfaaDoorQC11
set_option linter.unusedSimpArgs false
set_option linter.unusedVariables false
section
set_option linter.unusedVariables false
namespace Go.Proofs.YtjhljcnjafbkfaaDoor.Pure
open Go.RowKit Go.Proofs.YtjhljcnjafbkfaaDoor.X Go.Proofs.YtjhljcnjafbkfaaDoor.L
theorem pp_first (y : Int) : pp y (ys y) = 133590 * y := by unfold pp; omega
theorem counts_ev {f t yf m d yt p e : Int} {z : RatT} (f1 : -50000 ≤ f) (t2 : t ≤ 50000) (hft : f ≤ t) (hf : Day f yf m d) (ht : Day t yt p e) : ∀ (j : Nat) (y S L : Int), yt + 1 - y = (j : Int) → yf ≤ y → 0 ≤ S → 0 ≤ L →
    S + L = (if y ≤ yt then max f (ys y) else t) - f → 366 * S + 365 * L = (if y ≤ yt then pp y (max f (ys y)) else pp yt t) - pp yf f →
    ∃ r, Ev (fun k => cashbookref05_Part.l0 k f t S L y (⟨yt, p, e⟩ : P3) z) (r, 0) ∧ Rp r (mkRat (pp yt t - pp yf f) 133590) := by
  have hyf := hf.v.year
  rw [hf.e] at hyf
  have hyt := ht.v.year
  rw [ht.e] at hyt
  have a1 := hf.y1
  have a2 := hf.y2
  have b1 := ht.y1
  have b2 := ht.y2
  intro j
  induction j with
  | zero =>
    intro y S L hj hy hS hL hs hp
    rw [if_neg (by omega)] at hs hp
    obtain ⟨r, r1, r2⟩ := RefOf_ev (n := 366 * S + 365 * L) (d := 133590) (by omega) (by omega) (by decide) (by decide)
    refine ⟨r, Ev.step (fun k => by simp only [cashbookref05_Part.l0]; rfl) (ev_neg (by show ¬ y ≤ yt; omega) ?_), by rw [← hp]; exact r2⟩
    rw [wrap_id (x := 366 * S) (by omega) (by omega), wrap_id (x := 365 * L) (by omega) (by omega), wrap_id (x := 366 * S + 365 * L) (by omega) (by omega)]
    exact ev_call r1 ev_ret
  | succ j ih =>
    intro y S L hj hy hS hL hs hp
    rw [if_pos (by omega)] at hs hp
    obtain ⟨a, ha⟩ : ∃ a, a = max f (ys y) := ⟨_, rfl⟩
    obtain ⟨b, hb⟩ : ∃ b, b = min t (ys (y + 1)) := ⟨_, rfl⟩
    rw [← ha] at hs hp
    have hys := ys_succ y
    have hl := lp_b y
    have m1 := ys_mono (show yf + 1 ≤ y + 1 by omega)
    have m2 := ys_mono (show y ≤ yt by omega)
    have hab : a ≤ b := by omega
    have hdiff := pp_diff y a b
    have hb2 : (if y + 1 ≤ yt then max f (ys (y + 1)) else t) = b := by
      by_cases h : y + 1 ≤ yt
      · rw [if_pos h]
        have := ys_mono (show y + 1 ≤ yt from h)
        omega
      · rw [if_neg h]
        obtain rfl : y = yt := by omega
        omega
    have hpb : (if y + 1 ≤ yt then pp (y + 1) (max f (ys (y + 1))) else pp yt t) = pp y b := by
      by_cases h : y + 1 ≤ yt
      · rw [if_pos h] at hb2 ⊢
        have := ys_mono (show y + 1 ≤ yt from h)
        rw [hb2, show b = ys (y + 1) by omega, pp_next]
      · rw [if_neg h] at hb2 ⊢
        obtain rfl : y = yt := by omega
        rw [hb2]
    have hF := first_ev (y := y) (by omega) (by omega)
    have hG := first_ev (y := y + 1) (by omega) (by omega)
    have hgo : ∀ S' L' r, Ev (fun k => cashbookref05_Part.l0 k f t S' L' (y + 1) (⟨yt, p, e⟩ : P3) z) r → Ev (fun k => cashbookref05_Part.j0 k f t S' L' y (⟨yt, p, e⟩ : P3) z) r := fun S' L' r h => by
      refine Ev.step (fun k => by simp only [cashbookref05_Part.j0]; rfl) ?_
      rw [wrap_id (x := y + 1) (by omega) (by omega)]
      exact h
    have wt : wrap64 t = t := wrap_id (by omega) (by omega)
    have wf : wrap64 f = f := wrap_id (by omega) (by omega)
    have wy : wrap64 (y + 1) = y + 1 := wrap_id (by omega) (by omega)
    rcases lp_cases y with ⟨h3, e3⟩ | ⟨h3, e3⟩
    · rw [e3] at hdiff
      obtain ⟨r, r1, r2⟩ := ih (y + 1) S (L + b - a) (by omega) (by omega) hS (by omega) (by rw [hb2]; omega) (by rw [hpb]; omega)
      refine ⟨r, Ev.step (fun k => by simp only [cashbookref05_Part.l0]; rfl) (ev_pos (by show y ≤ yt; omega) (ev_call hF ?_)), r2⟩
      rw [wy, wt, wf]
      refine ev_call hG (ev_pure (Long_eq (y := y) (show 0 ≤ y by omega)) (ev_pos (decide_eq_true h3) ?_))
      rw [← hb, ← ha, wrap_id (x := L + b) (by omega) (by omega), wrap_id (x := L + b - a) (by omega) (by omega)]
      exact hgo _ _ _ r1
    · rw [e3] at hdiff
      obtain ⟨r, r1, r2⟩ := ih (y + 1) (S + b - a) L (by omega) (by omega) (by omega) hL (by rw [hb2]; omega) (by rw [hpb]; omega)
      refine ⟨r, Ev.step (fun k => by simp only [cashbookref05_Part.l0]; rfl) (ev_pos (by show y ≤ yt; omega) (ev_call hF ?_)), r2⟩
      rw [wy, wt, wf]
      refine ev_call hG (ev_pure (Long_eq (y := y) (show 0 ≤ y by omega)) (ev_neg (by simpa using h3) ?_))
      rw [← hb, ← ha, wrap_id (x := S + b) (by omega) (by omega), wrap_id (x := S + b - a) (by omega) (by omega)]
      exact hgo _ _ _ r1
noncomputable def dOf (x : Int) : Int × Int × Int := open Classical in if h : ∃ p : Int × Int × Int, Day x p.1 p.2.1 p.2.2 then Classical.choose h else (0, 0, 0)
theorem dOf_day {x y m d : Int} (h : Day x y m d) : dOf x = (y, m, d) := by
  have q : ∃ p : Int × Int × Int, Day x p.1 p.2.1 p.2.2 := ⟨(y, m, d), h⟩
  unfold dOf
  rw [dif_pos q]
  have k := Classical.choose_spec q
  obtain ⟨e1, e2, e3⟩ := k.v.one h.v (k.e.trans h.e.symm)
  exact Prod.ext e1 (Prod.ext e2 e3)
noncomputable def pos (b x : Int) : Int := if b = 2 then plc (dOf x).1 (dOf x).2.1 (dOf x).2.2 else if b = 3 then pp (dOf x).1 x else x
def md (b : Int) : Nat := if b = 0 then 365 else if b = 3 then 133590 else 360
theorem plc_le {x y m d x' y' m' d' : Int} (h : Day x y m d) (k : Day x' y' m' d') (hx : x ≤ x') : plc y m d ≤ plc y' m' d' := by
  have h1 := h.v.year
  have k1 := k.v.year
  rw [h.e] at h1
  rw [k.e] at k1
  have hb := h.b
  have kb := k.b
  have hy : y ≤ y' := by
    refine Int.le_of_not_gt fun q => ?_
    have := ys_mono (show y' + 1 ≤ y by omega)
    omega
  unfold plc
  by_cases e : y = y'
  · subst e
    have he := h.e
    have ke := k.e
    have kd := k.v.d2
    unfold dn at he ke
    have hm : m ≤ m' := by
      refine Int.le_of_not_gt fun q => ?_
      have := cm_mono (y := y) (m := m' + 1) (n := m) (by omega) (by omega) (by omega)
      omega
    by_cases em : m = m'
    · subst em; omega
    · omega
  · omega
theorem wrg_zero {b f t : Int} (h : wrg b f t = 0) : (0 ≤ b ∧ b < 4) ∧ (-50000 ≤ f ∧ f ≤ 50000) ∧ (-50000 ≤ t ∧ t ≤ 50000) ∧ f ≤ t := by
  unfold wrg at h
  split at h
  · cases h
  · rename_i h1
    split at h
    · cases h
    · rename_i h2
      split at h
      · cases h
      · have := Classical.not_not.1 h2
        exact ⟨Classical.not_not.1 h1, this.1, this.2, by omega⟩
theorem pos_le {b f t : Int} (h : wrg b f t = 0) : pos b f ≤ pos b t := by
  obtain ⟨_, hf, ht, hft⟩ := wrg_zero h
  obtain ⟨y, m, d, df⟩ := day_of hf.1 hf.2
  obtain ⟨z, p, e, dt⟩ := day_of ht.1 ht.2
  unfold pos
  rw [dOf_day df, dOf_day dt]
  split
  · exact plc_le df dt hft
  · split
    · have h1 := df.v.year
      have k1 := dt.v.year
      rw [df.e] at h1
      rw [dt.e] at k1
      have hy : y ≤ z := by
        refine Int.le_of_not_gt fun q => ?_
        have := ys_mono (show z + 1 ≤ y by omega)
        omega
      by_cases e : y = z
      · subst e; exact pp_le hft
      · have b1 := pp_bound h1.1 (Int.le_of_lt h1.2)
        have b2 := pp_bound k1.1 (Int.le_of_lt k1.2)
        simp only
        omega
    · exact hft
theorem pos_b {b f : Int} (hf : -50000 ≤ f ∧ f ≤ 50000) : -60000 ≤ pos b f ∧ pos b f ≤ 300000000 := by
  obtain ⟨y, m, d, df⟩ := day_of hf.1 hf.2
  have y1 := df.y1
  have y2 := df.y2
  have hb := df.b
  have h1 := df.v.year
  rw [df.e] at h1
  have b1 := pp_bound h1.1 (Int.le_of_lt h1.2)
  unfold pos
  rw [dOf_day df]
  split
  · simp only [plc]; omega
  · split
    · simp only; omega
    · omega
theorem Days_pos {b f t : Int} (f1 : -2147483648 ≤ f) (f2 : f ≤ 2147483647) (t1 : -2147483648 ≤ t) (t2 : t ≤ 2147483647) : ∃ n, Ev (fun k => daycount_Days.f k b f t) (n, wrg b f t) ∧ Ev (fun k => cashbookref05_Days.f k b f t) (n, wrg b f t) ∧
    (wrg b f t ≠ 0 → n = 0) ∧ (wrg b f t = 0 → (b ≠ 3 → n = pos b t - pos b f) ∧ (b ≠ 2 → n = t - f)) := by
  obtain ⟨n, h1, h2, h3, h4⟩ := Days_both (b := b) f1 f2 t1 t2
  refine ⟨n, h1, h2, h3, fun h0 => ⟨fun hb => ?_, fun hb => (h4 h0).2 hb⟩⟩
  by_cases e : b = 2
  · obtain ⟨_, hf, ht, _⟩ := wrg_zero h0
    obtain ⟨y, m, d, df⟩ := day_of hf.1 hf.2
    obtain ⟨z, p, e', dt⟩ := day_of ht.1 ht.2
    rw [(h4 h0).1 e _ _ _ _ _ _ df dt]
    unfold pos
    rw [if_pos e, if_pos e, dOf_day df, dOf_day dt]
  · rw [(h4 h0).2 e]
    unfold pos
    rw [if_neg e, if_neg hb, if_neg e, if_neg hb]
theorem Part_both {b f t : Int} (f1 : -2147483648 ≤ f) (f2 : f ≤ 2147483647) (t1 : -2147483648 ≤ t) (t2 : t ≤ 2147483647) : ∃ r, Ev (fun k => daycount_Part.f k b f t) (r, wrg b f t) ∧ Ev (fun k => cashbookref05_Part.f k b f t) (r, wrg b f t) ∧
    (wrg b f t ≠ 0 → r = none31) ∧ (wrg b f t = 0 → Rp r (mkRat (pos b t - pos b f) (md b))) := by
  obtain ⟨n, h1, h2, h3, h4⟩ := Days_pos (b := b) f1 f2 t1 t2
  by_cases h0 : wrg b f t = 0
  · obtain ⟨hb, hf, ht, hft⟩ := wrg_zero h0
    obtain ⟨n1, n2⟩ := h4 h0
    have ple := pos_le h0
    have pf := pos_b (b := b) hf
    have pt := pos_b (b := b) ht
    have two : ∀ D : Int, 0 < D → D ≤ 1000000 → (md b : Int) = D → n = pos b t - pos b f → ∃ r, Ev (fun k => ratio_Of.f k n D) (r, 0) ∧ Ev (fun k => cashbookref05_Of.f k n D) r ∧ Rp r (mkRat (pos b t - pos b f) (md b)) := fun D hD hD2 hm hn => by
      obtain ⟨r, r1, r2⟩ := Of_out (n := n) (d := D) (by omega) (by omega) (by omega) (by omega) (by omega)
      obtain ⟨s, s1, s2⟩ := RefOf_ev (n := n) (d := D) (by omega) (by omega) hD (by omega)
      have e : Rat.divInt n D = mkRat n (md b) := by rw [← hm]; exact Rat.divInt_ofNat _ _
      have e2 : D.toNat = md b := by omega
      rw [e] at r2
      rw [e2] at s2
      obtain rfl := r2.inj s2
      exact ⟨r, r1, s1, by rw [← hn]; exact r2⟩
    by_cases b0 : b = 0
    · obtain ⟨r, r1, r2, r3⟩ := two 365 (by decide) (by decide) (by unfold md; rw [if_pos b0]; rfl) (n1 (by omega))
      refine ⟨r, ?_, ?_, fun q => absurd h0 q, fun _ => r3⟩
      · unfold daycount_Part.f
        refine ev_call h1 (ev_pos h0 (ev_pos b0 ?_))
        rw [h0]; exact r1
      · unfold cashbookref05_Part.f
        refine ev_call h2 (ev_pos h0 (ev_pos b0 (ev_call r2 ?_)))
        rw [h0]; exact ev_ret
    · by_cases b3 : b = 3
      · obtain ⟨y, m, d, df⟩ := day_of hf.1 hf.2
        obtain ⟨z, p, e, dt⟩ := day_of ht.1 ht.2
        have hyf := df.v.year
        rw [df.e] at hyf
        have hyt := dt.v.year
        rw [dt.e] at hyt
        have e1 : pos b f = pp y f := by unfold pos; rw [if_neg (by omega), if_pos b3, dOf_day df]
        have e2 : pos b t = pp z t := by unfold pos; rw [if_neg (by omega), if_pos b3, dOf_day dt]
        have e3 : md b = 133590 := by unfold md; rw [if_neg b0, if_pos b3]
        rw [e1, e2] at ple ⊢
        rw [e1] at pf
        rw [e2] at pt
        rw [e3]
        obtain ⟨o, o1, o2⟩ := Of_out (n := 0) (d := 1) (by decide) (by decide) (by decide) (by decide) (by decide)
        have e0 : Rat.divInt 0 1 = mkRat 0 133590 := by simp
        rw [e0] at o2
        obtain ⟨r, r1, r2⟩ := years_ev ht.1 ht.2 hyt.1 hyt.2 (t - f).toNat f y o 0 (by omega) hf.1 hft hyf.1 hyf.2 o2 (Int.le_refl _) (by omega)
        rw [Int.zero_add] at r2
        have m1 : max f (ys y) = f := by omega
        have hyz : y ≤ z := by
          refine Int.le_of_not_gt fun q => ?_
          have := ys_mono (show z + 1 ≤ y by omega)
          omega
        obtain ⟨s, s1, s2⟩ := counts_ev (z := (⟨false, [], []⟩ : RatT)) hf.1 ht.2 hft df dt (z + 1 - y).toNat y 0 0 (by omega) (Int.le_refl _) (Int.le_refl _) (Int.le_refl _) (by rw [if_pos hyz, m1]; omega) (by rw [if_pos hyz, m1]; omega)
        obtain rfl := r2.inj s2
        refine ⟨r, ?_, ?_, fun q => absurd h0 q, fun _ => r2⟩
        · unfold daycount_Part.f
          refine ev_call h1 (ev_pos h0 (ev_neg b0 (ev_pos b3 (ev_call o1 (ev_call r1 ?_)))))
          rw [h0]; exact ev_ret
        · unfold cashbookref05_Part.f
          refine ev_call h2 (ev_pos h0 (ev_neg b0 (ev_neg (by omega) (ev_call df.p (ev_call dt.p ?_)))))
          rw [h0]; exact s1
      · obtain ⟨r, r1, r2, r3⟩ := two 360 (by decide) (by decide) (by unfold md; rw [if_neg b0, if_neg b3]; rfl) (n1 (by omega))
        refine ⟨r, ?_, ?_, fun q => absurd h0 q, fun _ => r3⟩
        · unfold daycount_Part.f
          refine ev_call h1 (ev_pos h0 (ev_neg b0 (ev_neg b3 ?_)))
          rw [h0]; exact r1
        · unfold cashbookref05_Part.f
          refine ev_call h2 (ev_pos h0 (ev_neg b0 (ev_pos (by omega) (ev_call r2 ?_))))
          rw [h0]; exact ev_ret
  · refine ⟨none31, ?_, ?_, fun _ => rfl, fun q => absurd q h0⟩
    · unfold daycount_Part.f
      exact ev_call h1 (ev_neg h0 ev_ret)
    · unfold cashbookref05_Part.f
      exact ev_call h2 (ev_neg h0 ev_ret)
theorem alive_now : cashbooklaw05_alive.f 120 = some true := by decide +kernel
theorem alive_ev : Ev (fun k => cashbooklaw05_alive.f k) true := ev_some cashbooklaw05_alive.mono ⟨120, alive_now⟩
end Go.Proofs.YtjhljcnjafbkfaaDoor.Pure
end
section
set_option linter.unusedVariables false
namespace Go.Proofs.YtjhljcnjafbkfaaDoor.Pure
open Go.RowKit Go.Proofs.YtjhljcnjafbkfaaDoor.X Go.Proofs.YtjhljcnjafbkfaaDoor.L
theorem bounds8 {n : Int} (h : (Lit.int .u8 n).wf = true) : 0 ≤ n ∧ n ≤ 255 := by
  simp [Lit.wf, IntKind.min, IntKind.max, IntKind.signed, IntKind.bits] at h
  omega
theorem rp_len {r : RatT} {q : Rat} (h : Rp r q) : r.f1.length ≤ 1000000 ∧ r.f2.length ≤ 1000000 := by
  have := h.ln
  have := h.ld
  omega
end Go.Proofs.YtjhljcnjafbkfaaDoor.Pure
end
section
set_option linter.unusedVariables false
namespace Go.Proofs.YtjhljcnjafbkfaaDoor.Pure
open Go.RowKit Go.Proofs.YtjhljcnjafbkfaaDoor.X Go.Proofs.YtjhljcnjafbkfaaDoor.L
theorem days_tail {y i d v : Int} (hy0 : 1800 ≤ y) (hy1 : y ≤ 2200) (hi : 0 ≤ i ∧ i ≤ 11) (hb : 0 ≤ bef i ∧ bef i ≤ 337) (hd : 1 ≤ d ∧ d ≤ 31) (hv : 365 * y + y / 4 - y / 100 + y / 400 + bef i + d - 1 = v) :
    Ev (fun k => date_days.j0 k y (i + 3) d) v := by
  refine Ev.step (fun k => by simp only [date_days.j0]; rfl) ?_
  have e1 : wrap64 (i + 3 - 3) = i := by rw [show i + 3 - 3 = i by omega]; exact wrap_id (by omega) (by omega)
  rw [e1]
  refine ev_pos (by omega) (ev_pos (by omega) (ev_eq ?_))
  have q1 : 0 ≤ y / 4 ∧ y / 4 ≤ 550 := by omega
  have q2 : 0 ≤ y / 100 ∧ y / 100 ≤ 22 := by omega
  have q3 : 0 ≤ y / 400 ∧ y / 400 ≤ 6 := by omega
  have hb' : gt1.getD i.toNat 0 = bef i := rfl
  rw [hb', tdiv_pos (by omega), tdiv_pos (by omega), tdiv_pos (by omega)]
  generalize y / 4 = a at *
  generalize y / 100 = b at *
  generalize y / 400 = c at *
  rw [wrap_id (x := y * 365) (by omega) (by omega), wrap_id (x := a) (by omega) (by omega), wrap_id (x := b) (by omega) (by omega), wrap_id (x := c) (by omega) (by omega),
    wrap_id (x := y * 365 + a) (by omega) (by omega), wrap_id (x := y * 365 + a - b) (by omega) (by omega), wrap_id (x := y * 365 + a - b + c) (by omega) (by omega),
    wrap_id (x := y * 365 + a - b + c + bef i) (by omega) (by omega), wrap_id (x := y * 365 + a - b + c + bef i + d) (by omega) (by omega), wrap_id (by omega) (by omega)]
  omega
theorem V.d31 {y m d : Int} (h : V y m d) : d ≤ 31 := by
  have h1 := ml_eq y m h.m1 h.m2
  have h2 := h.d2
  have h3 := lp_b y
  split at h1
  · omega
  · split at h1 <;> omega
theorem days_ev {y m d : Int} (h : V y m d) (y1 : 1850 ≤ y) (y2 : y ≤ 2150) : Ev (fun k => date_days.f k y m d) (dn y m d + 730425) := by
  have hd : 1 ≤ d ∧ d ≤ 31 := ⟨h.d1, V.d31 h⟩
  have m1 := h.m1
  have m2 := h.m2
  unfold date_days.f
  by_cases hm : m ≤ 2
  · refine ev_pos hm ?_
    rw [wrap_id (x := y - 1) (by omega) (by omega), wrap_id (x := m + 12) (by omega) (by omega), show m + 12 = (m + 9) + 3 by omega]
    have hc : bef (m + 9) = 306 + (m - 1) * 31 ∧ cm y m = (m - 1) * 31 := by
      have : m = 1 ∨ m = 2 := by omega
      rcases this with rfl | rfl
      · exact ⟨bef_10, by simp [cm, cum]⟩
      · exact ⟨bef_11, by simp [cm, cum]⟩
    refine days_tail (by omega) (by omega) (by omega) (by omega) hd ?_
    unfold dn ys
    omega
  · refine ev_neg hm ?_
    obtain ⟨b1, b2, b3⟩ := bef_c (i := m - 3) y (by omega) (by omega)
    have hs := ys_succ y
    rw [show m - 3 + 3 = m by omega] at b1
    have := days_tail (y := y) (i := m - 3) (d := d) (v := dn y m d + 730425) (by omega) (by omega) (by omega) (by omega) hd (by unfold dn; unfold ys at hs ⊢; omega)
    rw [show m - 3 + 3 = m by omega] at this
    exact this
theorem dn_b {y m d : Int} (h : V y m d) (y1 : 1870 ≤ y) (y2 : y ≤ 2130) : -50000 ≤ dn y m d ∧ dn y m d ≤ 50000 := by
  obtain ⟨a, b⟩ := V.year h
  have c := ys_mono y1
  have e := ys_mono (show y + 1 ≤ 2131 by omega)
  have c' : ys 1870 = -47481 := by decide
  have e' : ys 2131 = 47847 := by decide
  omega
theorem Join_ev {y m d : Int} (h : V y m d) (y1 : 1870 ≤ y) (y2 : y ≤ 2130) : Ev (fun k => date_Join.f k y m d) (dn y m d, 0) := by
  have m1 := h.m1
  have m2 := h.m2
  have d1 := h.d1
  have d2 := h.d2
  obtain ⟨b1, b2⟩ := dn_b h y1 y2
  unfold date_Join.f
  refine ev_neg (by omega) (ev_neg (by omega) (ev_neg (by omega) (ev_neg (by omega) (ev_neg (by omega) (ev_pure (length_eq (by omega) m1 m2) ?_)))))
  rw [decide_eq_false (show ¬ cm y (m + 1) - cm y m < d by omega)]
  refine Ev.step (fun k => by simp only [date_Join.j0]; rfl) (ev_neg (by decide) (ev_call (days_ev h (by omega) (by omega)) ?_))
  have e : wrap64 (dn y m d + 730425 - 730425) = dn y m d := by rw [show dn y m d + 730425 - 730425 = dn y m d by omega]; exact wrap_id (by omega) (by omega)
  simp only [e]
  rw [decide_eq_false (show ¬ 50000 < dn y m d by omega)]
  refine ev_neg (by omega) (Ev.step (fun k => by simp only [date_Join.j1]; rfl) (ev_neg (by decide) (ev_eq ?_)))
  rw [wrap32_id (by omega) (by omega)]
theorem day_at {y m d : Int} (h : V y m d) (y1 : 1870 ≤ y) (y2 : y ≤ 2130) : Day (dn y m d) y m d := by
  obtain ⟨b1, b2⟩ := dn_b h y1 y2
  obtain ⟨y', m', d', hD⟩ := day_of b1 b2
  obtain ⟨rfl, rfl, rfl⟩ := V.one h hD.v hD.e.symm
  exact hD
theorem V28 {y m d : Int} (m1 : 1 ≤ m) (m2 : m ≤ 12) (d1 : 1 ≤ d) (d2 : d ≤ 28) : V y m d := by
  have := cm_step y m m1 m2
  exact ⟨m1, m2, d1, by omega⟩
theorem AddMonths_ev {y m d n : Int} (h : V y m d) (hd : d ≤ 28) (y1 : 1870 ≤ y) (y2 : y ≤ 2100) (n0 : 0 ≤ n) (n1 : n ≤ 60) :
    Ev (fun k => date_AddMonths.f k (dn y m d) n) (dn ((12 * y + m - 1 + n) / 12) ((12 * y + m - 1 + n) % 12 + 1) d, 0) := by
  have m1 := h.m1
  have m2 := h.m2
  have hD := day_at h y1 (by omega)
  obtain ⟨a, ha⟩ : ∃ a, a = 12 * y + m - 1 + n := ⟨_, rfl⟩
  rw [← ha]
  have hV : V (a / 12) (a % 12 + 1) d := V28 (by omega) (by omega) h.d1 hd
  unfold date_AddMonths.f
  refine ev_call hD.s (ev_pos rfl (ev_neg (by omega) ?_))
  rw [decide_eq_false (show ¬ 120000 < n by omega)]
  refine Ev.step (fun k => by simp only [date_AddMonths.j0]; rfl) (ev_neg (by decide) ?_)
  have e : wrap64 (wrap64 (wrap64 (wrap64 (12 * y) + m) - 1) + n) = a := by
    rw [wrap_id (x := 12 * y) (by omega) (by omega), wrap_id (x := 12 * y + m) (by omega) (by omega), wrap_id (x := 12 * y + m - 1) (by omega) (by omega), wrap_id (by omega) (by omega)]
    omega
  have e1 : wrap64 (Int.tdiv a 12) = a / 12 := by rw [tdiv_pos (by omega)]; exact wrap_id (by omega) (by omega)
  have e2 : wrap64 (Int.tmod a 12 + 1) = a % 12 + 1 := by rw [tmod_pos (by omega)]; exact wrap_id (by omega) (by omega)
  simp only [e, e1, e2]
  refine ev_neg (by omega) (ev_pure (length_eq (by omega) (by omega) (by omega)) ?_)
  have e3 : min d (cm (a / 12) (a % 12 + 1 + 1) - cm (a / 12) (a % 12 + 1)) = d := Int.min_eq_left hV.d2
  rw [e3]
  exact ev_call (Join_ev hV (by omega) (by omega)) ev_ret
theorem dn_le {y m d y' m' : Int} (h : V y m d) (h' : V y' m' d) (hle : 12 * y + m ≤ 12 * y' + m') : dn y m d ≤ dn y' m' d := by
  have m1 := h.m1
  have m2 := h.m2
  have m1' := h'.m1
  have m2' := h'.m2
  by_cases hy : y = y'
  · subst hy
    have := cm_mono (y := y) m1 (show m ≤ m' by omega) (by omega)
    unfold dn
    omega
  · have h1 := (V.year h).2
    have h2 := (V.year h').1
    have h3 := ys_mono (show y + 1 ≤ y' by omega)
    omega
theorem wrg_ok {b f t : Int} (hb : 0 ≤ b ∧ b < 4) (hf : -50000 ≤ f ∧ f ≤ 50000) (ht : -50000 ≤ t ∧ t ≤ 50000) (h : f ≤ t) : wrg b f t = 0 := by
  unfold wrg
  rw [if_neg (fun q => q hb), if_neg (fun q => q ⟨hf, ht⟩), if_neg (by omega)]
theorem mkRat_times (c n : Int) (C M : Nat) (hC : c = (C : Int)) (h : C ≠ 0) : mkRat (c * n) (C * M) = mkRat n M := by
  rw [hC]; exact Rat.mkRat_mul_left h
theorem same_ok {r : RatT} {n : Int} {d : Int} (n0 : 0 ≤ n) (n1 : n ≤ 1000) (d0 : 0 < d) (d1 : d ≤ 1000) (h : Rp r (mkRat n d.toNat)) : ∃ s, Ev (fun k => cashbookref05_Of.f k n d) s ∧ Ev (fun k => cashbookref05_Same.f k r s) true := by
  obtain ⟨s, s1, s2⟩ := RefOf_ev (n := n) (d := d) n0 (by omega) d0 (by omega)
  obtain rfl := h.inj s2
  have hs := RSame_ev (a := r) (b := r) (rp_len h).1 (rp_len h).2
  rw [decide_eq_true rfl] at hs
  exact ⟨r, s1, hs⟩
theorem DaycountWhole (x0 x1 : Int) (x2 : S42) (hw0 : (Lit.int .u8 x0).wf = true) (hw1 : (Lit.int .u8 x1).wf = true) (hw2 : wf42 x2) : ∃ k, cashbooklaw05_DaycountWhole.f k x0 x1 x2 = some true := by
  refine ev_rounds ?_
  obtain ⟨q1, q2⟩ := bounds8 hw0
  obtain ⟨a1, a2⟩ := bounds8 hw1
  obtain ⟨b1, b2⟩ := bounds8 hw2.1
  obtain ⟨c1, c2⟩ := bounds8 hw2.2
  obtain ⟨y, hy⟩ : ∃ y, y = 1870 + x0 % 200 := ⟨_, rfl⟩
  obtain ⟨n, hn⟩ : ∃ n, n = x1 % 60 := ⟨_, rfl⟩
  obtain ⟨m, hm⟩ : ∃ m, m = x2.f0 % 12 + 1 := ⟨_, rfl⟩
  obtain ⟨d, hd⟩ : ∃ d, d = x2.f1 % 28 + 1 := ⟨_, rfl⟩
  have ey : wrap64 (1870 + Int.tmod (wrap64 x0) 200) = y := by rw [wrap_id (x := x0) (by omega) (by omega), tmod_pos q1, wrap_id (by omega) (by omega), hy]
  have en : Int.tmod (wrap64 x1) 60 = n := by rw [wrap_id (x := x1) (by omega) (by omega), tmod_pos a1, hn]
  have em : wrap64 (Int.tmod (wrap64 x2.f0) 12 + 1) = m := by rw [wrap_id (x := x2.f0) (by omega) (by omega), tmod_pos b1, wrap_id (by omega) (by omega), hm]
  have ed : wrap64 (Int.tmod (wrap64 x2.f1) 28 + 1) = d := by rw [wrap_id (x := x2.f1) (by omega) (by omega), tmod_pos c1, wrap_id (by omega) (by omega), hd]
  have eyn : wrap64 (y + n) = y + n := wrap_id (by omega) (by omega)
  have yb : 1870 ≤ y ∧ y ≤ 2069 := by omega
  have nb : 0 ≤ n ∧ n ≤ 59 := by omega
  have v1 : V y 1 1 := V28 (by decide) (by decide) (by decide) (by decide)
  have v2 : V (y + n) 1 1 := V28 (by decide) (by decide) (by decide) (by decide)
  have v3 : V y m d := V28 (by omega) (by omega) (by omega) (by omega)
  obtain ⟨z, hz⟩ : ∃ z, z = (12 * y + m - 1 + n) / 12 := ⟨_, rfl⟩
  obtain ⟨p, hp⟩ : ∃ p, p = (12 * y + m - 1 + n) % 12 + 1 := ⟨_, rfl⟩
  have v4 : V z p d := V28 (by omega) (by omega) (by omega) (by omega)
  have D1 := day_at v1 (by omega) (by omega)
  have D2 := day_at v2 (by omega) (by omega)
  have D3 := day_at v3 (by omega) (by omega)
  have D4 := day_at v4 (by omega) (by omega)
  have B1 := dn_b v1 (by omega) (by omega)
  have B2 := dn_b v2 (by omega) (by omega)
  have B3 := dn_b v3 (by omega) (by omega)
  have B4 := dn_b v4 (by omega) (by omega)
  have hl12 : dn y 1 1 ≤ dn (y + n) 1 1 := dn_le v1 v2 (by omega)
  have hl34 : dn y m d ≤ dn z p d := dn_le v3 v4 (by omega)
  have hadd := AddMonths_ev (n := n) v3 (by omega) (by omega) (by omega) nb.1 (by omega)
  rw [← hz, ← hp] at hadd
  have e1 : dn y 1 1 = ys y := by unfold dn; rw [cm_one]; omega
  have e2 : dn (y + n) 1 1 = ys (y + n) := by unfold dn; rw [cm_one]; omega
  have w1 : wrg 3 (dn y 1 1) (dn (y + n) 1 1) = 0 := wrg_ok (by decide) B1 B2 hl12
  have w2 : ∀ b, 0 ≤ b → b < 4 → wrg b (dn y m d) (dn z p d) = 0 := fun b h0 h1 => wrg_ok ⟨h0, h1⟩ B3 B4 hl34
  obtain ⟨r, r1, _, _, r4⟩ := Part_both (b := 3) (f := dn y 1 1) (t := dn (y + n) 1 1) (by omega) (by omega) (by omega) (by omega)
  obtain ⟨s, s1, _, _, s4⟩ := Part_both (b := 2) (f := dn y m d) (t := dn z p d) (by omega) (by omega) (by omega) (by omega)
  obtain ⟨u, u1, _, _, u4⟩ := Days_pos (b := 2) (f := dn y m d) (t := dn z p d) (by omega) (by omega) (by omega) (by omega)
  obtain ⟨g, g1, _, _, g4⟩ := Days_pos (b := 0) (f := dn y m d) (t := dn z p d) (by omega) (by omega) (by omega) (by omega)
  obtain ⟨h, h1, _, _, h4⟩ := Days_pos (b := 1) (f := dn y m d) (t := dn z p d) (by omega) (by omega) (by omega) (by omega)
  have R := r4 w1
  have S := s4 (w2 2 (by decide) (by decide))
  have U := (u4 (w2 2 (by decide) (by decide))).1 (by decide)
  have G := (g4 (w2 0 (by decide) (by decide))).2 (by decide)
  have H := (h4 (w2 1 (by decide) (by decide))).2 (by decide)
  have p3 : pos 3 (dn (y + n) 1 1) - pos 3 (dn y 1 1) = 133590 * n := by
    unfold pos
    rw [if_neg (by decide), if_pos rfl, if_neg (by decide), if_pos rfl, dOf_day D1, dOf_day D2]
    show pp (y + n) (dn (y + n) 1 1) - pp y (dn y 1 1) = _
    rw [e1, e2, pp_first, pp_first]
    omega
  have p2 : pos 2 (dn z p d) - pos 2 (dn y m d) = 30 * n := by
    unfold pos
    rw [if_pos rfl, if_pos rfl, dOf_day D3, dOf_day D4]
    show plc z p d - plc y m d = _
    unfold plc
    rw [Int.min_eq_left (show d ≤ 30 by omega)]
    omega
  rw [p3] at R
  rw [p2] at S U
  have R' : Rp r (mkRat n (1 : Int).toNat) := by
    have := mkRat_times 133590 n 133590 1 rfl (by decide)
    rw [show (1 : Int).toNat = 1 from rfl, ← this]
    exact R
  have S' : Rp s (mkRat n (12 : Int).toNat) := by
    have := mkRat_times 30 n 30 12 rfl (by decide)
    rw [show (12 : Int).toNat = 12 from rfl, ← this]
    exact S
  obtain ⟨r', r5, r6⟩ := same_ok nb.1 (by omega) (by decide) (by decide) R'
  obtain ⟨s', s5, s6⟩ := same_ok nb.1 (by omega) (by decide) (by decide) S'
  unfold cashbooklaw05_DaycountWhole.f
  rw [ey, en, em, ed, eyn]
  refine ev_call (Join_ev v1 (by omega) (by omega)) (ev_call (Join_ev v2 (by omega) (by omega)) (ev_call r1 (ev_call r5 (ev_call r6 (ev_call (Join_ev v3 (by omega) (by omega)) (ev_call hadd (ev_call s1 (ev_call s5 (ev_call s6 (ev_call u1 (ev_call g1 (ev_call h1 ?_))))))))))))
  have z2 := w2 2 (by decide) (by decide)
  have z0 := w2 0 (by decide) (by decide)
  have z1 := w2 1 (by decide) (by decide)
  refine ev_pos rfl (ev_pos rfl (ev_pos w1 (ev_pos rfl (ev_pos rfl (ev_pos z2 (ev_pos z2 (ev_pos z0 ?_)))))))
  refine Ev.step (fun k => by simp only [cashbooklaw05_DaycountWhole.j0]; rfl) (ev_call alive_ev (ev_pos (c := true = true) rfl (ev_pos (decide_eq_true z1) ?_)))
  repeat first | refine ev_pos (c := true = true) rfl ?_ | refine ev_pos (c := True) trivial ?_
  refine ?_
  refine ev_pos ?_ (ev_pos ?_ (ev_eq (decide_eq_true ?_)))
  · rw [wrap_id (by omega) (by omega)]; exact U
  · rw [G, H]
  · rw [wrap_id (x := dn z p d) (by omega) (by omega), wrap_id (x := dn y m d) (by omega) (by omega), wrap_id (by omega) (by omega)]; exact G
end Go.Proofs.YtjhljcnjafbkfaaDoor.Pure
end
