import Derived.Test.YtjhljcnjafbkfaaDoorQB10
import Derived.Test.YtjhljcnjafbkfaaDoorQB11
set_option linter.unusedSimpArgs false
set_option linter.unusedVariables false
section
set_option linter.unusedVariables false
namespace Go.Proofs.YtjhljcnjafbkfaaDoor.Pure
open Go.RowKit Go.Proofs.YtjhljcnjafbkfaaDoor.X Go.Proofs.YtjhljcnjafbkfaaDoor.L
theorem counts_ev {f t yf m d yt p e : Int} {z : RatT} (f1 : -50000 ≤ f) (t2 : t ≤ 50000) (hft : f ≤ t) (hf : Day f yf m d) (ht : Day t yt p e) : ∀ (j : Nat) (y S L : Int), yt + 1 - y = (j : Int) → yf ≤ y → 0 ≤ S → 0 ≤ L →
    S + L = (if y ≤ yt then max f (ys y) else t) - f → 366 * S + 365 * L = (if y ≤ yt then pp y (max f (ys y)) else pp yt t) - pp yf f →
    ∃ r, Ev (fun k => cashbookref05_Part.l0 k f t S L y (⟨yt, p, e⟩ : P3) z) (r, 0) ∧ Rp r (mkRat (pp yt t - pp yf f) 133590) := by
  have hyf := hf.v.year
  rw [hf.e] at hyf
  have hyt := ht.v.year
  rw [ht.e] at hyt
  have a1 := hf.y1
  have a2 := hf.y2
  have b1 := ht.y1
  have b2 := ht.y2
  intro j
  induction j with
  | zero =>
    intro y S L hj hy hS hL hs hp
    rw [if_neg (by omega)] at hs hp
    obtain ⟨r, r1, r2⟩ := RefOf_ev (n := 366 * S + 365 * L) (d := 133590) (by omega) (by omega) (by decide) (by decide)
    refine ⟨r, Ev.step (fun k => by simp only [cashbookref05_Part.l0]; rfl) (ev_neg (by show ¬ y ≤ yt; omega) ?_), by rw [← hp]; exact r2⟩
    rw [wrap_id (x := 366 * S) (by omega) (by omega), wrap_id (x := 365 * L) (by omega) (by omega), wrap_id (x := 366 * S + 365 * L) (by omega) (by omega)]
    exact ev_call r1 ev_ret
  | succ j ih =>
    intro y S L hj hy hS hL hs hp
    rw [if_pos (by omega)] at hs hp
    obtain ⟨a, ha⟩ : ∃ a, a = max f (ys y) := ⟨_, rfl⟩
    obtain ⟨b, hb⟩ : ∃ b, b = min t (ys (y + 1)) := ⟨_, rfl⟩
    rw [← ha] at hs hp
    have hys := ys_succ y
    have hl := lp_b y
    have m1 := ys_mono (show yf + 1 ≤ y + 1 by omega)
    have m2 := ys_mono (show y ≤ yt by omega)
    have hab : a ≤ b := by omega
    have hdiff := pp_diff y a b
    have hb2 : (if y + 1 ≤ yt then max f (ys (y + 1)) else t) = b := by
      by_cases h : y + 1 ≤ yt
      · rw [if_pos h]
        have := ys_mono (show y + 1 ≤ yt from h)
        omega
      · rw [if_neg h]
        obtain rfl : y = yt := by omega
        omega
    have hpb : (if y + 1 ≤ yt then pp (y + 1) (max f (ys (y + 1))) else pp yt t) = pp y b := by
      by_cases h : y + 1 ≤ yt
      · rw [if_pos h] at hb2 ⊢
        have := ys_mono (show y + 1 ≤ yt from h)
        rw [hb2, show b = ys (y + 1) by omega, pp_next]
      · rw [if_neg h] at hb2 ⊢
        obtain rfl : y = yt := by omega
        rw [hb2]
    have hF := first_ev (y := y) (by omega) (by omega)
    have hG := first_ev (y := y + 1) (by omega) (by omega)
    have hgo : ∀ S' L' r, Ev (fun k => cashbookref05_Part.l0 k f t S' L' (y + 1) (⟨yt, p, e⟩ : P3) z) r → Ev (fun k => cashbookref05_Part.j0 k f t S' L' y (⟨yt, p, e⟩ : P3) z) r := fun S' L' r h => by
      refine Ev.step (fun k => by simp only [cashbookref05_Part.j0]; rfl) ?_
      rw [wrap_id (x := y + 1) (by omega) (by omega)]
      exact h
    have wt : wrap64 t = t := wrap_id (by omega) (by omega)
    have wf : wrap64 f = f := wrap_id (by omega) (by omega)
    have wy : wrap64 (y + 1) = y + 1 := wrap_id (by omega) (by omega)
    rcases lp_cases y with ⟨h3, e3⟩ | ⟨h3, e3⟩
    · rw [e3] at hdiff
      obtain ⟨r, r1, r2⟩ := ih (y + 1) S (L + b - a) (by omega) (by omega) hS (by omega) (by rw [hb2]; omega) (by rw [hpb]; omega)
      refine ⟨r, Ev.step (fun k => by simp only [cashbookref05_Part.l0]; rfl) (ev_pos (by show y ≤ yt; omega) (ev_call hF ?_)), r2⟩
      rw [wy, wt, wf]
      refine ev_call hG (ev_pure (Long_eq (y := y) (show 0 ≤ y by omega)) (ev_pos (decide_eq_true h3) ?_))
      rw [← hb, ← ha, wrap_id (x := L + b) (by omega) (by omega), wrap_id (x := L + b - a) (by omega) (by omega)]
      exact hgo _ _ _ r1
    · rw [e3] at hdiff
      obtain ⟨r, r1, r2⟩ := ih (y + 1) (S + b - a) L (by omega) (by omega) (by omega) hL (by rw [hb2]; omega) (by rw [hpb]; omega)
      refine ⟨r, Ev.step (fun k => by simp only [cashbookref05_Part.l0]; rfl) (ev_pos (by show y ≤ yt; omega) (ev_call hF ?_)), r2⟩
      rw [wy, wt, wf]
      refine ev_call hG (ev_pure (Long_eq (y := y) (show 0 ≤ y by omega)) (ev_neg (by simpa using h3) ?_))
      rw [← hb, ← ha, wrap_id (x := S + b) (by omega) (by omega), wrap_id (x := S + b - a) (by omega) (by omega)]
      exact hgo _ _ _ r1
noncomputable def dOf (x : Int) : Int × Int × Int := open Classical in if h : ∃ p : Int × Int × Int, Day x p.1 p.2.1 p.2.2 then Classical.choose h else (0, 0, 0)
theorem dOf_day {x y m d : Int} (h : Day x y m d) : dOf x = (y, m, d) := by
  have q : ∃ p : Int × Int × Int, Day x p.1 p.2.1 p.2.2 := ⟨(y, m, d), h⟩
  unfold dOf
  rw [dif_pos q]
  have k := Classical.choose_spec q
  obtain ⟨e1, e2, e3⟩ := k.v.one h.v (k.e.trans h.e.symm)
  exact Prod.ext e1 (Prod.ext e2 e3)
noncomputable def pos (b x : Int) : Int := if b = 2 then plc (dOf x).1 (dOf x).2.1 (dOf x).2.2 else if b = 3 then pp (dOf x).1 x else x
def md (b : Int) : Nat := if b = 0 then 365 else if b = 3 then 133590 else 360
theorem md_pos (b : Int) : 1 ≤ md b ∧ md b ≤ 133590 := by
  unfold md
  split
  · decide
  · split <;> decide
theorem plc_le {x y m d x' y' m' d' : Int} (h : Day x y m d) (k : Day x' y' m' d') (hx : x ≤ x') : plc y m d ≤ plc y' m' d' := by
  have h1 := h.v.year
  have k1 := k.v.year
  rw [h.e] at h1
  rw [k.e] at k1
  have hb := h.b
  have kb := k.b
  have hy : y ≤ y' := by
    refine Int.le_of_not_gt fun q => ?_
    have := ys_mono (show y' + 1 ≤ y by omega)
    omega
  unfold plc
  by_cases e : y = y'
  · subst e
    have he := h.e
    have ke := k.e
    have kd := k.v.d2
    unfold dn at he ke
    have hm : m ≤ m' := by
      refine Int.le_of_not_gt fun q => ?_
      have := cm_mono (y := y) (m := m' + 1) (n := m) (by omega) (by omega) (by omega)
      omega
    by_cases em : m = m'
    · subst em; omega
    · omega
  · omega
theorem wrg_zero {b f t : Int} (h : wrg b f t = 0) : (0 ≤ b ∧ b < 4) ∧ (-50000 ≤ f ∧ f ≤ 50000) ∧ (-50000 ≤ t ∧ t ≤ 50000) ∧ f ≤ t := by
  unfold wrg at h
  split at h
  · cases h
  · rename_i h1
    split at h
    · cases h
    · rename_i h2
      split at h
      · cases h
      · have := Classical.not_not.1 h2
        exact ⟨Classical.not_not.1 h1, this.1, this.2, by omega⟩
theorem pos_le {b f t : Int} (h : wrg b f t = 0) : pos b f ≤ pos b t := by
  obtain ⟨_, hf, ht, hft⟩ := wrg_zero h
  obtain ⟨y, m, d, df⟩ := day_of hf.1 hf.2
  obtain ⟨z, p, e, dt⟩ := day_of ht.1 ht.2
  unfold pos
  rw [dOf_day df, dOf_day dt]
  split
  · exact plc_le df dt hft
  · split
    · have h1 := df.v.year
      have k1 := dt.v.year
      rw [df.e] at h1
      rw [dt.e] at k1
      have hy : y ≤ z := by
        refine Int.le_of_not_gt fun q => ?_
        have := ys_mono (show z + 1 ≤ y by omega)
        omega
      by_cases e : y = z
      · subst e; exact pp_le hft
      · have b1 := pp_bound h1.1 (Int.le_of_lt h1.2)
        have b2 := pp_bound k1.1 (Int.le_of_lt k1.2)
        simp only
        omega
    · exact hft
theorem pos_b {b f : Int} (hf : -50000 ≤ f ∧ f ≤ 50000) : -60000 ≤ pos b f ∧ pos b f ≤ 300000000 := by
  obtain ⟨y, m, d, df⟩ := day_of hf.1 hf.2
  have y1 := df.y1
  have y2 := df.y2
  have hb := df.b
  have h1 := df.v.year
  rw [df.e] at h1
  have b1 := pp_bound h1.1 (Int.le_of_lt h1.2)
  unfold pos
  rw [dOf_day df]
  split
  · simp only [plc]; omega
  · split
    · simp only; omega
    · omega
theorem Days_pos {b f t : Int} (f1 : -2147483648 ≤ f) (f2 : f ≤ 2147483647) (t1 : -2147483648 ≤ t) (t2 : t ≤ 2147483647) : ∃ n, Ev (fun k => daycount_Days.f k b f t) (n, wrg b f t) ∧ Ev (fun k => cashbookref05_Days.f k b f t) (n, wrg b f t) ∧
    (wrg b f t ≠ 0 → n = 0) ∧ (wrg b f t = 0 → (b ≠ 3 → n = pos b t - pos b f) ∧ (b ≠ 2 → n = t - f)) := by
  obtain ⟨n, h1, h2, h3, h4⟩ := Days_both (b := b) f1 f2 t1 t2
  refine ⟨n, h1, h2, h3, fun h0 => ⟨fun hb => ?_, fun hb => (h4 h0).2 hb⟩⟩
  by_cases e : b = 2
  · obtain ⟨_, hf, ht, _⟩ := wrg_zero h0
    obtain ⟨y, m, d, df⟩ := day_of hf.1 hf.2
    obtain ⟨z, p, e', dt⟩ := day_of ht.1 ht.2
    rw [(h4 h0).1 e _ _ _ _ _ _ df dt]
    unfold pos
    rw [if_pos e, if_pos e, dOf_day df, dOf_day dt]
  · rw [(h4 h0).2 e]
    unfold pos
    rw [if_neg e, if_neg hb, if_neg e, if_neg hb]
theorem Part_both {b f t : Int} (f1 : -2147483648 ≤ f) (f2 : f ≤ 2147483647) (t1 : -2147483648 ≤ t) (t2 : t ≤ 2147483647) : ∃ r, Ev (fun k => daycount_Part.f k b f t) (r, wrg b f t) ∧ Ev (fun k => cashbookref05_Part.f k b f t) (r, wrg b f t) ∧
    (wrg b f t ≠ 0 → r = none31) ∧ (wrg b f t = 0 → Rp r (mkRat (pos b t - pos b f) (md b))) := by
  obtain ⟨n, h1, h2, h3, h4⟩ := Days_pos (b := b) f1 f2 t1 t2
  by_cases h0 : wrg b f t = 0
  · obtain ⟨hb, hf, ht, hft⟩ := wrg_zero h0
    obtain ⟨n1, n2⟩ := h4 h0
    have ple := pos_le h0
    have pf := pos_b (b := b) hf
    have pt := pos_b (b := b) ht
    have two : ∀ D : Int, 0 < D → D ≤ 1000000 → (md b : Int) = D → n = pos b t - pos b f → ∃ r, Ev (fun k => ratio_Of.f k n D) (r, 0) ∧ Ev (fun k => cashbookref05_Of.f k n D) r ∧ Rp r (mkRat (pos b t - pos b f) (md b)) := fun D hD hD2 hm hn => by
      obtain ⟨r, r1, r2⟩ := Of_out (n := n) (d := D) (by omega) (by omega) (by omega) (by omega) (by omega)
      obtain ⟨s, s1, s2⟩ := RefOf_ev (n := n) (d := D) (by omega) (by omega) hD (by omega)
      have e : Rat.divInt n D = mkRat n (md b) := by rw [← hm]; exact Rat.divInt_ofNat _ _
      have e2 : D.toNat = md b := by omega
      rw [e] at r2
      rw [e2] at s2
      obtain rfl := r2.inj s2
      exact ⟨r, r1, s1, by rw [← hn]; exact r2⟩
    by_cases b0 : b = 0
    · obtain ⟨r, r1, r2, r3⟩ := two 365 (by decide) (by decide) (by unfold md; rw [if_pos b0]; rfl) (n1 (by omega))
      refine ⟨r, ?_, ?_, fun q => absurd h0 q, fun _ => r3⟩
      · unfold daycount_Part.f
        refine ev_call h1 (ev_pos h0 (ev_pos b0 ?_))
        rw [h0]; exact r1
      · unfold cashbookref05_Part.f
        refine ev_call h2 (ev_pos h0 (ev_pos b0 (ev_call r2 ?_)))
        rw [h0]; exact ev_ret
    · by_cases b3 : b = 3
      · obtain ⟨y, m, d, df⟩ := day_of hf.1 hf.2
        obtain ⟨z, p, e, dt⟩ := day_of ht.1 ht.2
        have hyf := df.v.year
        rw [df.e] at hyf
        have hyt := dt.v.year
        rw [dt.e] at hyt
        have e1 : pos b f = pp y f := by unfold pos; rw [if_neg (by omega), if_pos b3, dOf_day df]
        have e2 : pos b t = pp z t := by unfold pos; rw [if_neg (by omega), if_pos b3, dOf_day dt]
        have e3 : md b = 133590 := by unfold md; rw [if_neg b0, if_pos b3]
        rw [e1, e2] at ple ⊢
        rw [e1] at pf
        rw [e2] at pt
        rw [e3]
        obtain ⟨o, o1, o2⟩ := Of_out (n := 0) (d := 1) (by decide) (by decide) (by decide) (by decide) (by decide)
        have e0 : Rat.divInt 0 1 = mkRat 0 133590 := by simp
        rw [e0] at o2
        obtain ⟨r, r1, r2⟩ := years_ev ht.1 ht.2 hyt.1 hyt.2 (t - f).toNat f y o 0 (by omega) hf.1 hft hyf.1 hyf.2 o2 (Int.le_refl _) (by omega)
        rw [Int.zero_add] at r2
        have m1 : max f (ys y) = f := by omega
        have hyz : y ≤ z := by
          refine Int.le_of_not_gt fun q => ?_
          have := ys_mono (show z + 1 ≤ y by omega)
          omega
        obtain ⟨s, s1, s2⟩ := counts_ev (z := (⟨false, [], []⟩ : RatT)) hf.1 ht.2 hft df dt (z + 1 - y).toNat y 0 0 (by omega) (Int.le_refl _) (Int.le_refl _) (Int.le_refl _) (by rw [if_pos hyz, m1]; omega) (by rw [if_pos hyz, m1]; omega)
        obtain rfl := r2.inj s2
        refine ⟨r, ?_, ?_, fun q => absurd h0 q, fun _ => r2⟩
        · unfold daycount_Part.f
          refine ev_call h1 (ev_pos h0 (ev_neg b0 (ev_pos b3 (ev_call o1 (ev_call r1 ?_)))))
          rw [h0]; exact ev_ret
        · unfold cashbookref05_Part.f
          refine ev_call h2 (ev_pos h0 (ev_neg b0 (ev_neg (by omega) (ev_call df.p (ev_call dt.p ?_)))))
          rw [h0]; exact s1
      · obtain ⟨r, r1, r2, r3⟩ := two 360 (by decide) (by decide) (by unfold md; rw [if_neg b0, if_neg b3]; rfl) (n1 (by omega))
        refine ⟨r, ?_, ?_, fun q => absurd h0 q, fun _ => r3⟩
        · unfold daycount_Part.f
          refine ev_call h1 (ev_pos h0 (ev_neg b0 (ev_neg b3 ?_)))
          rw [h0]; exact r1
        · unfold cashbookref05_Part.f
          refine ev_call h2 (ev_pos h0 (ev_neg b0 (ev_pos (by omega) (ev_call r2 ?_))))
          rw [h0]; exact ev_ret
  · refine ⟨none31, ?_, ?_, fun _ => rfl, fun q => absurd q h0⟩
    · unfold daycount_Part.f
      exact ev_call h1 (ev_neg h0 ev_ret)
    · unfold cashbookref05_Part.f
      exact ev_call h2 (ev_neg h0 ev_ret)
theorem alive_now : cashbooklaw05_alive.f 120 = some true := by decide +kernel
theorem alive_ev : Ev (fun k => cashbooklaw05_alive.f k) true := ev_some cashbooklaw05_alive.mono ⟨120, alive_now⟩
end Go.Proofs.YtjhljcnjafbkfaaDoor.Pure
end
section
set_option linter.unusedVariables false
namespace Go.Proofs.YtjhljcnjafbkfaaDoor.Pure
open Go.RowKit Go.Proofs.YtjhljcnjafbkfaaDoor.X Go.Proofs.YtjhljcnjafbkfaaDoor.L
theorem bounds32 {n : Int} (h : (Lit.int .i32 n).wf = true) : -2147483648 ≤ n ∧ n ≤ 2147483647 := by
  simp [Lit.wf, IntKind.min, IntKind.max, IntKind.signed, IntKind.bits] at h
  omega
theorem bounds8 {n : Int} (h : (Lit.int .u8 n).wf = true) : 0 ≤ n ∧ n ≤ 255 := by
  simp [Lit.wf, IntKind.min, IntKind.max, IntKind.signed, IntKind.bits] at h
  omega
theorem rp_len {r : RatT} {q : Rat} (h : Rp r q) : r.f1.length ≤ 1000000 ∧ r.f2.length ≤ 1000000 := by
  have := h.ln
  have := h.ld
  omega
theorem mkRat_add_M (a b : Int) {M : Nat} (hM : M ≠ 0) : mkRat a M + mkRat b M = mkRat (a + b) M := by
  rw [Rat.mkRat_add_mkRat _ _ hM hM, ← Rat.mkRat_mul_right (n := a + b) (d := M) (a := M) hM, Int.add_mul]
theorem mkRat_num_nonneg {A : Int} {M : Nat} (hA : 0 ≤ A) (hM : M ≠ 0) : 0 ≤ (mkRat A M).num := by
  rw [Rat.num_mkRat, if_neg hM]
  exact Int.ediv_nonneg hA (by omega)
theorem DaycountPieces (x0 : Int) (x1 : S39) (hw0 : (Lit.int .u8 x0).wf = true) (hw1 : wf39 x1) : ∃ k, cashbooklaw05_DaycountPieces.f k x0 x1 = some true := by
  refine ev_rounds ?_
  obtain ⟨q1, q2⟩ := bounds8 hw0
  obtain ⟨a1, a2⟩ := bounds32 hw1.1
  obtain ⟨b1, b2⟩ := bounds32 hw1.2.1
  obtain ⟨c1, c2⟩ := bounds32 hw1.2.2
  obtain ⟨b, hb⟩ : ∃ b, b = x0 % 4 := ⟨_, rfl⟩
  have eb : wrap64 (Int.tmod x0 4) = b := by rw [tmod_pos q1, wrap_id (by omega) (by omega), hb]
  have hb0 : 0 ≤ b ∧ b < 4 := by omega
  obtain ⟨x, x_1, _, _, x_4⟩ := Days_pos (b := b) a1 a2 b1 b2
  obtain ⟨y, y_1, _, _, y_4⟩ := Days_pos (b := b) b1 b2 c1 c2
  obtain ⟨z, z_1, _, _, z_4⟩ := Days_pos (b := b) a1 a2 c1 c2
  obtain ⟨p, p_1, _, _, p_4⟩ := Part_both (b := b) a1 a2 b1 b2
  obtain ⟨q, q_1, _, _, q_4⟩ := Part_both (b := b) b1 b2 c1 c2
  obtain ⟨r, r_1, _, _, r_4⟩ := Part_both (b := b) a1 a2 c1 c2
  unfold cashbooklaw05_DaycountPieces.f
  rw [eb]
  refine ev_call x_1 (ev_call y_1 (ev_call z_1 (ev_call p_1 (ev_call q_1 (ev_call r_1 (ev_pos (c := wrg b x1.f0 x1.f1 = wrg b x1.f0 x1.f1) rfl (ev_pos (c := wrg b x1.f1 x1.f2 = wrg b x1.f1 x1.f2) rfl ?_)))))))
  refine Ev.step (fun k => by simp only [cashbooklaw05_DaycountPieces.j0]; rfl) (ev_neg (by simp) ?_)
  by_cases e1 : wrg b x1.f0 x1.f1 = 0
  · refine ev_pos e1 ?_
    by_cases e2 : wrg b x1.f1 x1.f2 = 0
    · refine Ev.step (fun k => by simp only [cashbooklaw05_DaycountPieces.j1]; rfl) (ev_neg (by simp [e2]) ?_)
      obtain ⟨_, d0, d1, l1⟩ := wrg_zero e1
      obtain ⟨_, _, d2, l2⟩ := wrg_zero e2
      have e3 : wrg b x1.f0 x1.f2 = 0 := by
        unfold wrg
        rw [if_neg (fun h => h hb0), if_neg (fun h => h ⟨d0, d2⟩), if_neg (by omega)]
      have e4 : wrg b x1.f0 x1.f0 = 0 := by
        unfold wrg
        rw [if_neg (fun h => h hb0), if_neg (fun h => h ⟨d0, d0⟩), if_neg (by omega)]
      obtain ⟨n, n_1, _, _, n_4⟩ := Days_pos (b := b) a1 a2 a1 a2
      have P := p_4 e1
      have Q := q_4 e2
      have R := r_4 e3
      have hM := md_pos b
      have g1 := pos_le e1
      have g2 := pos_le e2
      have k0 := pos_b (b := b) d0
      have k1 := pos_b (b := b) d1
      have k2 := pos_b (b := b) d2
      obtain ⟨s, e, s1, s2⟩ := Add_out P Q
      rw [mkRat_add_M _ _ (by omega)] at s2
      have hfit : Fits (mkRat (pos b x1.f1 - pos b x1.f0 + (pos b x1.f2 - pos b x1.f1)) (md b)) := small_fits (by omega) (by omega) (by omega)
      rcases s2 with ⟨_, S, rfl⟩ | ⟨h, _⟩
      · rw [show pos b x1.f1 - pos b x1.f0 + (pos b x1.f2 - pos b x1.f1) = pos b x1.f2 - pos b x1.f0 by omega] at S
        obtain rfl := S.inj R
        have hs := RSame_ev (a := s) (b := s) (rp_len S).1 (rp_len S).2
        rw [decide_eq_true rfl] at hs
        obtain ⟨x_5, x_6⟩ := x_4 e1
        obtain ⟨y_5, y_6⟩ := y_4 e2
        obtain ⟨z_5, z_6⟩ := z_4 e3
        obtain ⟨n_5, n_6⟩ := n_4 e4
        have xb : 0 ≤ x ∧ x ≤ 400000000 := by
          by_cases h : b = 3
          · have := x_6 (by omega); omega
          · have := x_5 h; omega
        have yb : 0 ≤ y ∧ y ≤ 400000000 := by
          by_cases h : b = 3
          · have := y_6 (by omega); omega
          · have := y_5 h; omega
        have xyz : x + y = z := by
          by_cases h : b = 3
          · have := x_6 (by omega); have := y_6 (by omega); have := z_6 (by omega); omega
          · have := x_5 h; have := y_5 h; have := z_5 h; omega
        have nn : n = 0 := by
          by_cases h : b = 3
          · have := n_6 (by omega); omega
          · have := n_5 h; omega
        have pn : p.f0 = false := by
          rw [P.sg]
          have := mkRat_num_nonneg (A := pos b x1.f1 - pos b x1.f0) (M := md b) (by omega) (by omega)
          exact decide_eq_false (by omega)
        refine ev_call s1 (ev_call hs (ev_call n_1 (ev_call alive_ev ?_)))
        refine ev_pos (c := true = true) rfl (ev_pos e3 (ev_pos rfl (ev_pos e4 (ev_pos xb.1 (ev_pos yb.1 (ev_pos ?_ (ev_pos (c := true = true) rfl (ev_neg ?_ (ev_pos nn ?_)))))))))
        · rw [wrap_id (by omega) (by omega)]; exact xyz
        · rw [pn]; decide
        · by_cases hx : 0 < x
          · exact ev_pos hx ev_ret
          · refine ev_neg hx (ev_eq (decide_eq_true ?_))
            have hq : pos b x1.f1 - pos b x1.f0 = 0 := by
              by_cases h : b = 3
              · have := x_6 (by omega)
                have : x1.f1 = x1.f0 := by omega
                rw [this]; omega
              · have := x_5 h; omega
            have h0 : p.f1 = [] := P.num0.2 (by rw [hq]; simp)
            rw [h0]; rfl
      · exact absurd hfit h
    · refine Ev.step (fun k => by simp only [cashbooklaw05_DaycountPieces.j1]; rfl) (ev_pos (by simp [e2]) (ev_call alive_ev ev_ret))
  · refine ev_neg e1 ?_
    exact Ev.step (fun k => by simp only [cashbooklaw05_DaycountPieces.j1]; rfl) (ev_pos (c := true = true) rfl (ev_call alive_ev ev_ret))
end Go.Proofs.YtjhljcnjafbkfaaDoor.Pure
end
