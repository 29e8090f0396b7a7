import Derived.Test.YtcidmdjhmhkmgaaDoorS16
import Derived.Test.YtcidmdjhmhkmgaaDoorRefB
import Derived.Test.YtcidmdjhmhkmgaaDoorProd
set_option linter.unusedVariables false
namespace Go.Proofs.YtcidmdjhmhkmgaaDoor.Pure
open Go.RowKit Go.Proofs.YtcidmdjhmhkmgaaDoorW.PrintWords Go.Proofs.YtcidmdjhmhkmgaaDoorW.PrintMore Go.Proofs.YtcidmdjhmhkmgaaDoor.S Go.Proofs.YtcidmdjhmhkmgaaDoor.L
structure HfSt (x out : List Int) (c : Int) (i : Nat) : Prop where
  dg : D16 out
  len : out.length = x.length
  c01 : c = 0 ∨ c = 1
  zero : ∀ p, p < i → out.getD p 0 = 0
  val : v16 x = 2 * v16 out + c * 65536 ^ i + v16 (x.take i)
theorem half_loop {x : List Int} (hx : D16 x) (hl : x.length ≤ 1000000) : ∀ i, i ≤ x.length → ∀ out c, HfSt x out c i →
    ∃ r, Ev (fun k => cashbookref01_half.l0 k x out c ((i : Int) - 1)) r ∧ C16 r ∧ v16 r = v16 x / 2 ∧ r.length ≤ x.length
  | 0, _, out, c, h => by
    have hlen := h.len
    obtain ⟨t, t1, t2, t3, t4⟩ := trimR_ev h.dg (by omega)
    have hval := h.val
    have hc := h.c01
    rw [Int.pow_zero, Int.mul_one, List.take_zero] at hval
    have e : v16 [] = 0 := rfl
    refine ⟨t, Ev.step (fun k => by simp only [cashbookref01_half.l0]; rfl) (ev_neg (by omega) (ev_call t1 ev_ret)), t2, by rw [t3]; omega, by omega⟩
  | i + 1, hi, out, c, h => by
    have hlen := h.len
    have g := hx.get G0 i
    have hc := h.c01
    have e1 : ((i + 1 : Nat) : Int) - 1 = (i : Int) := by omega
    rw [e1]
    obtain ⟨n, hn⟩ : ∃ n, n = c * 65536 + x.getD i 0 := ⟨_, rfl⟩
    have n0 : 0 ≤ n := by omega
    have n1 : n < 131072 := by omega
    obtain ⟨r, q1, q2⟩ := half_loop hx hl i (by omega) (out.set i (n / 2)) (n % 2) ⟨h.dg.set _ ⟨by omega, by omega⟩, by rw [List.length_set]; exact hlen, by omega, fun p hp => by rw [gset_ne (by omega)]; exact h.zero p (by omega), by
      have hv := h.val
      have hv' : dv 65536 x = 2 * dv 65536 out + c * 65536 ^ (i + 1) + dv 65536 (x.take (i + 1)) := hv
      show dv _ _ = 2 * dv _ _ + _ + dv _ _
      rw [dv_set _ _ _ _ (by omega), h.zero i (by omega), hv', dv_take_succ, Int.pow_succ]
      have e2 : n % 2 = n - 2 * (n / 2) := by omega
      rw [e2, hn]
      grind⟩
    refine ⟨r, Ev.step (fun k => by simp only [cashbookref01_half.l0]; rfl) ?_, q2⟩
    refine ev_pos (by omega) (ev_pos (by omega) (ev_pos (by omega) (ev_pos (by omega) ?_)))
    rw [rd_nat, wrap_id (x := c * 65536) (by omega) (by omega), ← hn, w64_id (x := n) (by omega) (by omega), tdiv_pos n0, tmod_pos n0, w64_id (x := n / 2) (by omega) (by omega), Int.toNat_natCast, dec64 (by omega)]
    exact q1
theorem half_ev {x : List Int} (hx : D16 x) (hl : x.length ≤ 1000000) : ∃ r, Ev (fun k => cashbookref01_half.f k x) r ∧ C16 r ∧ v16 r = v16 x / 2 ∧ r.length ≤ x.length := by
  have hs := MO.start G0 x [] x.length
  obtain ⟨r, q1, q2⟩ := half_loop hx hl x.length (Nat.le_refl _) (List.replicate x.length 0) 0 ⟨hs.dg, hs.len, .inl rfl, fun p hp => by rw [getD_lt (by simpa using hp)]; simp, by
    have e : v16 (List.replicate x.length 0) = 0 := by
      show dv _ _ = 0
      generalize x.length = n
      induction n with
      | zero => rfl
      | succ n ih => rw [List.replicate_succ]; simp [dv, ih]
    rw [e, List.take_length]; simp⟩
  refine ⟨r, ?_, q2⟩
  unfold cashbookref01_half.f
  rw [Int.toNat_natCast, dec64 (by omega)]
  exact ev_pos (by omega) (ev_pos (by omega) q1)
def n16 (l : List Int) : Nat := (v16 l).toNat
theorem n16_cast {l : List Int} (h : D16 l) : (n16 l : Int) = v16 l := Int.toNat_of_nonneg (dv_nonneg G0 h)
theorem odd_at {l : List Int} (h : D16 l) : Int.tmod (rd l 0) 2 = ((n16 l % 2 : Nat) : Int) := by
  have g := h.get G0 0
  have e := dv_drop 65536 l 0
  rw [List.drop_zero] at e
  have c := n16_cast h
  have e' : v16 l = l.getD 0 0 + 65536 * dv 65536 (l.drop (0 + 1)) := e
  have r0 : rd l 0 = l.getD 0 0 := rfl
  rw [r0, tmod_pos g.1]
  omega
theorem n16_pos {l : List Int} (h : C16 l) (h0 : 0 < l.length) : 0 < n16 l := by
  have h1 := cn_pow_le G0 h (List.length_pos_iff.1 h0)
  have h2 := pow_pos_ G0 (l.length - 1)
  have h3 := n16_cast h.dg
  have h4 : 0 < v16 l := by show 0 < dv _ _; omega
  omega
theorem len_pos16 {l : List Int} (h : 0 < n16 l) : 0 < l.length := by
  rcases Nat.eq_zero_or_pos l.length with h0 | h0
  · obtain rfl : l = [] := List.eq_nil_of_length_eq_zero h0
    exact absurd h (by decide)
  · exact h0
theorem gr_l4 {t : Nat} (ht : t ≤ 40000) : ∀ i, i ≤ t → ∀ y, C16 y → y.length ≤ 10000 + i → ∃ r, Ev (fun k => cashbookref01_Gcd.l4 k y (t : Int) (i : Int)) (r, 0) ∧ C32 r ∧ v32 r = 2 ^ (t - i) * v16 y := by
  refine down t ?_ ?_
  · intro y hy hl
    obtain ⟨s, s1, s2, s3, s4⟩ := nat_ev hy (by omega)
    refine ⟨s, Ev.step (fun k => by simp only [cashbookref01_Gcd.l4]; rfl) (ev_neg (by omega) (ev_call s1 ev_ret)), s2, ?_⟩
    rw [s3, Nat.sub_self]; simp
  · intro i hi ih y hy hl
    obtain ⟨s, s1, s2, s3, s4⟩ := sum_ev hy.dg hy.dg (by omega) (by omega)
    obtain ⟨r, r1, r2, r3⟩ := ih s s2 (by omega)
    refine ⟨r, Ev.step (fun k => by simp only [cashbookref01_Gcd.l4]; rfl) (ev_pos (by omega) (ev_call s1 ?_)), r2, ?_⟩
    · rw [inc64 (by omega)]; exact r1
    · rw [r3, s3, show t - i = (t - (i + 1)) + 1 by omega, Int.pow_succ]; grind
def GrQ (g t : Nat) (f : Nat → Option (List Int × Int)) : Prop := ∃ r, Ev f (r, 0) ∧ C32 r ∧ v32 r = 2 ^ t * (g : Int)
theorem coprime2 {n : Nat} (h : n % 2 = 1) : Nat.Coprime 2 n := by
  unfold Nat.Coprime
  rw [Nat.gcd_rec, h, Nat.gcd_one_left]
theorem half_cast {x s : List Int} (hx : D16 x) (hs : D16 s) (h : v16 s = v16 x / 2) : n16 s = n16 x / 2 := by
  have := n16_cast hx
  have := n16_cast hs
  omega
theorem gr_main {t g : Nat} (ht : t ≤ 40000) (hg : g % 2 = 1) : ∀ n,
    (∀ x y, C16 x → C16 y → x.length ≤ 10000 → y.length ≤ 10000 → 0 < n16 y → n16 x + n16 y ≤ n → Nat.gcd (n16 x) (n16 y) = g → GrQ g t (fun k => cashbookref01_Gcd.l1 k x y (t : Int))) ∧
    (∀ x y, C16 x → C16 y → x.length ≤ 10000 → y.length ≤ 10000 → 0 < n16 y → 0 < n16 x → n16 x + n16 y ≤ n → Nat.gcd (n16 x) (n16 y) = g → GrQ g t (fun k => cashbookref01_Gcd.l2 k x y (t : Int))) ∧
    (∀ x y, C16 x → C16 y → x.length ≤ 10000 → y.length ≤ 10000 → 0 < n16 y → n16 x % 2 = 1 → n16 x + n16 y ≤ n → Nat.gcd (n16 x) (n16 y) = g → GrQ g t (fun k => cashbookref01_Gcd.l3 k x y (t : Int))) := by
  intro n
  induction n with
  | zero =>
    exact ⟨fun x y _ _ _ _ h1 h2 => by omega, fun x y _ _ _ _ h1 h2 h3 => by omega, fun x y _ _ _ _ h1 h2 h3 => by omega⟩
  | succ n ih =>
    obtain ⟨ih1, ih2, ih3⟩ := ih
    have A3 : ∀ x y, C16 x → C16 y → x.length ≤ 10000 → y.length ≤ 10000 → 0 < n16 y → n16 x % 2 = 1 → n16 x + n16 y ≤ n + 1 → Nat.gcd (n16 x) (n16 y) = g → GrQ g t (fun k => cashbookref01_Gcd.l3 k x y (t : Int)) := by
      intro x y hx hy lx ly py ox hn hgc
      have lpy := len_pos16 py
      have o := odd_at hy.dg
      by_cases he : n16 y % 2 = 0
      · obtain ⟨s, s1, s2, s3, s4⟩ := half_ev hy.dg (by omega)
        have hc := half_cast hy.dg s2.dg s3
        obtain ⟨r, r1, r2⟩ := ih3 x s hx s2 lx (by omega) (by omega) ox (by omega) (by
          rw [← hgc]
          have e : n16 y = 2 * n16 s := by omega
          rw [e, Nat.Coprime.gcd_mul_left_cancel_right _ (coprime2 ox)])
        exact ⟨r, Ev.step (fun k => by simp only [cashbookref01_Gcd.l3]; rfl) (ev_pos (by omega) (ev_pos (by rw [o, he]; rfl) (ev_call s1 r1))), r2⟩
      · have hls := less_ev hx.dg hy.dg (by omega) (by omega)
        have cx := n16_cast hx.dg
        have cy := n16_cast hy.dg
        have hgo : ∀ r, Ev (fun k => (cashbookref01_less.f k x y).bind fun t597 => (if t597 = true then ((cashbookref01_rest.f k y x).bind fun t598 => (cashbookref01_Gcd.l1 k t598 x (t : Int))) else ((cashbookref01_rest.f k x y).bind fun t601 => (cashbookref01_Gcd.l1 k t601 y (t : Int))))) r → Ev (fun k => cashbookref01_Gcd.l3 k x y (t : Int)) r := fun r hr =>
          Ev.step (fun k => by simp only [cashbookref01_Gcd.l3]; rfl) (ev_pos (by omega) (ev_neg (by rw [o]; omega) hr))
        by_cases hlt : v16 x < v16 y
        · obtain ⟨s, s1, s2, s3, s4⟩ := rest_ev hy hx (by omega) (by omega)
          have cs := n16_cast s2.dg
          have e : n16 s = n16 y - n16 x := by omega
          obtain ⟨r, r1, r2⟩ := ih1 s x s2 hx (by omega) lx (by omega) (by omega) (by
            rw [e, Nat.gcd_sub_self_left (by omega), Nat.gcd_comm]; exact hgc)
          exact ⟨r, hgo _ (ev_call hls (ev_pos (by simpa using hlt) (ev_call s1 r1))), r2⟩
        · obtain ⟨s, s1, s2, s3, s4⟩ := rest_ev hx hy (by omega) (by omega)
          have cs := n16_cast s2.dg
          have e : n16 s = n16 x - n16 y := by omega
          obtain ⟨r, r1, r2⟩ := ih1 s y s2 hy (by omega) ly py (by omega) (by
            rw [e, Nat.gcd_sub_self_left (by omega)]; exact hgc)
          exact ⟨r, hgo _ (ev_call hls (ev_neg (by simpa using hlt) (ev_call s1 r1))), r2⟩
    have A2 : ∀ x y, C16 x → C16 y → x.length ≤ 10000 → y.length ≤ 10000 → 0 < n16 y → 0 < n16 x → n16 x + n16 y ≤ n + 1 → Nat.gcd (n16 x) (n16 y) = g → GrQ g t (fun k => cashbookref01_Gcd.l2 k x y (t : Int)) := by
      intro x y hx hy lx ly py px hn hgc
      have lpx := len_pos16 px
      have o := odd_at hx.dg
      by_cases he : n16 x % 2 = 0
      · obtain ⟨s, s1, s2, s3, s4⟩ := half_ev hx.dg (by omega)
        have hc := half_cast hx.dg s2.dg s3
        have hoy : n16 y % 2 = 1 := by
          rcases Nat.mod_two_eq_zero_or_one (n16 y) with h | h
          · exfalso
            have hd := Nat.dvd_gcd (Nat.dvd_of_mod_eq_zero he) (Nat.dvd_of_mod_eq_zero h)
            rw [hgc] at hd
            have := Nat.mod_eq_zero_of_dvd hd
            omega
          · exact h
        obtain ⟨r, r1, r2⟩ := ih2 s y s2 hy (by omega) ly py (by omega) (by omega) (by
          rw [← hgc]
          have e : n16 x = 2 * n16 s := by omega
          rw [e, Nat.Coprime.gcd_mul_left_cancel _ (coprime2 hoy)])
        exact ⟨r, Ev.step (fun k => by simp only [cashbookref01_Gcd.l2]; rfl) (ev_pos (by omega) (ev_pos (by rw [o, he]; rfl) (ev_call s1 r1))), r2⟩
      · obtain ⟨r, r1, r2⟩ := A3 x y hx hy lx ly py (by omega) hn hgc
        exact ⟨r, Ev.step (fun k => by simp only [cashbookref01_Gcd.l2]; rfl) (ev_pos (by omega) (ev_neg (by rw [o]; omega) r1)), r2⟩
    refine ⟨?_, A2, A3⟩
    intro x y hx hy lx ly py hn hgc
    by_cases h0 : 0 < x.length
    · obtain ⟨r, r1, r2⟩ := A2 x y hx hy lx ly py (n16_pos hx h0) hn hgc
      exact ⟨r, Ev.step (fun k => by simp only [cashbookref01_Gcd.l1]; rfl) (ev_pos (by omega) r1), r2⟩
    · obtain rfl : x = [] := List.eq_nil_of_length_eq_zero (by omega)
      have e : n16 [] = 0 := rfl
      rw [e, Nat.gcd_zero_left] at hgc
      obtain ⟨r, r1, r2, r3⟩ := gr_l4 ht 0 (by omega) y hy (by omega)
      refine ⟨r, Ev.step (fun k => by simp only [cashbookref01_Gcd.l1]; rfl) (ev_neg (by decide) r1), r2, ?_⟩
      rw [r3, ← hgc, n16_cast hy.dg, Nat.sub_zero]
theorem gr_l0 (E : Nat) (hE : E = 40000) : ∀ (n : Nat) (t : Nat) (x y : List Int), C16 x → C16 y → x.length ≤ 10000 → y.length ≤ 10000 → 0 < n16 x → 0 < n16 y → n16 x ≤ n → 2 ^ t * n16 x < 2 ^ E → GrQ (Nat.gcd (n16 x) (n16 y)) t (fun k => cashbookref01_Gcd.l0 k x y (t : Int)) := by
  intro n
  induction n with
  | zero => intro t x y _ _ _ _ h1 h2 h3; omega
  | succ n ih =>
    intro t x y hx hy lx ly px py hn hB
    have lpx := len_pos16 px
    have lpy := len_pos16 py
    have ox := odd_at hx.dg
    have oy := odd_at hy.dg
    have ht : t < 40000 := by
      refine Nat.lt_of_not_le fun h => ?_
      have h1 : 2 ^ E ≤ 2 ^ t := Nat.pow_le_pow_right (by decide) (by omega)
      have h2 : 2 ^ t * 1 ≤ 2 ^ t * n16 x := Nat.mul_le_mul_left _ px
      rw [Nat.mul_one] at h2
      exact absurd (Nat.lt_of_le_of_lt (Nat.le_trans h1 h2) hB) (Nat.lt_irrefl _)
    by_cases hb : n16 x % 2 = 0 ∧ n16 y % 2 = 0
    · obtain ⟨s, s1, s2, s3, s4⟩ := half_ev hx.dg (by omega)
      obtain ⟨u, u1, u2, u3, u4⟩ := half_ev hy.dg (by omega)
      have c1 := half_cast hx.dg s2.dg s3
      have c2 := half_cast hy.dg u2.dg u3
      have e1 : n16 x = 2 * n16 s := by omega
      have e2 : n16 y = 2 * n16 u := by omega
      obtain ⟨r, r1, r2, r3⟩ := ih (t + 1) s u s2 u2 (by omega) (by omega) (by omega) (by omega) (by omega) (by
        rw [Nat.pow_succ, Nat.mul_assoc, ← e1]; exact hB)
      refine ⟨r, Ev.step (fun k => by simp only [cashbookref01_Gcd.l0]; rfl) (ev_pos (by omega) (ev_pos (by rw [ox, hb.1]; rfl) (ev_pos (by omega) ?_))), r2, ?_⟩
      · rw [oy, hb.2]
        refine Ev.step (fun k => by simp only [cashbookref01_Gcd.j2]; rfl) (ev_pos (by decide) (ev_call s1 (ev_call u1 ?_)))
        rw [inc64 (by omega)]; exact r1
      · rw [r3, e1, e2, Nat.gcd_mul_left, Int.pow_succ]; push_cast; grind
    · have hg : Nat.gcd (n16 x) (n16 y) % 2 = 1 := by
        rcases Nat.mod_two_eq_zero_or_one (Nat.gcd (n16 x) (n16 y)) with h | h
        · exfalso
          have hd := Nat.dvd_of_mod_eq_zero h
          exact hb ⟨Nat.mod_eq_zero_of_dvd (Nat.dvd_trans hd (Nat.gcd_dvd_left _ _)), Nat.mod_eq_zero_of_dvd (Nat.dvd_trans hd (Nat.gcd_dvd_right _ _))⟩
        · exact h
      obtain ⟨r, r1, r2⟩ := (gr_main (t := t) (by omega) hg (n16 x + n16 y)).1 x y hx hy lx ly py (Nat.le_refl _) rfl
      have hj : Ev (fun k => cashbookref01_Gcd.j2 k x y (t : Int) false) (r, 0) := Ev.step (fun k => by simp only [cashbookref01_Gcd.j2]; rfl) (ev_neg (by decide) r1)
      refine ⟨r, Ev.step (fun k => by simp only [cashbookref01_Gcd.l0]; rfl) (ev_pos (by omega) ?_), r2⟩
      by_cases h1 : n16 x % 2 = 0
      · refine ev_pos (by rw [ox, h1]; rfl) (ev_pos (by omega) ?_)
        have h2 : n16 y % 2 = 1 := by omega
        rw [oy, h2]; exact hj
      · exact ev_neg (by rw [ox]; omega) hj
theorem GcdR_ev {a b : List Int} (ha : D32 a) (hb : D32 b) (hla : a.length ≤ 1000) (hlb : b.length ≤ 1000) : ∃ r e, Ev (fun k => cashbookref01_Gcd.f k a b) (r, e) ∧
    ((¬ (rt a ∧ rt b) ∧ r = [] ∧ e = 1) ∨ (rt a ∧ rt b ∧ C32 r ∧ v32 r = (Nat.gcd (v32 a).toNat (v32 b).toNat : Int) ∧ e = 0)) := by
  by_cases h1 : rt a
  · by_cases h2 : rt b
    · obtain ⟨x, x1, x2, x3, x4⟩ := figs_ev ha (by omega)
      obtain ⟨y, y1, y2, y3, y4⟩ := figs_ev hb (by omega)
      have cx := n16_cast x2.dg
      have cy := n16_cast y2.dg
      have ex : (v32 a).toNat = n16 x := by omega
      have ey : (v32 b).toNat = n16 y := by omega
      rw [ex, ey]
      have hE : ∀ p, Ev (fun k => if (x.length : Int) = 0 then ((cashbookref01_nat.f k y).bind fun t575 => (some (t575, (0 : Int)))) else (if (y.length : Int) = 0 then ((cashbookref01_nat.f k x).bind fun t578 => (some (t578, 0))) else (cashbookref01_Gcd.l0 k x y 0))) p → Ev (fun k => cashbookref01_Gcd.f k a b) p := fun p hp => by
        unfold cashbookref01_Gcd.f
        refine ev_pure (RightR_eq (by omega)) (ev_pure (RightR_eq (by omega)) (ev_pos (by simpa using h1) ?_))
        rw [decide_eq_true h2]
        exact Ev.step (fun k => by simp only [cashbookref01_Gcd.j0]; rfl) (ev_neg (by decide) (ev_call x1 (ev_call y1 hp)))
      by_cases hx0 : x.length = 0
      · obtain rfl : x = [] := List.eq_nil_of_length_eq_zero hx0
        obtain ⟨s, s1, s2, s3, s4⟩ := nat_ev y2 (by omega)
        refine ⟨s, 0, hE _ (ev_pos (by simp) (ev_call s1 ev_ret)), .inr ⟨h1, h2, s2, ?_, rfl⟩⟩
        have e : n16 [] = 0 := rfl
        rw [e, Nat.gcd_zero_left, s3, cy]
      · by_cases hy0 : y.length = 0
        · obtain rfl : y = [] := List.eq_nil_of_length_eq_zero hy0
          obtain ⟨s, s1, s2, s3, s4⟩ := nat_ev x2 (by omega)
          refine ⟨s, 0, hE _ (ev_neg (by omega) (ev_pos (by simp) (ev_call s1 ev_ret))), .inr ⟨h1, h2, s2, ?_, rfl⟩⟩
          have e : n16 [] = 0 := rfl
          rw [e, Nat.gcd_zero_right, s3, cx]
        · obtain ⟨E, hE0⟩ : ∃ E : Nat, E = 40000 := ⟨_, rfl⟩
          have hB : 2 ^ 0 * n16 x < 2 ^ E := by
            have hlt := dv_lt G0 x2.dg
            have e : (65536 : Int) ^ x.length = ((2 ^ (16 * x.length) : Nat) : Int) := by push_cast; rw [Int.pow_mul]; rfl
            rw [e] at hlt
            have h3 : n16 x < 2 ^ (16 * x.length) := by
              have hlt' : v16 x < ((2 ^ (16 * x.length) : Nat) : Int) := hlt
              omega
            have h4 : 2 ^ (16 * x.length) ≤ 2 ^ E := Nat.pow_le_pow_right (by decide) (by omega)
            rw [Nat.pow_zero, Nat.one_mul]
            exact Nat.lt_of_lt_of_le h3 h4
          obtain ⟨r, r1, r2, r3⟩ := gr_l0 E hE0 (n16 x) 0 x y x2 y2 (by omega) (by omega) (n16_pos x2 (by omega)) (n16_pos y2 (by omega)) (Nat.le_refl _) hB
          refine ⟨r, 0, hE _ (ev_neg (by omega) (ev_neg (by omega) r1)), .inr ⟨h1, h2, r2, ?_, rfl⟩⟩
          rw [r3, Int.pow_zero, Int.one_mul]
    · refine ⟨[], 1, ?_, .inl ⟨fun h => h2 h.2, rfl, rfl⟩⟩
      unfold cashbookref01_Gcd.f
      refine ev_pure (RightR_eq (by omega)) (ev_pure (RightR_eq (by omega)) (ev_pos (by simpa using h1) ?_))
      rw [decide_eq_false h2]
      show Ev (fun k => cashbookref01_Gcd.j0 k a b true) _
      exact Ev.step (fun k => by simp only [cashbookref01_Gcd.j0]; rfl) (ev_pos (c := true = true) rfl ev_ret)
  · refine ⟨[], 1, ?_, .inl ⟨fun h => h1 h.1, rfl, rfl⟩⟩
    unfold cashbookref01_Gcd.f
    refine ev_pure (RightR_eq (by omega)) (ev_pure (RightR_eq (by omega)) (ev_neg (by simpa using h1) ?_))
    exact Ev.step (fun k => by simp only [cashbookref01_Gcd.j0]; rfl) (ev_pos (c := true = true) rfl ev_ret)
end Go.Proofs.YtcidmdjhmhkmgaaDoor.Pure
