import Derived.Test.YtcidmdjhmhkmgaaDoorS15
import Derived.Test.YtcidmdjhmhkmgaaDoorRefB
import Derived.Test.YtcidmdjhmhkmgaaDoorProd
set_option linter.unusedVariables false
namespace Go.Proofs.YtcidmdjhmhkmgaaDoor.Pure
open Go.RowKit Go.Proofs.YtcidmdjhmhkmgaaDoorW.PrintWords Go.Proofs.YtcidmdjhmhkmgaaDoorW.PrintMore Go.Proofs.YtcidmdjhmhkmgaaDoor.S Go.Proofs.YtcidmdjhmhkmgaaDoor.L
theorem pow16 (i : Nat) : (2 : Int) ^ i = 65536 ^ (i / 16) * 2 ^ (i % 16) := by
  have e : (65536 : Int) = 2 ^ 16 := rfl
  rw [e, ← Int.pow_mul, ← Int.pow_add, Nat.div_add_mod]
/-- The bit at place i. -/
theorem bit_at {x : List Int} (hx : D16 x) (i : Nat) : v16 x % 2 ^ (i + 1) = 2 ^ i * (x.getD (i / 16) 0 / 2 ^ (i % 16) % 2) + v16 x % 2 ^ i := by
  have h0 : 0 ≤ v16 x := dv_nonneg G0 hx
  obtain ⟨X, hX⟩ := Int.eq_ofNat_of_zero_le h0
  have e1 : v16 x % 2 ^ (i + 1) = v16 x % 2 ^ i + 2 ^ i * (v16 x / 2 ^ i % 2) := by
    rw [hX]
    have h := @Nat.mod_mul (2 ^ i) 2 X
    rw [← Nat.pow_succ] at h
    have h2 := congrArg (fun n : Nat => (n : Int)) h
    push_cast at h2
    exact h2
  have e2 : v16 x / 2 ^ i % 2 = x.getD (i / 16) 0 / 2 ^ (i % 16) % 2 := by
    obtain ⟨j, hj⟩ : ∃ j, j = i / 16 := ⟨_, rfl⟩
    obtain ⟨r, hr⟩ : ∃ r, r = i % 16 := ⟨_, rfl⟩
    rw [pow16 i, ← hj, ← hr]
    have p1 := dv_parts 65536 x j
    rw [dv_drop] at p1
    have a0 := dv_nonneg G0 (hx.take j)
    have a1 := dv_take_lt G0 hx j
    obtain ⟨A, hA⟩ : ∃ A, A = dv 65536 (x.take j) := ⟨_, rfl⟩
    obtain ⟨D, hD⟩ : ∃ D, D = dv 65536 (x.drop (j + 1)) := ⟨_, rfl⟩
    rw [← hA] at a0 a1 p1
    rw [← hD] at p1
    have hP := pow_pos_ G0 j
    have h2r := pow_pos_ (B := 2) (by decide) r
    have q1 : v16 x / (65536 ^ j * 2 ^ r) = (x.getD j 0 + 65536 * D) / 2 ^ r := by
      have hd := @Int.ediv_ediv (v16 x) (65536 ^ j) (2 ^ r)
      rw [if_neg (by omega), Int.sub_zero] at hd
      rw [← hd]
      have e : v16 x = A + 65536 ^ j * (x.getD j 0 + 65536 * D) := p1
      rw [e, Int.add_mul_ediv_left _ _ (by omega), Int.ediv_eq_zero_of_lt a0 a1, Int.zero_add]
    rw [q1]
    have e3 : (65536 : Int) * D = 2 ^ r * (2 * (2 ^ (15 - r) * D)) := by
      have : (65536 : Int) = 2 ^ r * (2 * 2 ^ (15 - r)) := by
        have h : (2 : Int) * 2 ^ (15 - r) = 2 ^ (16 - r) := by rw [show 16 - r = (15 - r) + 1 by omega, Int.pow_succ, Int.mul_comm]
        rw [h, ← Int.pow_add, show r + (16 - r) = 16 by omega]; rfl
      rw [this]; grind
    rw [e3, Int.add_mul_ediv_left _ _ (by omega), Int.add_mul_emod_self_left]
  rw [e1, e2, Int.add_comm]
structure DdSt (x y out left : List Int) (i : Nat) (l : Int) : Prop where
  dg : D16 out
  len : out.length = x.length
  div : ∀ j, out.getD j 0 % 2 ^ (min 16 (i - 16 * j)) = 0
  cl : C16 left
  lv : v16 left = l
  val : v16 x = v16 y * v16 out + 2 ^ i * l + v16 x % 2 ^ i
theorem div_weak {n : Int} {a b : Nat} (h : n % 2 ^ a = 0) (hb : b ≤ a) : n % 2 ^ b = 0 := by
  obtain ⟨c, rfl⟩ := Nat.exists_eq_add_of_le hb
  have h1 := Int.dvd_of_emod_eq_zero h
  refine Int.emod_eq_zero_of_dvd (Int.dvd_trans ?_ h1)
  rw [Int.pow_add]; exact Int.dvd_mul_right _ _
theorem left_len {l y : List Int} (hl : C16 l) (hy : C16 y) (h : v16 l < v16 y) : l.length ≤ y.length := Nat.le_of_not_lt fun h1 => by
  have h2 := cn_len_lt G0 hy.dg hl h1
  have h' : dv 65536 l < dv 65536 y := h
  omega
def DdQ (x y : List Int) (r : List Int × List Int) : Prop := C16 r.1 ∧ C16 r.2 ∧ v16 x = v16 y * v16 r.1 + v16 r.2 ∧ v16 r.2 < v16 y ∧ r.1.length ≤ x.length ∧ r.2.length ≤ y.length
theorem dd_j2 {x y : List Int} (hx : D16 x) (hy : C16 y) (hlx : x.length ≤ 10000) (hly : y.length ≤ 10000) (i : Nat) (hi : i < 16 * x.length)
    (next : ∀ out left l, DdSt x y out left i l → l < v16 y → ∃ r, DdQ x y r ∧ Ev (fun k => cashbookref01_divided.l0 k x y out left ((i : Int) - 1)) r)
    {out left : List Int} {l : Int} (h : DdSt x y out left (i + 1) l) {left2 : List Int} (c2 : C16 left2) (v2 : v16 left2 = 2 * l + x.getD (i / 16) 0 / 2 ^ (i % 16) % 2) (hl2 : left2.length ≤ 100000) (hlt : l < v16 y) (hl0 : 0 ≤ l) :
    ∃ r, DdQ x y r ∧ Ev (fun k => cashbookref01_divided.j2 k x y out left2 (i : Int) (2 ^ (i % 16))) r := by
  have hb := bit_at hx i
  have hval := h.val
  have hlen := h.len
  obtain ⟨bit, hbit⟩ : ∃ b, b = x.getD (i / 16) 0 / 2 ^ (i % 16) % 2 := ⟨_, rfl⟩
  rw [← hbit] at hb v2
  have hb01 : bit = 0 ∨ bit = 1 := by omega
  have hv' : v16 x = v16 y * v16 out + 2 ^ i * (2 * l + bit) + v16 x % 2 ^ i := by
    rw [hb, Int.pow_succ] at hval
    rw [Int.mul_add]
    have e : (2 : Int) ^ i * 2 * l = 2 ^ i * (2 * l) := by grind
    omega
  have dj : ∀ j, out.getD j 0 % 2 ^ (min 16 (i - 16 * j)) = 0 := fun j => div_weak (h.div j) (by omega)
  have hls := less_ev c2.dg hy.dg hl2 (by omega)
  have ew : wrap64 ((i : Int) - 1) = (i : Int) - 1 := dec64 (by omega)
  have et : wrap64 (Int.tdiv (i : Int) 16) = ((i / 16 : Nat) : Int) := by rw [tdiv_pos (by omega), w64_id (by omega) (by omega)]; omega
  by_cases hc : v16 left2 < v16 y
  · obtain ⟨r, hq, hr⟩ := next out left2 (2 * l + bit) ⟨h.dg, h.len, dj, c2, v2, hv'⟩ (by omega)
    refine ⟨r, hq, Ev.step (fun k => by simp only [cashbookref01_divided.j2]; rfl) (ev_call hls (ev_pos (decide_eq_true hc) ?_))⟩
    rw [ew]; exact hr
  · rw [decide_eq_false hc] at hls
    obtain ⟨s, s1, s2, s3, s4⟩ := rest_ev c2 hy hl2 (by omega)
    have hj : i / 16 < out.length := by omega
    have gd := h.dg.get G0 (i / 16)
    have hd := h.div (i / 16)
    rw [show min 16 (i + 1 - 16 * (i / 16)) = i % 16 + 1 by omega] at hd
    obtain ⟨p, hp⟩ : ∃ p : Int, p = 2 ^ (i % 16) := ⟨_, rfl⟩
    have hp0 : 0 < p := by rw [hp]; exact pow_pos_ (by decide) _
    have hp2 : (65536 : Int) = 2 * p * 2 ^ (15 - i % 16) := by
      rw [hp, Int.mul_comm 2, ← Int.pow_succ, ← Int.pow_add, show i % 16 + 1 + (15 - i % 16) = 16 by omega]; rfl
    have hpow := pow_pos_ (B := 2) (by decide) (15 - i % 16)
    rw [Int.pow_succ, ← hp] at hd
    obtain ⟨c, hc2⟩ := Int.dvd_of_emod_eq_zero hd
    obtain ⟨z, hz⟩ : ∃ z : Int, z = 2 ^ (15 - i % 16) := ⟨_, rfl⟩
    rw [← hz] at hp2 hpow
    have hcz : c < z := by
      refine Int.lt_of_mul_lt_mul_left (a := 2 * p) ?_ (by omega)
      rw [← hp2]
      have e : 2 * p * c = p * 2 * c := by grind
      omega
    have hup : out.getD (i / 16) 0 + p < 65536 := by
      have h1 : 2 * p * (c + 1) ≤ 2 * p * z := Int.mul_le_mul_of_nonneg_left (by omega) (by omega)
      have e : 2 * p * (c + 1) = p * 2 * c + 2 * p := by grind
      omega
    obtain ⟨r, hq, hr⟩ := next (out.set (i / 16) (out.getD (i / 16) 0 + p)) s (2 * l + bit - v16 y) ⟨h.dg.set _ ⟨by omega, hup⟩, by rw [List.length_set]; exact hlen, fun j => by
        by_cases hj2 : i / 16 = j
        · subst hj2
          rw [gset_same hj, show min 16 (i - 16 * (i / 16)) = i % 16 by omega, ← hp]
          have e : out.getD (i / 16) 0 + p = p * (2 * c + 1) := by rw [hc2]; grind
          rw [e, Int.mul_emod_right]
        · rw [gset_ne hj2]; exact dj j, s2, by rw [s3, v2], by
        have e : v16 (out.set (i / 16) (out.getD (i / 16) 0 + p)) = v16 out + 2 ^ i := by
          show dv _ _ = _
          rw [dv_set _ _ _ _ hj, pow16 i, ← hp]
          show dv _ _ + _ = dv _ _ + _
          grind
        rw [e]
        have e2 : v16 y * (v16 out + 2 ^ i) + 2 ^ i * (2 * l + bit - v16 y) = v16 y * v16 out + 2 ^ i * (2 * l + bit) := by grind
        omega⟩ (by omega)
    refine ⟨r, hq, Ev.step (fun k => by simp only [cashbookref01_divided.j2]; rfl) (ev_call hls (ev_neg (c := false = true) (by decide) (ev_call s1 ?_)))⟩
    rw [et, ew]
    refine ev_pos (by omega) (ev_pos (by omega) ?_)
    rw [rd_nat, Int.toNat_natCast, ← hp, w64_id (x := out.getD (i / 16) 0 + p) (by omega) (by omega)]
    exact hr
theorem divided_loop {x y : List Int} (hx : D16 x) (hy : C16 y) (hlx : x.length ≤ 10000) (hly : y.length ≤ 10000) : ∀ i, i ≤ 16 * x.length → ∀ out left l, DdSt x y out left i l → l < v16 y →
    ∃ r, DdQ x y r ∧ Ev (fun k => cashbookref01_divided.l0 k x y out left ((i : Int) - 1)) r
  | 0, _, out, left, l, h, hl => by
    have hlen := h.len
    obtain ⟨t, t1, t2, t3, t4⟩ := trimR_ev h.dg (by omega)
    have hval := h.val
    have hlv := h.lv
    rw [Int.pow_zero, Int.emod_one, Int.one_mul, Int.add_zero] at hval
    refine ⟨(t, left), ⟨t2, h.cl, by rw [t3, hlv]; exact hval, by rw [hlv]; exact hl, by simp only; omega, left_len h.cl hy (by rw [hlv]; exact hl)⟩, ?_⟩
    exact Ev.step (fun k => by simp only [cashbookref01_divided.l0]; rfl) (ev_neg (by omega) (ev_call t1 ev_ret))
  | i + 1, hi, out, left, l, h, hl => by
    have hlv := h.lv
    have hl0 : 0 ≤ l := by rw [← hlv]; exact dv_nonneg G0 h.cl.dg
    have hll := left_len h.cl hy (by omega)
    have e1 : ((i + 1 : Nat) : Int) - 1 = (i : Int) := by omega
    rw [e1]
    have et : wrap64 (Int.tdiv (i : Int) 16) = ((i / 16 : Nat) : Int) := by rw [tdiv_pos (by omega), w64_id (by omega) (by omega)]; omega
    have em : Int.tmod (i : Int) 16 = ((i % 16 : Nat) : Int) := by rw [tmod_pos (by omega)]; omega
    obtain ⟨s, s1, s2, s3, s4⟩ := sum_ev h.cl.dg h.cl.dg (by omega) (by omega)
    have hgo : ∃ r, DdQ x y r ∧ Ev (fun k => cashbookref01_divided.l1 k x y out left (i : Int) (2 ^ (i % 16)) ((i % 16 : Nat) : Int)) r := by
      have gx := hx.get G0 (i / 16)
      obtain ⟨p, hp⟩ : ∃ p : Int, p = 2 ^ (i % 16) := ⟨_, rfl⟩
      have hp0 : 0 < p := by rw [hp]; exact pow_pos_ (by decide) _
      have hdv : 0 ≤ x.getD (i / 16) 0 / p := Int.ediv_nonneg gx.1 (by omega)
      have hdv2 : x.getD (i / 16) 0 / p ≤ x.getD (i / 16) 0 := Int.ediv_le_self _ gx.1
      have ebit : Int.tmod (wrap64 (Int.tdiv (rd x (wrap64 (Int.tdiv (i : Int) 16))) p)) 2 = x.getD (i / 16) 0 / p % 2 := by
        rw [et, rd_nat, tdiv_pos gx.1, w64_id hdv (by omega), tmod_pos hdv]
      have hstep : ∀ r, Ev (fun k => if Int.tmod (wrap64 (Int.tdiv (rd x (wrap64 (Int.tdiv (i : Int) 16))) p)) 2 = 1 then ((cashbookref01_sum.f k s ([1] : List Int)).bind fun t510 => (cashbookref01_divided.j2 k x y out t510 (i : Int) p)) else (cashbookref01_divided.j2 k x y out s (i : Int) p)) r →
          Ev (fun k => cashbookref01_divided.l1 k x y out left (i : Int) p ((i % 16 : Nat) : Int)) r := fun r hr => by
        refine Ev.step (fun k => by simp only [cashbookref01_divided.l1]; rfl) (ev_neg (by omega) (ev_call s1 ?_))
        refine ev_pos (by omega) (ev_pos (by omega) (ev_neg (by omega) hr))
      rw [← hp]
      by_cases hb : x.getD (i / 16) 0 / p % 2 = 1
      · obtain ⟨t, t1, t2, t3, t4⟩ := sum_ev s2.dg (y := [1]) (Dg.cons (by decide) (Dg.nil _)) (by omega) (by simp)
        have ev1 : v16 [1] = 1 := by show dv _ _ = _; simp [dv]
        obtain ⟨r, hq, hr⟩ := dd_j2 hx hy hlx hly i (by omega) (divided_loop hx hy hlx hly i (by omega)) h (left2 := t) t2 (by rw [t3, s3, ev1, ← hp, hb]; omega) (by simp at t4; omega) hl hl0
        rw [← hp] at hr
        exact ⟨r, hq, hstep r (ev_pos (by rw [ebit]; exact hb) (ev_call t1 hr))⟩
      · obtain ⟨r, hq, hr⟩ := dd_j2 hx hy hlx hly i (by omega) (divided_loop hx hy hlx hly i (by omega)) h (left2 := s) s2 (by rw [s3, ← hp]; omega) (by omega) hl hl0
        rw [← hp] at hr
        exact ⟨r, hq, hstep r (ev_neg (by rw [ebit]; exact hb) hr)⟩
    obtain ⟨r, hq, hr⟩ := hgo
    refine ⟨r, hq, Ev.step (fun k => by simp only [cashbookref01_divided.l0]; rfl) (ev_pos (by omega) ?_)⟩
    have hdown : ∀ j, j ≤ i % 16 → Ev (fun k => cashbookref01_divided.l1 k x y out left (i : Int) (2 ^ j) (j : Int)) r := by
      refine down (i % 16) hr ?_
      intro j hj ih
      refine Ev.step (fun k => by simp only [cashbookref01_divided.l1]; rfl) (ev_pos (by omega) ?_)
      have hp0 := pow_pos_ (B := 2) (by decide) j
      have hp1 := pow_mono (B := 2) (by decide) (show j ≤ 16 by omega)
      rw [inc64 (by omega), w64_id (x := 2 * 2 ^ j) (by omega) (by omega), Int.mul_comm, ← Int.pow_succ]
      exact ih
    exact hdown 0 (by omega)
theorem divided_ev {x y : List Int} (hx : D16 x) (hy : C16 y) (h0 : y ≠ []) (hlx : x.length ≤ 10000) (hly : y.length ≤ 10000) : ∃ r, DdQ x y r ∧ Ev (fun k => cashbookref01_divided.f k x y) r := by
  have hyp : 0 < v16 y := by
    have h1 := cn_pow_le G0 hy h0
    have h2 := pow_pos_ G0 (y.length - 1)
    show 0 < dv _ _
    omega
  have hs := MO.start G0 x [] x.length
  obtain ⟨r, hq, hr⟩ := divided_loop hx hy hlx hly (16 * x.length) (Nat.le_refl _) (List.replicate x.length 0) [] 0 ⟨hs.dg, hs.len, fun j => by
    have : (List.replicate x.length (0 : Int)).getD j 0 = 0 := by
      by_cases hp : j < x.length
      · rw [getD_lt (by simpa using hp)]; simp
      · exact getD_out (by simp; omega)
    rw [this, Int.zero_emod], cn_nil _, rfl, by
    have e : v16 (List.replicate x.length 0) = 0 := by
      show dv _ _ = 0
      generalize x.length = n
      induction n with
      | zero => rfl
      | succ n ih => rw [List.replicate_succ]; simp [dv, ih]
    have hlt : v16 x < 2 ^ (16 * x.length) := by
      have e : (2 : Int) ^ (16 * x.length) = 65536 ^ x.length := by rw [Int.pow_mul]; rfl
      rw [e]; exact dv_lt G0 hx
    rw [e, Int.emod_eq_of_lt (dv_nonneg G0 hx) hlt]; simp⟩ hyp
  refine ⟨r, hq, ?_⟩
  unfold cashbookref01_divided.f
  rw [Int.toNat_natCast, w64_id (x := 16 * (x.length : Int)) (by omega) (by omega), wrap_id (x := 16 * (x.length : Int) - 1) (by omega) (by omega)]
  refine ev_pos (by omega) (ev_pos (by omega) ?_)
  have e : (16 : Int) * (x.length : Int) - 1 = ((16 * x.length : Nat) : Int) - 1 := by omega
  rw [e]; exact hr
theorem DivModR_ev {a b : List Int} (ha : D32 a) (hb : D32 b) (hla : a.length ≤ 1000) (hlb : b.length ≤ 1000) : ∃ q r e, Ev (fun k => cashbookref01_DivMod.f k a b) (q, r, e) ∧
    ((¬ (rt a ∧ rt b) ∧ q = [] ∧ r = [] ∧ e = 1) ∨ (rt a ∧ rt b ∧ ((b = [] ∧ q = [] ∧ r = [] ∧ e = 10) ∨ (b ≠ [] ∧ C32 q ∧ C32 r ∧ v32 a = v32 b * v32 q + v32 r ∧ 0 ≤ v32 r ∧ v32 r < v32 b ∧ e = 0)))) := by
  have hE : ∀ p, Ev (fun k => cashbookref01_DivMod.j0 k a b (!decide (rt b))) p → rt a → Ev (fun k => cashbookref01_DivMod.f k a b) p := fun p hp h1 => by
    unfold cashbookref01_DivMod.f
    exact ev_pure (RightR_eq (by omega)) (ev_pure (RightR_eq (by omega)) (ev_pos (by simpa using h1) hp))
  by_cases h1 : rt a
  · by_cases h2 : rt b
    · rw [decide_eq_true h2] at hE
      by_cases h3 : b = []
      · refine ⟨[], [], 10, hE _ ?_ h1, .inr ⟨h1, h2, .inl ⟨h3, rfl, rfl, rfl⟩⟩⟩
        subst h3
        exact Ev.step (fun k => by simp only [cashbookref01_DivMod.j0]; rfl) (ev_neg (by decide) (ev_pos (by simp) ev_ret))
      · obtain ⟨x, x1, x2, x3, x4⟩ := figs_ev ha (by omega)
        obtain ⟨y, y1, y2, y3, y4⟩ := figs_ev hb (by omega)
        have hlp : 0 < b.length := List.length_pos_iff.2 h3
        have hbp : 0 < v32 b := by
          have h1 := cn_pow_le K0 (rt_cn h2 hb) h3
          have h2 := pow_pos_ K0 (b.length - 1)
          show 0 < dv _ _
          omega
        have hy0 : y ≠ [] := fun e => by
          subst e
          have : v16 [] = 0 := rfl
          omega
        obtain ⟨r, ⟨q1, q2, q3, q4, q5, q6⟩, q7⟩ := divided_ev x2.dg y2 hy0 (by omega) (by omega)
        obtain ⟨s, s1, s2, s3, s4⟩ := nat_ev q1 (by omega)
        obtain ⟨t, t1, t2, t3, t4⟩ := nat_ev q2 (by omega)
        refine ⟨s, t, 0, hE _ ?_ h1, .inr ⟨h1, h2, .inr ⟨h3, s2, t2, by rw [s3, t3, ← x3, ← y3]; exact q3, by rw [t3]; exact dv_nonneg G0 q2.dg, by rw [t3, ← y3]; exact q4, rfl⟩⟩⟩
        exact Ev.step (fun k => by simp only [cashbookref01_DivMod.j0]; rfl) (ev_neg (by decide) (ev_neg (by omega) (ev_call x1 (ev_call y1 (ev_call q7 (ev_call s1 (ev_call (f := fun _ t536 => some (s, t536, (0 : Int))) t1 ev_ret)))))))
    · rw [decide_eq_false h2] at hE
      refine ⟨[], [], 1, hE _ ?_ h1, .inl ⟨fun h => h2 h.2, rfl, rfl, rfl⟩⟩
      show Ev (fun k => cashbookref01_DivMod.j0 k a b true) _
      exact Ev.step (fun k => by simp only [cashbookref01_DivMod.j0]; rfl) (ev_pos (c := true = true) rfl ev_ret)
  · refine ⟨[], [], 1, ?_, .inl ⟨fun h => h1 h.1, rfl, rfl, rfl⟩⟩
    unfold cashbookref01_DivMod.f
    refine ev_pure (RightR_eq (by omega)) (ev_pure (RightR_eq (by omega)) (ev_neg (by simpa using h1) ?_))
    exact Ev.step (fun k => by simp only [cashbookref01_DivMod.j0]; rfl) (ev_pos (c := true = true) rfl ev_ret)
end Go.Proofs.YtcidmdjhmhkmgaaDoor.Pure
