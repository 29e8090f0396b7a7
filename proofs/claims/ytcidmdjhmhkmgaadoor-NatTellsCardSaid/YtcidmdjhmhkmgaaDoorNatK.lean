import Derived.Test.YtcidmdjhmhkmgaaDoorS2
import Derived.Test.YtcidmdjhmhkmgaaDoorS1
import Derived.Test.YtcidmdjhmhkmgaaDoorNatJ
set_option linter.unusedVariables false
namespace Go.Proofs.YtcidmdjhmhkmgaaDoor.Pure
open Go.RowKit Go.Proofs.YtcidmdjhmhkmgaaDoorW.PrintWords Go.Proofs.YtcidmdjhmhkmgaaDoorW.PrintMore Go.Proofs.YtcidmdjhmhkmgaaDoor.S Go.Proofs.YtcidmdjhmhkmgaaDoor.L
theorem bitLen_b {x : Nat} (h0 : x ≠ 0) (h1 : x < 4294967296) : 1 ≤ Lib.bitLen x ∧ Lib.bitLen x ≤ 32 ∧ 2 ^ (Lib.bitLen x - 1) ≤ x ∧ x < 2 ^ Lib.bitLen x := by
  obtain ⟨a, b, c⟩ := Lib.bitLenAux_bounds 64 x (by omega) h0
  refine ⟨a, ?_, b, c⟩
  refine Nat.le_of_not_lt fun h => ?_
  have h3 : 32 ≤ Lib.bitLen x - 1 := by omega
  have h4 : 2 ^ 32 ≤ 2 ^ (Lib.bitLen x - 1) := Nat.pow_le_pow_right (by decide) h3
  have h5 : 2 ^ (Lib.bitLen x - 1) ≤ x := b
  omega
theorem lz_eq {x : Int} (h0 : 0 ≤ x) (h1 : x < 4294967296) : bits_LeadingZeros32.f x = some (32 - (Lib.bitLen x.toNat : Int)) := by
  unfold bits_LeadingZeros32.f
  rw [if_pos ⟨h0, by omega⟩]
theorem shO_dg {a : List Int} {P : Int} (n : Nat) : D32 ((List.range n).map (shO a P)) := dg_map_range (fun j _ => by unfold shO; omega)
theorem divide_ev {a b : List Int} (ca : C32 a) (cb : C32 b) (hla : a.length ≤ 10000) (h2 : 2 ≤ b.length) (hab : b.length ≤ a.length) :
    ∃ r : List Int × List Int, (C32 r.1 ∧ C32 r.2 ∧ v32 a = v32 b * v32 r.1 + v32 r.2 ∧ v32 r.2 < v32 b ∧ r.1.length ≤ a.length ∧ r.2.length ≤ b.length) ∧ Ev (fun k => nat_divide.f k a b) r := by
  have hb0 : b ≠ [] := fun e => by rw [e] at h2; simp at h2
  obtain ⟨n, hn⟩ : ∃ n, n = b.length := ⟨_, rfl⟩
  obtain ⟨m, hm⟩ : ∃ m, m = a.length := ⟨_, rfl⟩
  obtain ⟨M, hM⟩ : ∃ M, M = m - n + 1 := ⟨_, rfl⟩
  have ew : wrap64 ((b.length : Int) - 1) = ((n - 1 : Nat) : Int) := by unfold wrap64; omega
  have ew2 : wrap64 ((a.length : Int) + 1) = ((m + 1 : Nat) : Int) := by unfold wrap64; omega
  have ew3 : wrap64 ((a.length : Int) - (b.length : Int)) = (M : Int) - 1 := by unfold wrap64; omega
  have ew4 : wrap64 ((M : Int) - 1 + 1) = (M : Int) := by unfold wrap64; omega
  have b1 : m + 1 ≤ 100000 := by omega
  have b2 : n ≤ 100000 := by omega
  have b3 : M ≤ 70368744177664 := by omega
  have b4 : (0 : Int) ≤ (M : Int) := by omega
  have b5 : (0 : Int) ≤ ((n - 1 : Nat) : Int) := by omega
  have b6 : ((n - 1 : Nat) : Int) < (b.length : Int) := by omega
  have gt := cb.dg.get K0 (n - 1)
  have ht := cb.top hb0
  rw [← hn] at ht
  obtain ⟨top, htop⟩ : ∃ top : Nat, b.getD (n - 1) 0 = (top : Int) := ⟨(b.getD (n - 1) 0).toNat, by omega⟩
  rw [htop] at gt ht
  obtain ⟨bl1, bl2, bl3, bl4⟩ := bitLen_b (x := top) (by omega) (by omega)
  obtain ⟨bl, hbl⟩ : ∃ bl, bl = Lib.bitLen top := ⟨_, rfl⟩
  rw [← hbl] at bl1 bl2 bl3 bl4
  obtain ⟨y, hy⟩ : ∃ y, y = 32 - bl := ⟨_, rfl⟩
  have e32 : (32 : Int) - (bl : Int) = (y : Int) := by omega
  obtain ⟨P, hP⟩ : ∃ P : Int, P = 2 ^ y := ⟨_, rfl⟩
  obtain ⟨R, hR⟩ : ∃ R : Int, R = 2 ^ bl := ⟨_, rfl⟩
  have hP1 : 1 ≤ P := by rw [hP]; have := pow_pos_ (B := 2) (by decide) y; omega
  have hR1 : 1 ≤ R := by rw [hR]; have := pow_pos_ (B := 2) (by decide) bl; omega
  have hPR : P * R = 4294967296 := by rw [hP, hR, ← Int.pow_add, show y + bl = 32 by omega]; rfl
  have htR : (top : Int) + 1 ≤ R := by rw [hR]; have : ((2 ^ bl : Nat) : Int) = 2 ^ bl := by push_cast; rfl
                                       omega
  have htR2 : R ≤ 2 * top := by
    have e : (2 : Nat) ^ bl = 2 * 2 ^ (bl - 1) := by rw [show bl = (bl - 1) + 1 by omega, Nat.pow_succ, Nat.mul_comm]; rfl
    have e2 : ((2 ^ bl : Nat) : Int) = 2 ^ bl := by push_cast; rfl
    rw [hR]; omega
  have hy31 : y ≤ 31 := by omega
  have ht1 : (top : Int) * P + P ≤ 4294967296 := by
    have h := Int.mul_le_mul_of_nonneg_left htR (show 0 ≤ P by omega)
    have e : P * ((top : Int) + 1) = top * P + P := by grind
    omega
  have ht2 : 2147483648 ≤ (top : Int) * P := by
    have h := Int.mul_le_mul_of_nonneg_left htR2 (show 0 ≤ P by omega)
    have e : P * (2 * (top : Int)) = 2 * (top * P) := by grind
    omega
  obtain ⟨u, hu⟩ : ∃ u, u = (List.range (m + 1)).map (shO a P) := ⟨_, rfl⟩
  obtain ⟨v, hv⟩ : ∃ v, v = (List.range n).map (shO b P) := ⟨_, rfl⟩
  have du : D32 u := by rw [hu]; exact shO_dg _
  have dv_ : D32 v := by rw [hv]; exact shO_dg _
  have lu : u.length = m + 1 := by rw [hu]; simp
  have lv : v.length = n := by rw [hv]; simp
  have vu : v32 u = P * v32 a := by
    have h := sh_val ca.dg hP1 hR1 hPR (m + 1) (by omega)
    have e : shC a P (m + 1) = 0 := by
      show a.getD m 0 * P / 4294967296 = 0
      rw [getD_out (by omega)]; simp
    rw [e, ← hu, Int.mul_zero, Int.add_zero] at h
    exact h
  have vv : v32 v = P * v32 b := by
    have h := sh_val cb.dg hP1 hR1 hPR n (by omega)
    have e : shC b P n = 0 := by
      rw [show n = (n - 1) + 1 by omega]
      show b.getD (n - 1) 0 * P / 4294967296 = 0
      rw [htop]; omega
    rw [e, ← hv, Int.mul_zero, Int.add_zero] at h
    exact h
  have hv1 : 2147483648 ≤ v.getD (n - 1) 0 := by
    rw [hv, getD_lt (by simp; omega)]
    simp only [List.getElem_map, List.getElem_range]
    unfold shO
    have hc0 : 0 ≤ shC b P (n - 1) := Int.ediv_nonneg (Int.mul_nonneg (shLow_b cb.dg _).1 (by omega)) (by decide)
    have hc1 : shC b P (n - 1) < P := by
      refine Int.ediv_lt_of_lt_mul (by decide) ?_
      have := Int.mul_lt_mul_of_pos_right (shLow_b cb.dg (n - 1)).2 (show 0 < P by omega)
      rw [Int.mul_comm P]; exact this
    rw [htop, Int.emod_eq_of_lt (by omega) (by omega)]
    omega
  have hb1 := cn_pow_le K0 cb hb0
  rw [← hn] at hb1
  have hbp : 0 < v32 b := by
    have := pow_pos_ K0 (n - 1)
    show 0 < dv _ _
    omega
  have hV0 : 0 < v32 v := by rw [vv]; exact Int.mul_pos (by omega) hbp
  have ha1 : v32 a < 4294967296 ^ m := by rw [hm]; exact dv_lt K0 ca.dg
  have hlt : v32 u < 4294967296 ^ M * v32 v := by
    rw [vu, vv]
    have e : (4294967296 : Int) ^ m = 4294967296 ^ M * 4294967296 ^ (n - 1) := by rw [← Int.pow_add]; congr 1; omega
    have h3 : 4294967296 ^ M * 4294967296 ^ (n - 1) ≤ 4294967296 ^ M * v32 b := Int.mul_le_mul_of_nonneg_left hb1 (Int.le_of_lt (pow_pos_ K0 M))
    have h4 : P * v32 a < P * (4294967296 ^ M * v32 b) := Int.mul_lt_mul_of_pos_left (by omega) (by omega)
    have h5 : P * (4294967296 ^ M * v32 b) = 4294967296 ^ M * (P * v32 b) := by grind
    omega
  have zl : ∀ p, (List.replicate M (0 : Int)).getD p 0 = 0 := fun p => by
    by_cases hp : p < M
    · rw [getD_lt (by simpa using hp)]; simp
    · exact getD_out (by simp; omega)
  obtain ⟨r, hq, hr⟩ := divide_loop (b := b) dv_ n (m + 1) M lv.symm (by omega) (by omega) (by omega) hv1 hV0 (y : Int) (A := P * v32 a)
    (Q := fun r => C32 r.1 ∧ C32 r.2 ∧ v32 a = v32 b * v32 r.1 + v32 r.2 ∧ v32 r.2 < v32 b ∧ r.1.length ≤ a.length ∧ r.2.length ≤ b.length) (fun u' out h => by
      have h0 := h.lt
      rw [Int.pow_zero, Int.one_mul] at h0
      have hlu := h.lu
      have hlo := h.lo
      have hval := h.val
      have hvn : v32 v < 4294967296 ^ n := by rw [← lv]; exact dv_lt K0 dv_
      obtain ⟨t, t1, t2, t3, t4⟩ := trim_ev (l := out) (by omega) h.dq
      have dr : D32 ((List.range n).map (rsO u' P)) := dg_map_range (fun j _ => by unfold rsO; omega)
      obtain ⟨s, s1, s2, s3, s4⟩ := trim_ev (l := (List.range n).map (rsO u' P)) (by simp; omega) dr
      have hmod : v32 u' % P = 0 := by
        have e : v32 u' = P * (v32 a - v32 b * v32 out) := by rw [vv] at hval; grind
        rw [e, Int.mul_emod_right]
      have hrv := rs_val h.du hP1 hR1 hPR n (by omega) hmod
      have hrv' : P * v32 s = v32 u' := by rw [s3]; exact hrv
      refine ⟨(t, s), ⟨t2, s2, ?_, ?_, by simp only; omega, by simpa [hn] using s4⟩, ?_⟩
      · have e : P * v32 a = P * (v32 b * v32 t + v32 s) := by
          rw [t3, hval, vv, ← hrv']; grind
        exact Int.eq_of_mul_eq_mul_left (by omega) e
      · have e : P * v32 s < P * v32 b := by rw [hrv', ← vv]; exact h0
        exact Int.lt_of_mul_lt_mul_left e (by omega)
      · refine Ev.step (fun k => by simp only [nat_divide.l0]; rfl) (ev_neg (by omega) (ev_pos (by omega) (ev_pos (by omega) (ev_let ?_))))
        rw [Int.toNat_natCast, List.length_replicate, ← hn]
        have hl := rs_loop h.du y hy31 n (by omega) (by omega) t1 (r := s) (by rw [← hP]; exact s1) 0 (by omega) (List.replicate n 0) (by simp) (fun p hp => by omega)
        exact hl) M (Nat.le_refl _) u (List.replicate M 0) ⟨du, lu, fun x hx => by rw [List.eq_of_mem_replicate hx]; decide, by simp, fun p _ => zl p, hlt, by
      have e : v32 (List.replicate M 0) = 0 := replicate_zero _ _
      rw [e, vu]; simp⟩
  refine ⟨r, hq, ?_⟩
  unfold nat_divide.f
  rw [ew, ew2, ew3, ew4, rd_nat, htop]
  refine ev_pos b5 (ev_pos b6 (ev_pure (lz_eq gt.1 gt.2) ?_))
  rw [Int.toNat_natCast, ← hbl, e32, Int.toNat_natCast]
  have s1 := shift_ev ca.dg y hy31 (m + 1) b1
  have s2 := shift_ev cb.dg y hy31 n b2
  rw [← hP, ← hu] at s1
  rw [← hP, ← hv, hn] at s2
  exact ev_call s1 (ev_call s2 (ev_pos b4 (ev_pos b3 hr)))
theorem nil_of_v {a : List Int} (ca : C32 a) (h : v32 a = 0) : a = [] := cn_zero K0 ca h
theorem v_pos {a : List Int} (ca : C32 a) (h : a ≠ []) : 0 < v32 a := by
  have h1 := cn_pow_le K0 ca h
  have h2 := pow_pos_ K0 (a.length - 1)
  show 0 < dv _ _
  omega
theorem clone_eq {a : List Int} (h : a.length ≤ 1000000) : api_Nat_uint32_55.f a = some a := by unfold api_Nat_uint32_55.f; rw [if_pos (by omega)]
theorem divmod_ev {a b : List Int} (ca : C32 a) (cb : C32 b) (hla : a.length ≤ 1000) (hlb : b.length ≤ 1000) (h0 : b ≠ []) :
    ∃ q r, Ev (fun k => nat_divmod.f k a b) (q, r) ∧ C32 q ∧ C32 r ∧ v32 a = v32 b * v32 q + v32 r ∧ v32 r < v32 b ∧ q.length ≤ a.length ∧ r.length ≤ b.length := by
  have ho := order_ev ca cb (by omega) (by omega)
  have hbp := v_pos cb h0
  have hlp : 0 < b.length := List.length_pos_iff.2 h0
  by_cases h1 : v32 a < v32 b
  · rw [sgn_lt h1] at ho
    refine ⟨[], a, ?_, cn_nil _, ca, ?_, h1, by simp, ?_⟩
    · unfold nat_divmod.f
      exact ev_call ho (ev_pos (by decide) (ev_pure (clone_eq (by omega)) ev_ret))
    · have e : v32 ([] : List Int) = 0 := rfl
      rw [e]; omega
    · refine Nat.le_of_not_lt fun h => ?_
      have := cn_len_lt K0 cb.dg ca h
      have h1' : dv 4294967296 a < dv 4294967296 b := h1
      omega
  · have hs : ¬ sgn (v32 a) (v32 b) < 0 := by unfold sgn; rw [if_neg h1]; split <;> omega
    by_cases h2 : b.length = 1
    · obtain ⟨x, rfl⟩ : ∃ x, b = [x] := List.length_eq_one_iff.1 h2
      have gx := cb.dg x (List.mem_singleton.2 rfl)
      have e : v32 [x] = x := by show dv _ _ = x; simp [dv]
      rw [e] at hbp h1
      obtain ⟨q, r, q1, q2, q3, q4, q5, q6⟩ := small_ev ca.dg (by omega) (d := x) (by omega) gx.2
      obtain ⟨s, s1, s2, s3, s4⟩ := Of_ev (u := r) q3 (by omega)
      refine ⟨q, s, ?_, q2, s2, by rw [e, s3]; exact q5, by rw [e, s3]; exact q4, q6, ?_⟩
      · unfold nat_divmod.f
        refine ev_call ho (ev_neg hs (ev_pos (by simp) (ev_pos (by simp) ?_)))
        have ex : IntKind.u64.wrap (rd [x] 0) = x := u64_id (n := x) gx.1 (by omega)
        rw [ex]
        exact ev_call q1 (ev_call s1 ev_ret)
      · refine (cn_len_le K1 s2).2 ?_
        have s3' : dv 4294967296 s = r := s3
        rw [s3', List.length_singleton, Int.pow_one]; omega
    · have hlen : b.length ≤ a.length := Nat.le_of_not_lt fun h => by
        have := cn_len_lt K0 ca.dg cb h
        exact h1 this
      obtain ⟨r, ⟨q1, q2, q3, q4, q5, q6⟩, q7⟩ := divide_ev ca cb (by omega) (by omega) hlen
      refine ⟨r.1, r.2, ?_, q1, q2, q3, q4, q5, q6⟩
      unfold nat_divmod.f
      exact ev_call ho (ev_neg hs (ev_neg (by omega) (ev_call q7 ev_ret)))
theorem len_rt {l : List Int} (h : C32 l) (hl : l.length ≤ 256) : rt l := ⟨hl, h.top⟩
theorem DivMod_ev {a b : List Int} (ha : D32 a) (hb : D32 b) (hla : a.length ≤ 1000) (hlb : b.length ≤ 1000) : ∃ q r e, Ev (fun k => nat_DivMod.f k a b) (q, r, e) ∧
    ((¬ (rt a ∧ rt b) ∧ q = [] ∧ r = [] ∧ e = 1) ∨ (rt a ∧ rt b ∧ ((b = [] ∧ q = [] ∧ r = [] ∧ e = 10) ∨ (b ≠ [] ∧ C32 q ∧ C32 r ∧ rt q ∧ rt r ∧ v32 a = v32 b * v32 q + v32 r ∧ 0 ≤ v32 r ∧ v32 r < v32 b ∧ e = 0)))) := by
  by_cases h1 : rt a
  · by_cases h2 : rt b
    · have hE : ∀ p, Ev (fun k => nat_DivMod.j0 k a b false) p → Ev (fun k => nat_DivMod.f k a b) p := fun p hp => by
        unfold nat_DivMod.f
        refine ev_pure (Right_eq (by omega)) (ev_pos (by simpa using h1) (ev_pure (Right_eq (by omega)) ?_))
        rw [decide_eq_true h2]; exact hp
      by_cases h3 : b = []
      · refine ⟨[], [], 10, hE _ ?_, .inr ⟨h1, h2, .inl ⟨h3, rfl, rfl, rfl⟩⟩⟩
        subst h3
        exact Ev.step (fun k => by simp only [nat_DivMod.j0]; rfl) (ev_neg (by decide) (ev_pos (by simp) ev_ret))
      · obtain ⟨q, r, q1, q2, q3, q4, q5, q6, q7⟩ := divmod_ev (rt_cn h1 ha) (rt_cn h2 hb) hla hlb h3
        have hlp : 0 < b.length := List.length_pos_iff.2 h3
        refine ⟨q, r, 0, hE _ ?_, .inr ⟨h1, h2, .inr ⟨h3, q2, q3, len_rt q2 (by have := h1.1; omega), len_rt q3 (by have := h2.1; omega), q4, dv_nonneg K0 q3.dg, q5, rfl⟩⟩⟩
        exact Ev.step (fun k => by simp only [nat_DivMod.j0]; rfl) (ev_neg (by decide) (ev_neg (by omega) (ev_call q1 ev_ret)))
    · refine ⟨[], [], 1, ?_, .inl ⟨fun h => h2 h.2, rfl, rfl, rfl⟩⟩
      unfold nat_DivMod.f
      refine ev_pure (Right_eq (by omega)) (ev_pos (by simpa using h1) (ev_pure (Right_eq (by omega)) ?_))
      rw [decide_eq_false h2]
      show Ev (fun k => nat_DivMod.j0 k a b true) _
      exact Ev.step (fun k => by simp only [nat_DivMod.j0]; rfl) (ev_pos (c := true = true) rfl ev_ret)
  · refine ⟨[], [], 1, ?_, .inl ⟨fun h => h1 h.1, rfl, rfl, rfl⟩⟩
    unfold nat_DivMod.f
    refine ev_pure (Right_eq (by omega)) (ev_neg (by simpa using h1) ?_)
    exact Ev.step (fun k => by simp only [nat_DivMod.j0]; rfl) (ev_pos (c := true = true) rfl ev_ret)
end Go.Proofs.YtcidmdjhmhkmgaaDoor.Pure
