import Derived.Test.YtcidmdjhmhkmgaaDoorNatE
set_option linter.unusedVariables false
namespace Go.Proofs.YtcidmdjhmhkmgaaDoor.Pure
open Go.RowKit Go.Proofs.YtcidmdjhmhkmgaaDoorW.PrintWords Go.Proofs.YtcidmdjhmhkmgaaDoorW.PrintMore Go.Proofs.YtcidmdjhmhkmgaaDoor.S Go.Proofs.YtcidmdjhmhkmgaaDoor.L
/-- Two top figures, a third one, and what is below. -/
theorem top3 {l : List Int} (hd : D32 l) (k n : Nat) (h2 : 2 ≤ n) (hz : ∀ p, k + n < p → l.getD p 0 = 0) : ∃ low, 0 ≤ low ∧ low < 4294967296 ^ (n - 2) ∧ v32 (l.drop k) = low + 4294967296 ^ (n - 2) * ((l.getD (k + n) 0 * 4294967296 + l.getD (k + n - 1) 0) * 4294967296 + l.getD (k + n - 2) 0) := by
  have hdd := hd.drop k
  refine ⟨dv 4294967296 ((l.drop k).take (n - 2)), dv_nonneg K0 (hdd.take _), dv_take_lt K0 hdd _, ?_⟩
  have e := dv_parts 4294967296 (l.drop k) (n - 2)
  rw [List.drop_drop] at e
  have hz0 : dv 4294967296 (l.drop (k + n + 1)) = 0 := by
    have hall : ∀ x ∈ l.drop (k + n + 1), x = 0 := fun x hx => by
      obtain ⟨j, hj, rfl⟩ := List.getElem_of_mem hx
      have hj' : k + n + 1 + j < l.length := by simpa [List.length_drop] using (by simpa using hj : j < l.length - (k + n + 1)) |> fun h => by omega
      have := hz (k + n + 1 + j) (by omega)
      rw [getD_lt hj'] at this
      rw [List.getElem_drop]; exact this
    have hrep := List.eq_replicate_of_mem hall
    rw [hrep]; exact replicate_zero _ _
  have d1 := dv_drop 4294967296 l (k + n - 2)
  have d2 := dv_drop 4294967296 l (k + n - 1)
  have d3 := dv_drop 4294967296 l (k + n)
  rw [show k + n - 2 + 1 = k + n - 1 by omega] at d1
  rw [show k + n - 1 + 1 = k + n by omega] at d2
  rw [show k + (n - 2) = k + n - 2 by omega, d1, d2, d3, hz0] at e
  show dv _ _ = _
  rw [e]
  grind
theorem guess_ev {u v : List Int} (hu : D32 u) (hv : D32 v) (k n : Nat) (hn : n = v.length) (h2 : 2 ≤ n) (hl : k + n < u.length) (hm : u.length ≤ 100000) (hz : ∀ p, k + n < p → u.getD p 0 = 0)
    (hv1 : 2147483648 ≤ v.getD (n - 1) 0) (hU : v32 (u.drop k) < 4294967296 * v32 v) :
    ∃ g, Ev (fun m => nat_guess.f m u v (k : Int)) g ∧ v32 (u.drop k) / v32 v ≤ g ∧ g ≤ v32 (u.drop k) / v32 v + 1 ∧ g < 4294967296 := by
  obtain ⟨v1, e1⟩ : ∃ v1, v1 = v.getD (n - 1) 0 := ⟨_, rfl⟩
  obtain ⟨v2, e2⟩ : ∃ v2, v2 = v.getD (n - 2) 0 := ⟨_, rfl⟩
  obtain ⟨u0, e0⟩ : ∃ u0, u0 = u.getD (k + n) 0 := ⟨_, rfl⟩
  obtain ⟨u1, e4⟩ : ∃ u1, u1 = u.getD (k + n - 1) 0 := ⟨_, rfl⟩
  obtain ⟨u2, e3⟩ : ∃ u2, u2 = u.getD (k + n - 2) 0 := ⟨_, rfl⟩
  have gv1 := hv.get K0 (n - 1)
  have gv2 := hv.get K0 (n - 2)
  have gu0 := hu.get K0 (k + n)
  have gu1 := hu.get K0 (k + n - 1)
  have gu2 := hu.get K0 (k + n - 2)
  obtain ⟨lu, lu0, lu1, hUe⟩ := top3 hu k n h2 hz
  obtain ⟨lv, lv0, lv1, hVe⟩ := top3 hv 0 n h2 (fun p hp => getD_out (by omega))
  rw [List.drop_zero, Nat.zero_add, getD_out (l := v) (by omega)] at hVe
  rw [← e1, ← e2] at hVe
  rw [← e0, ← e4, ← e3] at hUe
  rw [← e1] at gv1 hv1
  rw [← e2] at gv2
  rw [← e0] at gu0
  rw [← e4] at gu1
  rw [← e3] at gu2
  obtain ⟨W, hW⟩ : ∃ W, W = (4294967296 : Int) ^ (n - 2) := ⟨_, rfl⟩
  have hW0 : 0 < W := by rw [hW]; exact pow_pos_ K0 _
  rw [← hW] at hUe hVe lu1 lv1
  obtain ⟨U, hUd⟩ : ∃ U, U = v32 (u.drop k) := ⟨_, rfl⟩
  obtain ⟨V, hVd⟩ : ∃ V, V = v32 v := ⟨_, rfl⟩
  rw [← hUd] at hUe hU ⊢
  rw [← hVd] at hVe hU ⊢
  obtain ⟨t, ht⟩ : ∃ t, t = u0 * 4294967296 + u1 := ⟨_, rfl⟩
  obtain ⟨z, hzd⟩ : ∃ z, z = v1 * 4294967296 + v2 := ⟨_, rfl⟩
  obtain ⟨y, hy⟩ : ∃ y, y = t * 4294967296 + u2 := ⟨_, rfl⟩
  have hUe' : U = lu + W * y := by rw [hUe, hy, ht]
  have hVe' : V = lv + W * z := by rw [hVe, hzd]; grind
  have hz1 : 1 ≤ z := by omega
  have hV0 : 0 < V := by
    have := Int.mul_pos hW0 (show 0 < z by omega)
    omega
  have hU0 : 0 ≤ U := by
    have := Int.mul_nonneg (Int.le_of_lt hW0) (show 0 ≤ y by omega)
    omega
  obtain ⟨Q, hQd⟩ : ∃ Q, Q = U / V := ⟨_, rfl⟩
  rw [← hQd]
  have hQ0 : 0 ≤ Q := by rw [hQd]; exact Int.ediv_nonneg hU0 (by omega)
  have hQK : Q < 4294967296 := by rw [hQd]; exact Int.ediv_lt_of_lt_mul hV0 hU
  have hQle : Q * V ≤ U := by rw [hQd]; exact Int.ediv_mul_le _ (by omega)
  have hQgt : ∀ q, U < q * V → Q < q := fun q h => by
    refine Int.lt_of_not_ge fun hq => ?_
    have := Int.mul_le_mul_of_nonneg_right hq (show 0 ≤ V by omega)
    omega
  have hQup : ∀ q, q * V ≤ U → q ≤ Q := fun q h => by rw [hQd]; exact (Int.le_ediv_iff_mul_le hV0).2 h
  -- the two top figures: t < v1 * K + K
  have htt : t < v1 * 4294967296 + 4294967296 := by
    refine Int.lt_of_not_ge fun h => ?_
    have hy1 : 4294967296 * (z + 1) ≤ y := by omega
    have h3 : W * (4294967296 * (z + 1)) ≤ W * y := Int.mul_le_mul_of_nonneg_left hy1 (Int.le_of_lt hW0)
    have h4 : W * (4294967296 * (z + 1)) = 4294967296 * (W * z) + 4294967296 * W := by grind
    omega
  have ht0 : 0 ≤ t := by omega
  have hstop : ∀ q, q ≥ 4294967296 ∨ q * (v1 * 4294967296 + v2) > t * 4294967296 + u2 → Q < q := fun q h => by
    rcases h with h | h
    · omega
    · rw [← hzd, ← hy] at h
      refine hQgt q ?_
      have h3 : W * (y + 1) ≤ W * (q * z) := Int.mul_le_mul_of_nonneg_left (by omega) (Int.le_of_lt hW0)
      have h5 : 0 ≤ q := by
        refine Int.le_of_not_gt fun hq => ?_
        have := Int.mul_le_mul_of_nonneg_right (show q ≤ 0 by omega) (show 0 ≤ z by omega)
        omega
      have h6 : 0 ≤ q * lv := Int.mul_nonneg h5 lv0
      have h7 : q * V = q * lv + W * (q * z) := by rw [hVe']; grind
      have h8 : W * (y + 1) = W * y + W := by grind
      omega
  have hem := Int.emod_add_mul_ediv t v1
  have hr0 : 0 ≤ t % v1 := Int.emod_nonneg _ (by omega)
  have hr1 : t % v1 < v1 := Int.emod_lt_of_pos _ (by omega)
  have hq0 : 0 ≤ t / v1 := Int.ediv_nonneg ht0 (by omega)
  have hqb : t / v1 ≤ 4294967298 := by
    have : t / v1 < 4294967298 := Int.ediv_lt_of_lt_mul (by omega) (by omega)
    omega
  have hqQ : Q ≤ t / v1 := by
    refine (Int.le_ediv_iff_mul_le (by omega)).2 (Int.le_of_not_gt fun h => ?_)
    have h3 : (t + 1) * 4294967296 ≤ (Q * v1) * 4294967296 := by omega
    have h4 : Q * z = (Q * v1) * 4294967296 + Q * v2 := by rw [hzd]; grind
    have h5 : 0 ≤ Q * v2 := Int.mul_nonneg hQ0 gv2.1
    have := hstop Q (.inr (by rw [← hzd, ← hy]; omega))
    omega
  obtain ⟨g, g1, g2, g3, g4⟩ := guess_loop hu hv k n hn h2 hl hm e1 e2 e3 htt hQ0 hstop (t / v1 - Q).toNat (t / v1) (t % v1) (by omega) (by rw [Int.mul_comm]; omega) hr0 (by omega) hqb
  refine ⟨g, ?_, g2, ?_, g3⟩
  · unfold nat_guess.f
    rw [← hn, addN (by omega), dec64 (by omega), dec64 (by omega)]
    have c1 : ((k + n : Nat) : Int) - 1 = ((k + n - 1 : Nat) : Int) := by omega
    have c2 : (n : Int) - 1 = ((n - 1 : Nat) : Int) := by omega
    rw [c1, c2]
    refine ev_pos (by omega) (ev_pos (by omega) (ev_pos (by omega) (ev_pos (by omega) (ev_pos (by omega) (ev_pos (by omega) ?_)))))
    rw [rd_nat, rd_nat, rd_nat, ← e1, ← e0, ← e4, u64_id (n := v1) (by omega) (by omega), u64_id (n := u0) (by omega) (by omega), u64_id (n := u1) (by omega) (by omega), u64_id (n := u0 * 4294967296) (by omega) (by omega), or32 (by omega) (by omega) (by omega) gu1.1 gu1.2, ← ht, tdiv_pos ht0, tmod_pos ht0, u64_id hq0 (by omega)]
    exact ev_neg (by omega) g1
  · have hg0 : 0 ≤ g := by omega
    have hgz : g * z ≤ y := by
      rcases g4 with h | h
      · rw [← hzd, ← hy] at h; exact h
      · have h4 : g * z = (g * v1) * 4294967296 + g * v2 := by rw [hzd]; grind
        have h5 : g * v2 ≤ 4294967295 * 4294967295 := Int.mul_le_mul (by omega) (by omega) gv2.1 (by omega)
        omega
    have h3 : W * (g * z) ≤ W * y := Int.mul_le_mul_of_nonneg_left hgz (Int.le_of_lt hW0)
    have h4 : g * lv ≤ 4294967295 * W := Int.mul_le_mul (by omega) (by omega) lv0 (by omega)
    have h5 : g * V = g * lv + W * (g * z) := by rw [hVe']; grind
    have h6 : W * 4294967296 ≤ W * z := Int.mul_le_mul_of_nonneg_left (by omega) (Int.le_of_lt hW0)
    have h7 : (g - 1) * V = g * V - V := by grind
    have := hQup (g - 1) (by omega)
    omega
end Go.Proofs.YtcidmdjhmhkmgaaDoor.Pure
