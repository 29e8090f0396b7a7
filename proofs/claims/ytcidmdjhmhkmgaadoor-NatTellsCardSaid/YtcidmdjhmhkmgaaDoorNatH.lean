import Derived.Test.YtcidmdjhmhkmgaaDoorNatG
set_option linter.unusedVariables false
namespace Go.Proofs.YtcidmdjhmhkmgaaDoor.Pure
open Go.RowKit Go.Proofs.YtcidmdjhmhkmgaaDoorW.PrintWords Go.Proofs.YtcidmdjhmhkmgaaDoorW.PrintMore Go.Proofs.YtcidmdjhmhkmgaaDoor.S Go.Proofs.YtcidmdjhmhkmgaaDoor.L
theorem zero_above {l : List Int} (hd : D32 l) {m : Nat} (h : v32 l < 4294967296 ^ m) (p : Nat) (hp : m ≤ p) : l.getD p 0 = 0 := by
  have g := hd.get K0 p
  refine Int.le_antisymm (Int.le_of_not_gt fun h1 => ?_) g.1
  have e := dv_parts 4294967296 l p
  rw [dv_drop] at e
  have n1 := dv_nonneg K0 (hd.take p)
  have n2 := dv_nonneg K0 (hd.drop (p + 1))
  have hP := pow_pos_ K0 p
  have h2 := pow_mono (B := 4294967296) (by decide) hp
  have h3 : 4294967296 ^ p * 1 ≤ 4294967296 ^ p * (l.getD p 0 + 4294967296 * dv 4294967296 (l.drop (p + 1))) := Int.mul_le_mul_of_nonneg_left (by omega) (Int.le_of_lt hP)
  have h' : dv 4294967296 l < 4294967296 ^ m := h
  omega
theorem lt_of_zero {l : List Int} (hd : D32 l) (m : Nat) (h : ∀ p, m ≤ p → l.getD p 0 = 0) : v32 l < 4294967296 ^ m := by
  have hz0 : dv 4294967296 (l.drop m) = 0 := by
    have hall : ∀ x ∈ l.drop m, x = 0 := fun x hx => by
      obtain ⟨j, hj, rfl⟩ := List.getElem_of_mem hx
      rw [List.length_drop] at hj
      have := h (m + j) (by omega)
      rw [getD_lt (by omega)] at this
      rw [List.getElem_drop]; exact this
    rw [List.eq_replicate_of_mem hall]; exact replicate_zero _ _
  have e := dv_parts 4294967296 l m
  rw [hz0, Int.mul_zero, Int.add_zero] at e
  show dv _ _ < _
  rw [e]
  exact dv_take_lt K0 hd m
theorem div_step {u v : List Int} (hu : D32 u) (hv : D32 v) (k n : Nat) (hn : n = v.length) (h2 : 2 ≤ n) (hl : k + n < u.length) (hm : u.length ≤ 100000) (hv1 : 2147483648 ≤ v.getD (n - 1) 0) (hU : v32 u < 4294967296 ^ (k + 1) * v32 v) (hV0 : 0 < v32 v) :
    ∃ g b u1, Ev (fun m => nat_guess.f m u v (k : Int)) g ∧ Ev (fun m => nat_take.f m u v (k : Int) g) (b, u1) ∧ 0 ≤ g ∧ g < 4294967296 ∧ u1.length = u.length ∧
      ((b = false ∧ D32 u1 ∧ v32 u = 4294967296 ^ k * (g * v32 v) + v32 u1 ∧ v32 u1 < 4294967296 ^ k * v32 v) ∨
       (b = true ∧ 1 ≤ g ∧ ∃ u2, Ev (fun m => nat_back.f m u1 v (k : Int)) u2 ∧ u2.length = u.length ∧ D32 u2 ∧ v32 u = 4294967296 ^ k * ((g - 1) * v32 v) + v32 u2 ∧ v32 u2 < 4294967296 ^ k * v32 v)) := by
  have hVn : v32 v < 4294967296 ^ n := by rw [hn]; exact dv_lt K0 hv
  have hP := pow_pos_ K0 k
  have hN : v32 u < 4294967296 ^ (k + n + 1) := by
    have e : (4294967296 : Int) ^ (k + n + 1) = 4294967296 ^ (k + 1) * 4294967296 ^ n := by rw [← Int.pow_add]; congr 1; omega
    have := Int.mul_lt_mul_of_pos_left hVn (pow_pos_ K0 (k + 1))
    rw [e]; omega
  have hz := zero_above hu hN
  obtain ⟨U, hUd⟩ : ∃ U, U = v32 (u.drop k) := ⟨_, rfl⟩
  have hpart : v32 u = dv 4294967296 (u.take k) + 4294967296 ^ k * U := by rw [hUd]; exact dv_parts _ u k
  have t0 := dv_nonneg K0 (hu.take k)
  have t1 := dv_take_lt K0 hu k
  have hU0 : 0 ≤ U := by rw [hUd]; exact dv_nonneg K0 (hu.drop k)
  obtain ⟨P, hPd⟩ : ∃ P, P = (4294967296 : Int) ^ k := ⟨_, rfl⟩
  obtain ⟨V, hVd⟩ : ∃ V, V = v32 v := ⟨_, rfl⟩
  have hUlt : U < 4294967296 * V := by
    refine Int.lt_of_not_ge fun h => ?_
    have h3 : P * (4294967296 * V) ≤ P * U := Int.mul_le_mul_of_nonneg_left h (by omega)
    rw [Int.pow_succ, ← hPd, ← hVd] at hU
    rw [← hPd] at hpart
    have h4 : P * 4294967296 * V = P * (4294967296 * V) := by grind
    omega
  obtain ⟨g, g1, g2, g3, g4⟩ := guess_ev hu hv k n hn h2 hl hm (fun p hp => hz p (by omega)) hv1 (by rw [← hUd, ← hVd]; exact hUlt)
  rw [← hUd, ← hVd] at g2 g3
  rw [← hVd] at hV0 ⊢
  obtain ⟨Q, hQ⟩ : ∃ Q, Q = U / V := ⟨_, rfl⟩
  rw [← hQ] at g2 g3
  have hQ0 : 0 ≤ Q := by rw [hQ]; exact Int.ediv_nonneg hU0 (by omega)
  have hQ1 : Q * V ≤ U := by rw [hQ]; exact Int.ediv_mul_le _ (by omega)
  have hQ2 : U < Q * V + V := by
    have := Int.lt_ediv_add_one_mul_self U hV0
    rw [← hQ] at this
    have e : (Q + 1) * V = Q * V + V := by grind
    omega
  obtain ⟨b', u1, q1, q2, q3, q4, b, q5, q6, q7, q8⟩ := take_ev hu hv k (by omega : 0 ≤ g) g4 (by omega) hm
  rw [← hn, ← hVd, ← hPd] at q8
  rw [← hPd] at hpart t1 ⊢
  have hu1 : v32 u1 < 4294967296 ^ (k + n + 1) := lt_of_zero q2 _ (fun p hp => by rw [q4 p (by omega)]; exact hz p hp)
  have hu10 : 0 ≤ v32 u1 := dv_nonneg K0 q2
  obtain ⟨T, hT⟩ : ∃ T, T = (4294967296 : Int) ^ (k + n + 1) := ⟨_, rfl⟩
  rw [← hT] at q8 hu1
  -- what is left
  obtain ⟨R, hR⟩ : ∃ R, R = U - Q * V := ⟨_, rfl⟩
  have hPR0 : 0 ≤ P * R := Int.mul_nonneg (by omega) (by omega)
  have hPR1 : P * (R + 1) ≤ P * V := Int.mul_le_mul_of_nonneg_left (by omega) (by omega)
  have e1 : P * (R + 1) = P * R + P := by grind
  have e2 : P * U = P * R + P * (Q * V) := by rw [hR]; grind
  have hbb : b = 0 ∨ b = 1 := by omega
  refine ⟨g, b', u1, g1, q1, by omega, g4, q3, ?_⟩
  rcases (show g = Q ∨ g = Q + 1 by omega) with h | h
  · subst h
    rcases hbb with hb | hb
    · rw [hb] at q8 q7
      exact .inl ⟨by rw [q7]; rfl, q2, by omega, by omega⟩
    · rw [hb] at q8
      omega
  · have e3 : P * (g * V) = P * (Q * V) + P * V := by rw [h]; grind
    rcases hbb with hb | hb
    · rw [hb] at q8
      omega
    · rw [hb] at q8 q7
      obtain ⟨u2, p1, p2, p3, p4, c, p5, p6, p7⟩ := back_ev q2 hv k (by omega) (by omega)
      rw [← hn, ← hVd, ← hPd, ← hT] at p7
      have hu2 : v32 u2 < T := by rw [hT]; exact lt_of_zero p2 _ (fun p hp => by rw [p4 p (by omega), q4 p (by omega)]; exact hz p hp)
      have hc : c = 0 ∨ c = 1 := by omega
      refine .inr ⟨by rw [q7]; rfl, by omega, u2, p1, by omega, p2, ?_⟩
      have e4 : g - 1 = Q := by omega
      rw [e4]
      rcases hc with hc | hc
      · rw [hc] at p7
        omega
      · rw [hc] at p7
        exact ⟨by omega, by omega⟩
end Go.Proofs.YtcidmdjhmhkmgaaDoor.Pure
