import Derived.Test.YtcidmdjhmhkmgaaDoorNatF
set_option linter.unusedVariables false
namespace Go.Proofs.YtcidmdjhmhkmgaaDoor.Pure
open Go.RowKit Go.Proofs.YtcidmdjhmhkmgaaDoorW.PrintWords Go.Proofs.YtcidmdjhmhkmgaaDoorW.PrintMore Go.Proofs.YtcidmdjhmhkmgaaDoor.S Go.Proofs.YtcidmdjhmhkmgaaDoor.L
/-! ### shift -/
def shLow (a : List Int) : Nat → Int
  | 0 => 0
  | i + 1 => a.getD i 0
def shC (a : List Int) (P : Int) (i : Nat) : Int := shLow a i * P / 4294967296
def shO (a : List Int) (P : Int) (i : Nat) : Int := (a.getD i 0 * P + shC a P i) % 4294967296
theorem shLow_b {a : List Int} (ha : D32 a) : ∀ i, 0 ≤ shLow a i ∧ shLow a i < 4294967296
  | 0 => by simp [shLow]
  | i + 1 => ha.get K0 i
theorem sh_step {a : List Int} (ha : D32 a) {P R : Int} (hP : 1 ≤ P) (hR : 1 ≤ R) (hPR : P * R = 4294967296) (i : Nat) : shO a P i + 4294967296 * shC a P (i + 1) = a.getD i 0 * P + shC a P i := by
  have g := ha.get K0 i
  have hl := shLow_b ha i
  have hc0 : 0 ≤ shC a P i := Int.ediv_nonneg (Int.mul_nonneg hl.1 (by omega)) (by decide)
  have hc1 : shC a P i < P := by
    refine Int.ediv_lt_of_lt_mul (by decide) ?_
    have := Int.mul_lt_mul_of_pos_right hl.2 (show 0 < P by omega)
    rw [Int.mul_comm P]; exact this
  obtain ⟨c, hc⟩ : ∃ c, c = shC a P i := ⟨_, rfl⟩
  obtain ⟨x, hx⟩ : ∃ x, x = a.getD i 0 := ⟨_, rfl⟩
  have e : shC a P (i + 1) = a.getD i 0 * P / 4294967296 := rfl
  unfold shO
  rw [e, ← hc, ← hx]
  rw [← hc] at hc0 hc1
  -- x * P = K * d + P * m, m < R
  have hem := Int.emod_add_mul_ediv x R
  have hm0 : 0 ≤ x % R := Int.emod_nonneg _ (by omega)
  have hm1 : x % R < R := Int.emod_lt_of_pos _ (by omega)
  obtain ⟨m, hm⟩ : ∃ m, m = x % R := ⟨_, rfl⟩
  obtain ⟨d, hd⟩ : ∃ d, d = x / R := ⟨_, rfl⟩
  rw [← hm, ← hd] at hem
  rw [← hm] at hm0 hm1
  have e1 : x * P = 4294967296 * d + m * P := by rw [← hem, ← hPR]; grind
  have e2 : (m + 1) * P ≤ R * P := Int.mul_le_mul_of_nonneg_right (by omega) (by omega)
  have e3 : (m + 1) * P = m * P + P := by grind
  have e4 : 0 ≤ m * P := Int.mul_nonneg hm0 (by omega)
  have e5 : R * P = 4294967296 := by rw [Int.mul_comm]; exact hPR
  omega
theorem sh_val {a : List Int} (ha : D32 a) {P R : Int} (hP : 1 ≤ P) (hR : 1 ≤ R) (hPR : P * R = 4294967296) (n : Nat) (hn : a.length ≤ n) : dv 4294967296 ((List.range n).map (shO a P)) + 4294967296 ^ n * shC a P n = P * v32 a := by
  have h := carries 4294967296 (fun j => P * a.getD j 0) (shO a P) (shC a P) n (fun j _ => by
    show _ = P * a.getD j 0 + _
    rw [Int.mul_comm P]; exact sh_step ha hP hR hPR j)
  rw [ps_mul, ps_all _ _ hn, ← dv_map_range] at h
  have h0 : shC a P 0 = 0 := by simp [shC, shLow]
  rw [h0, Int.add_zero] at h
  exact h
theorem sh_digit {a : List Int} (ha : D32 a) (by_ : Nat) (hby : by_ ≤ 31) (i : Nat) : shl .u64 (a.getD i 0 * 4294967296 + shLow a i) (by_ : Int) / 4294967296 % 4294967296 = shO a (2 ^ by_) i := by
  have hb : min by_ IntKind.u64.bits = by_ := by have : IntKind.u64.bits = 64 := rfl; omega
  unfold shl
  rw [Int.toNat_natCast, hb, u64_mod]
  unfold shO shC
  obtain ⟨P, hP⟩ : ∃ P : Int, P = 2 ^ by_ := ⟨_, rfl⟩
  rw [← hP]
  have e : (a.getD i 0 * 4294967296 + shLow a i) * P = (a.getD i 0 * P) * 4294967296 + shLow a i * P := by grind
  rw [e]
  omega
theorem shift_loop {a : List Int} (ha : D32 a) (by_ : Nat) (hby : by_ ≤ 31) (n : Nat) (hn : n ≤ 100000) : ∀ i, i ≤ n → ∀ out : List Int, out.length = n → (∀ p, p < i → out.getD p 0 = shO a (2 ^ by_) p) →
    Ev (fun k => nat_shift.l0 k a (by_ : Int) out (n : Int) (i : Int)) ((List.range n).map (shO a (2 ^ by_))) := by
  refine down n ?_ ?_
  · intro out hl h
    refine Ev.step (fun k => by simp only [nat_shift.l0]; rfl) (ev_neg (by omega) (ev_eq ?_))
    refine list_ext 0 (by simp [hl]) fun p hp => ?_
    rw [h p (by omega), getD_lt (by simp; omega)]
    simp
  · intro i hi ih out hl h
    have hg := ha.get K0 i
    have hlow := shLow_b ha i
    have hnext := ih (out.set i (shO a (2 ^ by_) i)) (by simpa using hl) (fun p hp => by
      by_cases e : i = p
      · subst e; rw [gset_same (by omega)]
      · rw [gset_ne e]; exact h p (by omega))
    have hor : Go.bits .or .u64 (IntKind.u64.wrap (a.getD i 0 * 4294967296)) (shLow a i) = a.getD i 0 * 4294967296 + shLow a i := by
      rw [u64_id (n := a.getD i 0 * 4294967296) (by omega) (by omega), or32 (by omega) (by omega) (by omega) hlow.1 hlow.2]
    refine Ev.step (fun k => by simp only [nat_shift.l0]; rfl) (ev_pos (by omega) ?_)
    by_cases h0 : (i : Int) > 0
    · refine ev_pos h0 ?_
      have e1 : wrap64 ((i : Int) - 1) = ((i - 1 : Nat) : Int) := by unfold wrap64; omega
      rw [e1]
      have e2 : a.getD (i - 1) 0 = shLow a i := by
        obtain ⟨j, rfl⟩ : ∃ j, i = j + 1 := ⟨i - 1, by omega⟩
        rfl
      refine ev_pure (nat_at_eq ha (i - 1)) (ev_pure (nat_at_eq ha i) ?_)
      refine ev_pos (by omega) (ev_pos (by omega) (ev_pos (by omega) ?_))
      rw [e2, hor, sh_digit ha by_ hby i, Int.toNat_natCast, inc64 (by omega)]
      exact hnext
    · refine ev_neg h0 ?_
      have hi0 : i = 0 := by omega
      subst hi0
      have e2 : shLow a 0 = 0 := rfl
      rw [e2] at hor
      refine ev_pure (nat_at_eq ha 0) ?_
      refine ev_pos (by omega) (ev_pos (by omega) (ev_pos (by omega) ?_))
      have hd := sh_digit ha by_ hby 0
      rw [e2] at hd
      rw [hor, hd, Int.toNat_natCast, inc64 (by omega)]
      exact hnext
theorem shift_ev {a : List Int} (ha : D32 a) (by_ : Nat) (hby : by_ ≤ 31) (n : Nat) (hn : n ≤ 100000) : Ev (fun k => nat_shift.f k a (by_ : Int) (n : Int)) ((List.range n).map (shO a (2 ^ by_))) := by
  unfold nat_shift.f
  rw [Int.toNat_natCast]
  refine ev_pos (by omega) (ev_pos (by omega) (ev_let ?_))
  rw [List.length_replicate]
  exact shift_loop ha by_ hby n hn 0 (by omega) _ (by simp) (fun p hp => by omega)
end Go.Proofs.YtcidmdjhmhkmgaaDoor.Pure
