import Derived.Test.YtcidmdjhmhkmgaaDoorNatI
set_option linter.unusedVariables false
namespace Go.Proofs.YtcidmdjhmhkmgaaDoor.Pure
open Go.RowKit Go.Proofs.YtcidmdjhmhkmgaaDoorW.PrintWords Go.Proofs.YtcidmdjhmhkmgaaDoorW.PrintMore Go.Proofs.YtcidmdjhmhkmgaaDoor.S Go.Proofs.YtcidmdjhmhkmgaaDoor.L
/-! ### what divide leaves, shifted back -/
def rsO (u : List Int) (P : Int) (i : Nat) : Int := (u.getD (i + 1) 0 * 4294967296 + u.getD i 0) / P % 4294967296
theorem rs_step {u : List Int} (hu : D32 u) {P R : Int} (hP : 1 ≤ P) (hR : 1 ≤ R) (hPR : P * R = 4294967296) (i : Nat) : P * rsO u P i + u.getD i 0 % P = u.getD i 0 + 4294967296 * (u.getD (i + 1) 0 % P) := by
  have g0 := hu.get K0 i
  have g1 := hu.get K0 (i + 1)
  obtain ⟨x, hx⟩ : ∃ x, x = u.getD i 0 := ⟨_, rfl⟩
  obtain ⟨y, hy⟩ : ∃ y, y = u.getD (i + 1) 0 := ⟨_, rfl⟩
  unfold rsO
  rw [← hx] at g0 ⊢
  rw [← hy] at g1 ⊢
  have ex := Int.emod_add_mul_ediv x P
  have ey := Int.emod_add_mul_ediv y P
  have mx0 : 0 ≤ x % P := Int.emod_nonneg _ (by omega)
  have mx1 : x % P < P := Int.emod_lt_of_pos _ (by omega)
  have my0 : 0 ≤ y % P := Int.emod_nonneg _ (by omega)
  have my1 : y % P < P := Int.emod_lt_of_pos _ (by omega)
  obtain ⟨a, ha⟩ : ∃ a, a = x / P := ⟨_, rfl⟩
  obtain ⟨m, hm⟩ : ∃ m, m = y % P := ⟨_, rfl⟩
  obtain ⟨d, hd⟩ : ∃ d, d = y / P := ⟨_, rfl⟩
  obtain ⟨w, hw⟩ : ∃ w, w = x % P := ⟨_, rfl⟩
  rw [← ha, ← hw] at ex
  rw [← hm, ← hd] at ey
  rw [← hm] at my0 my1 ⊢
  rw [← hw] at mx0 mx1 ⊢
  have ha0 : 0 ≤ a := by rw [ha]; exact Int.ediv_nonneg g0.1 (by omega)
  have ha1 : a < R := by rw [ha]; exact Int.ediv_lt_of_lt_mul (by omega) (by rw [Int.mul_comm, hPR]; exact g0.2)
  -- (y * K + x) / P = y * R + a
  have e1 : y * 4294967296 + x = w + P * (y * R + a) := by rw [← hPR, ← ex]; grind
  have e2 : (y * 4294967296 + x) / P = y * R + a := by
    rw [e1, Int.add_mul_ediv_left _ _ (by omega), Int.ediv_eq_zero_of_lt mx0 mx1, Int.zero_add]
  -- y * R = m * R + K * d
  have e3 : y * R = m * R + 4294967296 * d := by rw [← ey, ← hPR]; grind
  have e4 : (m + 1) * R ≤ P * R := Int.mul_le_mul_of_nonneg_right (by omega) (by omega)
  have e5 : (m + 1) * R = m * R + R := by grind
  have e6 : 0 ≤ m * R := Int.mul_nonneg my0 (by omega)
  have e7 : (y * 4294967296 + x) / P % 4294967296 = m * R + a := by rw [e2, e3]; omega
  rw [e7]
  have e8 : P * (m * R + a) = 4294967296 * m + P * a := by rw [← hPR]; grind
  omega
theorem rs_digit {u : List Int} (hu : D32 u) (by_ : Nat) (hby : by_ ≤ 31) (i : Nat) : shr .u64 (Go.bits .or .u64 (IntKind.u64.wrap (IntKind.u64.wrap (u.getD (i + 1) 0) * 4294967296)) (IntKind.u64.wrap (u.getD i 0))) (by_ : Int) % 4294967296 = rsO u (2 ^ by_) i := by
  have g0 := hu.get K0 i
  have g1 := hu.get K0 (i + 1)
  have hb : min by_ IntKind.u64.bits = by_ := by have : IntKind.u64.bits = 64 := rfl; omega
  rw [u64_id (n := u.getD (i + 1) 0) g1.1 (by omega), u64_id (n := u.getD i 0) g0.1 (by omega), u64_id (n := u.getD (i + 1) 0 * 4294967296) (by omega) (by omega), or32 (by omega) (by omega) (by omega) g0.1 g0.2]
  unfold shr
  rw [Int.toNat_natCast, hb]
  rfl
theorem rs_loop {u out : List Int} (hu : D32 u) (by_ : Nat) (hby : by_ ≤ 31) (n : Nat) (hn : n < u.length) (hm : n ≤ 100000) {q : List Int} (hq : Ev (fun k => nat_trim.f k out) q) {r : List Int} (hr : Ev (fun k => nat_trim.f k ((List.range n).map (rsO u (2 ^ by_)))) r) : ∀ i, i ≤ n → ∀ l : List Int, l.length = n → (∀ p, p < i → l.getD p 0 = rsO u (2 ^ by_) p) →
    Ev (fun k => nat_divide.l1 k (by_ : Int) u out l (n : Int) (i : Int)) (q, r) := by
  refine down n ?_ ?_
  · intro l hl h
    have e : l = (List.range n).map (rsO u (2 ^ by_)) := by
      refine list_ext 0 (by simp [hl]) fun p hp => ?_
      rw [h p (by omega), getD_lt (by simp; omega)]
      simp
    rw [e]
    refine Ev.step (fun k => by simp only [nat_divide.l1]; rfl) (ev_neg (by omega) ?_)
    refine ev_call hq ?_
    exact ev_call (f := fun _ t211 => some (q, t211)) hr ev_ret
  · intro i hi ih l hl h
    have hnext := ih (l.set i (rsO u (2 ^ by_) i)) (by simpa using hl) (fun p hp => by
      by_cases e : i = p
      · subst e; rw [gset_same (by omega)]
      · rw [gset_ne e]; exact h p (by omega))
    refine Ev.step (fun k => by simp only [nat_divide.l1]; rfl) (ev_pos (by omega) ?_)
    rw [inc64 (by omega)]
    refine ev_pos (by omega) ?_
    refine ev_pos (by omega) ?_
    refine ev_pos (by omega) ?_
    refine ev_pos (by omega) ?_
    refine ev_pos (by omega) ?_
    refine ev_pos (by omega) ?_
    rw [rd_nat, rd_nat, rs_digit hu by_ hby i, Int.toNat_natCast]
    exact hnext
/-- The rest's value: with no figure at n, and P dividing. -/
theorem rs_val {u : List Int} (hu : D32 u) {P R : Int} (hP : 1 ≤ P) (hR : 1 ≤ R) (hPR : P * R = 4294967296) (n : Nat) (hlt : v32 u < 4294967296 ^ n) (hd : v32 u % P = 0) : P * dv 4294967296 ((List.range n).map (rsO u P)) = v32 u := by
  have hz := zero_above hu hlt
  -- carries, the other way round
  have h : ∀ i, P * ps 4294967296 (rsO u P) i + u.getD 0 0 % P = ps 4294967296 (fun j => u.getD j 0) i + 4294967296 ^ i * (u.getD i 0 % P) := by
    intro i
    induction i with
    | zero => simp [ps]
    | succ i ih =>
      have hs := rs_step hu hP hR hPR i
      simp only [ps, Int.pow_succ]
      have e : 4294967296 ^ i * (P * rsO u P i + u.getD i 0 % P) = 4294967296 ^ i * (u.getD i 0 + 4294967296 * (u.getD (i + 1) 0 % P)) := by rw [hs]
      grind
  have hn := h n
  rw [hz n (Nat.le_refl _), ← dv_map_range, ps_getD] at hn
  have htake : dv 4294967296 (u.take n) = v32 u := by
    have e := dv_parts 4294967296 u n
    have hz0 : dv 4294967296 (u.drop n) = 0 := by
      have hall : ∀ x ∈ u.drop n, x = 0 := fun x hx => by
        obtain ⟨j, hj, rfl⟩ := List.getElem_of_mem hx
        rw [List.length_drop] at hj
        have := hz (n + j) (by omega)
        rw [getD_lt (by omega)] at this
        rw [List.getElem_drop]; exact this
      rw [List.eq_replicate_of_mem hall]; exact replicate_zero _ _
    rw [hz0, Int.mul_zero, Int.add_zero] at e
    exact e.symm
  rw [htake] at hn
  have e0 : u.getD 0 0 % P = 0 := by
    have e := dv_drop 4294967296 u 0
    rw [List.drop_zero] at e
    have e' : v32 u = u.getD 0 0 + P * (R * dv 4294967296 (u.drop (0 + 1))) := by
      show dv _ _ = _
      rw [e, ← hPR]; grind
    rw [e', Int.add_mul_emod_self_left] at hd
    exact hd
  rw [e0] at hn
  simpa using hn
end Go.Proofs.YtcidmdjhmhkmgaaDoor.Pure
