import Derived.Test.YtcidmdjhmhkmgaaDoorS1
import Derived.Test.YtcidmdjhmhkmgaaDoorProd
set_option linter.unusedVariables false
namespace Go.Proofs.YtcidmdjhmhkmgaaDoor.Pure
open Go.RowKit Go.Proofs.YtcidmdjhmhkmgaaDoorW.PrintWords Go.Proofs.YtcidmdjhmhkmgaaDoorW.PrintMore Go.Proofs.YtcidmdjhmhkmgaaDoor.S Go.Proofs.YtcidmdjhmhkmgaaDoor.L
theorem or32 {x y : Int} (hx₀ : 0 ≤ x) (hx : x % 4294967296 = 0) (hx₁ : x < 18446744073709551616) (h₀ : 0 ≤ y) (h₁ : y < 4294967296) : Go.bits .or .u64 x y = x + y :=
  bits_join .u64 64 (by decide) wraps_u64 32 x y hx₀ hx hx₁ h₀ h₁ (by omega)
/-- Places that are still to come are 0. -/
structure SmSt (a out : List Int) (d rest : Int) (i : Nat) : Prop where
  dg : D32 out
  len : out.length = a.length
  r0 : 0 ≤ rest
  r1 : rest < d
  zero : ∀ p, p < i → out.getD p 0 = 0
  val : v32 a = d * v32 out + rest * 4294967296 ^ i + v32 (a.take i)
theorem small_loop {a : List Int} (ha : D32 a) (hl : a.length ≤ 1000) {d : Int} (d1 : 1 ≤ d) (d2 : d < 4294967296) : ∀ (i : Nat), i ≤ a.length → ∀ out rest, SmSt a out d rest i →
    ∃ q r, Ev (fun k => nat_small.l0 k a d out rest ((i : Int) - 1)) (q, r) ∧ C32 q ∧ 0 ≤ r ∧ r < d ∧ v32 a = d * v32 q + r ∧ q.length ≤ a.length
  | 0, _, out, rest, h => by
    have hlen := h.len
    obtain ⟨t, t1, t2, t3, t4⟩ := trim_ev (l := out) (by omega) h.dg
    refine ⟨t, rest, Ev.step (fun k => by simp only [nat_small.l0]; rfl) (ev_neg (by omega) (ev_call t1 ev_ret)), t2, h.r0, h.r1, ?_, by omega⟩
    have hv := h.val
    rw [List.take_zero, Int.pow_zero, Int.mul_one] at hv
    have e : v32 [] = 0 := rfl
    rw [e] at hv
    rw [t3]; omega
  | i + 1, hi, out, rest, h => by
    have hlen := h.len
    have g := ha.get K0 i
    have r0 := h.r0
    have r1 := h.r1
    have e1 : ((i + 1 : Nat) : Int) - 1 = (i : Int) := by omega
    rw [e1]
    obtain ⟨cur, hcur⟩ : ∃ cur, cur = rest * 4294967296 + a.getD i 0 := ⟨_, rfl⟩
    have hc0 : 0 ≤ cur := by omega
    have hc1 : cur < d * 4294967296 := by omega
    have hc2 : cur < 18446744073709551616 := by omega
    have hq0 : 0 ≤ cur / d := Int.ediv_nonneg hc0 (by omega)
    have hq1 : cur / d < 4294967296 := Int.ediv_lt_of_lt_mul (by omega) (by rw [Int.mul_comm]; exact hc1)
    have hm0 : 0 ≤ cur % d := Int.emod_nonneg _ (by omega)
    have hm1 : cur % d < d := Int.emod_lt_of_pos _ (by omega)
    have hem := Int.emod_add_mul_ediv cur d
    obtain ⟨q, r, q1, q2, q3, q4, q5, q6⟩ := small_loop ha hl d1 d2 i (by omega) (out.set i (cur / d)) (cur % d) ⟨h.dg.set _ ⟨hq0, hq1⟩, by rw [List.length_set]; exact hlen, hm0, hm1, fun p hp => by rw [gset_ne (by omega)]; exact h.zero p (by omega), by
      have hv := h.val
      show dv _ _ = _ * dv _ _ + _ + dv _ _
      have hv' : dv 4294967296 a = d * dv 4294967296 out + rest * 4294967296 ^ (i + 1) + dv 4294967296 (a.take (i + 1)) := hv
      rw [dv_set _ _ _ _ (by omega), h.zero i (by omega), hv', dv_take_succ, Int.pow_succ]
      obtain ⟨m, hm⟩ : ∃ m, m = cur % d := ⟨_, rfl⟩
      obtain ⟨z, hz⟩ : ∃ z, z = cur / d := ⟨_, rfl⟩
      rw [← hm, ← hz] at hem ⊢
      have e3 : m = rest * 4294967296 + a.getD i 0 - d * z := by omega
      rw [e3]
      grind⟩
    refine ⟨q, r, Ev.step (fun k => by simp only [nat_small.l0]; rfl) ?_, q2, q3, q4, q5, q6⟩
    refine ev_pos (by omega) ?_
    refine ev_pos (by omega) ?_
    refine ev_pos (by omega) ?_
    refine ev_neg (by omega) ?_
    refine ev_pos (by omega) ?_
    rw [rd_nat, u64_id (n := a.getD i 0) (by omega) (by omega), u64_id (n := rest * 4294967296) (by omega) (by omega), or32 (by omega) (by omega) (by omega) (by omega) (by omega), ← hcur, tdiv_pos hc0, tmod_pos hc0, u64_id hq0 (by omega), Int.emod_eq_of_lt hq0 hq1, Int.toNat_natCast, dec64 (by omega)]
    exact q1
theorem replicate_zero (B : Int) (n : Nat) : dv B (List.replicate n 0) = 0 := by
  induction n with
  | zero => rfl
  | succ n ih => rw [List.replicate_succ]; simp [dv, ih]
theorem small_ev {a : List Int} (ha : D32 a) (hl : a.length ≤ 1000) {d : Int} (d1 : 1 ≤ d) (d2 : d < 4294967296) :
    ∃ q r, Ev (fun k => nat_small.f k a d) (q, r) ∧ C32 q ∧ 0 ≤ r ∧ r < d ∧ v32 a = d * v32 q + r ∧ q.length ≤ a.length := by
  have hs := MO.start K0 a [] a.length
  obtain ⟨q, r, q1, h⟩ := small_loop ha hl d1 d2 a.length (Nat.le_refl _) (List.replicate a.length 0) 0 ⟨hs.dg, hs.len, Int.le_refl _, by omega, fun p _ => by
    by_cases hp : p < a.length
    · rw [getD_lt (by simpa using hp)]; simp
    · exact getD_out (by simp; omega), by
    show dv _ _ = _ * dv _ _ + _ + dv _ _
    rw [replicate_zero, List.take_length]; simp⟩
  refine ⟨q, r, ?_, h⟩
  unfold nat_small.f
  rw [Int.toNat_natCast, dec64 (by omega)]
  exact ev_pos (by omega) (ev_pos (by omega) q1)
theorem Of_ev {u : Int} (h0 : 0 ≤ u) (h1 : u < 18446744073709551616) : ∃ r, Ev (fun k => nat_Of.f k u) r ∧ C32 r ∧ v32 r = u ∧ r.length ≤ 2 := by
  obtain ⟨r, r1, r2, r3, r4⟩ := trim_ev (l := [u % 4294967296, (u / 4294967296) % 4294967296]) (by simp) (Dg.cons (by omega) (Dg.cons (by omega) (Dg.nil _)))
  refine ⟨r, ev_call r1 ev_ret, r2, ?_, r4⟩
  rw [r3]
  show dv _ _ = _
  simp only [dv]
  omega
end Go.Proofs.YtcidmdjhmhkmgaaDoor.Pure
