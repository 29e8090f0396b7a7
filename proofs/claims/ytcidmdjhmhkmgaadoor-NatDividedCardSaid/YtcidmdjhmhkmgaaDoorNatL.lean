import Derived.Test.YtcidmdjhmhkmgaaDoorS2
import Derived.Test.YtcidmdjhmhkmgaaDoorNatK
set_option linter.unusedVariables false
namespace Go.Proofs.YtcidmdjhmhkmgaaDoor.Pure
open Go.RowKit Go.Proofs.YtcidmdjhmhkmgaaDoorW.PrintWords Go.Proofs.YtcidmdjhmhkmgaaDoorW.PrintMore Go.Proofs.YtcidmdjhmhkmgaaDoor.S Go.Proofs.YtcidmdjhmhkmgaaDoor.L
def nv (l : List Int) : Nat := (v32 l).toNat
theorem nv_cast {l : List Int} (h : D32 l) : (nv l : Int) = v32 l := Int.toNat_of_nonneg (dv_nonneg K0 h)
theorem gcd_loop : ∀ (n : Nat) (a b : List Int), C32 a → C32 b → a.length ≤ 1000 → b.length ≤ 1000 → nv b ≤ n →
    ∃ r, Ev (fun k => nat_Gcd.l0 k a b) (r, 0) ∧ C32 r ∧ v32 r = (Nat.gcd (nv a) (nv b) : Int) ∧ r.length ≤ max a.length b.length := by
  intro n
  induction n with
  | zero =>
    intro a b ca cb hla hlb hn
    have hb : b = [] := nil_of_v cb (by have := nv_cast cb.dg; omega)
    subst hb
    refine ⟨a, Ev.step (fun k => by simp only [nat_Gcd.l0]; rfl) (ev_neg (by decide) (ev_pure (clone_eq (by omega)) ev_ret)), ca, ?_, by omega⟩
    have e : nv [] = 0 := rfl
    rw [e, Nat.gcd_zero_right, nv_cast ca.dg]
  | succ n ih =>
    intro a b ca cb hla hlb hn
    by_cases h0 : b = []
    · subst h0
      refine ⟨a, Ev.step (fun k => by simp only [nat_Gcd.l0]; rfl) (ev_neg (by decide) (ev_pure (clone_eq (by omega)) ev_ret)), ca, ?_, by omega⟩
      have e : nv [] = 0 := rfl
      rw [e, Nat.gcd_zero_right, nv_cast ca.dg]
    · obtain ⟨q, s, q1, q2, q3, q4, q5, q6, q7⟩ := divmod_ev ca cb hla hlb h0
      have c1 := nv_cast ca.dg
      have c2 := nv_cast cb.dg
      have c3 := nv_cast q2.dg
      have c4 := nv_cast q3.dg
      obtain ⟨r, r1, r2, r3, r4⟩ := ih b s cb q3 hlb (by omega) (by omega)
      have hlp : 0 < b.length := List.length_pos_iff.2 h0
      refine ⟨r, Ev.step (fun k => by simp only [nat_Gcd.l0]; rfl) (ev_pos (by omega) (ev_call q1 r1)), r2, ?_, by omega⟩
      rw [r3]
      have e : nv a = nv q * nv b + nv s := by
        have : (nv a : Int) = ((nv q * nv b + nv s : Nat) : Int) := by
          push_cast
          rw [c1, c2, c3, c4, q4]; grind
        exact Int.ofNat.inj this
      rw [e, Nat.gcd_mul_right_add_left, Nat.gcd_comm]
theorem Gcd_ev {a b : List Int} (ha : D32 a) (hb : D32 b) (hla : a.length ≤ 1000) (hlb : b.length ≤ 1000) : ∃ r e, Ev (fun k => nat_Gcd.f k a b) (r, e) ∧
    ((¬ (rt a ∧ rt b) ∧ r = [] ∧ e = 1) ∨ (rt a ∧ rt b ∧ C32 r ∧ rt r ∧ v32 r = (Nat.gcd (nv a) (nv b) : Int) ∧ r.length ≤ max a.length b.length ∧ e = 0)) := by
  by_cases h1 : rt a
  · by_cases h2 : rt b
    · obtain ⟨r, r1, r2, r3, r4⟩ := gcd_loop (nv b) a b (rt_cn h1 ha) (rt_cn h2 hb) hla hlb (Nat.le_refl _)
      refine ⟨r, 0, ?_, .inr ⟨h1, h2, r2, len_rt r2 (by have := h1.1; have := h2.1; omega), r3, r4, rfl⟩⟩
      unfold nat_Gcd.f
      refine ev_pure (Right_eq (by omega)) (ev_pos (by simpa using h1) (ev_pure (Right_eq (by omega)) ?_))
      rw [decide_eq_true h2]
      exact Ev.step (fun k => by simp only [nat_Gcd.j0]; rfl) (ev_neg (by decide) r1)
    · refine ⟨[], 1, ?_, .inl ⟨fun h => h2 h.2, rfl, rfl⟩⟩
      unfold nat_Gcd.f
      refine ev_pure (Right_eq (by omega)) (ev_pos (by simpa using h1) (ev_pure (Right_eq (by omega)) ?_))
      rw [decide_eq_false h2]
      show Ev (fun k => nat_Gcd.j0 k a b true) _
      exact Ev.step (fun k => by simp only [nat_Gcd.j0]; rfl) (ev_pos (c := true = true) rfl ev_ret)
  · refine ⟨[], 1, ?_, .inl ⟨fun h => h1 h.1, rfl, rfl⟩⟩
    unfold nat_Gcd.f
    refine ev_pure (Right_eq (by omega)) (ev_neg (by simpa using h1) ?_)
    exact Ev.step (fun k => by simp only [nat_Gcd.j0]; rfl) (ev_pos (c := true = true) rfl ev_ret)
end Go.Proofs.YtcidmdjhmhkmgaaDoor.Pure
