import Derived.Test.YtcidmdjhmhkmgaaDoorNatH
set_option linter.unusedVariables false
namespace Go.Proofs.YtcidmdjhmhkmgaaDoor.Pure
open Go.RowKit Go.Proofs.YtcidmdjhmhkmgaaDoorW.PrintWords Go.Proofs.YtcidmdjhmhkmgaaDoorW.PrintMore Go.Proofs.YtcidmdjhmhkmgaaDoor.S Go.Proofs.YtcidmdjhmhkmgaaDoor.L
structure DvSt (u v out : List Int) (A : Int) (L M i : Nat) : Prop where
  du : D32 u
  lu : u.length = L
  dq : D32 out
  lo : out.length = M
  zero : ∀ p, p < i → out.getD p 0 = 0
  lt : v32 u < 4294967296 ^ i * v32 v
  val : A = v32 v * v32 out + v32 u
theorem divide_loop {b v : List Int} (hv : D32 v) (n L M : Nat) (hn : n = v.length) (h2 : 2 ≤ n) (hL : L = M + n) (hm : L ≤ 100000) (hv1 : 2147483648 ≤ v.getD (n - 1) 0) (hV0 : 0 < v32 v) (by_ : Int) {A : Int} {Q : List Int × List Int → Prop}
    (fin : ∀ u out, DvSt u v out A L M 0 → ∃ r, Q r ∧ Ev (fun k => nat_divide.l0 k b by_ u v out (-1)) r) : ∀ i, i ≤ M → ∀ u out, DvSt u v out A L M i → ∃ r, Q r ∧ Ev (fun k => nat_divide.l0 k b by_ u v out ((i : Int) - 1)) r
  | 0, _, u, out, h => by
    have := fin u out h
    exact this
  | k + 1, hi, u, out, h => by
    have hlu := h.lu
    have hlo := h.lo
    have e1 : ((k + 1 : Nat) : Int) - 1 = (k : Int) := by omega
    rw [e1]
    obtain ⟨g, bo, u1, g1, g2, g3, g4, g5, g6⟩ := div_step h.du hv k n hn h2 (by omega) (by omega) hv1 h.lt hV0
    have hval := h.val
    rcases g6 with ⟨rfl, p1, p2, p3⟩ | ⟨rfl, p0, u2, p1, p2, p3, p4, p5⟩
    · obtain ⟨r, hq, hr⟩ := divide_loop hv n L M hn h2 hL hm hv1 hV0 by_ fin k (by omega) u1 (out.set k g) ⟨p1, by omega, h.dq.set _ ⟨g3, g4⟩, by rw [List.length_set]; exact hlo, fun p hp => by rw [gset_ne (by omega)]; exact h.zero p (by omega), p3, by
        show A = _ * dv _ _ + _
        rw [dv_set _ _ _ _ (by omega), h.zero k (by omega)]
        have hval' : A = v32 v * dv 4294967296 out + v32 u := hval
        rw [hval', p2]; grind⟩
      refine ⟨r, hq, Ev.step (fun m => by simp only [nat_divide.l0]; rfl) (ev_pos (by omega) (ev_call g1 (ev_call g2 ?_)))⟩
      refine ev_neg (by simp) ?_
      refine ev_pos (by omega) ?_
      refine ev_pos (by omega) ?_
      rw [Int.toNat_natCast, Int.emod_eq_of_lt g3 g4, dec64 (by omega)]
      exact hr
    · obtain ⟨r, hq, hr⟩ := divide_loop hv n L M hn h2 hL hm hv1 hV0 by_ fin k (by omega) u2 (out.set k (g - 1)) ⟨p3, by omega, h.dq.set _ ⟨by omega, by omega⟩, by rw [List.length_set]; exact hlo, fun p hp => by rw [gset_ne (by omega)]; exact h.zero p (by omega), p5, by
        show A = _ * dv _ _ + _
        rw [dv_set _ _ _ _ (by omega), h.zero k (by omega)]
        have hval' : A = v32 v * dv 4294967296 out + v32 u := hval
        rw [hval', p4]; grind⟩
      refine ⟨r, hq, Ev.step (fun m => by simp only [nat_divide.l0]; rfl) (ev_pos (by omega) (ev_call g1 (ev_call g2 ?_)))⟩
      refine ev_pos (c := true = true) rfl ?_
      refine ev_call p1 ?_
      refine ev_pos (by omega) ?_
      refine ev_pos (by omega) ?_
      rw [Int.toNat_natCast, u64_id (n := g - 1) (by omega) (by omega), Int.emod_eq_of_lt (by omega) (by omega), dec64 (by omega)]
      exact hr
end Go.Proofs.YtcidmdjhmhkmgaaDoor.Pure
