import Derived.Test.YtcidmdjhmhkmgaaDoorS11
import Derived.Test.YtcidmdjhmhkmgaaDoorProd
set_option linter.unusedVariables false
namespace Go.Proofs.YtcidmdjhmhkmgaaDoor.Pure
open Go.RowKit Go.Proofs.YtcidmdjhmhkmgaaDoorW.PrintWords Go.Proofs.YtcidmdjhmhkmgaaDoorW.PrintMore Go.Proofs.YtcidmdjhmhkmgaaDoor.S Go.Proofs.YtcidmdjhmhkmgaaDoor.L
theorem prod_one {x y : List Int} (hx : D16 x) (hy : D16 y) {i j : Nat} {o : List Int} {c V0 : Int} {L : Nat} (h : MI 65536 (x.getD i 0) y o V0 L i j c) (hi : i < x.length) (hij : i + j < L) (hb : L ≤ 1000000) :
    wrap64 ((wrap64 ((rd o (wrap64 ((i : Int) + (j : Int)))) + (wrap64 ((rd x (i : Int)) * y.getD j 0)))) + c) = o.getD (i + j) 0 + x.getD i 0 * y.getD j 0 + c ∧ 0 ≤ o.getD (i + j) 0 + x.getD i 0 * y.getD j 0 + c ∧ o.getD (i + j) 0 + x.getD i 0 * y.getD j 0 + c < 4294967296 := by
  have hb1 := h.bound G0 (hx.get G0 i) hy
  have h0 := h.c0
  have h1 := h.c1
  rw [addN (by omega), rd_nat, rd_nat, w64_id (x := x.getD i 0 * y.getD j 0) hb1.1 (by omega), w64_id (x := o.getD (i + j) 0 + x.getD i 0 * y.getD j 0) (by omega) (by omega), w64_id (by omega) (by omega)]
  exact ⟨rfl, by omega, by omega⟩
theorem prodIn {x y : List Int} (hx : D16 x) (hy : D16 y) (hlx : x.length ≤ 100000) (hly : y.length ≤ 100000) (i : Nat) (hi : i < x.length) {Q : List Int → Prop}
    (next : ∀ o, MO 65536 x y o (x.length + y.length) (i + 1) → ∃ r, Q r ∧ Ev (fun k => cashbookref01_product.l0 k x y o ((i + 1 : Nat) : Int)) r) :
    ∀ j, j ≤ y.length → ∀ o c, MI 65536 (x.getD i 0) y o (v16 (x.take i) * v16 y) (x.length + y.length) i j c → ∃ r, Q r ∧ Ev (fun k => cashbookref01_product.l1 k x y o (i : Int) c (j : Int)) r := by
  refine down y.length ?_ ?_
  · intro o c h
    have hl := h.len
    have h0 := h.c0
    have h1 := h.c1
    obtain ⟨r, hq, hr⟩ := next _ (h.end_ G0 (by omega))
    by_cases hc : c > 0
    · refine ⟨r, hq, Ev.step (fun k => by simp only [cashbookref01_product.l1]; rfl) (ev_neg (by omega) (ev_pos hc ?_))⟩
      have hone := prod_one hx hy h hi (by omega) (by omega)
      have hz : o.getD (i + y.length) 0 = 0 := h.zero _ (Nat.le_refl _)
      have hv : o.getD (i + y.length) 0 + x.getD i 0 * y.getD y.length 0 + c = c := by rw [hz, getD_out (l := y) (Nat.le_refl _), Int.mul_zero]; omega
      rw [hv] at hone
      rw [addN (by omega)]
      refine ev_pos (by omega) (ev_pos (by omega) (ev_pos (by omega) (ev_pos (by omega) (ev_pure (at_eq y _) ?_))))
      rw [addN (by omega)] at hone
      rw [hone.1, tmod_pos h0, tdiv_pos h0, Int.toNat_natCast, inc64 (by omega), Int.emod_eq_of_lt h0 h1, Int.ediv_eq_zero_of_lt h0 h1, w64_id (x := 0) (by decide) (by decide)]
      refine Ev.step (fun k => by simp only [cashbookref01_product.l1]; rfl) (ev_neg (by omega) (ev_neg (by decide) ?_))
      rw [inc64 (by omega)]
      exact hr
    · have hc0 : c = 0 := by omega
      subst hc0
      have hz : o.getD (i + y.length) 0 = 0 := h.zero _ (Nat.le_refl _)
      have hs : o.set (i + y.length) 0 = o := by
        refine list_ext 0 (by simp) fun p hp => ?_
        by_cases e : i + y.length = p
        · subst e
          rw [gset_same (by omega), hz]
        · rw [gset_ne e]
      rw [hs] at hr
      refine ⟨r, hq, Ev.step (fun k => by simp only [cashbookref01_product.l1]; rfl) (ev_neg (by omega) (ev_neg (by omega) ?_))⟩
      rw [inc64 (by omega)]
      exact hr
  · intro j hj ih o c h
    have hl := h.len
    obtain ⟨r, hq, hr⟩ := ih _ _ (h.step G0 (hx.get G0 i) hy hj (by omega) rfl)
    have hone := prod_one hx hy h hi (by omega) (by omega)
    refine ⟨r, hq, Ev.step (fun k => by simp only [cashbookref01_product.l1]; rfl) (ev_pos (by omega) ?_)⟩
    rw [addN (by omega)]
    refine ev_pos (by omega) (ev_pos (by omega) (ev_pos (by omega) (ev_pos (by omega) (ev_pure (at_eq y _) ?_))))
    rw [addN (by omega)] at hone
    rw [hone.1, tmod_pos hone.2.1, tdiv_pos hone.2.1, Int.toNat_natCast, inc64 (by omega), w64_id (by omega) (by omega)]
    exact hr
theorem prod_loop {x y : List Int} (hx : D16 x) (hy : D16 y) (hlx : x.length ≤ 100000) (hly : y.length ≤ 100000) :
    ∀ i, i ≤ x.length → ∀ o, MO 65536 x y o (x.length + y.length) i → ∃ r, (C16 r ∧ v16 r = v16 x * v16 y ∧ r.length ≤ x.length + y.length) ∧ Ev (fun k => cashbookref01_product.l0 k x y o (i : Int)) r := by
  refine down x.length ?_ ?_
  · intro o h
    have hl := h.len
    obtain ⟨t, t1, t2, t3, t4⟩ := trimR_ev h.dg (by omega)
    refine ⟨t, ⟨t2, ?_, by omega⟩, Ev.step (fun k => by simp only [cashbookref01_product.l0]; rfl) (ev_neg (by omega) (ev_call t1 ev_ret))⟩
    rw [t3]
    have := h.val
    rwa [List.take_length] at this
  · intro i hi ih o h
    obtain ⟨r, hq, hr⟩ := prodIn hx hy hlx hly i hi ih 0 (by omega) o 0 (MI.start G0 h _)
    exact ⟨r, hq, Ev.step (fun k => by simp only [cashbookref01_product.l0]; rfl) (ev_pos (by omega) hr)⟩
theorem product_ev {x y : List Int} (hx : D16 x) (hy : D16 y) (hlx : x.length ≤ 100000) (hly : y.length ≤ 100000) : ∃ r, Ev (fun k => cashbookref01_product.f k x y) r ∧ C16 r ∧ v16 r = v16 x * v16 y ∧ r.length ≤ x.length + y.length := by
  obtain ⟨r, hq, hr⟩ := prod_loop hx hy hlx hly 0 (by omega) _ (MO.start G0 x y _)
  refine ⟨r, ?_, hq⟩
  unfold cashbookref01_product.f
  rw [addN (by omega), Int.toNat_natCast]
  exact ev_pos (by omega) (ev_pos (by omega) hr)
end Go.Proofs.YtcidmdjhmhkmgaaDoor.Pure
