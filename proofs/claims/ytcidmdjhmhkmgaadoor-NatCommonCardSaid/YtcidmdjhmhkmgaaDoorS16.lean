-- Printed by pp.py (wip/pp), a program of this session's, over the kit's print; Lean checks it.
import Derived.Test.YtcidmdjhmhkmgaaDoorS0
import Derived.Test.YtcidmdjhmhkmgaaDoorS2
import Derived.Test.YtcidmdjhmhkmgaaDoorS3
import Derived.Test.YtcidmdjhmhkmgaaDoorS4
import Derived.Test.YtcidmdjhmhkmgaaDoorS5
import Derived.Test.YtcidmdjhmhkmgaaDoorS6
import Derived.Test.YtcidmdjhmhkmgaaDoorS7
import Derived.Test.YtcidmdjhmhkmgaaDoorS9
namespace Go.Proofs.YtcidmdjhmhkmgaaDoor.S
open Go.RowKit Go.Proofs.YtcidmdjhmhkmgaaDoorW.PrintWords Go.Proofs.YtcidmdjhmhkmgaaDoorW.PrintLast Go.Proofs.YtcidmdjhmhkmgaaDoorW.PrintMore
attribute [local go_sem] max2_int min2_int max_two min_two max_three min_three max_four min_four   -- for this text's walks alone
set_option linter.unusedVariables false
set_option linter.unusedSimpArgs false


/-! ### cashbookref01_half: function 56 -/
def cashbookref01_half.l0 : Nat → List Int → List Int → Int → Int → Option (List Int)
  | 0, _, _, _, _ => none
  | k + 1, x0, x3, x4, x5 => if x5 ≥ 0 then (if 0 ≤ x5 then (if x5 < (x0.length : Int) then (if x5 < (x3.length : Int) then (cashbookref01_half.l0 k x0 (x3.set (x5 : Int).toNat (wrap64 (Int.tdiv (wrap64 ((wrap64 (x4 * 65536)) + (rd x0 x5))) 2))) (Int.tmod (wrap64 ((wrap64 (x4 * 65536)) + (rd x0 x5))) 2) (wrap64 (x5 - 1))) else (none)) else (none)) else (none)) else ((cashbookref01_trim.f k x3).bind fun t564 => (some t564))
def cashbookref01_half.f (k : Nat) (l0 : List Int) : Option (List Int) := if 0 ≤ (l0.length : Int) then (if ((l0.length : Int) : Int).toNat ≤ 35184372088832 then (cashbookref01_half.l0 k l0 (List.replicate ((l0.length : Int) : Int).toNat 0) 0 (wrap64 ((l0.length : Int) - 1))) else (none)) else (none)
theorem cashbookref01_half.mono_l : ∀ k, (∀ y0 y1 y2 y3, LeO (cashbookref01_half.l0 k y0 y1 y2 y3) (cashbookref01_half.l0 (k + 1) y0 y1 y2 y3))
  | 0 => fun _ _ _ _ r h => by simp [cashbookref01_half.l0] at h
  | k + 1 => by
    have ih0 := cashbookref01_half.mono_l k
    · intro y0 y1 y2 y3
      unfold cashbookref01_half.l0
      repeat' first
      | (with_reducible exact ih0 _ _ _ _)
      | (with_reducible exact cashbookref01_trim.mono _ _)
      | (with_reducible exact LeO.refl _)
      | (with_reducible exact LeO.none _)
      | (with_reducible refine LeO.ite ?_ ?_)
      | (with_reducible refine LeO.bind ?_ (fun _ => ?_))
      | exact ih0 _ _ _ _
      | exact cashbookref01_trim.mono _ _
      | exact LeO.none _
      | refine LeO.ite ?_ ?_
      | refine LeO.bind ?_ (fun _ => ?_)
theorem cashbookref01_half.mono : ∀ a0 k, LeO (cashbookref01_half.f k a0) (cashbookref01_half.f (k + 1) a0) := by
  intro a0 k
  have ih0 := cashbookref01_half.mono_l k
  unfold cashbookref01_half.f
  repeat' first
      | (with_reducible exact ih0 _ _ _ _)
      | (with_reducible exact cashbookref01_trim.mono _ _)
      | (with_reducible exact LeO.refl _)
      | (with_reducible exact LeO.none _)
      | (with_reducible refine LeO.ite ?_ ?_)
      | (with_reducible refine LeO.bind ?_ (fun _ => ?_))
      | exact ih0 _ _ _ _
      | exact cashbookref01_trim.mono _ _
      | exact LeO.none _
      | refine LeO.ite ?_ ?_
      | refine LeO.bind ?_ (fun _ => ?_)
set_option maxHeartbeats 8000000 in
set_option maxRecDepth 100000 in
theorem cashbookref01_half.calls (k : Nat) (A0 : Option Addr) (c0 : Nat) (l0 : List Int) (r : List Int) (w : World) (hr0 : Kd.C (Kd.int .i64) w A0 l0.length l0) (hc0 : l0.length ≤ c0) (h : cashbookref01_half.f k l0 = some r) :
    Calls Tryd.prog 56 #[.slice A0 l0.length c0] w fun e w' => ∃ v0_ : Value, e = .returned (v0_) ∧ Kd.R (Kd.int .i64) 3 w' w.heap.size (fun _ => True) v0_ r ∧ Below w.heap.size w w' := by
  have HR0 := Aside0.mk hr0
  have HC0 := Aside0.mk hc0
  clear hr0 hc0
  have HB := Aside0.mk (Below.refl w.heap.size w)
  have H : (if 0 ≤ (l0.length : Int) then (if ((l0.length : Int) : Int).toNat ≤ 35184372088832 then (cashbookref01_half.l0 k l0 (List.replicate ((l0.length : Int) : Int).toNat 0) 0 (wrap64 ((l0.length : Int) - 1))) else (none)) else (none)) = some r := h
  clear h
  by_cases c2 : 0 ≤ (l0.length : Int)
  · rw [if_pos c2] at H
    have c2b0 := eq_true c2
    have c2b1 : decide (0 ≤ (l0.length : Int)) = true := decide_eq_true c2
    clear c2
    by_cases c3 : ((l0.length : Int) : Int).toNat ≤ 35184372088832
    · rw [if_pos c3] at H
      have c3b0 := eq_true c3
      have c3b1 : decide (((l0.length : Int) : Int).toNat ≤ 35184372088832) = true := decide_eq_true c3
      clear c3
      obtain ⟨y559, hy559⟩ : ∃ y_ : List Int, y_ = (List.replicate ((l0.length : Int) : Int).toNat 0) := ⟨_, rfl⟩
      replace H : (cashbookref01_half.l0 k l0 y559 0 (wrap64 ((l0.length : Int) - 1))) = some r := by first | (rw [hy559]; with_reducible exact H) | (have H2_ := (Option.bind_some _ _).symm.trans H; rw [hy559]; with_reducible exact H2_) | (have H2_ := (Option.bind_some _ _).symm.trans H; with_reducible exact H2_) | with_reducible exact H | (rw [hy559]; exact H) | exact H
      have Ny559 := Aside0.mk hy559
      clear hy559
      have H' := Aside0.mk H
      clear H
      go_enter Tryd.func56, Tryd.ntmps56
      go_wp2_with (first | ((with_reducible refine gate_dst (N := 9) rfl ?_); refine Kd.R_make (Kd.int .i64) _ 3 rfl (N := 9) rfl 60 _ _ rfl (l0.length : Int) rfl rfl Tryd.underlying60 (.int .i64 0) 8 info3 rfl (by decide) (by omega) 0 (ok := fun _ => True) (okp := fun _ => True) rfl (fun _ hk => hk) trivial (of_decide_eq_true (by first | (with_reducible assumption) | assumption)) (Nat.le_trans (Nat.mul_le_mul_right _ (of_decide_eq_true (by first | (with_reducible assumption) | assumption) : (l0.length : Int).toNat ≤ 35184372088832)) (by omega)) (Below.refl _ _) (Nat.le_refl _) ?_; intro v560 w4 ho5 hb hg_ hnew_; clear hg_ hnew_; (first | rw [← Ny559.out] at ho5 | (simp only [Int.reduceToNat] at ho5; rw [← Ny559.out] at ho5)); have n0_ := Aside0.mk (Kd.R_lower ho5 (below_size (by repeat (first | (with_reducible first | exact HB.out | apply below_alloc | apply pw_below_drewN | apply below_drew1) | exact HB.out)))); have n1_ := Aside0.mk (below_step (by repeat (first | (with_reducible first | exact HB.out | apply below_alloc | apply pw_below_drewN | apply below_drew1) | exact HB.out)) hb); clear HB; have HO561 := n0_; have HB := n1_; clear n0_ n1_; clear hb ho5))
      go_loopg [4, 5] k (fun kq v4 v5 w' => ∃ (x3_1 : List Int) (x4_1 : Int) (x5_1 : Int), v4 = .int .i64 x4_1 ∧ v5 = .int .i64 x5_1 ∧ Aside0 (cashbookref01_half.l0 kq l0 x3_1 x4_1 x5_1 = some r) ∧ Aside0 (kq ≤ k) ∧ Aside0 (Kd.R (Kd.int .i64) 3 w' w.heap.size (fun _ => True) v560 x3_1) ∧ Aside0 (Below w.heap.size w w'))
      case atStart => exact ⟨(y559), (0), (wrap64 ((l0.length : Int) - 1)), (by first | rfl | (simp; done) | (simp [*]; done)), (by first | rfl | (simp; done) | (simp [*]; done)), H', ⟨Nat.le_refl _⟩, ⟨by (with_reducible repeat (first | apply Kd.R_alloc | apply Kd.R_drewN | apply Kd.R_drew)); exact HO561.out⟩, ⟨by repeat (first | (with_reducible first | exact HB.out | apply below_alloc | apply pw_below_drewN | apply below_drew1) | exact HB.out)⟩⟩
      case round =>
        clear H'
        try clear c2
        try clear c2b0
        try clear c2b1
        try clear p2
        try clear c3
        try clear c3b0
        try clear c3b1
        try clear c5
        obtain ⟨x3_1, x4_1, x5_1, rfl, rfl, HA, HK1, HO_3, HB⟩ := hrel
        cases gk with
        | zero => exact absurd HA.out (by simp [cashbookref01_half.l0])
        | succ k1 =>
          have H := HA.out
          clear HA
          simp only [cashbookref01_half.l0] at H
          by_cases c6 : x5_1 ≥ 0
          · rw [if_pos c6] at H
            have c6b0 : decide (0 ≤ x5_1) = true := decide_eq_true c6
            clear c6
            by_cases c7 : 0 ≤ x5_1
            · rw [if_pos c7] at H
              have c7b0 : decide (0 ≤ x5_1) = true := decide_eq_true c7
              clear c7
              by_cases c8 : x5_1 < (l0.length : Int)
              · rw [if_pos c8] at H
                have c8b0 : decide (x5_1 < (l0.length : Int)) = true := decide_eq_true c8
                clear c8
                by_cases c9 : x5_1 < (x3_1.length : Int)
                · rw [if_pos c9] at H
                  have c9b0 : decide (x5_1 < (x3_1.length : Int)) = true := decide_eq_true c9
                  clear c9
                  obtain ⟨y563, hy563⟩ : ∃ y_ : List Int, y_ = (x3_1.set (x5_1 : Int).toNat (wrap64 (Int.tdiv (wrap64 ((wrap64 (x4_1 * 65536)) + (rd l0 x5_1))) 2))) := ⟨_, rfl⟩
                  replace H : (cashbookref01_half.l0 k1 l0 y563 (Int.tmod (wrap64 ((wrap64 (x4_1 * 65536)) + (rd l0 x5_1))) 2) (wrap64 (x5_1 - 1))) = some r := by first | (rw [hy563]; with_reducible exact H) | (have H2_ := (Option.bind_some _ _).symm.trans H; rw [hy563]; with_reducible exact H2_) | (have H2_ := (Option.bind_some _ _).symm.trans H; with_reducible exact H2_) | with_reducible exact H | (rw [hy563]; exact H) | exact H
                  have Ny563 := Aside0.mk hy563
                  clear hy563
                  have H' := Aside0.mk H
                  clear H
                  have p562 : 0 ≤ (x5_1 : Int) := of_decide_eq_true (by first | (with_reducible assumption) | assumption)
                  have q562 : x5_1 < (l0.length : Int) := of_decide_eq_true (by first | (with_reducible assumption) | assumption)
                  obtain ⟨ad562, e562, hx562_0⟩ := Kd.at_int HR0.out x5_1 p562 q562
                  cases e562
                  replace hx562_0 := (HB.out.cell (World.block_lt_of_cell? w _ hx562_0)).trans hx562_0
                  replace p562 := eq_true p562
                  replace q562 := eq_true q562
                  have p10 : 0 ≤ (x5_1 : Int) := of_decide_eq_true (by first | (with_reducible assumption) | assumption)
                  have q10 : (x5_1 : Int) < ((x3_1.length : Int) : Int) := of_decide_eq_true (by first | (with_reducible assumption) | assumption)
                  obtain ⟨go10, co10, eo10, gb10, gl10, cl10, HG10⟩ := Kd.R_form HO_3.out (by omega)
                  (first | cases eo10 | (injection eo10 with ea_ en_ ec_; (first | subst ea_ | (injection ea_ with ea_; subst ea_)); subst ec_; clear en_))
                  have GB10 := Aside0.mk gb10
                  have GG10 := Aside0.mk HG10
                  clear gb10 gl10 HG10
                  obtain ⟨hx10_0, hf10_0⟩ := Kd.R_celln 0 HO_3.out (x5_1 : Int) p10 q10
                  replace p10 := eq_true p10
                  replace q10 := eq_true q10
                  have HP11 := Kd.R_putg HO_3.out (x5_1 : Int) (wrap64 (Int.tdiv (wrap64 ((wrap64 (x4_1 * 65536)) + (rd l0 x5_1))) 2))
                  go_wp2_with (first | ((with_reducible refine gate_store (t := 3) (p := 28) rfl ?_); refine store_event (t := 3) (p := 28) (v := ?vo_w12) (w1 := (wr.setCell ⟨go10, (x5_1 : Int).toNat, none⟩ (.int .i64 (wrap64 (Int.tdiv (wrap64 ((wrap64 (x4_1 * 65536)) + (rd l0 x5_1))) 2))))) ?hg ?ho ?hn ?hr ?_; (case ho => rfl); (case hg => rfl); (case hn => rfl); (case hr => first | (go_simp; done) | (go_simp; rfl) | (go_simp; (try simp only [u8_w, w64_256]); done) | (go_simp; simp only [u8_w, w64_256]; rfl)); intro w12 hw; have hg : wr.grownBy w12 (some go10) := (by rw [hw]; exact HP11.2); have hp_ : Kd.R (Kd.int .i64) 3 w12 w.heap.size (fun _ => True) (.slice (some ⟨go10, 0, none⟩) x3_1.length co10) y563 := (by rw [hw, Ny563.out]; exact HP11.1); clear HP11; have n0_ := Aside0.mk (hp_); have n1_ := Aside0.mk ((by rw [hw]; exact below_set (HB.out) GB10.out : Below w.heap.size w w12)); clear HO_3; clear HB; have HO_3 := n0_; have HB := n1_; clear n0_ n1_; clear hg hw hp_))
                  go_roundg k1
                  case measure => have := HK1.out; omega
                  case rel => exact ⟨(y563), (Int.tmod (wrap64 ((wrap64 (x4_1 * 65536)) + (rd l0 x5_1))) 2), (wrap64 (x5_1 - 1)), (by first | rfl | (simp; done) | (simp [*]; done)), (by first | rfl | (simp; done) | (simp [*]; done)), H', ⟨by have := HK1.out; omega⟩, ⟨by (with_reducible repeat (first | apply Kd.R_alloc | apply Kd.R_drewN | apply Kd.R_drew)); exact HO_3.out⟩, ⟨by repeat (first | (with_reducible first | exact HB.out | apply below_alloc | apply pw_below_drewN | apply below_drew1) | exact HB.out)⟩⟩
                · rw [if_neg c9] at H
                  exact absurd H (by simp)
              · rw [if_neg c8] at H
                exact absurd H (by simp)
            · rw [if_neg c7] at H
              exact absurd H (by simp)
          · rw [if_neg c6] at H
            have c6b0 : decide (0 ≤ x5_1) = false := decide_eq_false c6
            clear c6
            replace H := Option.bind_eq_some_iff.mp H
            obtain ⟨t564, A130, H⟩ := H
            replace H : (some t564) = some r := H
            have A13 := Aside0.mk A130
            clear A130
            obtain rfl := Option.some.inj H
            obtain ⟨Ao14, co14, eo14⟩ := Kd.R_slice HO_3.out
            subst eo14
            go_wp2_with (first | ((with_reducible refine gate_callee (f := 66) rfl ?_); refine goesL_ (some 32) rfl rfl Tryd.func66 (by kernel_rfl) rfl #[.slice Ao14 x3_1.length co14] rfl (by (try simp only [List.map_toArray, List.map_cons, List.map_nil]); first | done | rfl | (simp only [List.length_drop, List.length_take]; rfl)) ?_; (with_reducible refine (cashbookref01_trim.calls k1 (fun k_ => some k_ = (.slice Ao14 x3_1.length co14 : Value).ownBlock) (.slice Ao14 x3_1.length co14) x3_1 t564 w _ ?side1 ?side2 A13.out).mono ?_); (case side1 => repeat (first | (with_reducible first | exact HB.out | apply below_alloc | apply pw_below_drewN | apply below_drew1) | exact HB.out)); (case side2 => exact Kd.R_tight rfl HO_3.out); rintro e w15 ⟨v565, rfl, ho0, hb, hkp⟩; refine ⟨_, rfl, ?_⟩; have n0_ := Aside0.mk (Kd.R_mono (ok' := fun k_ => True) ho0 (fun k_ hk_ => trivial)); have n1_ := Aside0.mk (hb); clear HB; clear HO_3; have HO566 := n0_; have HB := n1_; clear n0_ n1_; (try clear hb); (try clear hkp); (try clear ho0)))
            go_ret
            exact ⟨_, by first | rfl | (simp [errW_none, errW_some] <;> rfl) | (simp [*, errW_none, errW_some] <;> rfl), by (with_reducible repeat (first | apply Kd.R_alloc | apply Kd.R_drewN | apply Kd.R_drew)); exact HO566.out, by repeat (first | (with_reducible first | exact HB.out | apply below_alloc | apply pw_below_drewN | apply below_drew1) | exact HB.out)⟩
    · rw [if_neg c3] at H
      exact absurd H (by simp)
  · rw [if_neg c2] at H
    exact absurd H (by simp)

/-! ### cashbookref01_Gcd: function 25 -/
mutual
def cashbookref01_Gcd.j0 : Nat → List Int → List Int → Bool → Option (List Int × Int)
  | 0, _, _, _ => none
  | k + 1, x0, x1, x22 => if x22 = true then (some (([] : List Int), 1)) else ((cashbookref01_figures.f k x0).bind fun t569 => ((cashbookref01_figures.f k x1).bind fun t572 => (if (t569.length : Int) = 0 then ((cashbookref01_nat.f k t572).bind fun t575 => (some (t575, 0))) else (if (t572.length : Int) = 0 then ((cashbookref01_nat.f k t569).bind fun t578 => (some (t578, 0))) else (cashbookref01_Gcd.l0 k t569 t572 0)))))
def cashbookref01_Gcd.l0 : Nat → List Int → List Int → Int → Option (List Int × Int)
  | 0, _, _, _ => none
  | k + 1, x8, x9, x10 => if 0 < (x8.length : Int) then (if (Int.tmod (rd x8 0) 2) = 0 then (if 0 < (x9.length : Int) then (cashbookref01_Gcd.j2 k x8 x9 x10 ((Int.tmod (rd x9 0) 2) == 0)) else (none)) else (cashbookref01_Gcd.j2 k x8 x9 x10 false)) else (none)
def cashbookref01_Gcd.j2 : Nat → List Int → List Int → Int → Bool → Option (List Int × Int)
  | 0, _, _, _, _ => none
  | k + 1, x8, x9, x10, x48 => if x48 = true then ((cashbookref01_half.f k x8).bind fun t583 => ((cashbookref01_half.f k x9).bind fun t586 => (cashbookref01_Gcd.l0 k t583 t586 (wrap64 (x10 + 1))))) else (cashbookref01_Gcd.l1 k x8 x9 x10)
def cashbookref01_Gcd.l1 : Nat → List Int → List Int → Int → Option (List Int × Int)
  | 0, _, _, _ => none
  | k + 1, x8, x9, x10 => if (x8.length : Int) > 0 then (cashbookref01_Gcd.l2 k x8 x9 x10) else (cashbookref01_Gcd.l4 k x9 x10 0)
def cashbookref01_Gcd.l2 : Nat → List Int → List Int → Int → Option (List Int × Int)
  | 0, _, _, _ => none
  | k + 1, x8, x9, x10 => if 0 < (x8.length : Int) then (if (Int.tmod (rd x8 0) 2) = 0 then ((cashbookref01_half.f k x8).bind fun t590 => (cashbookref01_Gcd.l2 k t590 x9 x10)) else (cashbookref01_Gcd.l3 k x8 x9 x10)) else (none)
def cashbookref01_Gcd.l3 : Nat → List Int → List Int → Int → Option (List Int × Int)
  | 0, _, _, _ => none
  | k + 1, x8, x9, x10 => if 0 < (x9.length : Int) then (if (Int.tmod (rd x9 0) 2) = 0 then ((cashbookref01_half.f k x9).bind fun t594 => (cashbookref01_Gcd.l3 k x8 t594 x10)) else ((cashbookref01_less.f k x8 x9).bind fun t597 => (if t597 = true then ((cashbookref01_rest.f k x9 x8).bind fun t598 => (cashbookref01_Gcd.l1 k t598 x8 x10)) else ((cashbookref01_rest.f k x8 x9).bind fun t601 => (cashbookref01_Gcd.l1 k t601 x9 x10))))) else (none)
def cashbookref01_Gcd.l4 : Nat → List Int → Int → Int → Option (List Int × Int)
  | 0, _, _, _ => none
  | k + 1, x9, x10, x12 => if x12 < x10 then ((cashbookref01_sum.f k x9 x9).bind fun t604 => (cashbookref01_Gcd.l4 k t604 x10 (wrap64 (x12 + 1)))) else ((cashbookref01_nat.f k x9).bind fun t607 => (some (t607, 0)))
end
def cashbookref01_Gcd.f (k : Nat) (l0 : List Int) (l1 : List Int) : Option (List Int × Int) := (cashbookref01_Right.f l0).bind fun t567 => ((cashbookref01_Right.f l1).bind fun t568 => (if t567 = true then (cashbookref01_Gcd.j0 k l0 l1 (!t568)) else (cashbookref01_Gcd.j0 k l0 l1 true)))
theorem cashbookref01_Gcd.mono_l : ∀ k, (∀ y0 y1 y2, LeO (cashbookref01_Gcd.j0 k y0 y1 y2) (cashbookref01_Gcd.j0 (k + 1) y0 y1 y2)) ∧ (∀ y0 y1 y2, LeO (cashbookref01_Gcd.l0 k y0 y1 y2) (cashbookref01_Gcd.l0 (k + 1) y0 y1 y2)) ∧ (∀ y0 y1 y2 y3, LeO (cashbookref01_Gcd.j2 k y0 y1 y2 y3) (cashbookref01_Gcd.j2 (k + 1) y0 y1 y2 y3)) ∧ (∀ y0 y1 y2, LeO (cashbookref01_Gcd.l1 k y0 y1 y2) (cashbookref01_Gcd.l1 (k + 1) y0 y1 y2)) ∧ (∀ y0 y1 y2, LeO (cashbookref01_Gcd.l2 k y0 y1 y2) (cashbookref01_Gcd.l2 (k + 1) y0 y1 y2)) ∧ (∀ y0 y1 y2, LeO (cashbookref01_Gcd.l3 k y0 y1 y2) (cashbookref01_Gcd.l3 (k + 1) y0 y1 y2)) ∧ (∀ y0 y1 y2, LeO (cashbookref01_Gcd.l4 k y0 y1 y2) (cashbookref01_Gcd.l4 (k + 1) y0 y1 y2))
  | 0 => ⟨fun _ _ _ r h => by simp [cashbookref01_Gcd.j0] at h, fun _ _ _ r h => by simp [cashbookref01_Gcd.l0] at h, fun _ _ _ _ r h => by simp [cashbookref01_Gcd.j2] at h, fun _ _ _ r h => by simp [cashbookref01_Gcd.l1] at h, fun _ _ _ r h => by simp [cashbookref01_Gcd.l2] at h, fun _ _ _ r h => by simp [cashbookref01_Gcd.l3] at h, fun _ _ _ r h => by simp [cashbookref01_Gcd.l4] at h⟩
  | k + 1 => by
    obtain ⟨ih0, ih1, ih2, ih3, ih4, ih5, ih6⟩ := cashbookref01_Gcd.mono_l k
    refine ⟨?_, ?_, ?_, ?_, ?_, ?_, ?_⟩
    · intro y0 y1 y2
      unfold cashbookref01_Gcd.j0
      repeat' first
      | (with_reducible exact ih0 _ _ _)
      | (with_reducible exact ih1 _ _ _)
      | (with_reducible exact ih2 _ _ _ _)
      | (with_reducible exact ih3 _ _ _)
      | (with_reducible exact ih4 _ _ _)
      | (with_reducible exact ih5 _ _ _)
      | (with_reducible exact ih6 _ _ _)
      | (with_reducible exact cashbookref01_figures.mono _ _)
      | (with_reducible exact cashbookref01_half.mono _ _)
      | (with_reducible exact cashbookref01_less.mono _ _ _)
      | (with_reducible exact cashbookref01_nat.mono _ _)
      | (with_reducible exact cashbookref01_rest.mono _ _ _)
      | (with_reducible exact cashbookref01_sum.mono _ _ _)
      | (with_reducible exact LeO.refl _)
      | (with_reducible exact LeO.none _)
      | (with_reducible refine LeO.ite ?_ ?_)
      | (with_reducible refine LeO.bind ?_ (fun _ => ?_))
      | exact ih0 _ _ _
      | exact ih1 _ _ _
      | exact ih2 _ _ _ _
      | exact ih3 _ _ _
      | exact ih4 _ _ _
      | exact ih5 _ _ _
      | exact ih6 _ _ _
      | exact cashbookref01_figures.mono _ _
      | exact cashbookref01_half.mono _ _
      | exact cashbookref01_less.mono _ _ _
      | exact cashbookref01_nat.mono _ _
      | exact cashbookref01_rest.mono _ _ _
      | exact cashbookref01_sum.mono _ _ _
      | exact LeO.none _
      | refine LeO.ite ?_ ?_
      | refine LeO.bind ?_ (fun _ => ?_)
    · intro y0 y1 y2
      unfold cashbookref01_Gcd.l0
      repeat' first
      | (with_reducible exact ih0 _ _ _)
      | (with_reducible exact ih1 _ _ _)
      | (with_reducible exact ih2 _ _ _ _)
      | (with_reducible exact ih3 _ _ _)
      | (with_reducible exact ih4 _ _ _)
      | (with_reducible exact ih5 _ _ _)
      | (with_reducible exact ih6 _ _ _)
      | (with_reducible exact cashbookref01_figures.mono _ _)
      | (with_reducible exact cashbookref01_half.mono _ _)
      | (with_reducible exact cashbookref01_less.mono _ _ _)
      | (with_reducible exact cashbookref01_nat.mono _ _)
      | (with_reducible exact cashbookref01_rest.mono _ _ _)
      | (with_reducible exact cashbookref01_sum.mono _ _ _)
      | (with_reducible exact LeO.refl _)
      | (with_reducible exact LeO.none _)
      | (with_reducible refine LeO.ite ?_ ?_)
      | (with_reducible refine LeO.bind ?_ (fun _ => ?_))
      | exact ih0 _ _ _
      | exact ih1 _ _ _
      | exact ih2 _ _ _ _
      | exact ih3 _ _ _
      | exact ih4 _ _ _
      | exact ih5 _ _ _
      | exact ih6 _ _ _
      | exact cashbookref01_figures.mono _ _
      | exact cashbookref01_half.mono _ _
      | exact cashbookref01_less.mono _ _ _
      | exact cashbookref01_nat.mono _ _
      | exact cashbookref01_rest.mono _ _ _
      | exact cashbookref01_sum.mono _ _ _
      | exact LeO.none _
      | refine LeO.ite ?_ ?_
      | refine LeO.bind ?_ (fun _ => ?_)
    · intro y0 y1 y2 y3
      unfold cashbookref01_Gcd.j2
      repeat' first
      | (with_reducible exact ih0 _ _ _)
      | (with_reducible exact ih1 _ _ _)
      | (with_reducible exact ih2 _ _ _ _)
      | (with_reducible exact ih3 _ _ _)
      | (with_reducible exact ih4 _ _ _)
      | (with_reducible exact ih5 _ _ _)
      | (with_reducible exact ih6 _ _ _)
      | (with_reducible exact cashbookref01_figures.mono _ _)
      | (with_reducible exact cashbookref01_half.mono _ _)
      | (with_reducible exact cashbookref01_less.mono _ _ _)
      | (with_reducible exact cashbookref01_nat.mono _ _)
      | (with_reducible exact cashbookref01_rest.mono _ _ _)
      | (with_reducible exact cashbookref01_sum.mono _ _ _)
      | (with_reducible exact LeO.refl _)
      | (with_reducible exact LeO.none _)
      | (with_reducible refine LeO.ite ?_ ?_)
      | (with_reducible refine LeO.bind ?_ (fun _ => ?_))
      | exact ih0 _ _ _
      | exact ih1 _ _ _
      | exact ih2 _ _ _ _
      | exact ih3 _ _ _
      | exact ih4 _ _ _
      | exact ih5 _ _ _
      | exact ih6 _ _ _
      | exact cashbookref01_figures.mono _ _
      | exact cashbookref01_half.mono _ _
      | exact cashbookref01_less.mono _ _ _
      | exact cashbookref01_nat.mono _ _
      | exact cashbookref01_rest.mono _ _ _
      | exact cashbookref01_sum.mono _ _ _
      | exact LeO.none _
      | refine LeO.ite ?_ ?_
      | refine LeO.bind ?_ (fun _ => ?_)
    · intro y0 y1 y2
      unfold cashbookref01_Gcd.l1
      repeat' first
      | (with_reducible exact ih0 _ _ _)
      | (with_reducible exact ih1 _ _ _)
      | (with_reducible exact ih2 _ _ _ _)
      | (with_reducible exact ih3 _ _ _)
      | (with_reducible exact ih4 _ _ _)
      | (with_reducible exact ih5 _ _ _)
      | (with_reducible exact ih6 _ _ _)
      | (with_reducible exact cashbookref01_figures.mono _ _)
      | (with_reducible exact cashbookref01_half.mono _ _)
      | (with_reducible exact cashbookref01_less.mono _ _ _)
      | (with_reducible exact cashbookref01_nat.mono _ _)
      | (with_reducible exact cashbookref01_rest.mono _ _ _)
      | (with_reducible exact cashbookref01_sum.mono _ _ _)
      | (with_reducible exact LeO.refl _)
      | (with_reducible exact LeO.none _)
      | (with_reducible refine LeO.ite ?_ ?_)
      | (with_reducible refine LeO.bind ?_ (fun _ => ?_))
      | exact ih0 _ _ _
      | exact ih1 _ _ _
      | exact ih2 _ _ _ _
      | exact ih3 _ _ _
      | exact ih4 _ _ _
      | exact ih5 _ _ _
      | exact ih6 _ _ _
      | exact cashbookref01_figures.mono _ _
      | exact cashbookref01_half.mono _ _
      | exact cashbookref01_less.mono _ _ _
      | exact cashbookref01_nat.mono _ _
      | exact cashbookref01_rest.mono _ _ _
      | exact cashbookref01_sum.mono _ _ _
      | exact LeO.none _
      | refine LeO.ite ?_ ?_
      | refine LeO.bind ?_ (fun _ => ?_)
    · intro y0 y1 y2
      unfold cashbookref01_Gcd.l2
      repeat' first
      | (with_reducible exact ih0 _ _ _)
      | (with_reducible exact ih1 _ _ _)
      | (with_reducible exact ih2 _ _ _ _)
      | (with_reducible exact ih3 _ _ _)
      | (with_reducible exact ih4 _ _ _)
      | (with_reducible exact ih5 _ _ _)
      | (with_reducible exact ih6 _ _ _)
      | (with_reducible exact cashbookref01_figures.mono _ _)
      | (with_reducible exact cashbookref01_half.mono _ _)
      | (with_reducible exact cashbookref01_less.mono _ _ _)
      | (with_reducible exact cashbookref01_nat.mono _ _)
      | (with_reducible exact cashbookref01_rest.mono _ _ _)
      | (with_reducible exact cashbookref01_sum.mono _ _ _)
      | (with_reducible exact LeO.refl _)
      | (with_reducible exact LeO.none _)
      | (with_reducible refine LeO.ite ?_ ?_)
      | (with_reducible refine LeO.bind ?_ (fun _ => ?_))
      | exact ih0 _ _ _
      | exact ih1 _ _ _
      | exact ih2 _ _ _ _
      | exact ih3 _ _ _
      | exact ih4 _ _ _
      | exact ih5 _ _ _
      | exact ih6 _ _ _
      | exact cashbookref01_figures.mono _ _
      | exact cashbookref01_half.mono _ _
      | exact cashbookref01_less.mono _ _ _
      | exact cashbookref01_nat.mono _ _
      | exact cashbookref01_rest.mono _ _ _
      | exact cashbookref01_sum.mono _ _ _
      | exact LeO.none _
      | refine LeO.ite ?_ ?_
      | refine LeO.bind ?_ (fun _ => ?_)
    · intro y0 y1 y2
      unfold cashbookref01_Gcd.l3
      repeat' first
      | (with_reducible exact ih0 _ _ _)
      | (with_reducible exact ih1 _ _ _)
      | (with_reducible exact ih2 _ _ _ _)
      | (with_reducible exact ih3 _ _ _)
      | (with_reducible exact ih4 _ _ _)
      | (with_reducible exact ih5 _ _ _)
      | (with_reducible exact ih6 _ _ _)
      | (with_reducible exact cashbookref01_figures.mono _ _)
      | (with_reducible exact cashbookref01_half.mono _ _)
      | (with_reducible exact cashbookref01_less.mono _ _ _)
      | (with_reducible exact cashbookref01_nat.mono _ _)
      | (with_reducible exact cashbookref01_rest.mono _ _ _)
      | (with_reducible exact cashbookref01_sum.mono _ _ _)
      | (with_reducible exact LeO.refl _)
      | (with_reducible exact LeO.none _)
      | (with_reducible refine LeO.ite ?_ ?_)
      | (with_reducible refine LeO.bind ?_ (fun _ => ?_))
      | exact ih0 _ _ _
      | exact ih1 _ _ _
      | exact ih2 _ _ _ _
      | exact ih3 _ _ _
      | exact ih4 _ _ _
      | exact ih5 _ _ _
      | exact ih6 _ _ _
      | exact cashbookref01_figures.mono _ _
      | exact cashbookref01_half.mono _ _
      | exact cashbookref01_less.mono _ _ _
      | exact cashbookref01_nat.mono _ _
      | exact cashbookref01_rest.mono _ _ _
      | exact cashbookref01_sum.mono _ _ _
      | exact LeO.none _
      | refine LeO.ite ?_ ?_
      | refine LeO.bind ?_ (fun _ => ?_)
    · intro y0 y1 y2
      unfold cashbookref01_Gcd.l4
      repeat' first
      | (with_reducible exact ih0 _ _ _)
      | (with_reducible exact ih1 _ _ _)
      | (with_reducible exact ih2 _ _ _ _)
      | (with_reducible exact ih3 _ _ _)
      | (with_reducible exact ih4 _ _ _)
      | (with_reducible exact ih5 _ _ _)
      | (with_reducible exact ih6 _ _ _)
      | (with_reducible exact cashbookref01_figures.mono _ _)
      | (with_reducible exact cashbookref01_half.mono _ _)
      | (with_reducible exact cashbookref01_less.mono _ _ _)
      | (with_reducible exact cashbookref01_nat.mono _ _)
      | (with_reducible exact cashbookref01_rest.mono _ _ _)
      | (with_reducible exact cashbookref01_sum.mono _ _ _)
      | (with_reducible exact LeO.refl _)
      | (with_reducible exact LeO.none _)
      | (with_reducible refine LeO.ite ?_ ?_)
      | (with_reducible refine LeO.bind ?_ (fun _ => ?_))
      | exact ih0 _ _ _
      | exact ih1 _ _ _
      | exact ih2 _ _ _ _
      | exact ih3 _ _ _
      | exact ih4 _ _ _
      | exact ih5 _ _ _
      | exact ih6 _ _ _
      | exact cashbookref01_figures.mono _ _
      | exact cashbookref01_half.mono _ _
      | exact cashbookref01_less.mono _ _ _
      | exact cashbookref01_nat.mono _ _
      | exact cashbookref01_rest.mono _ _ _
      | exact cashbookref01_sum.mono _ _ _
      | exact LeO.none _
      | refine LeO.ite ?_ ?_
      | refine LeO.bind ?_ (fun _ => ?_)
theorem cashbookref01_Gcd.mono : ∀ a0 a1 k, LeO (cashbookref01_Gcd.f k a0 a1) (cashbookref01_Gcd.f (k + 1) a0 a1) := by
  intro a0 a1 k
  obtain ⟨ih0, ih1, ih2, ih3, ih4, ih5, ih6⟩ := cashbookref01_Gcd.mono_l k
  unfold cashbookref01_Gcd.f
  repeat' first
      | (with_reducible exact ih0 _ _ _)
      | (with_reducible exact ih1 _ _ _)
      | (with_reducible exact ih2 _ _ _ _)
      | (with_reducible exact ih3 _ _ _)
      | (with_reducible exact ih4 _ _ _)
      | (with_reducible exact ih5 _ _ _)
      | (with_reducible exact ih6 _ _ _)
      | (with_reducible exact cashbookref01_figures.mono _ _)
      | (with_reducible exact cashbookref01_half.mono _ _)
      | (with_reducible exact cashbookref01_less.mono _ _ _)
      | (with_reducible exact cashbookref01_nat.mono _ _)
      | (with_reducible exact cashbookref01_rest.mono _ _ _)
      | (with_reducible exact cashbookref01_sum.mono _ _ _)
      | (with_reducible exact LeO.refl _)
      | (with_reducible exact LeO.none _)
      | (with_reducible refine LeO.ite ?_ ?_)
      | (with_reducible refine LeO.bind ?_ (fun _ => ?_))
      | exact ih0 _ _ _
      | exact ih1 _ _ _
      | exact ih2 _ _ _ _
      | exact ih3 _ _ _
      | exact ih4 _ _ _
      | exact ih5 _ _ _
      | exact ih6 _ _ _
      | exact cashbookref01_figures.mono _ _
      | exact cashbookref01_half.mono _ _
      | exact cashbookref01_less.mono _ _ _
      | exact cashbookref01_nat.mono _ _
      | exact cashbookref01_rest.mono _ _ _
      | exact cashbookref01_sum.mono _ _ _
      | exact LeO.none _
      | refine LeO.ite ?_ ?_
      | refine LeO.bind ?_ (fun _ => ?_)
set_option maxHeartbeats 8000000 in
set_option maxRecDepth 100000 in
theorem cashbookref01_Gcd.calls (k : Nat) (A0 : Option Addr) (c0 : Nat) (l0 : List Int) (A1 : Option Addr) (c1 : Nat) (l1 : List Int) (r1 : List Int) (r2 : Int) (w : World) (hr0 : Kd.C (Kd.int .u32) w A0 l0.length l0) (hc0 : l0.length ≤ c0) (hr1 : Kd.C (Kd.int .u32) w A1 l1.length l1) (hc1 : l1.length ≤ c1) (h : cashbookref01_Gcd.f k l0 l1 = some (r1, r2)) :
    Calls Tryd.prog 25 #[.slice A0 l0.length c0, .slice A1 l1.length c1] w fun e w' => ∃ v0_ : Value, e = .returned (.tuple #[v0_, .int .i64 r2]) ∧ Kd.R (Kd.int .u32) 56 w' w.heap.size (fun _ => True) v0_ r1 ∧ Below w.heap.size w w' := by
  have HR0 := Aside0.mk hr0
  have HC0 := Aside0.mk hc0
  clear hr0 hc0
  have HR1 := Aside0.mk hr1
  have HC1 := Aside0.mk hc1
  clear hr1 hc1
  have HB := Aside0.mk (Below.refl w.heap.size w)
  have H : ((cashbookref01_Right.f l0).bind fun t567 => ((cashbookref01_Right.f l1).bind fun t568 => (if t567 = true then (cashbookref01_Gcd.j0 k l0 l1 (!t568)) else (cashbookref01_Gcd.j0 k l0 l1 true)))) = some (r1, r2) := h
  clear h
  replace H := Option.bind_eq_some_iff.mp H
  obtain ⟨t567, A30, H⟩ := H
  replace H : ((cashbookref01_Right.f l1).bind fun t568 => (if t567 = true then (cashbookref01_Gcd.j0 k l0 l1 (!t568)) else (cashbookref01_Gcd.j0 k l0 l1 true))) = some (r1, r2) := H
  have A3 := Aside0.mk A30
  clear A30
  replace H := Option.bind_eq_some_iff.mp H
  obtain ⟨t568, A40, H⟩ := H
  replace H : (if t567 = true then (cashbookref01_Gcd.j0 k l0 l1 (!t568)) else (cashbookref01_Gcd.j0 k l0 l1 true)) = some (r1, r2) := H
  have A4 := Aside0.mk A40
  clear A40
  have HC5 := Aside0.mk H
  clear H
  go_enter Tryd.func25, Tryd.ntmps25
  go_upto_region 3 with (first | ((with_reducible refine gate_callee (f := 37) rfl ?_); refine goesL_ (some 14) rfl rfl Tryd.func37 (by kernel_rfl) rfl #[.slice A0 l0.length c0] rfl (by (try simp only [List.map_toArray, List.map_cons, List.map_nil]); first | done | rfl | (simp only [List.length_drop, List.length_take]; rfl)) ?_; (with_reducible refine (cashbookref01_Right.calls _ _ l0 t567 _ ?side1 ?side2 A3.out).mono ?_); (case side1 => repeat (first | exact HR0.out | (with_reducible refine Kd.C_alloc ?_ _) | (with_reducible refine Kd.C_drewN ?_ _) | (with_reducible refine Kd.C_drew ?_))); (case side2 => exact HC0.out); rintro e w' ⟨rfl, ⟨nd, rfl⟩⟩; refine ⟨_, rfl, ?_⟩) | ((with_reducible refine gate_callee (f := 37) rfl ?_); refine goesL_ (some 16) rfl rfl Tryd.func37 (by kernel_rfl) rfl #[.slice A1 l1.length c1] rfl (by (try simp only [List.map_toArray, List.map_cons, List.map_nil]); first | done | rfl | (simp only [List.length_drop, List.length_take]; rfl)) ?_; (with_reducible refine (cashbookref01_Right.calls _ _ l1 t568 _ ?side1 ?side2 A4.out).mono ?_); (case side1 => repeat (first | exact HR1.out | (with_reducible refine Kd.C_alloc ?_ _) | (with_reducible refine Kd.C_drewN ?_ _) | (with_reducible refine Kd.C_drew ?_))); (case side2 => exact HC1.out); rintro e w' ⟨rfl, ⟨nd, rfl⟩⟩; refine ⟨_, rfl, ?_⟩))
  (try simp only [Act.put, List.setIfInBounds_toArray, List.set_cons_zero, List.set_cons_succ])
  go_cut [22] (fun v22 wc => ∃ (kq : Nat) (x22_4 : Bool), v22 = .bool x22_4 ∧ Aside0 (cashbookref01_Gcd.j0 kq l0 l1 x22_4 = some (r1, r2)) ∧ Aside0 (kq ≤ k) ∧ Aside0 (Below w.heap.size w wc))
  case first =>
    have H := HC5.out
    clear HC5
    by_cases c6 : t567 = true
    · subst c6
      have H1 : (cashbookref01_Gcd.j0 k l0 l1 (!t568)) = some (r1, r2) := by rw [if_pos rfl] at H; exact H
      clear H
      have H := H1
      clear H1
      have H' := Aside0.mk H
      clear H
      go_wp2
      go_meet
      case rel => exact ⟨_, (!t568), (by first | rfl | (simp; done) | (simp [*]; done)), H', ⟨by first | omega | exact Nat.le_refl _⟩, ⟨by repeat (first | (with_reducible first | exact HB.out | apply below_alloc | apply pw_below_drewN | apply below_drew1) | exact HB.out)⟩⟩
    · replace c6 := Bool.eq_false_iff.mpr c6
      subst c6
      have H1 : (cashbookref01_Gcd.j0 k l0 l1 true) = some (r1, r2) := by rw [if_neg (show ¬ (false = true) by decide)] at H; exact H
      clear H
      have H := H1
      clear H1
      have H' := Aside0.mk H
      clear H
      go_wp2
      go_meet
      case rel => exact ⟨_, (true), (by first | rfl | (simp; done) | (simp [*]; done)), H', ⟨by first | omega | exact Nat.le_refl _⟩, ⟨by repeat (first | (with_reducible first | exact HB.out | apply below_alloc | apply pw_below_drewN | apply below_drew1) | exact HB.out)⟩⟩
  case rest =>
    clear HC5
    try clear c1
    try clear c2
    try clear p2
    try clear c3
    try clear c6
    obtain ⟨kq, x22_4, rfl, HA, HJ4, HB⟩ := hcut
    cases kq with
    | zero => exact absurd HA.out (by simp [cashbookref01_Gcd.j0])
    | succ kj4 =>
      have H := HA.out
      clear HA
      simp only [cashbookref01_Gcd.j0] at H
      by_cases c7 : x22_4 = true
      · subst c7
        have H1 : (some (([] : List Int), 1)) = some (r1, r2) := by rw [if_pos rfl] at H; exact H
        clear H
        have H := H1
        clear H1
        simp only [Option.some.injEq, Prod.mk.injEq] at H
        obtain ⟨rfl, rfl⟩ := H
        go_wp2
        go_ret2
        exact ⟨_, by first | rfl | (simp [errW_none, errW_some] <;> rfl) | (simp [*, errW_none, errW_some] <;> rfl), by first | exact Kd.R_nil _ _ _ _ _ | exact Kd.N_nil _ _ _ _ _ | exact Kd.V_nil _ _ _ _ _ | exact Kd.Q_nil _ _ _ _ _ | exact Kd.S_nil _ _ _ _ _, by repeat (first | (with_reducible first | exact HB.out | apply below_alloc | apply pw_below_drewN | apply below_drew1) | exact HB.out)⟩
      · replace c7 := Bool.eq_false_iff.mpr c7
        subst c7
        have H1 : ((cashbookref01_figures.f kj4 l0).bind fun t569 => ((cashbookref01_figures.f kj4 l1).bind fun t572 => (if (t569.length : Int) = 0 then ((cashbookref01_nat.f kj4 t572).bind fun t575 => (some (t575, 0))) else (if (t572.length : Int) = 0 then ((cashbookref01_nat.f kj4 t569).bind fun t578 => (some (t578, 0))) else (cashbookref01_Gcd.l0 kj4 t569 t572 0))))) = some (r1, r2) := by rw [if_neg (show ¬ (false = true) by decide)] at H; exact H
        clear H
        have H := H1
        clear H1
        replace H := Option.bind_eq_some_iff.mp H
        obtain ⟨t569, A80, H⟩ := H
        replace H : ((cashbookref01_figures.f kj4 l1).bind fun t572 => (if (t569.length : Int) = 0 then ((cashbookref01_nat.f kj4 t572).bind fun t575 => (some (t575, 0))) else (if (t572.length : Int) = 0 then ((cashbookref01_nat.f kj4 t569).bind fun t578 => (some (t578, 0))) else (cashbookref01_Gcd.l0 kj4 t569 t572 0)))) = some (r1, r2) := H
        have A8 := Aside0.mk A80
        clear A80
        replace H := Option.bind_eq_some_iff.mp H
        obtain ⟨t572, A90, H⟩ := H
        replace H : (if (t569.length : Int) = 0 then ((cashbookref01_nat.f kj4 t572).bind fun t575 => (some (t575, 0))) else (if (t572.length : Int) = 0 then ((cashbookref01_nat.f kj4 t569).bind fun t578 => (some (t578, 0))) else (cashbookref01_Gcd.l0 kj4 t569 t572 0))) = some (r1, r2) := H
        have A9 := Aside0.mk A90
        clear A90
        by_cases c10 : (t569.length : Int) = 0
        · rw [if_pos c10] at H
          have c10b0 : ((t569.length : Int) == 0) = true := beq_iff_eq.mpr c10
          have c10b1 : ((t569.length : Int) != 0) = false := bne_eq_false_iff_eq.mpr c10
          clear c10
          replace H := Option.bind_eq_some_iff.mp H
          obtain ⟨t575, A110, H⟩ := H
          replace H : (some (t575, 0)) = some (r1, r2) := H
          have A11 := Aside0.mk A110
          clear A110
          simp only [Option.some.injEq, Prod.mk.injEq] at H
          obtain ⟨rfl, rfl⟩ := H
          go_wp2_with (first | ((with_reducible refine gate_callee (f := 45) rfl ?_); refine goesL_ (some 24) rfl rfl Tryd.func45 (by kernel_rfl) rfl #[.slice A0 l0.length c0] rfl (by (try simp only [List.map_toArray, List.map_cons, List.map_nil]); first | done | rfl | (simp only [List.length_drop, List.length_take]; rfl)) ?_; (with_reducible refine (cashbookref01_figures.calls kj4 _ _ l0 t569 _ ?side1 ?side2 A8.out).mono ?_); (case side1 => repeat (first | exact (Kd.C_below HR0.out HB.out) | (with_reducible refine Kd.C_alloc ?_ _) | (with_reducible refine Kd.C_drewN ?_ _) | (with_reducible refine Kd.C_drew ?_))); (case side2 => exact HC0.out); rintro e w12 ⟨v570, rfl, ho0, hb⟩; refine ⟨_, rfl, ?_⟩; have n0_ := Aside0.mk (Kd.R_lower ho0 (below_size (by repeat (first | (with_reducible first | exact HB.out | apply below_alloc | apply pw_below_drewN | apply below_drew1) | exact HB.out)))); have n1_ := Aside0.mk (below_step (by repeat (first | (with_reducible first | exact HB.out | apply below_alloc | apply pw_below_drewN | apply below_drew1) | exact HB.out)) hb); clear HB; have HO571 := n0_; have HB := n1_; clear n0_ n1_; (try clear hb); (try clear hb2); (try clear hk); (try clear hi); (try clear ho0)) | ((with_reducible refine gate_callee (f := 45) rfl ?_); refine goesL_ (some 26) rfl rfl Tryd.func45 (by kernel_rfl) rfl #[.slice A1 l1.length c1] rfl (by (try simp only [List.map_toArray, List.map_cons, List.map_nil]); first | done | rfl | (simp only [List.length_drop, List.length_take]; rfl)) ?_; (with_reducible refine (cashbookref01_figures.calls kj4 _ _ l1 t572 _ ?side1 ?side2 A9.out).mono ?_); (case side1 => repeat (first | exact (Kd.C_below HR1.out HB.out) | (with_reducible refine Kd.C_alloc ?_ _) | (with_reducible refine Kd.C_drewN ?_ _) | (with_reducible refine Kd.C_drew ?_))); (case side2 => exact HC1.out); rintro e w13 ⟨v573, rfl, ho0, hb⟩; refine ⟨_, rfl, ?_⟩; have n0_ := Aside0.mk (Kd.R_elder' (by (with_reducible repeat (first | apply Kd.R_alloc | apply Kd.R_drewN | apply Kd.R_drew)); exact HO571.out) (Kd.R_base ho0) hb); have n1_ := Aside0.mk (Kd.R_lower (Kd.R_new' ho0 (Kd.R_lt (by (with_reducible repeat (first | apply Kd.R_alloc | apply Kd.R_drewN | apply Kd.R_drew)); exact HO571.out))) (below_size (by repeat (first | (with_reducible first | exact HB.out | apply below_alloc | apply pw_below_drewN | apply below_drew1) | exact HB.out)))); have n2_ := Aside0.mk (below_step (by repeat (first | (with_reducible first | exact HB.out | apply below_alloc | apply pw_below_drewN | apply below_drew1) | exact HB.out)) hb); clear HO571; clear HB; have HO571 := n0_; have HO574 := n1_; have HB := n2_; clear n0_ n1_ n2_; (try clear hb); (try clear hb2); (try clear hk); (try clear hi); (try clear ho0); obtain ⟨Ao14, co14, eo14⟩ := Kd.R_slice HO571.out; subst eo14; obtain ⟨Ao15, co15, eo15⟩ := Kd.R_slice HO574.out; subst eo15) | ((with_reducible refine gate_callee (f := 54) rfl ?_); refine goesL_ (some 31) rfl rfl Tryd.func54 (by kernel_rfl) rfl #[.slice Ao15 t572.length co15] rfl (by (try simp only [List.map_toArray, List.map_cons, List.map_nil]); first | done | rfl | (simp only [List.length_drop, List.length_take]; rfl)) ?_; (with_reducible refine (cashbookref01_nat.calls kj4 _ _ t572 t575 _ ?side1 ?side2 A11.out).mono ?_); (case side1 => repeat (first | exact (Kd.R_reads' HO574.out).2.2 | (with_reducible refine Kd.C_alloc ?_ _) | (with_reducible refine Kd.C_drewN ?_ _) | (with_reducible refine Kd.C_drew ?_))); (case side2 => exact (Kd.R_reads' HO574.out).2.1); rintro e w16 ⟨v576, rfl, ho0, hb⟩; refine ⟨_, rfl, ?_⟩; have n0_ := Aside0.mk (Kd.R_below (by (with_reducible repeat (first | apply Kd.R_alloc | apply Kd.R_drewN | apply Kd.R_drew)); exact HO571.out) hb); have n1_ := Aside0.mk (Kd.R_below (by (with_reducible repeat (first | apply Kd.R_alloc | apply Kd.R_drewN | apply Kd.R_drew)); exact HO574.out) hb); have n2_ := Aside0.mk (Kd.R_lower ho0 (below_size (by repeat (first | (with_reducible first | exact HB.out | apply below_alloc | apply pw_below_drewN | apply below_drew1) | exact HB.out)))); have n3_ := Aside0.mk (below_step (by repeat (first | (with_reducible first | exact HB.out | apply below_alloc | apply pw_below_drewN | apply below_drew1) | exact HB.out)) hb); clear HO571; clear HO574; clear HB; have HO571 := n0_; have HO574 := n1_; have HO577 := n2_; have HB := n3_; clear n0_ n1_ n2_ n3_; (try clear hb); (try clear hb2); (try clear hk); (try clear hi); (try clear ho0)))
          go_ret2
          exact ⟨_, by first | rfl | (simp [errW_none, errW_some] <;> rfl) | (simp [*, errW_none, errW_some] <;> rfl), by (with_reducible repeat (first | apply Kd.R_alloc | apply Kd.R_drewN | apply Kd.R_drew)); exact HO577.out, by repeat (first | (with_reducible first | exact HB.out | apply below_alloc | apply pw_below_drewN | apply below_drew1) | exact HB.out)⟩
        · rw [if_neg c10] at H
          have c10b0 : ((t569.length : Int) == 0) = false := beq_eq_false_iff_ne.mpr c10
          have c10b1 : ((t569.length : Int) != 0) = true := bne_iff_ne.mpr c10
          have c10b2 : ¬ (t569 = []) := fun h_ => c10 (by rw [h_]; rfl)
          by_cases c17 : (t572.length : Int) = 0
          · rw [if_pos c17] at H
            have c17b0 : ((t572.length : Int) == 0) = true := beq_iff_eq.mpr c17
            have c17b1 : ((t572.length : Int) != 0) = false := bne_eq_false_iff_eq.mpr c17
            clear c17
            replace H := Option.bind_eq_some_iff.mp H
            obtain ⟨t578, A180, H⟩ := H
            replace H : (some (t578, 0)) = some (r1, r2) := H
            have A18 := Aside0.mk A180
            clear A180
            simp only [Option.some.injEq, Prod.mk.injEq] at H
            obtain ⟨rfl, rfl⟩ := H
            go_wp2_with (first | ((with_reducible refine gate_callee (f := 45) rfl ?_); refine goesL_ (some 24) rfl rfl Tryd.func45 (by kernel_rfl) rfl #[.slice A0 l0.length c0] rfl (by (try simp only [List.map_toArray, List.map_cons, List.map_nil]); first | done | rfl | (simp only [List.length_drop, List.length_take]; rfl)) ?_; (with_reducible refine (cashbookref01_figures.calls kj4 _ _ l0 t569 _ ?side1 ?side2 A8.out).mono ?_); (case side1 => repeat (first | exact (Kd.C_below HR0.out HB.out) | (with_reducible refine Kd.C_alloc ?_ _) | (with_reducible refine Kd.C_drewN ?_ _) | (with_reducible refine Kd.C_drew ?_))); (case side2 => exact HC0.out); rintro e w19 ⟨v570, rfl, ho0, hb⟩; refine ⟨_, rfl, ?_⟩; have n0_ := Aside0.mk (Kd.R_lower ho0 (below_size (by repeat (first | (with_reducible first | exact HB.out | apply below_alloc | apply pw_below_drewN | apply below_drew1) | exact HB.out)))); have n1_ := Aside0.mk (below_step (by repeat (first | (with_reducible first | exact HB.out | apply below_alloc | apply pw_below_drewN | apply below_drew1) | exact HB.out)) hb); clear HB; have HO571 := n0_; have HB := n1_; clear n0_ n1_; (try clear hb); (try clear hb2); (try clear hk); (try clear hi); (try clear ho0)) | ((with_reducible refine gate_callee (f := 45) rfl ?_); refine goesL_ (some 26) rfl rfl Tryd.func45 (by kernel_rfl) rfl #[.slice A1 l1.length c1] rfl (by (try simp only [List.map_toArray, List.map_cons, List.map_nil]); first | done | rfl | (simp only [List.length_drop, List.length_take]; rfl)) ?_; (with_reducible refine (cashbookref01_figures.calls kj4 _ _ l1 t572 _ ?side1 ?side2 A9.out).mono ?_); (case side1 => repeat (first | exact (Kd.C_below HR1.out HB.out) | (with_reducible refine Kd.C_alloc ?_ _) | (with_reducible refine Kd.C_drewN ?_ _) | (with_reducible refine Kd.C_drew ?_))); (case side2 => exact HC1.out); rintro e w20 ⟨v573, rfl, ho0, hb⟩; refine ⟨_, rfl, ?_⟩; have n0_ := Aside0.mk (Kd.R_elder' (by (with_reducible repeat (first | apply Kd.R_alloc | apply Kd.R_drewN | apply Kd.R_drew)); exact HO571.out) (Kd.R_base ho0) hb); have n1_ := Aside0.mk (Kd.R_lower (Kd.R_new' ho0 (Kd.R_lt (by (with_reducible repeat (first | apply Kd.R_alloc | apply Kd.R_drewN | apply Kd.R_drew)); exact HO571.out))) (below_size (by repeat (first | (with_reducible first | exact HB.out | apply below_alloc | apply pw_below_drewN | apply below_drew1) | exact HB.out)))); have n2_ := Aside0.mk (below_step (by repeat (first | (with_reducible first | exact HB.out | apply below_alloc | apply pw_below_drewN | apply below_drew1) | exact HB.out)) hb); clear HO571; clear HB; have HO571 := n0_; have HO574 := n1_; have HB := n2_; clear n0_ n1_ n2_; (try clear hb); (try clear hb2); (try clear hk); (try clear hi); (try clear ho0); obtain ⟨Ao21, co21, eo21⟩ := Kd.R_slice HO571.out; subst eo21; obtain ⟨Ao22, co22, eo22⟩ := Kd.R_slice HO574.out; subst eo22) | ((with_reducible refine gate_callee (f := 54) rfl ?_); refine goesL_ (some 36) rfl rfl Tryd.func54 (by kernel_rfl) rfl #[.slice Ao21 t569.length co21] rfl (by (try simp only [List.map_toArray, List.map_cons, List.map_nil]); first | done | rfl | (simp only [List.length_drop, List.length_take]; rfl)) ?_; (with_reducible refine (cashbookref01_nat.calls kj4 _ _ t569 t578 _ ?side1 ?side2 A18.out).mono ?_); (case side1 => repeat (first | exact (Kd.R_reads' HO571.out).2.2 | (with_reducible refine Kd.C_alloc ?_ _) | (with_reducible refine Kd.C_drewN ?_ _) | (with_reducible refine Kd.C_drew ?_))); (case side2 => exact (Kd.R_reads' HO571.out).2.1); rintro e w23 ⟨v579, rfl, ho0, hb⟩; refine ⟨_, rfl, ?_⟩; have n0_ := Aside0.mk (Kd.R_below (by (with_reducible repeat (first | apply Kd.R_alloc | apply Kd.R_drewN | apply Kd.R_drew)); exact HO571.out) hb); have n1_ := Aside0.mk (Kd.R_below (by (with_reducible repeat (first | apply Kd.R_alloc | apply Kd.R_drewN | apply Kd.R_drew)); exact HO574.out) hb); have n2_ := Aside0.mk (Kd.R_lower ho0 (below_size (by repeat (first | (with_reducible first | exact HB.out | apply below_alloc | apply pw_below_drewN | apply below_drew1) | exact HB.out)))); have n3_ := Aside0.mk (below_step (by repeat (first | (with_reducible first | exact HB.out | apply below_alloc | apply pw_below_drewN | apply below_drew1) | exact HB.out)) hb); clear HO571; clear HO574; clear HB; have HO571 := n0_; have HO574 := n1_; have HO580 := n2_; have HB := n3_; clear n0_ n1_ n2_ n3_; (try clear hb); (try clear hb2); (try clear hk); (try clear hi); (try clear ho0)))
            go_ret2
            exact ⟨_, by first | rfl | (simp [errW_none, errW_some] <;> rfl) | (simp [*, errW_none, errW_some] <;> rfl), by (with_reducible repeat (first | apply Kd.R_alloc | apply Kd.R_drewN | apply Kd.R_drew)); exact HO580.out, by repeat (first | (with_reducible first | exact HB.out | apply below_alloc | apply pw_below_drewN | apply below_drew1) | exact HB.out)⟩
          · rw [if_neg c17] at H
            have c17b0 : ((t572.length : Int) == 0) = false := beq_eq_false_iff_ne.mpr c17
            have c17b1 : ((t572.length : Int) != 0) = true := bne_iff_ne.mpr c17
            have c17b2 : ¬ (t572 = []) := fun h_ => c17 (by rw [h_]; rfl)
            have H' := Aside0.mk H
            clear H
            go_wp2_with (first | ((with_reducible refine gate_callee (f := 45) rfl ?_); refine goesL_ (some 24) rfl rfl Tryd.func45 (by kernel_rfl) rfl #[.slice A0 l0.length c0] rfl (by (try simp only [List.map_toArray, List.map_cons, List.map_nil]); first | done | rfl | (simp only [List.length_drop, List.length_take]; rfl)) ?_; (with_reducible refine (cashbookref01_figures.calls kj4 _ _ l0 t569 _ ?side1 ?side2 A8.out).mono ?_); (case side1 => repeat (first | exact (Kd.C_below HR0.out HB.out) | (with_reducible refine Kd.C_alloc ?_ _) | (with_reducible refine Kd.C_drewN ?_ _) | (with_reducible refine Kd.C_drew ?_))); (case side2 => exact HC0.out); rintro e w24 ⟨v570, rfl, ho0, hb⟩; refine ⟨_, rfl, ?_⟩; have n0_ := Aside0.mk (Kd.R_lower ho0 (below_size (by repeat (first | (with_reducible first | exact HB.out | apply below_alloc | apply pw_below_drewN | apply below_drew1) | exact HB.out)))); have n1_ := Aside0.mk (below_step (by repeat (first | (with_reducible first | exact HB.out | apply below_alloc | apply pw_below_drewN | apply below_drew1) | exact HB.out)) hb); clear HB; have HO571 := n0_; have HB := n1_; clear n0_ n1_; (try clear hb); (try clear hb2); (try clear hk); (try clear hi); (try clear ho0)) | ((with_reducible refine gate_callee (f := 45) rfl ?_); refine goesL_ (some 26) rfl rfl Tryd.func45 (by kernel_rfl) rfl #[.slice A1 l1.length c1] rfl (by (try simp only [List.map_toArray, List.map_cons, List.map_nil]); first | done | rfl | (simp only [List.length_drop, List.length_take]; rfl)) ?_; (with_reducible refine (cashbookref01_figures.calls kj4 _ _ l1 t572 _ ?side1 ?side2 A9.out).mono ?_); (case side1 => repeat (first | exact (Kd.C_below HR1.out HB.out) | (with_reducible refine Kd.C_alloc ?_ _) | (with_reducible refine Kd.C_drewN ?_ _) | (with_reducible refine Kd.C_drew ?_))); (case side2 => exact HC1.out); rintro e w25 ⟨v573, rfl, ho0, hb⟩; refine ⟨_, rfl, ?_⟩; have n0_ := Aside0.mk (Kd.R_elder' (by (with_reducible repeat (first | apply Kd.R_alloc | apply Kd.R_drewN | apply Kd.R_drew)); exact HO571.out) (Kd.R_base ho0) hb); have n1_ := Aside0.mk (Kd.R_lower (Kd.R_new' ho0 (Kd.R_lt (by (with_reducible repeat (first | apply Kd.R_alloc | apply Kd.R_drewN | apply Kd.R_drew)); exact HO571.out))) (below_size (by repeat (first | (with_reducible first | exact HB.out | apply below_alloc | apply pw_below_drewN | apply below_drew1) | exact HB.out)))); have n2_ := Aside0.mk (below_step (by repeat (first | (with_reducible first | exact HB.out | apply below_alloc | apply pw_below_drewN | apply below_drew1) | exact HB.out)) hb); clear HO571; clear HB; have HO571 := n0_; have HO574 := n1_; have HB := n2_; clear n0_ n1_ n2_; (try clear hb); (try clear hb2); (try clear hk); (try clear hi); (try clear ho0); obtain ⟨Ao26, co26, eo26⟩ := Kd.R_slice HO571.out; subst eo26; obtain ⟨Ao27, co27, eo27⟩ := Kd.R_slice HO574.out; subst eo27))
            go_loopg [8, 9, 10] kj4 (fun kq v8 v9 v10 w' => ∃ (x8_2 : List Int) (x9_2 : List Int) (x10_2 : Int), v10 = .int .i64 x10_2 ∧ Aside0 (cashbookref01_Gcd.l0 kq x8_2 x9_2 x10_2 = some (r1, r2)) ∧ Aside0 (kq ≤ kj4) ∧ Aside0 (Kd.R (Kd.int .i64) 3 w' w.heap.size (fun k_ => some k_ ≠ (v9 : Value).ownBlock) v8 x8_2) ∧ Aside0 (Kd.R (Kd.int .i64) 3 w' w.heap.size (fun k_ => some k_ ≠ (v8 : Value).ownBlock) v9 x9_2) ∧ Aside0 (Below w.heap.size w w'))
            case atStart => exact ⟨(t569), (t572), (0), (by first | rfl | (simp; done) | (simp [*]; done)), H', ⟨Nat.le_refl _⟩, ⟨by (with_reducible repeat (first | apply Kd.R_alloc | apply Kd.R_drewN | apply Kd.R_drew)); exact Kd.R_mono HO571.out (fun _ hk => hk.2)⟩, ⟨by (with_reducible repeat (first | apply Kd.R_alloc | apply Kd.R_drewN | apply Kd.R_drew)); exact Kd.R_mono HO574.out (fun _ hk => hk.2)⟩, ⟨by repeat (first | (with_reducible first | exact HB.out | apply below_alloc | apply pw_below_drewN | apply below_drew1) | exact HB.out)⟩⟩
            case round =>
              clear H'
              try clear c1
              try clear c2
              try clear p2
              try clear c3
              try clear c4
              try clear c5
              try clear c6
              try clear c7
              try clear c10
              try clear c10b0
              try clear c10b1
              try clear c10b2
              try clear c17
              try clear c17b0
              try clear c17b1
              try clear c17b2
              try clear c25
              try clear p2
              obtain ⟨x8_2, x9_2, x10_2, rfl, HA, HK2, HO_8, HO_9, HB⟩ := hrel
              cases gk with
              | zero => exact absurd HA.out (by simp [cashbookref01_Gcd.l0])
              | succ k2 =>
                have H := HA.out
                clear HA
                simp only [cashbookref01_Gcd.l0] at H
                have HC28 := Aside0.mk H
                clear H
                go_upto_region 12 with (fail)
                go_cut [48] (fun v48 wc => ∃ (kq : Nat) (x48_27 : Bool), v48 = .bool x48_27 ∧ Aside0 (cashbookref01_Gcd.j2 kq x8_2 x9_2 x10_2 x48_27 = some (r1, r2)) ∧ Aside0 (kq ≤ k2) ∧ Aside0 (Kd.R (Kd.int .i64) 3 wc w.heap.size (fun k_ => some k_ ≠ (u9 : Value).ownBlock) u8 x8_2) ∧ Aside0 (Kd.R (Kd.int .i64) 3 wc w.heap.size (fun k_ => some k_ ≠ (u8 : Value).ownBlock) u9 x9_2) ∧ Aside0 (Below w.heap.size w wc))
                case first =>
                  have H := HC28.out
                  clear HC28
                  by_cases c29 : 0 < (x8_2.length : Int)
                  · rw [if_pos c29] at H
                    have c29b0 : decide (0 < (x8_2.length : Int)) = true := decide_eq_true c29
                    have c29b1 : decide (0 < x8_2.length) = true := decide_eq_true (by omega)
                    clear c29
                    (first | rw [c29b0] | (simp only [i64_w, i32_w]; rw [c29b0]) | skip)
                    by_cases c30 : (Int.tmod (rd x8_2 0) 2) = 0
                    · rw [if_pos c30] at H
                      have c30b0 : ((Int.tmod (rd x8_2 0) 2) == 0) = true := beq_iff_eq.mpr c30
                      have c30b1 : ((Int.tmod (rd x8_2 0) 2) != 0) = false := bne_eq_false_iff_eq.mpr c30
                      clear c30
                      by_cases c31 : 0 < (x9_2.length : Int)
                      · rw [if_pos c31] at H
                        have c31b0 : decide (0 < (x9_2.length : Int)) = true := decide_eq_true c31
                        have c31b1 : decide (0 < x9_2.length) = true := decide_eq_true (by omega)
                        clear c31
                        have H' := Aside0.mk H
                        clear H
                        obtain ⟨Ao32, co32, eo32⟩ := Kd.R_slice HO_8.out
                        subst eo32
                        have p581 : 0 ≤ (0 : Int) := (by omega)
                        have q581 : 0 < (x8_2.length : Int) := of_decide_eq_true (by first | (with_reducible assumption) | assumption)
                        obtain ⟨ad581, e581, hx581_0⟩ := Kd.at_int (Kd.R_reads' HO_8.out).2.2 0 p581 q581
                        cases e581
                        have qi581 : (0 < x8_2.length) = True := eq_true (by omega)
                        (try rw [show ((0 : Int)).toNat = 0 from rfl] at hx581_0)
                        (try rw [Addr.add_zero'] at hx581_0)
                        replace p581 := eq_true p581
                        replace q581 := eq_true q581
                        obtain ⟨Ao33, co33, eo33⟩ := Kd.R_slice HO_9.out
                        subst eo33
                        have p582 : 0 ≤ (0 : Int) := (by omega)
                        have q582 : 0 < (x9_2.length : Int) := of_decide_eq_true (by first | (with_reducible assumption) | assumption)
                        obtain ⟨ad582, e582, hx582_0⟩ := Kd.at_int (Kd.R_reads' HO_9.out).2.2 0 p582 q582
                        cases e582
                        have qi582 : (0 < x9_2.length) = True := eq_true (by omega)
                        (try rw [show ((0 : Int)).toNat = 0 from rfl] at hx582_0)
                        (try rw [Addr.add_zero'] at hx582_0)
                        replace p582 := eq_true p582
                        replace q582 := eq_true q582
                        go_wp2
                        go_meet
                        case rel => exact ⟨_, (((Int.tmod (rd x9_2 0) 2) == 0)), (by first | rfl | (simp; done) | (simp [*]; done)), H', ⟨by have := HJ4.out; have := HK2.out; first | omega | exact Nat.le_refl _⟩, ⟨by (with_reducible repeat (first | apply Kd.R_alloc | apply Kd.R_drewN | apply Kd.R_drew)); exact HO_8.out⟩, ⟨by (with_reducible repeat (first | apply Kd.R_alloc | apply Kd.R_drewN | apply Kd.R_drew)); exact HO_9.out⟩, ⟨by repeat (first | (with_reducible first | exact HB.out | apply below_alloc | apply pw_below_drewN | apply below_drew1) | exact HB.out)⟩⟩
                      · rw [if_neg c31] at H
                        exact absurd H (by simp)
                    · rw [if_neg c30] at H
                      have c30b0 : ((Int.tmod (rd x8_2 0) 2) == 0) = false := beq_eq_false_iff_ne.mpr c30
                      have c30b1 : ((Int.tmod (rd x8_2 0) 2) != 0) = true := bne_iff_ne.mpr c30
                      have H' := Aside0.mk H
                      clear H
                      obtain ⟨Ao34, co34, eo34⟩ := Kd.R_slice HO_8.out
                      subst eo34
                      have p581 : 0 ≤ (0 : Int) := (by omega)
                      have q581 : 0 < (x8_2.length : Int) := of_decide_eq_true (by first | (with_reducible assumption) | assumption)
                      obtain ⟨ad581, e581, hx581_0⟩ := Kd.at_int (Kd.R_reads' HO_8.out).2.2 0 p581 q581
                      cases e581
                      have qi581 : (0 < x8_2.length) = True := eq_true (by omega)
                      (try rw [show ((0 : Int)).toNat = 0 from rfl] at hx581_0)
                      (try rw [Addr.add_zero'] at hx581_0)
                      replace p581 := eq_true p581
                      replace q581 := eq_true q581
                      go_wp2
                      go_meet
                      case rel => exact ⟨_, (false), (by first | rfl | (simp; done) | (simp [*]; done)), H', ⟨by have := HJ4.out; have := HK2.out; first | omega | exact Nat.le_refl _⟩, ⟨by (with_reducible repeat (first | apply Kd.R_alloc | apply Kd.R_drewN | apply Kd.R_drew)); exact HO_8.out⟩, ⟨by (with_reducible repeat (first | apply Kd.R_alloc | apply Kd.R_drewN | apply Kd.R_drew)); exact HO_9.out⟩, ⟨by repeat (first | (with_reducible first | exact HB.out | apply below_alloc | apply pw_below_drewN | apply below_drew1) | exact HB.out)⟩⟩
                  · rw [if_neg c29] at H
                    exact absurd H (by simp)
                case rest =>
                  clear HC28
                  try clear c1
                  try clear c2
                  try clear p2
                  try clear c3
                  try clear c4
                  try clear c5
                  try clear p5
                  try clear q5
                  try clear hx5
                  try clear qi5
                  try clear c6
                  try clear c7
                  try clear c10
                  try clear c10b0
                  try clear c10b1
                  try clear c10b2
                  try clear c17
                  try clear c17b0
                  try clear c17b1
                  try clear c17b2
                  try clear c25
                  try clear c29
                  try clear c29b0
                  try clear c29b1
                  try clear c30
                  try clear c30b0
                  try clear c30b1
                  try clear c31
                  try clear c31b0
                  try clear c31b1
                  try clear hx581_0
                  try clear hx582_0
                  try clear p2
                  try clear p581
                  try clear p582
                  try clear q581
                  try clear q582
                  obtain ⟨kq, x48_27, rfl, HA, HJ27, HO_8, HO_9, HB⟩ := hcut
                  cases kq with
                  | zero => exact absurd HA.out (by simp [cashbookref01_Gcd.j2])
                  | succ kj27 =>
                    have H := HA.out
                    clear HA
                    simp only [cashbookref01_Gcd.j2] at H
                    by_cases c35 : x48_27 = true
                    · subst c35
                      have H1 : ((cashbookref01_half.f kj27 x8_2).bind fun t583 => ((cashbookref01_half.f kj27 x9_2).bind fun t586 => (cashbookref01_Gcd.l0 kj27 t583 t586 (wrap64 (x10_2 + 1))))) = some (r1, r2) := by rw [if_pos rfl] at H; exact H
                      clear H
                      have H := H1
                      clear H1
                      replace H := Option.bind_eq_some_iff.mp H
                      obtain ⟨t583, A360, H⟩ := H
                      replace H : ((cashbookref01_half.f kj27 x9_2).bind fun t586 => (cashbookref01_Gcd.l0 kj27 t583 t586 (wrap64 (x10_2 + 1)))) = some (r1, r2) := H
                      have A36 := Aside0.mk A360
                      clear A360
                      replace H := Option.bind_eq_some_iff.mp H
                      obtain ⟨t586, A370, H⟩ := H
                      replace H : (cashbookref01_Gcd.l0 kj27 t583 t586 (wrap64 (x10_2 + 1))) = some (r1, r2) := H
                      have A37 := Aside0.mk A370
                      clear A370
                      have H' := Aside0.mk H
                      clear H
                      obtain ⟨Ao38, co38, eo38⟩ := Kd.R_slice HO_8.out
                      subst eo38
                      go_wp2_with (first | ((with_reducible refine gate_callee (f := 56) rfl ?_); refine goesL_ (some 50) rfl rfl Tryd.func56 (by kernel_rfl) rfl #[.slice Ao38 x8_2.length co38] rfl (by (try simp only [List.map_toArray, List.map_cons, List.map_nil]); first | done | rfl | (simp only [List.length_drop, List.length_take]; rfl)) ?_; (with_reducible refine (cashbookref01_half.calls kj27 _ _ x8_2 t583 _ ?side1 ?side2 A36.out).mono ?_); (case side1 => repeat (first | exact (Kd.R_reads' HO_8.out).2.2 | (with_reducible refine Kd.C_alloc ?_ _) | (with_reducible refine Kd.C_drewN ?_ _) | (with_reducible refine Kd.C_drew ?_))); (case side2 => exact (Kd.R_reads' HO_8.out).2.1); rintro e w39 ⟨v584, rfl, ho0, hb⟩; refine ⟨_, rfl, ?_⟩; have n0_ := Aside0.mk (Kd.R_elder' (by (with_reducible repeat (first | apply Kd.R_alloc | apply Kd.R_drewN | apply Kd.R_drew)); exact HO_8.out) (Kd.R_base ho0) hb); have n1_ := Aside0.mk (Kd.R_elder' (by (with_reducible repeat (first | apply Kd.R_alloc | apply Kd.R_drewN | apply Kd.R_drew)); exact HO_9.out) (Kd.R_base ho0) hb); have n2_ := Aside0.mk (Kd.R_lower (Kd.R_new' (Kd.R_new' ho0 (Kd.R_lt (by (with_reducible repeat (first | apply Kd.R_alloc | apply Kd.R_drewN | apply Kd.R_drew)); exact HO_8.out))) (Kd.R_lt (by (with_reducible repeat (first | apply Kd.R_alloc | apply Kd.R_drewN | apply Kd.R_drew)); exact HO_9.out))) (below_size (by repeat (first | (with_reducible first | exact HB.out | apply below_alloc | apply pw_below_drewN | apply below_drew1) | exact HB.out)))); have n3_ := Aside0.mk (below_step (by repeat (first | (with_reducible first | exact HB.out | apply below_alloc | apply pw_below_drewN | apply below_drew1) | exact HB.out)) hb); clear HO_8; clear HO_9; clear HB; have HO_8 := n0_; have HO_9 := n1_; have HO585 := n2_; have HB := n3_; clear n0_ n1_ n2_ n3_; (try clear hb); (try clear hb2); (try clear hk); (try clear hi); (try clear ho0); obtain ⟨Ao40, co40, eo40⟩ := Kd.R_slice HO_9.out; subst eo40) | ((with_reducible refine gate_callee (f := 56) rfl ?_); refine goesL_ (some 52) rfl rfl Tryd.func56 (by kernel_rfl) rfl #[.slice Ao40 x9_2.length co40] rfl (by (try simp only [List.map_toArray, List.map_cons, List.map_nil]); first | done | rfl | (simp only [List.length_drop, List.length_take]; rfl)) ?_; (with_reducible refine (cashbookref01_half.calls kj27 _ _ x9_2 t586 _ ?side1 ?side2 A37.out).mono ?_); (case side1 => repeat (first | exact (Kd.R_reads' HO_9.out).2.2 | (with_reducible refine Kd.C_alloc ?_ _) | (with_reducible refine Kd.C_drewN ?_ _) | (with_reducible refine Kd.C_drew ?_))); (case side2 => exact (Kd.R_reads' HO_9.out).2.1); rintro e w41 ⟨v587, rfl, ho0, hb⟩; refine ⟨_, rfl, ?_⟩; have n0_ := Aside0.mk (Kd.R_elder' (by (with_reducible repeat (first | apply Kd.R_alloc | apply Kd.R_drewN | apply Kd.R_drew)); exact HO_8.out) (Kd.R_base ho0) hb); have n1_ := Aside0.mk (Kd.R_elder' (by (with_reducible repeat (first | apply Kd.R_alloc | apply Kd.R_drewN | apply Kd.R_drew)); exact HO_9.out) (Kd.R_base ho0) hb); have n2_ := Aside0.mk (Kd.R_elder' (by (with_reducible repeat (first | apply Kd.R_alloc | apply Kd.R_drewN | apply Kd.R_drew)); exact HO585.out) (Kd.R_base ho0) hb); have n3_ := Aside0.mk (Kd.R_lower (Kd.R_new' (Kd.R_new' (Kd.R_new' ho0 (Kd.R_lt (by (with_reducible repeat (first | apply Kd.R_alloc | apply Kd.R_drewN | apply Kd.R_drew)); exact HO_8.out))) (Kd.R_lt (by (with_reducible repeat (first | apply Kd.R_alloc | apply Kd.R_drewN | apply Kd.R_drew)); exact HO_9.out))) (Kd.R_lt (by (with_reducible repeat (first | apply Kd.R_alloc | apply Kd.R_drewN | apply Kd.R_drew)); exact HO585.out))) (below_size (by repeat (first | (with_reducible first | exact HB.out | apply below_alloc | apply pw_below_drewN | apply below_drew1) | exact HB.out)))); have n4_ := Aside0.mk (below_step (by repeat (first | (with_reducible first | exact HB.out | apply below_alloc | apply pw_below_drewN | apply below_drew1) | exact HB.out)) hb); clear HO_8; clear HO_9; clear HO585; clear HB; have HO_8 := n0_; have HO_9 := n1_; have HO585 := n2_; have HO588 := n3_; have HB := n4_; clear n0_ n1_ n2_ n3_ n4_; (try clear hb); (try clear hb2); (try clear hk); (try clear hi); (try clear ho0)))
                      go_roundg kj27
                      case measure => have := HJ4.out; have := HK2.out; have := HJ27.out; omega
                      case rel => exact ⟨(t583), (t586), (wrap64 (x10_2 + 1)), (by first | rfl | (simp; done) | (simp [*]; done)), H', ⟨by have := HJ4.out; have := HK2.out; have := HJ27.out; omega⟩, ⟨by (with_reducible repeat (first | apply Kd.R_alloc | apply Kd.R_drewN | apply Kd.R_drew)); exact Kd.R_mono HO585.out (fun _ hk => hk.2)⟩, ⟨by (with_reducible repeat (first | apply Kd.R_alloc | apply Kd.R_drewN | apply Kd.R_drew)); exact Kd.R_mono HO588.out (fun _ hk => hk.2)⟩, ⟨by repeat (first | (with_reducible first | exact HB.out | apply below_alloc | apply pw_below_drewN | apply below_drew1) | exact HB.out)⟩⟩
                    · replace c35 := Bool.eq_false_iff.mpr c35
                      subst c35
                      have H1 : (cashbookref01_Gcd.l1 kj27 x8_2 x9_2 x10_2) = some (r1, r2) := by rw [if_neg (show ¬ (false = true) by decide)] at H; exact H
                      clear H
                      have H := H1
                      clear H1
                      have H' := Aside0.mk H
                      clear H
                      go_wp2
                      go_loopg [8, 9] kj27 (fun kq v8 v9 w' => ∃ (x8_4 : List Int) (x9_4 : List Int), Aside0 (cashbookref01_Gcd.l1 kq x8_4 x9_4 x10_2 = some (r1, r2)) ∧ Aside0 (kq ≤ kj27) ∧ Aside0 (Kd.R (Kd.int .i64) 3 w' w.heap.size (fun k_ => some k_ ≠ (v9 : Value).ownBlock) v8 x8_4) ∧ Aside0 (Kd.R (Kd.int .i64) 3 w' w.heap.size (fun k_ => some k_ ≠ (v8 : Value).ownBlock) v9 x9_4) ∧ Aside0 (Below w.heap.size w w'))
                      case atStart => exact ⟨(x8_2), (x9_2), H', ⟨Nat.le_refl _⟩, ⟨by (with_reducible repeat (first | apply Kd.R_alloc | apply Kd.R_drewN | apply Kd.R_drew)); exact HO_8.out⟩, ⟨by (with_reducible repeat (first | apply Kd.R_alloc | apply Kd.R_drewN | apply Kd.R_drew)); exact HO_9.out⟩, ⟨by repeat (first | (with_reducible first | exact HB.out | apply below_alloc | apply pw_below_drewN | apply below_drew1) | exact HB.out)⟩⟩
                      case round =>
                        clear H'
                        try clear c1
                        try clear c2
                        try clear p2
                        try clear c3
                        try clear c4
                        try clear c5
                        try clear p5
                        try clear q5
                        try clear hx5
                        try clear qi5
                        try clear c6
                        try clear p6
                        try clear c7
                        try clear c10
                        try clear c10b0
                        try clear c10b1
                        try clear c10b2
                        try clear c17
                        try clear c17b0
                        try clear c17b1
                        try clear c17b2
                        try clear c25
                        try clear c29
                        try clear c29b0
                        try clear c29b1
                        try clear c30
                        try clear c30b0
                        try clear c30b1
                        try clear c31
                        try clear c31b0
                        try clear c31b1
                        try clear c35
                        try clear c37
                        try clear hx581_0
                        try clear hx582_0
                        try clear p2
                        try clear p5
                        try clear p581
                        try clear p582
                        try clear q5
                        try clear q581
                        try clear q582
                        obtain ⟨x8_4, x9_4, HA, HK4, HO_8, HO_9, HB⟩ := hrel
                        cases gk with
                        | zero => exact absurd HA.out (by simp [cashbookref01_Gcd.l1])
                        | succ k4 =>
                          have H := HA.out
                          clear HA
                          simp only [cashbookref01_Gcd.l1] at H
                          by_cases c42 : (x8_4.length : Int) > 0
                          · rw [if_pos c42] at H
                            have c42b0 : decide (0 < (x8_4.length : Int)) = true := decide_eq_true c42
                            have c42b1 : decide (0 < x8_4.length) = true := decide_eq_true (by omega)
                            clear c42
                            have H' := Aside0.mk H
                            clear H
                            obtain ⟨Ao43, co43, eo43⟩ := Kd.R_slice HO_8.out
                            subst eo43
                            go_wp2
                            go_loopg [8] k4 (fun kq v8 w' => ∃ (x8_5 : List Int), Aside0 (cashbookref01_Gcd.l2 kq x8_5 x9_4 x10_2 = some (r1, r2)) ∧ Aside0 (kq ≤ k4) ∧ Aside0 (Kd.R (Kd.int .i64) 3 w' w.heap.size (fun k_ => some k_ ≠ (u9 : Value).ownBlock) v8 x8_5) ∧ Aside0 (Kd.R (Kd.int .i64) 3 w' w.heap.size (fun k_ => some k_ ≠ (v8 : Value).ownBlock) u9 x9_4) ∧ Aside0 (Below w.heap.size w w'))
                            case atStart => exact ⟨(x8_4), H', ⟨Nat.le_refl _⟩, ⟨by (with_reducible repeat (first | apply Kd.R_alloc | apply Kd.R_drewN | apply Kd.R_drew)); exact HO_8.out⟩, ⟨by (with_reducible repeat (first | apply Kd.R_alloc | apply Kd.R_drewN | apply Kd.R_drew)); exact HO_9.out⟩, ⟨by repeat (first | (with_reducible first | exact HB.out | apply below_alloc | apply pw_below_drewN | apply below_drew1) | exact HB.out)⟩⟩
                            case round =>
                              clear H'
                              try clear c1
                              try clear c2
                              try clear p2
                              try clear c3
                              try clear c4
                              try clear c5
                              try clear p5
                              try clear q5
                              try clear hx5
                              try clear qi5
                              try clear c6
                              try clear p6
                              try clear c7
                              try clear c10
                              try clear c10b0
                              try clear c10b1
                              try clear c10b2
                              try clear c17
                              try clear c17b0
                              try clear c17b1
                              try clear c17b2
                              try clear c25
                              try clear c29
                              try clear c29b0
                              try clear c29b1
                              try clear c30
                              try clear c30b0
                              try clear c30b1
                              try clear c31
                              try clear c31b0
                              try clear c31b1
                              try clear c35
                              try clear c37
                              try clear c42
                              try clear c42b0
                              try clear c42b1
                              try clear hx581_0
                              try clear hx582_0
                              try clear p2
                              try clear p5
                              try clear p581
                              try clear p582
                              try clear p6
                              try clear q5
                              try clear q581
                              try clear q582
                              obtain ⟨x8_5, HA, HK5, HO_8, HO_9, HB⟩ := hrel
                              cases gk with
                              | zero => exact absurd HA.out (by simp [cashbookref01_Gcd.l2])
                              | succ k5 =>
                                have H := HA.out
                                clear HA
                                simp only [cashbookref01_Gcd.l2] at H
                                by_cases c44 : 0 < (x8_5.length : Int)
                                · rw [if_pos c44] at H
                                  have c44b0 : decide (0 < (x8_5.length : Int)) = true := decide_eq_true c44
                                  have c44b1 : decide (0 < x8_5.length) = true := decide_eq_true (by omega)
                                  clear c44
                                  by_cases c45 : (Int.tmod (rd x8_5 0) 2) = 0
                                  · rw [if_pos c45] at H
                                    have c45b0 : ((Int.tmod (rd x8_5 0) 2) == 0) = true := beq_iff_eq.mpr c45
                                    have c45b1 : ((Int.tmod (rd x8_5 0) 2) != 0) = false := bne_eq_false_iff_eq.mpr c45
                                    clear c45
                                    replace H := Option.bind_eq_some_iff.mp H
                                    obtain ⟨t590, A460, H⟩ := H
                                    replace H : (cashbookref01_Gcd.l2 k5 t590 x9_4 x10_2) = some (r1, r2) := H
                                    have A46 := Aside0.mk A460
                                    clear A460
                                    have H' := Aside0.mk H
                                    clear H
                                    obtain ⟨Ao47, co47, eo47⟩ := Kd.R_slice HO_8.out
                                    subst eo47
                                    have p589 : 0 ≤ (0 : Int) := (by omega)
                                    have q589 : 0 < (x8_5.length : Int) := of_decide_eq_true (by first | (with_reducible assumption) | assumption)
                                    obtain ⟨ad589, e589, hx589_0⟩ := Kd.at_int (Kd.R_reads' HO_8.out).2.2 0 p589 q589
                                    cases e589
                                    have qi589 : (0 < x8_5.length) = True := eq_true (by omega)
                                    (try rw [show ((0 : Int)).toNat = 0 from rfl] at hx589_0)
                                    (try rw [Addr.add_zero'] at hx589_0)
                                    replace p589 := eq_true p589
                                    replace q589 := eq_true q589
                                    go_wp2_with (first | ((with_reducible refine gate_callee (f := 56) rfl ?_); refine goesL_ (some 64) rfl rfl Tryd.func56 (by kernel_rfl) rfl #[.slice (some ad589) x8_5.length co47] rfl (by (try simp only [List.map_toArray, List.map_cons, List.map_nil]); first | done | rfl | (simp only [List.length_drop, List.length_take]; rfl)) ?_; (with_reducible refine (cashbookref01_half.calls k5 _ _ x8_5 t590 _ ?side1 ?side2 A46.out).mono ?_); (case side1 => repeat (first | exact (Kd.R_reads' HO_8.out).2.2 | (with_reducible refine Kd.C_alloc ?_ _) | (with_reducible refine Kd.C_drewN ?_ _) | (with_reducible refine Kd.C_drew ?_))); (case side2 => exact (Kd.R_reads' HO_8.out).2.1); rintro e w48 ⟨v591, rfl, ho0, hb⟩; refine ⟨_, rfl, ?_⟩; have n0_ := Aside0.mk (Kd.R_elder' (by (with_reducible repeat (first | apply Kd.R_alloc | apply Kd.R_drewN | apply Kd.R_drew)); exact HO_8.out) (Kd.R_base ho0) hb); have n1_ := Aside0.mk (Kd.R_elder' (by (with_reducible repeat (first | apply Kd.R_alloc | apply Kd.R_drewN | apply Kd.R_drew)); exact HO_9.out) (Kd.R_base ho0) hb); have n2_ := Aside0.mk (Kd.R_lower (Kd.R_new' (Kd.R_new' ho0 (Kd.R_lt (by (with_reducible repeat (first | apply Kd.R_alloc | apply Kd.R_drewN | apply Kd.R_drew)); exact HO_8.out))) (Kd.R_lt (by (with_reducible repeat (first | apply Kd.R_alloc | apply Kd.R_drewN | apply Kd.R_drew)); exact HO_9.out))) (below_size (by repeat (first | (with_reducible first | exact HB.out | apply below_alloc | apply pw_below_drewN | apply below_drew1) | exact HB.out)))); have n3_ := Aside0.mk (below_step (by repeat (first | (with_reducible first | exact HB.out | apply below_alloc | apply pw_below_drewN | apply below_drew1) | exact HB.out)) hb); clear HO_8; clear HO_9; clear HB; have HO_8 := n0_; have HO_9 := n1_; have HO592 := n2_; have HB := n3_; clear n0_ n1_ n2_ n3_; (try clear hb); (try clear hb2); (try clear hk); (try clear hi); (try clear ho0)))
                                    go_roundg k5
                                    case measure => have := HJ4.out; have := HK2.out; have := HJ27.out; have := HK4.out; have := HK5.out; omega
                                    case rel => exact ⟨(t590), H', ⟨by have := HJ4.out; have := HK2.out; have := HJ27.out; have := HK4.out; have := HK5.out; omega⟩, ⟨by (with_reducible repeat (first | apply Kd.R_alloc | apply Kd.R_drewN | apply Kd.R_drew)); exact Kd.R_mono HO592.out (fun _ hk => hk.2)⟩, ⟨by (with_reducible repeat (first | apply Kd.R_alloc | apply Kd.R_drewN | apply Kd.R_drew)); exact Kd.R_mono HO_9.out (fun _ hk => hk.2)⟩, ⟨by repeat (first | (with_reducible first | exact HB.out | apply below_alloc | apply pw_below_drewN | apply below_drew1) | exact HB.out)⟩⟩
                                  · rw [if_neg c45] at H
                                    have c45b0 : ((Int.tmod (rd x8_5 0) 2) == 0) = false := beq_eq_false_iff_ne.mpr c45
                                    have c45b1 : ((Int.tmod (rd x8_5 0) 2) != 0) = true := bne_iff_ne.mpr c45
                                    have H' := Aside0.mk H
                                    clear H
                                    obtain ⟨Ao49, co49, eo49⟩ := Kd.R_slice HO_8.out
                                    subst eo49
                                    have p589 : 0 ≤ (0 : Int) := (by omega)
                                    have q589 : 0 < (x8_5.length : Int) := of_decide_eq_true (by first | (with_reducible assumption) | assumption)
                                    obtain ⟨ad589, e589, hx589_0⟩ := Kd.at_int (Kd.R_reads' HO_8.out).2.2 0 p589 q589
                                    cases e589
                                    have qi589 : (0 < x8_5.length) = True := eq_true (by omega)
                                    (try rw [show ((0 : Int)).toNat = 0 from rfl] at hx589_0)
                                    (try rw [Addr.add_zero'] at hx589_0)
                                    replace p589 := eq_true p589
                                    replace q589 := eq_true q589
                                    go_wp2
                                    go_loopg [9] k5 (fun kq v9 w' => ∃ (x9_6 : List Int), Aside0 (cashbookref01_Gcd.l3 kq x8_5 x9_6 x10_2 = some (r1, r2)) ∧ Aside0 (kq ≤ k5) ∧ Aside0 (Kd.R (Kd.int .i64) 3 w' w.heap.size (fun k_ => some k_ ≠ (v9 : Value).ownBlock) (.slice (some ad589) x8_5.length co49) x8_5) ∧ Aside0 (Kd.R (Kd.int .i64) 3 w' w.heap.size (fun k_ => some k_ ≠ ((.slice (some ad589) x8_5.length co49) : Value).ownBlock) v9 x9_6) ∧ Aside0 (Below w.heap.size w w'))
                                    case atStart => exact ⟨(x9_4), H', ⟨Nat.le_refl _⟩, ⟨by (with_reducible repeat (first | apply Kd.R_alloc | apply Kd.R_drewN | apply Kd.R_drew)); exact HO_8.out⟩, ⟨by (with_reducible repeat (first | apply Kd.R_alloc | apply Kd.R_drewN | apply Kd.R_drew)); exact HO_9.out⟩, ⟨by repeat (first | (with_reducible first | exact HB.out | apply below_alloc | apply pw_below_drewN | apply below_drew1) | exact HB.out)⟩⟩
                                    case round =>
                                      clear H'
                                      try clear c1
                                      try clear c2
                                      try clear p2
                                      try clear c3
                                      try clear c4
                                      try clear c5
                                      try clear p5
                                      try clear q5
                                      try clear hx5
                                      try clear qi5
                                      try clear c6
                                      try clear p6
                                      try clear c7
                                      try clear c10
                                      try clear c10b0
                                      try clear c10b1
                                      try clear c10b2
                                      try clear c17
                                      try clear c17b0
                                      try clear c17b1
                                      try clear c17b2
                                      try clear c25
                                      try clear c29
                                      try clear c29b0
                                      try clear c29b1
                                      try clear c30
                                      try clear c30b0
                                      try clear c30b1
                                      try clear c31
                                      try clear c31b0
                                      try clear c31b1
                                      try clear c35
                                      try clear c37
                                      try clear c42
                                      try clear c42b0
                                      try clear c42b1
                                      try clear c44
                                      try clear c44b0
                                      try clear c44b1
                                      try clear c45
                                      try clear c45b0
                                      try clear c45b1
                                      try clear hx581_0
                                      try clear hx582_0
                                      try clear hx589_0
                                      try clear p2
                                      try clear p5
                                      try clear p581
                                      try clear p582
                                      try clear p589
                                      try clear p6
                                      try clear q5
                                      try clear q581
                                      try clear q582
                                      try clear q589
                                      obtain ⟨x9_6, HA, HK6, HO_8, HO_9, HB⟩ := hrel
                                      cases gk with
                                      | zero => exact absurd HA.out (by simp [cashbookref01_Gcd.l3])
                                      | succ k6 =>
                                        have H := HA.out
                                        clear HA
                                        simp only [cashbookref01_Gcd.l3] at H
                                        by_cases c50 : 0 < (x9_6.length : Int)
                                        · rw [if_pos c50] at H
                                          have c50b0 : decide (0 < (x9_6.length : Int)) = true := decide_eq_true c50
                                          have c50b1 : decide (0 < x9_6.length) = true := decide_eq_true (by omega)
                                          clear c50
                                          by_cases c51 : (Int.tmod (rd x9_6 0) 2) = 0
                                          · rw [if_pos c51] at H
                                            have c51b0 : ((Int.tmod (rd x9_6 0) 2) == 0) = true := beq_iff_eq.mpr c51
                                            have c51b1 : ((Int.tmod (rd x9_6 0) 2) != 0) = false := bne_eq_false_iff_eq.mpr c51
                                            clear c51
                                            replace H := Option.bind_eq_some_iff.mp H
                                            obtain ⟨t594, A520, H⟩ := H
                                            replace H : (cashbookref01_Gcd.l3 k6 x8_5 t594 x10_2) = some (r1, r2) := H
                                            have A52 := Aside0.mk A520
                                            clear A520
                                            have H' := Aside0.mk H
                                            clear H
                                            obtain ⟨Ao53, co53, eo53⟩ := Kd.R_slice HO_9.out
                                            subst eo53
                                            have p593 : 0 ≤ (0 : Int) := (by omega)
                                            have q593 : 0 < (x9_6.length : Int) := of_decide_eq_true (by first | (with_reducible assumption) | assumption)
                                            obtain ⟨ad593, e593, hx593_0⟩ := Kd.at_int (Kd.R_reads' HO_9.out).2.2 0 p593 q593
                                            cases e593
                                            have qi593 : (0 < x9_6.length) = True := eq_true (by omega)
                                            (try rw [show ((0 : Int)).toNat = 0 from rfl] at hx593_0)
                                            (try rw [Addr.add_zero'] at hx593_0)
                                            replace p593 := eq_true p593
                                            replace q593 := eq_true q593
                                            go_wp2_with (first | ((with_reducible refine gate_callee (f := 56) rfl ?_); refine goesL_ (some 71) rfl rfl Tryd.func56 (by kernel_rfl) rfl #[.slice (some ad593) x9_6.length co53] rfl (by (try simp only [List.map_toArray, List.map_cons, List.map_nil]); first | done | rfl | (simp only [List.length_drop, List.length_take]; rfl)) ?_; (with_reducible refine (cashbookref01_half.calls k6 _ _ x9_6 t594 _ ?side1 ?side2 A52.out).mono ?_); (case side1 => repeat (first | exact (Kd.R_reads' HO_9.out).2.2 | (with_reducible refine Kd.C_alloc ?_ _) | (with_reducible refine Kd.C_drewN ?_ _) | (with_reducible refine Kd.C_drew ?_))); (case side2 => exact (Kd.R_reads' HO_9.out).2.1); rintro e w54 ⟨v595, rfl, ho0, hb⟩; refine ⟨_, rfl, ?_⟩; have n0_ := Aside0.mk (Kd.R_elder' (by (with_reducible repeat (first | apply Kd.R_alloc | apply Kd.R_drewN | apply Kd.R_drew)); exact HO_8.out) (Kd.R_base ho0) hb); have n1_ := Aside0.mk (Kd.R_elder' (by (with_reducible repeat (first | apply Kd.R_alloc | apply Kd.R_drewN | apply Kd.R_drew)); exact HO_9.out) (Kd.R_base ho0) hb); have n2_ := Aside0.mk (Kd.R_lower (Kd.R_new' (Kd.R_new' ho0 (Kd.R_lt (by (with_reducible repeat (first | apply Kd.R_alloc | apply Kd.R_drewN | apply Kd.R_drew)); exact HO_8.out))) (Kd.R_lt (by (with_reducible repeat (first | apply Kd.R_alloc | apply Kd.R_drewN | apply Kd.R_drew)); exact HO_9.out))) (below_size (by repeat (first | (with_reducible first | exact HB.out | apply below_alloc | apply pw_below_drewN | apply below_drew1) | exact HB.out)))); have n3_ := Aside0.mk (below_step (by repeat (first | (with_reducible first | exact HB.out | apply below_alloc | apply pw_below_drewN | apply below_drew1) | exact HB.out)) hb); clear HO_8; clear HO_9; clear HB; have HO_8 := n0_; have HO_9 := n1_; have HO596 := n2_; have HB := n3_; clear n0_ n1_ n2_ n3_; (try clear hb); (try clear hb2); (try clear hk); (try clear hi); (try clear ho0)))
                                            go_roundg k6
                                            case measure => have := HJ4.out; have := HK2.out; have := HJ27.out; have := HK4.out; have := HK5.out; have := HK6.out; omega
                                            case rel => exact ⟨(t594), H', ⟨by have := HJ4.out; have := HK2.out; have := HJ27.out; have := HK4.out; have := HK5.out; have := HK6.out; omega⟩, ⟨by (with_reducible repeat (first | apply Kd.R_alloc | apply Kd.R_drewN | apply Kd.R_drew)); exact Kd.R_mono HO_8.out (fun _ hk => hk.2)⟩, ⟨by (with_reducible repeat (first | apply Kd.R_alloc | apply Kd.R_drewN | apply Kd.R_drew)); exact Kd.R_mono HO596.out (fun _ hk => hk.1.2)⟩, ⟨by repeat (first | (with_reducible first | exact HB.out | apply below_alloc | apply pw_below_drewN | apply below_drew1) | exact HB.out)⟩⟩
                                          · rw [if_neg c51] at H
                                            have c51b0 : ((Int.tmod (rd x9_6 0) 2) == 0) = false := beq_eq_false_iff_ne.mpr c51
                                            have c51b1 : ((Int.tmod (rd x9_6 0) 2) != 0) = true := bne_iff_ne.mpr c51
                                            replace H := Option.bind_eq_some_iff.mp H
                                            obtain ⟨t597, A550, H⟩ := H
                                            replace H : (if t597 = true then ((cashbookref01_rest.f k6 x9_6 x8_5).bind fun t598 => (cashbookref01_Gcd.l1 k6 t598 x8_5 x10_2)) else ((cashbookref01_rest.f k6 x8_5 x9_6).bind fun t601 => (cashbookref01_Gcd.l1 k6 t601 x9_6 x10_2))) = some (r1, r2) := H
                                            have A55 := Aside0.mk A550
                                            clear A550
                                            by_cases c56 : t597 = true
                                            · subst c56
                                              have H1 : ((cashbookref01_rest.f k6 x9_6 x8_5).bind fun t598 => (cashbookref01_Gcd.l1 k6 t598 x8_5 x10_2)) = some (r1, r2) := by rw [if_pos rfl] at H; exact H
                                              clear H
                                              have H := H1
                                              clear H1
                                              replace H := Option.bind_eq_some_iff.mp H
                                              obtain ⟨t598, A570, H⟩ := H
                                              replace H : (cashbookref01_Gcd.l1 k6 t598 x8_5 x10_2) = some (r1, r2) := H
                                              have A57 := Aside0.mk A570
                                              clear A570
                                              have H' := Aside0.mk H
                                              clear H
                                              obtain ⟨Ao58, co58, eo58⟩ := Kd.R_slice HO_9.out
                                              subst eo58
                                              have p593 : 0 ≤ (0 : Int) := (by omega)
                                              have q593 : 0 < (x9_6.length : Int) := of_decide_eq_true (by first | (with_reducible assumption) | assumption)
                                              obtain ⟨ad593, e593, hx593_0⟩ := Kd.at_int (Kd.R_reads' HO_9.out).2.2 0 p593 q593
                                              cases e593
                                              have qi593 : (0 < x9_6.length) = True := eq_true (by omega)
                                              (try rw [show ((0 : Int)).toNat = 0 from rfl] at hx593_0)
                                              (try rw [Addr.add_zero'] at hx593_0)
                                              replace p593 := eq_true p593
                                              replace q593 := eq_true q593
                                              go_wp2_with (first | ((with_reducible refine gate_callee (f := 48) rfl ?_); refine goesL_ (some 74) rfl rfl Tryd.func48 (by kernel_rfl) rfl #[.slice (some ad589) x8_5.length co49, .slice (some ad593) x9_6.length co58] rfl (by (try simp only [List.map_toArray, List.map_cons, List.map_nil]); first | done | rfl | (simp only [List.length_drop, List.length_take]; rfl)) ?_; (with_reducible refine (cashbookref01_less.calls k6 _ _ x8_5 _ _ x9_6 true _ ?side1 ?side2 ?side3 ?side4 A55.out).mono ?_); (case side1 => repeat (first | exact (Kd.R_reads' HO_8.out).2.2 | (with_reducible refine Kd.C_alloc ?_ _) | (with_reducible refine Kd.C_drewN ?_ _) | (with_reducible refine Kd.C_drew ?_))); (case side2 => exact (Kd.R_reads' HO_8.out).2.1); (case side3 => repeat (first | exact (Kd.R_reads' HO_9.out).2.2 | (with_reducible refine Kd.C_alloc ?_ _) | (with_reducible refine Kd.C_drewN ?_ _) | (with_reducible refine Kd.C_drew ?_))); (case side4 => exact (Kd.R_reads' HO_9.out).2.1); rintro e w59 ⟨rfl, hb⟩; refine ⟨_, rfl, ?_⟩; have n0_ := Aside0.mk (Kd.R_below (by (with_reducible repeat (first | apply Kd.R_alloc | apply Kd.R_drewN | apply Kd.R_drew)); exact HO_8.out) hb); have n1_ := Aside0.mk (Kd.R_below (by (with_reducible repeat (first | apply Kd.R_alloc | apply Kd.R_drewN | apply Kd.R_drew)); exact HO_9.out) hb); have n2_ := Aside0.mk (below_step (by repeat (first | (with_reducible first | exact HB.out | apply below_alloc | apply pw_below_drewN | apply below_drew1) | exact HB.out)) hb); clear HO_8; clear HO_9; clear HB; have HO_8 := n0_; have HO_9 := n1_; have HB := n2_; clear n0_ n1_ n2_; (try clear hb); (try clear hb2); (try clear hk); (try clear hi)) | ((with_reducible refine gate_callee (f := 49) rfl ?_); refine goesL_ (some 80) rfl rfl Tryd.func49 (by kernel_rfl) rfl #[.slice (some ad593) x9_6.length co58, .slice (some ad589) x8_5.length co49] rfl (by (try simp only [List.map_toArray, List.map_cons, List.map_nil]); first | done | rfl | (simp only [List.length_drop, List.length_take]; rfl)) ?_; (with_reducible refine (cashbookref01_rest.calls k6 _ _ x9_6 _ _ x8_5 t598 _ ?side1 ?side2 ?side3 ?side4 A57.out).mono ?_); (case side1 => repeat (first | exact (Kd.R_reads' HO_9.out).2.2 | (with_reducible refine Kd.C_alloc ?_ _) | (with_reducible refine Kd.C_drewN ?_ _) | (with_reducible refine Kd.C_drew ?_))); (case side2 => exact (Kd.R_reads' HO_9.out).2.1); (case side3 => repeat (first | exact (Kd.R_reads' HO_8.out).2.2 | (with_reducible refine Kd.C_alloc ?_ _) | (with_reducible refine Kd.C_drewN ?_ _) | (with_reducible refine Kd.C_drew ?_))); (case side4 => exact (Kd.R_reads' HO_8.out).2.1); rintro e w60 ⟨v599, rfl, ho0, hb⟩; refine ⟨_, rfl, ?_⟩; have n0_ := Aside0.mk (Kd.R_elder' (by (with_reducible repeat (first | apply Kd.R_alloc | apply Kd.R_drewN | apply Kd.R_drew)); exact HO_8.out) (Kd.R_base ho0) hb); have n1_ := Aside0.mk (Kd.R_elder' (by (with_reducible repeat (first | apply Kd.R_alloc | apply Kd.R_drewN | apply Kd.R_drew)); exact HO_9.out) (Kd.R_base ho0) hb); have n2_ := Aside0.mk (Kd.R_lower (Kd.R_new' (Kd.R_new' ho0 (Kd.R_lt (by (with_reducible repeat (first | apply Kd.R_alloc | apply Kd.R_drewN | apply Kd.R_drew)); exact HO_8.out))) (Kd.R_lt (by (with_reducible repeat (first | apply Kd.R_alloc | apply Kd.R_drewN | apply Kd.R_drew)); exact HO_9.out))) (below_size (by repeat (first | (with_reducible first | exact HB.out | apply below_alloc | apply pw_below_drewN | apply below_drew1) | exact HB.out)))); have n3_ := Aside0.mk (below_step (by repeat (first | (with_reducible first | exact HB.out | apply below_alloc | apply pw_below_drewN | apply below_drew1) | exact HB.out)) hb); clear HO_8; clear HO_9; clear HB; have HO_8 := n0_; have HO_9 := n1_; have HO600 := n2_; have HB := n3_; clear n0_ n1_ n2_ n3_; (try clear hb); (try clear hb2); (try clear hk); (try clear hi); (try clear ho0)))
                                              go_roundg k6
                                              case measure => have := HJ4.out; have := HK2.out; have := HJ27.out; have := HK4.out; have := HK5.out; have := HK6.out; omega
                                              case rel => exact ⟨(t598), (x8_5), H', ⟨by have := HJ4.out; have := HK2.out; have := HJ27.out; have := HK4.out; have := HK5.out; have := HK6.out; omega⟩, ⟨by (with_reducible repeat (first | apply Kd.R_alloc | apply Kd.R_drewN | apply Kd.R_drew)); exact Kd.R_mono HO600.out (fun _ hk => hk.1.2)⟩, ⟨by (with_reducible repeat (first | apply Kd.R_alloc | apply Kd.R_drewN | apply Kd.R_drew)); exact Kd.R_mono HO_8.out (fun _ hk => hk.2)⟩, ⟨by repeat (first | (with_reducible first | exact HB.out | apply below_alloc | apply pw_below_drewN | apply below_drew1) | exact HB.out)⟩⟩
                                            · replace c56 := Bool.eq_false_iff.mpr c56
                                              subst c56
                                              have H1 : ((cashbookref01_rest.f k6 x8_5 x9_6).bind fun t601 => (cashbookref01_Gcd.l1 k6 t601 x9_6 x10_2)) = some (r1, r2) := by rw [if_neg (show ¬ (false = true) by decide)] at H; exact H
                                              clear H
                                              have H := H1
                                              clear H1
                                              replace H := Option.bind_eq_some_iff.mp H
                                              obtain ⟨t601, A610, H⟩ := H
                                              replace H : (cashbookref01_Gcd.l1 k6 t601 x9_6 x10_2) = some (r1, r2) := H
                                              have A61 := Aside0.mk A610
                                              clear A610
                                              have H' := Aside0.mk H
                                              clear H
                                              obtain ⟨Ao62, co62, eo62⟩ := Kd.R_slice HO_9.out
                                              subst eo62
                                              have p593 : 0 ≤ (0 : Int) := (by omega)
                                              have q593 : 0 < (x9_6.length : Int) := of_decide_eq_true (by first | (with_reducible assumption) | assumption)
                                              obtain ⟨ad593, e593, hx593_0⟩ := Kd.at_int (Kd.R_reads' HO_9.out).2.2 0 p593 q593
                                              cases e593
                                              have qi593 : (0 < x9_6.length) = True := eq_true (by omega)
                                              (try rw [show ((0 : Int)).toNat = 0 from rfl] at hx593_0)
                                              (try rw [Addr.add_zero'] at hx593_0)
                                              replace p593 := eq_true p593
                                              replace q593 := eq_true q593
                                              go_wp2_with (first | ((with_reducible refine gate_callee (f := 48) rfl ?_); refine goesL_ (some 74) rfl rfl Tryd.func48 (by kernel_rfl) rfl #[.slice (some ad589) x8_5.length co49, .slice (some ad593) x9_6.length co62] rfl (by (try simp only [List.map_toArray, List.map_cons, List.map_nil]); first | done | rfl | (simp only [List.length_drop, List.length_take]; rfl)) ?_; (with_reducible refine (cashbookref01_less.calls k6 _ _ x8_5 _ _ x9_6 false _ ?side1 ?side2 ?side3 ?side4 A55.out).mono ?_); (case side1 => repeat (first | exact (Kd.R_reads' HO_8.out).2.2 | (with_reducible refine Kd.C_alloc ?_ _) | (with_reducible refine Kd.C_drewN ?_ _) | (with_reducible refine Kd.C_drew ?_))); (case side2 => exact (Kd.R_reads' HO_8.out).2.1); (case side3 => repeat (first | exact (Kd.R_reads' HO_9.out).2.2 | (with_reducible refine Kd.C_alloc ?_ _) | (with_reducible refine Kd.C_drewN ?_ _) | (with_reducible refine Kd.C_drew ?_))); (case side4 => exact (Kd.R_reads' HO_9.out).2.1); rintro e w63 ⟨rfl, hb⟩; refine ⟨_, rfl, ?_⟩; have n0_ := Aside0.mk (Kd.R_below (by (with_reducible repeat (first | apply Kd.R_alloc | apply Kd.R_drewN | apply Kd.R_drew)); exact HO_8.out) hb); have n1_ := Aside0.mk (Kd.R_below (by (with_reducible repeat (first | apply Kd.R_alloc | apply Kd.R_drewN | apply Kd.R_drew)); exact HO_9.out) hb); have n2_ := Aside0.mk (below_step (by repeat (first | (with_reducible first | exact HB.out | apply below_alloc | apply pw_below_drewN | apply below_drew1) | exact HB.out)) hb); clear HO_8; clear HO_9; clear HB; have HO_8 := n0_; have HO_9 := n1_; have HB := n2_; clear n0_ n1_ n2_; (try clear hb); (try clear hb2); (try clear hk); (try clear hi)) | ((with_reducible refine gate_callee (f := 49) rfl ?_); refine goesL_ (some 80) rfl rfl Tryd.func49 (by kernel_rfl) rfl #[.slice (some ad589) x8_5.length co49, .slice (some ad593) x9_6.length co62] rfl (by (try simp only [List.map_toArray, List.map_cons, List.map_nil]); first | done | rfl | (simp only [List.length_drop, List.length_take]; rfl)) ?_; (with_reducible refine (cashbookref01_rest.calls k6 _ _ x8_5 _ _ x9_6 t601 _ ?side1 ?side2 ?side3 ?side4 A61.out).mono ?_); (case side1 => repeat (first | exact (Kd.R_reads' HO_8.out).2.2 | (with_reducible refine Kd.C_alloc ?_ _) | (with_reducible refine Kd.C_drewN ?_ _) | (with_reducible refine Kd.C_drew ?_))); (case side2 => exact (Kd.R_reads' HO_8.out).2.1); (case side3 => repeat (first | exact (Kd.R_reads' HO_9.out).2.2 | (with_reducible refine Kd.C_alloc ?_ _) | (with_reducible refine Kd.C_drewN ?_ _) | (with_reducible refine Kd.C_drew ?_))); (case side4 => exact (Kd.R_reads' HO_9.out).2.1); rintro e w64 ⟨v602, rfl, ho0, hb⟩; refine ⟨_, rfl, ?_⟩; have n0_ := Aside0.mk (Kd.R_elder' (by (with_reducible repeat (first | apply Kd.R_alloc | apply Kd.R_drewN | apply Kd.R_drew)); exact HO_8.out) (Kd.R_base ho0) hb); have n1_ := Aside0.mk (Kd.R_elder' (by (with_reducible repeat (first | apply Kd.R_alloc | apply Kd.R_drewN | apply Kd.R_drew)); exact HO_9.out) (Kd.R_base ho0) hb); have n2_ := Aside0.mk (Kd.R_lower (Kd.R_new' (Kd.R_new' ho0 (Kd.R_lt (by (with_reducible repeat (first | apply Kd.R_alloc | apply Kd.R_drewN | apply Kd.R_drew)); exact HO_8.out))) (Kd.R_lt (by (with_reducible repeat (first | apply Kd.R_alloc | apply Kd.R_drewN | apply Kd.R_drew)); exact HO_9.out))) (below_size (by repeat (first | (with_reducible first | exact HB.out | apply below_alloc | apply pw_below_drewN | apply below_drew1) | exact HB.out)))); have n3_ := Aside0.mk (below_step (by repeat (first | (with_reducible first | exact HB.out | apply below_alloc | apply pw_below_drewN | apply below_drew1) | exact HB.out)) hb); clear HO_8; clear HO_9; clear HB; have HO_8 := n0_; have HO_9 := n1_; have HO603 := n2_; have HB := n3_; clear n0_ n1_ n2_ n3_; (try clear hb); (try clear hb2); (try clear hk); (try clear hi); (try clear ho0)))
                                              go_roundg k6
                                              case measure => have := HJ4.out; have := HK2.out; have := HJ27.out; have := HK4.out; have := HK5.out; have := HK6.out; omega
                                              case rel => exact ⟨(t601), (x9_6), H', ⟨by have := HJ4.out; have := HK2.out; have := HJ27.out; have := HK4.out; have := HK5.out; have := HK6.out; omega⟩, ⟨by (with_reducible repeat (first | apply Kd.R_alloc | apply Kd.R_drewN | apply Kd.R_drew)); exact Kd.R_mono HO603.out (fun _ hk => hk.2)⟩, ⟨by (with_reducible repeat (first | apply Kd.R_alloc | apply Kd.R_drewN | apply Kd.R_drew)); exact Kd.R_mono HO_9.out (fun _ hk => hk.2)⟩, ⟨by repeat (first | (with_reducible first | exact HB.out | apply below_alloc | apply pw_below_drewN | apply below_drew1) | exact HB.out)⟩⟩
                                        · rw [if_neg c50] at H
                                          exact absurd H (by simp)
                                · rw [if_neg c44] at H
                                  exact absurd H (by simp)
                          · rw [if_neg c42] at H
                            have c42b0 : decide (0 < (x8_4.length : Int)) = false := decide_eq_false c42
                            have c42b1 : decide (0 < x8_4.length) = false := decide_eq_false (by omega)
                            clear c42
                            have H' := Aside0.mk H
                            clear H
                            obtain ⟨Ao65, co65, eo65⟩ := Kd.R_slice HO_8.out
                            subst eo65
                            go_wp2
                            go_loopg [9, 12] k4 (fun kq v9 v12 w' => ∃ (x9_5 : List Int) (x12_5 : Int), v12 = .int .i64 x12_5 ∧ Aside0 (cashbookref01_Gcd.l4 kq x9_5 x10_2 x12_5 = some (r1, r2)) ∧ Aside0 (kq ≤ k4) ∧ Aside0 (Kd.R (Kd.int .i64) 3 w' w.heap.size (fun _ => True) v9 x9_5) ∧ Aside0 (Below w.heap.size w w'))
                            case atStart => exact ⟨(x9_4), (0), (by first | rfl | (simp; done) | (simp [*]; done)), H', ⟨Nat.le_refl _⟩, ⟨by (with_reducible repeat (first | apply Kd.R_alloc | apply Kd.R_drewN | apply Kd.R_drew)); exact Kd.R_mono HO_9.out (fun _ hk => trivial)⟩, ⟨by repeat (first | (with_reducible first | exact HB.out | apply below_alloc | apply pw_below_drewN | apply below_drew1) | exact HB.out)⟩⟩
                            case round =>
                              clear H'
                              try clear c1
                              try clear c2
                              try clear p2
                              try clear c3
                              try clear c4
                              try clear c5
                              try clear p5
                              try clear q5
                              try clear hx5
                              try clear qi5
                              try clear c6
                              try clear p6
                              try clear c7
                              try clear c10
                              try clear c10b0
                              try clear c10b1
                              try clear c10b2
                              try clear c17
                              try clear c17b0
                              try clear c17b1
                              try clear c17b2
                              try clear c25
                              try clear c29
                              try clear c29b0
                              try clear c29b1
                              try clear c30
                              try clear c30b0
                              try clear c30b1
                              try clear c31
                              try clear c31b0
                              try clear c31b1
                              try clear c35
                              try clear c37
                              try clear c42
                              try clear c42b0
                              try clear c42b1
                              try clear c44
                              try clear c44b0
                              try clear c44b1
                              try clear c45
                              try clear c45b0
                              try clear c45b1
                              try clear c48
                              try clear c49
                              try clear c50
                              try clear c50b0
                              try clear c50b1
                              try clear c51
                              try clear c51b0
                              try clear c51b1
                              try clear c54
                              try clear c56
                              try clear p58
                              try clear q58
                              try clear hx58
                              try clear qi58
                              try clear p59
                              try clear q59
                              try clear hx59
                              try clear qi59
                              try clear p64
                              try clear hx581_0
                              try clear hx582_0
                              try clear hx589_0
                              try clear hx593_0
                              try clear p2
                              try clear p5
                              try clear p581
                              try clear p582
                              try clear p589
                              try clear p593
                              try clear p6
                              try clear q5
                              try clear q581
                              try clear q582
                              try clear q589
                              try clear q593
                              obtain ⟨x9_5, x12_5, rfl, HA, HK5, HO_9, HB⟩ := hrel
                              cases gk with
                              | zero => exact absurd HA.out (by simp [cashbookref01_Gcd.l4])
                              | succ k5 =>
                                have H := HA.out
                                clear HA
                                simp only [cashbookref01_Gcd.l4] at H
                                by_cases c66 : x12_5 < x10_2
                                · rw [if_pos c66] at H
                                  have c66b0 : decide (x12_5 < x10_2) = true := decide_eq_true c66
                                  clear c66
                                  replace H := Option.bind_eq_some_iff.mp H
                                  obtain ⟨t604, A670, H⟩ := H
                                  replace H : (cashbookref01_Gcd.l4 k5 t604 x10_2 (wrap64 (x12_5 + 1))) = some (r1, r2) := H
                                  have A67 := Aside0.mk A670
                                  clear A670
                                  have H' := Aside0.mk H
                                  clear H
                                  obtain ⟨Ao68, co68, eo68⟩ := Kd.R_slice HO_9.out
                                  subst eo68
                                  go_wp2_with (first | ((with_reducible refine gate_callee (f := 44) rfl ?_); refine goesL_ (some 88) rfl rfl Tryd.func44 (by kernel_rfl) rfl #[.slice Ao68 x9_5.length co68, .slice Ao68 x9_5.length co68] rfl (by (try simp only [List.map_toArray, List.map_cons, List.map_nil]); first | done | rfl | (simp only [List.length_drop, List.length_take]; rfl)) ?_; (with_reducible refine (cashbookref01_sum.calls k5 _ _ x9_5 _ _ x9_5 t604 _ ?side1 ?side2 ?side3 ?side4 A67.out).mono ?_); (case side1 => repeat (first | exact (Kd.R_reads' HO_9.out).2.2 | (with_reducible refine Kd.C_alloc ?_ _) | (with_reducible refine Kd.C_drewN ?_ _) | (with_reducible refine Kd.C_drew ?_))); (case side2 => exact (Kd.R_reads' HO_9.out).2.1); (case side3 => repeat (first | exact (Kd.R_reads' HO_9.out).2.2 | (with_reducible refine Kd.C_alloc ?_ _) | (with_reducible refine Kd.C_drewN ?_ _) | (with_reducible refine Kd.C_drew ?_))); (case side4 => exact (Kd.R_reads' HO_9.out).2.1); rintro e w69 ⟨v605, rfl, ho0, hb⟩; refine ⟨_, rfl, ?_⟩; have n0_ := Aside0.mk (Kd.R_elder' (by (with_reducible repeat (first | apply Kd.R_alloc | apply Kd.R_drewN | apply Kd.R_drew)); exact HO_9.out) (Kd.R_base ho0) hb); have n1_ := Aside0.mk (Kd.R_lower (Kd.R_new' ho0 (Kd.R_lt (by (with_reducible repeat (first | apply Kd.R_alloc | apply Kd.R_drewN | apply Kd.R_drew)); exact HO_9.out))) (below_size (by repeat (first | (with_reducible first | exact HB.out | apply below_alloc | apply pw_below_drewN | apply below_drew1) | exact HB.out)))); have n2_ := Aside0.mk (below_step (by repeat (first | (with_reducible first | exact HB.out | apply below_alloc | apply pw_below_drewN | apply below_drew1) | exact HB.out)) hb); clear HO_9; clear HB; have HO_9 := n0_; have HO606 := n1_; have HB := n2_; clear n0_ n1_ n2_; (try clear hb); (try clear hb2); (try clear hk); (try clear hi); (try clear ho0)))
                                  go_roundg k5
                                  case measure => have := HJ4.out; have := HK2.out; have := HJ27.out; have := HK4.out; have := HK5.out; omega
                                  case rel => exact ⟨(t604), (wrap64 (x12_5 + 1)), (by first | rfl | (simp; done) | (simp [*]; done)), H', ⟨by have := HJ4.out; have := HK2.out; have := HJ27.out; have := HK4.out; have := HK5.out; omega⟩, ⟨by (with_reducible repeat (first | apply Kd.R_alloc | apply Kd.R_drewN | apply Kd.R_drew)); exact Kd.R_mono HO606.out (fun _ hk => trivial)⟩, ⟨by repeat (first | (with_reducible first | exact HB.out | apply below_alloc | apply pw_below_drewN | apply below_drew1) | exact HB.out)⟩⟩
                                · rw [if_neg c66] at H
                                  have c66b0 : decide (x12_5 < x10_2) = false := decide_eq_false c66
                                  clear c66
                                  replace H := Option.bind_eq_some_iff.mp H
                                  obtain ⟨t607, A700, H⟩ := H
                                  replace H : (some (t607, 0)) = some (r1, r2) := H
                                  have A70 := Aside0.mk A700
                                  clear A700
                                  simp only [Option.some.injEq, Prod.mk.injEq] at H
                                  obtain ⟨rfl, rfl⟩ := H
                                  obtain ⟨Ao71, co71, eo71⟩ := Kd.R_slice HO_9.out
                                  subst eo71
                                  go_wp2_with (first | ((with_reducible refine gate_callee (f := 54) rfl ?_); refine goesL_ (some 90) rfl rfl Tryd.func54 (by kernel_rfl) rfl #[.slice Ao71 x9_5.length co71] rfl (by (try simp only [List.map_toArray, List.map_cons, List.map_nil]); first | done | rfl | (simp only [List.length_drop, List.length_take]; rfl)) ?_; (with_reducible refine (cashbookref01_nat.calls k5 _ _ x9_5 t607 _ ?side1 ?side2 A70.out).mono ?_); (case side1 => repeat (first | exact (Kd.R_reads' HO_9.out).2.2 | (with_reducible refine Kd.C_alloc ?_ _) | (with_reducible refine Kd.C_drewN ?_ _) | (with_reducible refine Kd.C_drew ?_))); (case side2 => exact (Kd.R_reads' HO_9.out).2.1); rintro e w72 ⟨v608, rfl, ho0, hb⟩; refine ⟨_, rfl, ?_⟩; have n0_ := Aside0.mk (Kd.R_below (by (with_reducible repeat (first | apply Kd.R_alloc | apply Kd.R_drewN | apply Kd.R_drew)); exact HO_9.out) hb); have n1_ := Aside0.mk (Kd.R_lower ho0 (below_size (by repeat (first | (with_reducible first | exact HB.out | apply below_alloc | apply pw_below_drewN | apply below_drew1) | exact HB.out)))); have n2_ := Aside0.mk (below_step (by repeat (first | (with_reducible first | exact HB.out | apply below_alloc | apply pw_below_drewN | apply below_drew1) | exact HB.out)) hb); clear HO_9; clear HB; have HO_9 := n0_; have HO609 := n1_; have HB := n2_; clear n0_ n1_ n2_; (try clear hb); (try clear hb2); (try clear hk); (try clear hi); (try clear ho0)))
                                  go_ret2
                                  exact ⟨_, by first | rfl | (simp [errW_none, errW_some] <;> rfl) | (simp [*, errW_none, errW_some] <;> rfl), by (with_reducible repeat (first | apply Kd.R_alloc | apply Kd.R_drewN | apply Kd.R_drew)); exact HO609.out, by repeat (first | (with_reducible first | exact HB.out | apply below_alloc | apply pw_below_drewN | apply below_drew1) | exact HB.out)⟩

/-! ### cashbooklaw01_NatCommon: function 6 -/
def cashbooklaw01_NatCommon.j0 : Nat → List Int → List Int → Bool → Option (Bool)
  | 0, _, _, _ => none
  | k + 1, x0, x1, x17 => if x17 = true then ((cashbooklaw01_alive.f k).bind fun t612 => (some t612)) else ((nat_Gcd.f k x0 x1).bind fun bt613 => ((cashbookref01_Gcd.f k x0 x1).bind fun bt617 => ((cashbookref01_Same.f k bt613.1 bt617.1).bind fun t621 => ((cashbooklaw01_alive.f k).bind fun t622 => (if t622 = true then (if t621 = true then (some (bt613.2 == bt617.2)) else (some false)) else (some false))))))
def cashbooklaw01_NatCommon.f (k : Nat) (l0 : List Int) (l1 : List Int) : Option (Bool) := (cashbooklaw01_short.f l0 10).bind fun t610 => (if t610 = true then ((cashbooklaw01_short.f l1 10).bind fun t611 => (cashbooklaw01_NatCommon.j0 k l0 l1 (!t611))) else (cashbooklaw01_NatCommon.j0 k l0 l1 true))
theorem cashbooklaw01_NatCommon.mono_l : ∀ k, (∀ y0 y1 y2, LeO (cashbooklaw01_NatCommon.j0 k y0 y1 y2) (cashbooklaw01_NatCommon.j0 (k + 1) y0 y1 y2))
  | 0 => fun _ _ _ r h => by simp [cashbooklaw01_NatCommon.j0] at h
  | k + 1 => by
    have ih0 := cashbooklaw01_NatCommon.mono_l k
    · intro y0 y1 y2
      unfold cashbooklaw01_NatCommon.j0
      repeat' first
      | (with_reducible exact ih0 _ _ _)
      | (with_reducible exact cashbooklaw01_alive.mono _)
      | (with_reducible exact cashbookref01_Gcd.mono _ _ _)
      | (with_reducible exact cashbookref01_Same.mono _ _ _)
      | (with_reducible exact nat_Gcd.mono _ _ _)
      | (with_reducible exact LeO.refl _)
      | (with_reducible exact LeO.none _)
      | (with_reducible refine LeO.ite ?_ ?_)
      | (with_reducible refine LeO.bind ?_ (fun _ => ?_))
      | exact ih0 _ _ _
      | exact cashbooklaw01_alive.mono _
      | exact cashbookref01_Gcd.mono _ _ _
      | exact cashbookref01_Same.mono _ _ _
      | exact nat_Gcd.mono _ _ _
      | exact LeO.none _
      | refine LeO.ite ?_ ?_
      | refine LeO.bind ?_ (fun _ => ?_)
theorem cashbooklaw01_NatCommon.mono : ∀ a0 a1 k, LeO (cashbooklaw01_NatCommon.f k a0 a1) (cashbooklaw01_NatCommon.f (k + 1) a0 a1) := by
  intro a0 a1 k
  have ih0 := cashbooklaw01_NatCommon.mono_l k
  unfold cashbooklaw01_NatCommon.f
  repeat' first
      | (with_reducible exact ih0 _ _ _)
      | (with_reducible exact cashbooklaw01_alive.mono _)
      | (with_reducible exact cashbookref01_Gcd.mono _ _ _)
      | (with_reducible exact cashbookref01_Same.mono _ _ _)
      | (with_reducible exact nat_Gcd.mono _ _ _)
      | (with_reducible exact LeO.refl _)
      | (with_reducible exact LeO.none _)
      | (with_reducible refine LeO.ite ?_ ?_)
      | (with_reducible refine LeO.bind ?_ (fun _ => ?_))
      | exact ih0 _ _ _
      | exact cashbooklaw01_alive.mono _
      | exact cashbookref01_Gcd.mono _ _ _
      | exact cashbookref01_Same.mono _ _ _
      | exact nat_Gcd.mono _ _ _
      | exact LeO.none _
      | refine LeO.ite ?_ ?_
      | refine LeO.bind ?_ (fun _ => ?_)
set_option maxHeartbeats 8000000 in
set_option maxRecDepth 100000 in
theorem cashbooklaw01_NatCommon.calls (k : Nat) (A0 : Option Addr) (c0 : Nat) (l0 : List Int) (A1 : Option Addr) (c1 : Nat) (l1 : List Int) (r : Bool) (w : World) (hT : TabOK w) (hr0 : Kd.C (Kd.int .u32) w A0 l0.length l0) (hc0 : l0.length ≤ c0) (hr1 : Kd.C (Kd.int .u32) w A1 l1.length l1) (hc1 : l1.length ≤ c1) (h : cashbooklaw01_NatCommon.f k l0 l1 = some r) :
    Calls Tryd.prog 6 #[.slice A0 l0.length c0, .slice A1 l1.length c1] w fun e w' => e = .returned (.bool r) ∧ Below w.heap.size w w' := by
  have HT := Aside0.mk hT
  clear hT
  have HR0 := Aside0.mk hr0
  have HC0 := Aside0.mk hc0
  clear hr0 hc0
  have HR1 := Aside0.mk hr1
  have HC1 := Aside0.mk hc1
  clear hr1 hc1
  have HB := Aside0.mk (Below.refl w.heap.size w)
  have H : ((cashbooklaw01_short.f l0 10).bind fun t610 => (if t610 = true then ((cashbooklaw01_short.f l1 10).bind fun t611 => (cashbooklaw01_NatCommon.j0 k l0 l1 (!t611))) else (cashbooklaw01_NatCommon.j0 k l0 l1 true))) = some r := h
  clear h
  have HC3 := Aside0.mk H
  clear H
  go_enter Tryd.func6, Tryd.ntmps6
  go_upto_region 1 with (fail)
  go_cut [17] (fun v17 wc => ∃ (kq : Nat) (x17_2 : Bool), v17 = .bool x17_2 ∧ Aside0 (cashbooklaw01_NatCommon.j0 kq l0 l1 x17_2 = some r) ∧ Aside0 (kq ≤ k) ∧ Aside0 (Below w.heap.size w wc))
  case first =>
    have H := HC3.out
    clear HC3
    replace H := Option.bind_eq_some_iff.mp H
    obtain ⟨t610, A40, H⟩ := H
    replace H : (if t610 = true then ((cashbooklaw01_short.f l1 10).bind fun t611 => (cashbooklaw01_NatCommon.j0 k l0 l1 (!t611))) else (cashbooklaw01_NatCommon.j0 k l0 l1 true)) = some r := H
    have A4 := Aside0.mk A40
    clear A40
    by_cases c5 : t610 = true
    · subst c5
      have H1 : ((cashbooklaw01_short.f l1 10).bind fun t611 => (cashbooklaw01_NatCommon.j0 k l0 l1 (!t611))) = some r := by rw [if_pos rfl] at H; exact H
      clear H
      have H := H1
      clear H1
      replace H := Option.bind_eq_some_iff.mp H
      obtain ⟨t611, A60, H⟩ := H
      replace H : (cashbooklaw01_NatCommon.j0 k l0 l1 (!t611)) = some r := H
      have A6 := Aside0.mk A60
      clear A60
      have H' := Aside0.mk H
      clear H
      go_wp2_with (first | ((with_reducible refine gate_callee (f := 13) rfl ?_); refine goesL_ (some 11) rfl rfl Tryd.func13 (by kernel_rfl) rfl #[.slice A0 l0.length c0, .int .i64 10] rfl (by (try simp only [List.map_toArray, List.map_cons, List.map_nil]); first | done | rfl | (simp only [List.length_drop, List.length_take]; rfl)) ?_; (with_reducible refine (cashbooklaw01_short.calls _ _ l0 10 true _ ?side1 ?side2 A4.out).mono ?_); (case side1 => repeat (first | exact (Kd.C_below HR0.out HB.out) | (with_reducible refine Kd.C_alloc ?_ _) | (with_reducible refine Kd.C_drewN ?_ _) | (with_reducible refine Kd.C_drew ?_))); (case side2 => exact HC0.out); rintro e w' ⟨rfl, ⟨nd, rfl⟩⟩; refine ⟨_, rfl, ?_⟩) | (go_at_call 13; (with_reducible refine (cashbooklaw01_short.calls _ _ l1 10 t611 _ ?side1 ?side2 A6.out).mono ?_); (case side1 => repeat (first | exact (Kd.C_below HR1.out (by repeat (first | (with_reducible first | exact HB.out | apply below_alloc | apply pw_below_drewN | apply below_drew1) | exact HB.out))) | (with_reducible refine Kd.C_alloc ?_ _) | (with_reducible refine Kd.C_drewN ?_ _) | (with_reducible refine Kd.C_drew ?_))); (case side2 => exact HC1.out); rintro e w' ⟨rfl, ⟨nd, rfl⟩⟩))
      go_meet
      case rel => exact ⟨_, (!t611), (by first | rfl | (simp; done) | (simp [*]; done)), H', ⟨by first | omega | exact Nat.le_refl _⟩, ⟨by repeat (first | (with_reducible first | exact HB.out | apply below_alloc | apply pw_below_drewN | apply below_drew1) | exact HB.out)⟩⟩
    · replace c5 := Bool.eq_false_iff.mpr c5
      subst c5
      have H1 : (cashbooklaw01_NatCommon.j0 k l0 l1 true) = some r := by rw [if_neg (show ¬ (false = true) by decide)] at H; exact H
      clear H
      have H := H1
      clear H1
      have H' := Aside0.mk H
      clear H
      go_wp2_with (first | ((with_reducible refine gate_callee (f := 13) rfl ?_); refine goesL_ (some 11) rfl rfl Tryd.func13 (by kernel_rfl) rfl #[.slice A0 l0.length c0, .int .i64 10] rfl (by (try simp only [List.map_toArray, List.map_cons, List.map_nil]); first | done | rfl | (simp only [List.length_drop, List.length_take]; rfl)) ?_; (with_reducible refine (cashbooklaw01_short.calls _ _ l0 10 false _ ?side1 ?side2 A4.out).mono ?_); (case side1 => repeat (first | exact (Kd.C_below HR0.out HB.out) | (with_reducible refine Kd.C_alloc ?_ _) | (with_reducible refine Kd.C_drewN ?_ _) | (with_reducible refine Kd.C_drew ?_))); (case side2 => exact HC0.out); rintro e w' ⟨rfl, ⟨nd, rfl⟩⟩; refine ⟨_, rfl, ?_⟩))
      go_meet
      case rel => exact ⟨_, (true), (by first | rfl | (simp; done) | (simp [*]; done)), H', ⟨by first | omega | exact Nat.le_refl _⟩, ⟨by repeat (first | (with_reducible first | exact HB.out | apply below_alloc | apply pw_below_drewN | apply below_drew1) | exact HB.out)⟩⟩
  case rest =>
    clear HC3
    try clear c1
    try clear p2
    try clear c5
    try clear c6
    obtain ⟨kq, x17_2, rfl, HA, HJ2, HB⟩ := hcut
    cases kq with
    | zero => exact absurd HA.out (by simp [cashbooklaw01_NatCommon.j0])
    | succ kj2 =>
      have H := HA.out
      clear HA
      simp only [cashbooklaw01_NatCommon.j0] at H
      by_cases c7 : x17_2 = true
      · subst c7
        have H1 : ((cashbooklaw01_alive.f kj2).bind fun t612 => (some t612)) = some r := by rw [if_pos rfl] at H; exact H
        clear H
        have H := H1
        clear H1
        replace H := Option.bind_eq_some_iff.mp H
        obtain ⟨t612, A80, H⟩ := H
        replace H : (some t612) = some r := H
        have A8 := Aside0.mk A80
        clear A80
        obtain rfl := Option.some.inj H
        go_wp2_with (first | ((with_reducible refine gate_callee (f := 14) rfl ?_); refine goesL_ (some 18) rfl rfl Tryd.func14 (by kernel_rfl) rfl #[] rfl (by (try simp only [List.map_toArray, List.map_cons, List.map_nil]); first | done | rfl | (simp only [List.length_drop, List.length_take]; rfl)) ?_; (with_reducible refine (cashbooklaw01_alive.calls kj2  t612 _ ?side1 A8.out).mono ?_); (case side1 => exact TabOK.below HT.out (by repeat (first | (with_reducible first | exact HB.out | apply below_alloc | apply pw_below_drewN | apply below_drew1) | exact HB.out))); rintro e w9 ⟨rfl, hb⟩; refine ⟨_, rfl, ?_⟩; have n0_ := Aside0.mk (below_step (by repeat (first | (with_reducible first | exact HB.out | apply below_alloc | apply pw_below_drewN | apply below_drew1) | exact HB.out)) hb); clear HB; have HB := n0_; clear n0_; (try clear hb); (try clear hb2); (try clear hk); (try clear hi)))
        go_ret
        exact ⟨by first | rfl | (simp [errW_none, errW_some] <;> rfl) | (simp [*, errW_none, errW_some] <;> rfl), by repeat (first | (with_reducible first | exact HB.out | apply below_alloc | apply pw_below_drewN | apply below_drew1) | exact HB.out)⟩
      · replace c7 := Bool.eq_false_iff.mpr c7
        subst c7
        have H1 : ((nat_Gcd.f kj2 l0 l1).bind fun bt613 => ((cashbookref01_Gcd.f kj2 l0 l1).bind fun bt617 => ((cashbookref01_Same.f kj2 bt613.1 bt617.1).bind fun t621 => ((cashbooklaw01_alive.f kj2).bind fun t622 => (if t622 = true then (if t621 = true then (some (bt613.2 == bt617.2)) else (some false)) else (some false)))))) = some r := by rw [if_neg (show ¬ (false = true) by decide)] at H; exact H
        clear H
        have H := H1
        clear H1
        replace H := Option.bind_eq_some_iff.mp H
        obtain ⟨⟨t613, t616⟩, A100, H⟩ := H
        replace H : ((cashbookref01_Gcd.f kj2 l0 l1).bind fun bt617 => ((cashbookref01_Same.f kj2 t613 bt617.1).bind fun t621 => ((cashbooklaw01_alive.f kj2).bind fun t622 => (if t622 = true then (if t621 = true then (some (t616 == bt617.2)) else (some false)) else (some false))))) = some r := H
        have A10 := Aside0.mk A100
        clear A100
        replace H := Option.bind_eq_some_iff.mp H
        obtain ⟨⟨t617, t618⟩, A110, H⟩ := H
        replace H : ((cashbookref01_Same.f kj2 t613 t617).bind fun t621 => ((cashbooklaw01_alive.f kj2).bind fun t622 => (if t622 = true then (if t621 = true then (some (t616 == t618)) else (some false)) else (some false)))) = some r := H
        have A11 := Aside0.mk A110
        clear A110
        replace H := Option.bind_eq_some_iff.mp H
        obtain ⟨t621, A120, H⟩ := H
        replace H : ((cashbooklaw01_alive.f kj2).bind fun t622 => (if t622 = true then (if t621 = true then (some (t616 == t618)) else (some false)) else (some false))) = some r := H
        have A12 := Aside0.mk A120
        clear A120
        replace H := Option.bind_eq_some_iff.mp H
        obtain ⟨t622, A130, H⟩ := H
        replace H : (if t622 = true then (if t621 = true then (some (t616 == t618)) else (some false)) else (some false)) = some r := H
        have A13 := Aside0.mk A130
        clear A130
        by_cases c14 : t622 = true
        · subst c14
          have H1 : (if t621 = true then (some (t616 == t618)) else (some false)) = some r := by rw [if_pos rfl] at H; exact H
          clear H
          have H := H1
          clear H1
          by_cases c15 : t621 = true
          · subst c15
            have H1 : (some (t616 == t618)) = some r := by rw [if_pos rfl] at H; exact H
            clear H
            have H := H1
            clear H1
            obtain rfl := Option.some.inj H
            go_wp2_with (first | ((with_reducible refine gate_callee (f := 24) rfl ?_); refine goesL_ (some 22) rfl rfl Tryd.func24 (by kernel_rfl) rfl #[.slice A0 l0.length c0, .slice A1 l1.length c1] rfl (by (try simp only [List.map_toArray, List.map_cons, List.map_nil]); first | done | rfl | (simp only [List.length_drop, List.length_take]; rfl)) ?_; (with_reducible refine (nat_Gcd.calls kj2 (fun k_ => k_ < w.heap.size) _ _ l0 (fun k_ => k_ < w.heap.size) _ _ l1 t613 t616 _ ?side1 ?side2 A10.out).mono ?_); (case side1 => exact Kd.V_mk HC0.out (Kd.F_below (Kd.C_F (Kd.heap_int .u32) HR0.out) (by repeat (first | (with_reducible first | exact HB.out | apply below_alloc | apply pw_below_drewN | apply below_drew1) | exact HB.out)))); (case side2 => exact Kd.V_mk HC1.out (Kd.F_below (Kd.C_F (Kd.heap_int .u32) HR1.out) (by repeat (first | (with_reducible first | exact HB.out | apply below_alloc | apply pw_below_drewN | apply below_drew1) | exact HB.out)))); rintro e w16 ⟨v614, rfl, ho0, hb⟩; refine ⟨_, rfl, ?_⟩; have n0_ := Aside0.mk (Kd.R_lower (Kd.R_mono (ok' := fun k_ => True) ho0 (fun _ hk_ => trivial)) (below_size (by repeat (first | (with_reducible first | exact HB.out | apply below_alloc | apply pw_below_drewN | apply below_drew1) | exact HB.out)))); have n1_ := Aside0.mk (below_step (by repeat (first | (with_reducible first | exact HB.out | apply below_alloc | apply pw_below_drewN | apply below_drew1) | exact HB.out)) hb); clear HB; have HO615 := n0_; have HB := n1_; clear n0_ n1_; (try clear hb); (try clear hb2); (try clear hk); (try clear hi); (try clear ho0)) | ((with_reducible refine gate_callee (f := 25) rfl ?_); refine goesL_ (some 28) rfl rfl Tryd.func25 (by kernel_rfl) rfl #[.slice A0 l0.length c0, .slice A1 l1.length c1] rfl (by (try simp only [List.map_toArray, List.map_cons, List.map_nil]); first | done | rfl | (simp only [List.length_drop, List.length_take]; rfl)) ?_; (with_reducible refine (cashbookref01_Gcd.calls kj2 _ _ l0 _ _ l1 t617 t618 _ ?side1 ?side2 ?side3 ?side4 A11.out).mono ?_); (case side1 => repeat (first | exact (Kd.C_below HR0.out HB.out) | (with_reducible refine Kd.C_alloc ?_ _) | (with_reducible refine Kd.C_drewN ?_ _) | (with_reducible refine Kd.C_drew ?_))); (case side2 => exact HC0.out); (case side3 => repeat (first | exact (Kd.C_below HR1.out HB.out) | (with_reducible refine Kd.C_alloc ?_ _) | (with_reducible refine Kd.C_drewN ?_ _) | (with_reducible refine Kd.C_drew ?_))); (case side4 => exact HC1.out); rintro e w17 ⟨v619, rfl, ho0, hb⟩; refine ⟨_, rfl, ?_⟩; have n0_ := Aside0.mk (Kd.R_elder' (by (with_reducible repeat (first | apply Kd.R_alloc | apply Kd.R_drewN | apply Kd.R_drew)); exact HO615.out) (Kd.R_base ho0) hb); have n1_ := Aside0.mk (Kd.R_lower (Kd.R_new' ho0 (Kd.R_lt (by (with_reducible repeat (first | apply Kd.R_alloc | apply Kd.R_drewN | apply Kd.R_drew)); exact HO615.out))) (below_size (by repeat (first | (with_reducible first | exact HB.out | apply below_alloc | apply pw_below_drewN | apply below_drew1) | exact HB.out)))); have n2_ := Aside0.mk (below_step (by repeat (first | (with_reducible first | exact HB.out | apply below_alloc | apply pw_below_drewN | apply below_drew1) | exact HB.out)) hb); clear HO615; clear HB; have HO615 := n0_; have HO620 := n1_; have HB := n2_; clear n0_ n1_ n2_; (try clear hb); (try clear hb2); (try clear hk); (try clear hi); (try clear ho0); obtain ⟨Ao18, co18, eo18⟩ := Kd.R_slice HO615.out; subst eo18; obtain ⟨Ao19, co19, eo19⟩ := Kd.R_slice HO620.out; subst eo19) | ((with_reducible refine gate_callee (f := 19) rfl ?_); refine goesL_ (some 33) rfl rfl Tryd.func19 (by kernel_rfl) rfl #[.slice Ao18 t613.length co18, .slice Ao19 t617.length co19] rfl (by (try simp only [List.map_toArray, List.map_cons, List.map_nil]); first | done | rfl | (simp only [List.length_drop, List.length_take]; rfl)) ?_; (with_reducible refine (cashbookref01_Same.calls kj2 _ _ t613 _ _ t617 true _ ?side1 ?side2 ?side3 ?side4 A12.out).mono ?_); (case side1 => repeat (first | exact (Kd.R_reads' HO615.out).2.2 | (with_reducible refine Kd.C_alloc ?_ _) | (with_reducible refine Kd.C_drewN ?_ _) | (with_reducible refine Kd.C_drew ?_))); (case side2 => exact (Kd.R_reads' HO615.out).2.1); (case side3 => repeat (first | exact (Kd.R_reads' HO620.out).2.2 | (with_reducible refine Kd.C_alloc ?_ _) | (with_reducible refine Kd.C_drewN ?_ _) | (with_reducible refine Kd.C_drew ?_))); (case side4 => exact (Kd.R_reads' HO620.out).2.1); rintro e w' ⟨rfl, ⟨nd, rfl⟩⟩; refine ⟨_, rfl, ?_⟩) | ((with_reducible refine gate_callee (f := 14) rfl ?_); refine goesL_ (some 34) rfl rfl Tryd.func14 (by kernel_rfl) rfl #[] rfl (by (try simp only [List.map_toArray, List.map_cons, List.map_nil]); first | done | rfl | (simp only [List.length_drop, List.length_take]; rfl)) ?_; (with_reducible refine (cashbooklaw01_alive.calls kj2  true _ ?side1 A13.out).mono ?_); (case side1 => exact TabOK.below HT.out (by repeat (first | (with_reducible first | exact HB.out | apply below_alloc | apply pw_below_drewN | apply below_drew1) | exact HB.out))); rintro e w20 ⟨rfl, hb⟩; refine ⟨_, rfl, ?_⟩; have n0_ := Aside0.mk (Kd.R_below (by (with_reducible repeat (first | apply Kd.R_alloc | apply Kd.R_drewN | apply Kd.R_drew)); exact HO615.out) hb); have n1_ := Aside0.mk (Kd.R_below (by (with_reducible repeat (first | apply Kd.R_alloc | apply Kd.R_drewN | apply Kd.R_drew)); exact HO620.out) hb); have n2_ := Aside0.mk (below_step (by repeat (first | (with_reducible first | exact HB.out | apply below_alloc | apply pw_below_drewN | apply below_drew1) | exact HB.out)) hb); clear HO615; clear HO620; clear HB; have HO615 := n0_; have HO620 := n1_; have HB := n2_; clear n0_ n1_ n2_; (try clear hb); (try clear hb2); (try clear hk); (try clear hi)))
            go_ret
            exact ⟨by first | rfl | (simp [errW_none, errW_some] <;> rfl) | (simp [*, errW_none, errW_some] <;> rfl), by repeat (first | (with_reducible first | exact HB.out | apply below_alloc | apply pw_below_drewN | apply below_drew1) | exact HB.out)⟩
          · replace c15 := Bool.eq_false_iff.mpr c15
            subst c15
            have H1 : (some false) = some r := by rw [if_neg (show ¬ (false = true) by decide)] at H; exact H
            clear H
            have H := H1
            clear H1
            obtain rfl := Option.some.inj H
            go_wp2_with (first | ((with_reducible refine gate_callee (f := 24) rfl ?_); refine goesL_ (some 22) rfl rfl Tryd.func24 (by kernel_rfl) rfl #[.slice A0 l0.length c0, .slice A1 l1.length c1] rfl (by (try simp only [List.map_toArray, List.map_cons, List.map_nil]); first | done | rfl | (simp only [List.length_drop, List.length_take]; rfl)) ?_; (with_reducible refine (nat_Gcd.calls kj2 (fun k_ => k_ < w.heap.size) _ _ l0 (fun k_ => k_ < w.heap.size) _ _ l1 t613 t616 _ ?side1 ?side2 A10.out).mono ?_); (case side1 => exact Kd.V_mk HC0.out (Kd.F_below (Kd.C_F (Kd.heap_int .u32) HR0.out) (by repeat (first | (with_reducible first | exact HB.out | apply below_alloc | apply pw_below_drewN | apply below_drew1) | exact HB.out)))); (case side2 => exact Kd.V_mk HC1.out (Kd.F_below (Kd.C_F (Kd.heap_int .u32) HR1.out) (by repeat (first | (with_reducible first | exact HB.out | apply below_alloc | apply pw_below_drewN | apply below_drew1) | exact HB.out)))); rintro e w21 ⟨v614, rfl, ho0, hb⟩; refine ⟨_, rfl, ?_⟩; have n0_ := Aside0.mk (Kd.R_lower (Kd.R_mono (ok' := fun k_ => True) ho0 (fun _ hk_ => trivial)) (below_size (by repeat (first | (with_reducible first | exact HB.out | apply below_alloc | apply pw_below_drewN | apply below_drew1) | exact HB.out)))); have n1_ := Aside0.mk (below_step (by repeat (first | (with_reducible first | exact HB.out | apply below_alloc | apply pw_below_drewN | apply below_drew1) | exact HB.out)) hb); clear HB; have HO615 := n0_; have HB := n1_; clear n0_ n1_; (try clear hb); (try clear hb2); (try clear hk); (try clear hi); (try clear ho0)) | ((with_reducible refine gate_callee (f := 25) rfl ?_); refine goesL_ (some 28) rfl rfl Tryd.func25 (by kernel_rfl) rfl #[.slice A0 l0.length c0, .slice A1 l1.length c1] rfl (by (try simp only [List.map_toArray, List.map_cons, List.map_nil]); first | done | rfl | (simp only [List.length_drop, List.length_take]; rfl)) ?_; (with_reducible refine (cashbookref01_Gcd.calls kj2 _ _ l0 _ _ l1 t617 t618 _ ?side1 ?side2 ?side3 ?side4 A11.out).mono ?_); (case side1 => repeat (first | exact (Kd.C_below HR0.out HB.out) | (with_reducible refine Kd.C_alloc ?_ _) | (with_reducible refine Kd.C_drewN ?_ _) | (with_reducible refine Kd.C_drew ?_))); (case side2 => exact HC0.out); (case side3 => repeat (first | exact (Kd.C_below HR1.out HB.out) | (with_reducible refine Kd.C_alloc ?_ _) | (with_reducible refine Kd.C_drewN ?_ _) | (with_reducible refine Kd.C_drew ?_))); (case side4 => exact HC1.out); rintro e w22 ⟨v619, rfl, ho0, hb⟩; refine ⟨_, rfl, ?_⟩; have n0_ := Aside0.mk (Kd.R_elder' (by (with_reducible repeat (first | apply Kd.R_alloc | apply Kd.R_drewN | apply Kd.R_drew)); exact HO615.out) (Kd.R_base ho0) hb); have n1_ := Aside0.mk (Kd.R_lower (Kd.R_new' ho0 (Kd.R_lt (by (with_reducible repeat (first | apply Kd.R_alloc | apply Kd.R_drewN | apply Kd.R_drew)); exact HO615.out))) (below_size (by repeat (first | (with_reducible first | exact HB.out | apply below_alloc | apply pw_below_drewN | apply below_drew1) | exact HB.out)))); have n2_ := Aside0.mk (below_step (by repeat (first | (with_reducible first | exact HB.out | apply below_alloc | apply pw_below_drewN | apply below_drew1) | exact HB.out)) hb); clear HO615; clear HB; have HO615 := n0_; have HO620 := n1_; have HB := n2_; clear n0_ n1_ n2_; (try clear hb); (try clear hb2); (try clear hk); (try clear hi); (try clear ho0); obtain ⟨Ao23, co23, eo23⟩ := Kd.R_slice HO615.out; subst eo23; obtain ⟨Ao24, co24, eo24⟩ := Kd.R_slice HO620.out; subst eo24) | ((with_reducible refine gate_callee (f := 19) rfl ?_); refine goesL_ (some 33) rfl rfl Tryd.func19 (by kernel_rfl) rfl #[.slice Ao23 t613.length co23, .slice Ao24 t617.length co24] rfl (by (try simp only [List.map_toArray, List.map_cons, List.map_nil]); first | done | rfl | (simp only [List.length_drop, List.length_take]; rfl)) ?_; (with_reducible refine (cashbookref01_Same.calls kj2 _ _ t613 _ _ t617 false _ ?side1 ?side2 ?side3 ?side4 A12.out).mono ?_); (case side1 => repeat (first | exact (Kd.R_reads' HO615.out).2.2 | (with_reducible refine Kd.C_alloc ?_ _) | (with_reducible refine Kd.C_drewN ?_ _) | (with_reducible refine Kd.C_drew ?_))); (case side2 => exact (Kd.R_reads' HO615.out).2.1); (case side3 => repeat (first | exact (Kd.R_reads' HO620.out).2.2 | (with_reducible refine Kd.C_alloc ?_ _) | (with_reducible refine Kd.C_drewN ?_ _) | (with_reducible refine Kd.C_drew ?_))); (case side4 => exact (Kd.R_reads' HO620.out).2.1); rintro e w' ⟨rfl, ⟨nd, rfl⟩⟩; refine ⟨_, rfl, ?_⟩) | ((with_reducible refine gate_callee (f := 14) rfl ?_); refine goesL_ (some 34) rfl rfl Tryd.func14 (by kernel_rfl) rfl #[] rfl (by (try simp only [List.map_toArray, List.map_cons, List.map_nil]); first | done | rfl | (simp only [List.length_drop, List.length_take]; rfl)) ?_; (with_reducible refine (cashbooklaw01_alive.calls kj2  true _ ?side1 A13.out).mono ?_); (case side1 => exact TabOK.below HT.out (by repeat (first | (with_reducible first | exact HB.out | apply below_alloc | apply pw_below_drewN | apply below_drew1) | exact HB.out))); rintro e w25 ⟨rfl, hb⟩; refine ⟨_, rfl, ?_⟩; have n0_ := Aside0.mk (Kd.R_below (by (with_reducible repeat (first | apply Kd.R_alloc | apply Kd.R_drewN | apply Kd.R_drew)); exact HO615.out) hb); have n1_ := Aside0.mk (Kd.R_below (by (with_reducible repeat (first | apply Kd.R_alloc | apply Kd.R_drewN | apply Kd.R_drew)); exact HO620.out) hb); have n2_ := Aside0.mk (below_step (by repeat (first | (with_reducible first | exact HB.out | apply below_alloc | apply pw_below_drewN | apply below_drew1) | exact HB.out)) hb); clear HO615; clear HO620; clear HB; have HO615 := n0_; have HO620 := n1_; have HB := n2_; clear n0_ n1_ n2_; (try clear hb); (try clear hb2); (try clear hk); (try clear hi)))
            go_ret
            exact ⟨by first | rfl | (simp [errW_none, errW_some] <;> rfl) | (simp [*, errW_none, errW_some] <;> rfl), by repeat (first | (with_reducible first | exact HB.out | apply below_alloc | apply pw_below_drewN | apply below_drew1) | exact HB.out)⟩
        · replace c14 := Bool.eq_false_iff.mpr c14
          subst c14
          have H1 : (some false) = some r := by rw [if_neg (show ¬ (false = true) by decide)] at H; exact H
          clear H
          have H := H1
          clear H1
          obtain rfl := Option.some.inj H
          go_wp2_with (first | ((with_reducible refine gate_callee (f := 24) rfl ?_); refine goesL_ (some 22) rfl rfl Tryd.func24 (by kernel_rfl) rfl #[.slice A0 l0.length c0, .slice A1 l1.length c1] rfl (by (try simp only [List.map_toArray, List.map_cons, List.map_nil]); first | done | rfl | (simp only [List.length_drop, List.length_take]; rfl)) ?_; (with_reducible refine (nat_Gcd.calls kj2 (fun k_ => k_ < w.heap.size) _ _ l0 (fun k_ => k_ < w.heap.size) _ _ l1 t613 t616 _ ?side1 ?side2 A10.out).mono ?_); (case side1 => exact Kd.V_mk HC0.out (Kd.F_below (Kd.C_F (Kd.heap_int .u32) HR0.out) (by repeat (first | (with_reducible first | exact HB.out | apply below_alloc | apply pw_below_drewN | apply below_drew1) | exact HB.out)))); (case side2 => exact Kd.V_mk HC1.out (Kd.F_below (Kd.C_F (Kd.heap_int .u32) HR1.out) (by repeat (first | (with_reducible first | exact HB.out | apply below_alloc | apply pw_below_drewN | apply below_drew1) | exact HB.out)))); rintro e w26 ⟨v614, rfl, ho0, hb⟩; refine ⟨_, rfl, ?_⟩; have n0_ := Aside0.mk (Kd.R_lower (Kd.R_mono (ok' := fun k_ => True) ho0 (fun _ hk_ => trivial)) (below_size (by repeat (first | (with_reducible first | exact HB.out | apply below_alloc | apply pw_below_drewN | apply below_drew1) | exact HB.out)))); have n1_ := Aside0.mk (below_step (by repeat (first | (with_reducible first | exact HB.out | apply below_alloc | apply pw_below_drewN | apply below_drew1) | exact HB.out)) hb); clear HB; have HO615 := n0_; have HB := n1_; clear n0_ n1_; (try clear hb); (try clear hb2); (try clear hk); (try clear hi); (try clear ho0)) | ((with_reducible refine gate_callee (f := 25) rfl ?_); refine goesL_ (some 28) rfl rfl Tryd.func25 (by kernel_rfl) rfl #[.slice A0 l0.length c0, .slice A1 l1.length c1] rfl (by (try simp only [List.map_toArray, List.map_cons, List.map_nil]); first | done | rfl | (simp only [List.length_drop, List.length_take]; rfl)) ?_; (with_reducible refine (cashbookref01_Gcd.calls kj2 _ _ l0 _ _ l1 t617 t618 _ ?side1 ?side2 ?side3 ?side4 A11.out).mono ?_); (case side1 => repeat (first | exact (Kd.C_below HR0.out HB.out) | (with_reducible refine Kd.C_alloc ?_ _) | (with_reducible refine Kd.C_drewN ?_ _) | (with_reducible refine Kd.C_drew ?_))); (case side2 => exact HC0.out); (case side3 => repeat (first | exact (Kd.C_below HR1.out HB.out) | (with_reducible refine Kd.C_alloc ?_ _) | (with_reducible refine Kd.C_drewN ?_ _) | (with_reducible refine Kd.C_drew ?_))); (case side4 => exact HC1.out); rintro e w27 ⟨v619, rfl, ho0, hb⟩; refine ⟨_, rfl, ?_⟩; have n0_ := Aside0.mk (Kd.R_elder' (by (with_reducible repeat (first | apply Kd.R_alloc | apply Kd.R_drewN | apply Kd.R_drew)); exact HO615.out) (Kd.R_base ho0) hb); have n1_ := Aside0.mk (Kd.R_lower (Kd.R_new' ho0 (Kd.R_lt (by (with_reducible repeat (first | apply Kd.R_alloc | apply Kd.R_drewN | apply Kd.R_drew)); exact HO615.out))) (below_size (by repeat (first | (with_reducible first | exact HB.out | apply below_alloc | apply pw_below_drewN | apply below_drew1) | exact HB.out)))); have n2_ := Aside0.mk (below_step (by repeat (first | (with_reducible first | exact HB.out | apply below_alloc | apply pw_below_drewN | apply below_drew1) | exact HB.out)) hb); clear HO615; clear HB; have HO615 := n0_; have HO620 := n1_; have HB := n2_; clear n0_ n1_ n2_; (try clear hb); (try clear hb2); (try clear hk); (try clear hi); (try clear ho0); obtain ⟨Ao28, co28, eo28⟩ := Kd.R_slice HO615.out; subst eo28; obtain ⟨Ao29, co29, eo29⟩ := Kd.R_slice HO620.out; subst eo29) | ((with_reducible refine gate_callee (f := 19) rfl ?_); refine goesL_ (some 33) rfl rfl Tryd.func19 (by kernel_rfl) rfl #[.slice Ao28 t613.length co28, .slice Ao29 t617.length co29] rfl (by (try simp only [List.map_toArray, List.map_cons, List.map_nil]); first | done | rfl | (simp only [List.length_drop, List.length_take]; rfl)) ?_; (with_reducible refine (cashbookref01_Same.calls kj2 _ _ t613 _ _ t617 t621 _ ?side1 ?side2 ?side3 ?side4 A12.out).mono ?_); (case side1 => repeat (first | exact (Kd.R_reads' HO615.out).2.2 | (with_reducible refine Kd.C_alloc ?_ _) | (with_reducible refine Kd.C_drewN ?_ _) | (with_reducible refine Kd.C_drew ?_))); (case side2 => exact (Kd.R_reads' HO615.out).2.1); (case side3 => repeat (first | exact (Kd.R_reads' HO620.out).2.2 | (with_reducible refine Kd.C_alloc ?_ _) | (with_reducible refine Kd.C_drewN ?_ _) | (with_reducible refine Kd.C_drew ?_))); (case side4 => exact (Kd.R_reads' HO620.out).2.1); rintro e w' ⟨rfl, ⟨nd, rfl⟩⟩; refine ⟨_, rfl, ?_⟩) | ((with_reducible refine gate_callee (f := 14) rfl ?_); refine goesL_ (some 34) rfl rfl Tryd.func14 (by kernel_rfl) rfl #[] rfl (by (try simp only [List.map_toArray, List.map_cons, List.map_nil]); first | done | rfl | (simp only [List.length_drop, List.length_take]; rfl)) ?_; (with_reducible refine (cashbooklaw01_alive.calls kj2  false _ ?side1 A13.out).mono ?_); (case side1 => exact TabOK.below HT.out (by repeat (first | (with_reducible first | exact HB.out | apply below_alloc | apply pw_below_drewN | apply below_drew1) | exact HB.out))); rintro e w30 ⟨rfl, hb⟩; refine ⟨_, rfl, ?_⟩; have n0_ := Aside0.mk (Kd.R_below (by (with_reducible repeat (first | apply Kd.R_alloc | apply Kd.R_drewN | apply Kd.R_drew)); exact HO615.out) hb); have n1_ := Aside0.mk (Kd.R_below (by (with_reducible repeat (first | apply Kd.R_alloc | apply Kd.R_drewN | apply Kd.R_drew)); exact HO620.out) hb); have n2_ := Aside0.mk (below_step (by repeat (first | (with_reducible first | exact HB.out | apply below_alloc | apply pw_below_drewN | apply below_drew1) | exact HB.out)) hb); clear HO615; clear HO620; clear HB; have HO615 := n0_; have HO620 := n1_; have HB := n2_; clear n0_ n1_ n2_; (try clear hb); (try clear hb2); (try clear hk); (try clear hi)))
          go_ret
          exact ⟨by first | rfl | (simp [errW_none, errW_some] <;> rfl) | (simp [*, errW_none, errW_some] <;> rfl), by repeat (first | (with_reducible first | exact HB.out | apply below_alloc | apply pw_below_drewN | apply below_drew1) | exact HB.out)⟩

/-- THE ONE PURE STATEMENT of cashbooklaw01_NatCommon: yours. -/
def cashbooklaw01_NatCommon.Pure : Prop := ∀ (l0 : List Int) (l1 : List Int), l0.length ≤ maxLen → l0.length * 4 ≤ 140737488351232 → (∀ x ∈ l0, (Lit.int .u32 x).wf = true) → l1.length ≤ maxLen → l1.length * 4 ≤ 140737488351232 → (∀ x ∈ l1, (Lit.int .u32 x).wf = true) → ∃ k, cashbooklaw01_NatCommon.f k l0 l1 = some true
theorem cashbooklaw01_NatCommon.walk (P : cashbooklaw01_NatCommon.Pure) (a0 : Option Addr) (len0 cap0 : Nat) (z0 : List Int) (a1 : Option Addr) (len1 cap1 : Nat) (z1 : List Int) (w : World) (hT : TabOK w) (w0 : (a0 = none ∧ len0 = 0 ∧ cap0 = 0 ∧ z0 = []) ∨ ∃ x, a0 = some x ∧ len0 ≤ cap0 ∧ cap0 ≤ maxLen ∧ z0.length = cap0 ∧ (∀ i, i < z0.length → w.cell? (x.add i) = some (.int .u32 (z0.getD i 0))) ∧ ∀ n ∈ z0, (Lit.int .u32 n).wf = true) (y0 : len0 * 4 ≤ 140737488351232) (w1 : (a1 = none ∧ len1 = 0 ∧ cap1 = 0 ∧ z1 = []) ∨ ∃ x, a1 = some x ∧ len1 ≤ cap1 ∧ cap1 ≤ maxLen ∧ z1.length = cap1 ∧ (∀ i, i < z1.length → w.cell? (x.add i) = some (.int .u32 (z1.getD i 0))) ∧ ∀ n ∈ z1, (Lit.int .u32 n).wf = true) (y1 : len1 * 4 ≤ 140737488351232) :
    Calls Tryd.prog 6 #[.slice a0 len0 cap0, .slice a1 len1 cap1] w fun e w' => e = .returned (.bool true) ∧ Below w.heap.size w w' := by
  obtain ⟨l0, rfl, hr0, hm0, hw0, hc0⟩ := ReadsInt.ofRowC w0
  obtain ⟨l1, rfl, hr1, hm1, hw1, hc1⟩ := ReadsInt.ofRowC w1
  obtain ⟨k, h⟩ := P l0 l1 hm0 y0 hw0 hm1 y1 hw1
  refine (cashbooklaw01_NatCommon.calls k _ _ l0 _ _ l1 true w hT (Kd.C_of_reads (d := (0 : Int)) (h1 := fun _ => rfl) hr0) hc0 (Kd.C_of_reads (d := (0 : Int)) (h1 := fun _ => rfl) hr1) hc1 h).mono ?_
  rintro e w' ⟨rfl, hd⟩
  exact ⟨rfl, hd⟩

end Go.Proofs.YtcidmdjhmhkmgaaDoor.S
