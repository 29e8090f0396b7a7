-- Printed by pp.py (wip/pp), a program of this session's, over the kit's print; Lean checks it.
import Derived.Test.YtcmaohhcbiienaaS0
namespace Go.Proofs.Ytcmaohhcbiienaa.S
open Go.RowKit Go.Proofs.YtcmaohhcbiienaaW.PrintWords Go.Proofs.YtcmaohhcbiienaaW.PrintLast Go.Proofs.YtcmaohhcbiienaaW.PrintMore
attribute [local go_sem] max2_int min2_int max_two min_two max_three min_three max_four min_four   -- for this text's walks alone
set_option linter.unusedVariables false
set_option linter.unusedSimpArgs false

/-! ### cashbookref30_Nets: function 19 -/
def cashbookref30_Nets.l0 : Nat → List Int → List Int → Int → Int → Option (Bool)
  | 0, _, _, _, _ => none
  | k + 1, x0, x1, x12, x13 => if x13 < x12 then (if 0 ≤ x13 then (if x13 < (x0.length : Int) then (if x13 < (x1.length : Int) then (if (rd x0 x13) = (rd x1 x13) then (cashbookref30_Nets.l0 k x0 x1 x12 (wrap64 (x13 + 1))) else (some false)) else (none)) else (none)) else (none)) else (some true)
def cashbookref30_Nets.f (k : Nat) (l0 : List Int) (l1 : List Int) : Option (Bool) := if (l0.length : Int) = (l1.length : Int) then (cashbookref30_Nets.l0 k l0 l1 (l0.length : Int) 0) else (some false)
theorem cashbookref30_Nets.mono_l : ∀ k, (∀ y0 y1 y2 y3, LeO (cashbookref30_Nets.l0 k y0 y1 y2 y3) (cashbookref30_Nets.l0 (k + 1) y0 y1 y2 y3))
  | 0 => fun _ _ _ _ r h => by simp [cashbookref30_Nets.l0] at h
  | k + 1 => by
    have ih0 := cashbookref30_Nets.mono_l k
    · intro y0 y1 y2 y3
      unfold cashbookref30_Nets.l0
      repeat' first
      | (with_reducible exact ih0 _ _ _ _)
      | (with_reducible exact LeO.refl _)
      | (with_reducible exact LeO.none _)
      | (with_reducible refine LeO.ite ?_ ?_)
      | (with_reducible refine LeO.bind ?_ (fun _ => ?_))
      | exact ih0 _ _ _ _
      | exact LeO.none _
      | refine LeO.ite ?_ ?_
      | refine LeO.bind ?_ (fun _ => ?_)
theorem cashbookref30_Nets.mono : ∀ a0 a1 k, LeO (cashbookref30_Nets.f k a0 a1) (cashbookref30_Nets.f (k + 1) a0 a1) := by
  intro a0 a1 k
  have ih0 := cashbookref30_Nets.mono_l k
  unfold cashbookref30_Nets.f
  repeat' first
      | (with_reducible exact ih0 _ _ _ _)
      | (with_reducible exact LeO.refl _)
      | (with_reducible exact LeO.none _)
      | (with_reducible refine LeO.ite ?_ ?_)
      | (with_reducible refine LeO.bind ?_ (fun _ => ?_))
      | exact ih0 _ _ _ _
      | exact LeO.none _
      | refine LeO.ite ?_ ?_
      | refine LeO.bind ?_ (fun _ => ?_)
set_option maxHeartbeats 8000000 in
set_option maxRecDepth 100000 in
theorem cashbookref30_Nets.calls (k : Nat) (A0 : Option Addr) (c0 : Nat) (l0 : List Int) (A1 : Option Addr) (c1 : Nat) (l1 : List Int) (r : Bool) (w : World) (hr0 : Kd.C (Kd.int .i64) w A0 l0.length l0) (hc0 : l0.length ≤ c0) (hr1 : Kd.C (Kd.int .i64) w A1 l1.length l1) (hc1 : l1.length ≤ c1) (h : cashbookref30_Nets.f k l0 l1 = some r) :
    Calls Try.prog 19 #[.slice A0 l0.length c0, .slice A1 l1.length c1] w fun e w' => e = .returned (.bool r) ∧ Drawn0 w w' := by
  have HR0 := Aside0.mk hr0
  have HC0 := Aside0.mk hc0
  clear hr0 hc0
  have HR1 := Aside0.mk hr1
  have HC1 := Aside0.mk hc1
  clear hr1 hc1
  have H : (if (l0.length : Int) = (l1.length : Int) then (cashbookref30_Nets.l0 k l0 l1 (l0.length : Int) 0) else (some false)) = some r := h
  clear h
  by_cases c3 : (l0.length : Int) = (l1.length : Int)
  · rw [if_pos c3] at H
    have c3b0 : ((l0.length : Int) == (l1.length : Int)) = true := beq_iff_eq.mpr c3
    have c3b1 : ((l0.length : Int) != (l1.length : Int)) = false := bne_eq_false_iff_eq.mpr c3
    have c3b2 : (l0.length == l1.length) = true := by first | simpa using c3 | (simp at c3 ⊢; omega)
    clear c3
    have H' := Aside0.mk H
    clear H
    go_enter Try.func19, Try.ntmps19
    go_wp2
    repeat (go_quiet (fail); try go_wp2)
    go_loopg [13] k (fun kq v13 w' => ∃ (x13_1 : Int), v13 = .int .i64 x13_1 ∧ Aside0 (cashbookref30_Nets.l0 kq l0 l1 (l0.length : Int) x13_1 = some r) ∧ Aside0 (kq ≤ k) ∧ Drawn0 w w')
    case atStart => exact ⟨(0), (by first | rfl | (simp; done) | (simp [*]; done)), H', ⟨Nat.le_refl _⟩, by repeat (first | exact Drawn0.refl _ | apply Drawn0.step)⟩
    case round =>
      clear H'
      try clear c1
      try clear p2
      try clear c3
      try clear c3b0
      try clear c3b1
      try clear c3b2
      obtain ⟨x13_1, rfl, HA, HK1, ⟨m1, rfl⟩⟩ := hrel
      cases gk with
      | zero => exact absurd HA.out (by simp [cashbookref30_Nets.l0])
      | succ k1 =>
        have H := HA.out
        clear HA
        simp only [cashbookref30_Nets.l0] at H
        by_cases c4 : x13_1 < (l0.length : Int)
        · rw [if_pos c4] at H
          have c4b0 : decide (x13_1 < (l0.length : Int)) = true := decide_eq_true c4
          clear c4
          by_cases c5 : 0 ≤ x13_1
          · rw [if_pos c5] at H
            have c5b0 : decide (0 ≤ x13_1) = true := decide_eq_true c5
            clear c5
            by_cases c6 : x13_1 < (l0.length : Int)
            · rw [if_pos c6] at H
              have c6b0 : decide (x13_1 < (l0.length : Int)) = true := decide_eq_true c6
              clear c6
              by_cases c7 : x13_1 < (l1.length : Int)
              · rw [if_pos c7] at H
                have c7b0 : decide (x13_1 < (l1.length : Int)) = true := decide_eq_true c7
                clear c7
                by_cases c8 : (rd l0 x13_1) = (rd l1 x13_1)
                · rw [if_pos c8] at H
                  have c8b0 : ((rd l0 x13_1) == (rd l1 x13_1)) = true := beq_iff_eq.mpr c8
                  have c8b1 : ((rd l0 x13_1) != (rd l1 x13_1)) = false := bne_eq_false_iff_eq.mpr c8
                  clear c8
                  have H' := Aside0.mk H
                  clear H
                  have p195 : 0 ≤ (x13_1 : Int) := of_decide_eq_true (by first | (with_reducible assumption) | assumption)
                  have q195 : x13_1 < (l0.length : Int) := of_decide_eq_true (by first | (with_reducible assumption) | assumption)
                  obtain ⟨ad195, e195, hx195_0⟩ := Kd.at_int HR0.out x13_1 p195 q195
                  cases e195
                  replace p195 := eq_true p195
                  replace q195 := eq_true q195
                  have p196 : 0 ≤ (x13_1 : Int) := of_decide_eq_true (by first | (with_reducible assumption) | assumption)
                  have q196 : x13_1 < (l1.length : Int) := of_decide_eq_true (by first | (with_reducible assumption) | assumption)
                  obtain ⟨ad196, e196, hx196_0⟩ := Kd.at_int HR1.out x13_1 p196 q196
                  cases e196
                  replace p196 := eq_true p196
                  replace q196 := eq_true q196
                  go_wp2
                  repeat (go_quiet (fail); try go_wp2)
                  go_roundg k1
                  case measure => have := HK1.out; omega
                  case rel => exact ⟨(wrap64 (x13_1 + 1)), (by first | rfl | (simp; done) | (simp [*]; done)), H', ⟨by have := HK1.out; omega⟩, by repeat (first | exact Drawn0.refl _ | apply Drawn0.step)⟩
                · rw [if_neg c8] at H
                  have c8b0 : ((rd l0 x13_1) == (rd l1 x13_1)) = false := beq_eq_false_iff_ne.mpr c8
                  have c8b1 : ((rd l0 x13_1) != (rd l1 x13_1)) = true := bne_iff_ne.mpr c8
                  obtain rfl := Option.some.inj H
                  have p195 : 0 ≤ (x13_1 : Int) := of_decide_eq_true (by first | (with_reducible assumption) | assumption)
                  have q195 : x13_1 < (l0.length : Int) := of_decide_eq_true (by first | (with_reducible assumption) | assumption)
                  obtain ⟨ad195, e195, hx195_0⟩ := Kd.at_int HR0.out x13_1 p195 q195
                  cases e195
                  replace p195 := eq_true p195
                  replace q195 := eq_true q195
                  have p196 : 0 ≤ (x13_1 : Int) := of_decide_eq_true (by first | (with_reducible assumption) | assumption)
                  have q196 : x13_1 < (l1.length : Int) := of_decide_eq_true (by first | (with_reducible assumption) | assumption)
                  obtain ⟨ad196, e196, hx196_0⟩ := Kd.at_int HR1.out x13_1 p196 q196
                  cases e196
                  replace p196 := eq_true p196
                  replace q196 := eq_true q196
                  go_wp2
                  repeat (go_quiet (fail); try go_wp2)
                  go_ret
                  exact ⟨by first | rfl | (simp; done) | (simp [*]; done), by repeat (first | exact Drawn0.refl _ | apply Drawn0.step)⟩
              · rw [if_neg c7] at H
                exact absurd H (by simp)
            · rw [if_neg c6] at H
              exact absurd H (by simp)
          · rw [if_neg c5] at H
            exact absurd H (by simp)
        · rw [if_neg c4] at H
          have c4b0 : decide (x13_1 < (l0.length : Int)) = false := decide_eq_false c4
          clear c4
          obtain rfl := Option.some.inj H
          go_wp2
          repeat (go_quiet (fail); try go_wp2)
          go_ret
          exact ⟨by first | rfl | (simp; done) | (simp [*]; done), by repeat (first | exact Drawn0.refl _ | apply Drawn0.step)⟩
  · rw [if_neg c3] at H
    have c3b0 : ((l0.length : Int) == (l1.length : Int)) = false := beq_eq_false_iff_ne.mpr c3
    have c3b1 : ((l0.length : Int) != (l1.length : Int)) = true := bne_iff_ne.mpr c3
    have c3b2 : (l0.length == l1.length) = false := by first | simpa using c3 | (simp at c3 ⊢; omega)
    obtain rfl := Option.some.inj H
    go_enter Try.func19, Try.ntmps19
    go_wp2
    repeat (go_quiet (fail); try go_wp2)
    go_ret
    exact ⟨by first | rfl | (simp; done) | (simp [*]; done), by repeat (first | exact Drawn0.refl _ | apply Drawn0.step)⟩

/-! ### cashbookref30_Net: function 20 -/
mutual
def cashbookref30_Net.l0 : Nat → List (S58) → Int → Int → List Int → Int → Option (List Int)
  | 0, _, _, _, _, _ => none
  | k + 1, x0, x1, x2, x7, x8 => if x8 < 16 then (cashbookref30_Net.l1 k x0 x1 x2 x7 x8 0 x0 (x0.length : Int) 0) else (some x7)
def cashbookref30_Net.l1 : Nat → List (S58) → Int → Int → List Int → Int → Int → List (S58) → Int → Int → Option (List Int)
  | 0, _, _, _, _, _, _, _, _, _ => none
  | k + 1, x0, x1, x2, x7, x8, x9, x17, x18, x19 => if x19 < x18 then (if 0 ≤ x19 then (if x19 < (x17.length : Int) then (if ((rd_T58 x17 x19).f3.f0) = x1 then (cashbookref30_Net.j2 k x0 x1 x2 x7 x8 x9 x17 x18 x19 (((rd_T58 x17 x19).f4) != x2) ((rd_T58 x17 x19).f0) ((rd_T58 x17 x19).f1) ((rd_T58 x17 x19).f2) ((rd_T58 x17 x19).f3.f0) ((rd_T58 x17 x19).f3.f1) ((rd_T58 x17 x19).f4)) else (cashbookref30_Net.j2 k x0 x1 x2 x7 x8 x9 x17 x18 x19 true ((rd_T58 x17 x19).f0) ((rd_T58 x17 x19).f1) ((rd_T58 x17 x19).f2) ((rd_T58 x17 x19).f3.f0) ((rd_T58 x17 x19).f3.f1) ((rd_T58 x17 x19).f4))) else (none)) else (none)) else (if x7.length < 17592186044416 then (cashbookref30_Net.l0 k x0 x1 x2 (x7 ++ [x9]) (wrap64 (x8 + 1))) else (none))
def cashbookref30_Net.j2 : Nat → List (S58) → Int → Int → List Int → Int → Int → List (S58) → Int → Int → Bool → Int → Int → Int → Int → Int → Int → Option (List Int)
  | 0, _, _, _, _, _, _, _, _, _, _, _, _, _, _, _, _ => none
  | k + 1, x0, x1, x2, x7, x8, x9, x17, x18, x19, x33, x205000, x205001, x205002, x205003, x205004, x205005 => if x33 = true then (cashbookref30_Net.l1 k x0 x1 x2 x7 x8 x9 x17 x18 (wrap64 (x19 + 1))) else (if x205002 = x8 then (if x205001 = x8 then (cashbookref30_Net.l1 k x0 x1 x2 x7 x8 (wrap64 ((wrap64 (x9 + x205004)) - x205004)) x17 x18 (wrap64 (x19 + 1))) else (cashbookref30_Net.l1 k x0 x1 x2 x7 x8 (wrap64 (x9 + x205004)) x17 x18 (wrap64 (x19 + 1)))) else (if x205001 = x8 then (cashbookref30_Net.l1 k x0 x1 x2 x7 x8 (wrap64 (x9 - x205004)) x17 x18 (wrap64 (x19 + 1))) else (cashbookref30_Net.l1 k x0 x1 x2 x7 x8 x9 x17 x18 (wrap64 (x19 + 1)))))
end
def cashbookref30_Net.f (k : Nat) (l0 : List (S58)) (a1 : Int) (a2 : Int) : Option (List Int) := cashbookref30_Net.l0 k l0 a1 a2 (([] : List Int)) 0
theorem cashbookref30_Net.mono_l : ∀ k, (∀ y0 y1 y2 y3 y4, LeO (cashbookref30_Net.l0 k y0 y1 y2 y3 y4) (cashbookref30_Net.l0 (k + 1) y0 y1 y2 y3 y4)) ∧ (∀ y0 y1 y2 y3 y4 y5 y6 y7 y8, LeO (cashbookref30_Net.l1 k y0 y1 y2 y3 y4 y5 y6 y7 y8) (cashbookref30_Net.l1 (k + 1) y0 y1 y2 y3 y4 y5 y6 y7 y8)) ∧ (∀ y0 y1 y2 y3 y4 y5 y6 y7 y8 y9 y10 y11 y12 y13 y14 y15, LeO (cashbookref30_Net.j2 k y0 y1 y2 y3 y4 y5 y6 y7 y8 y9 y10 y11 y12 y13 y14 y15) (cashbookref30_Net.j2 (k + 1) y0 y1 y2 y3 y4 y5 y6 y7 y8 y9 y10 y11 y12 y13 y14 y15))
  | 0 => ⟨fun _ _ _ _ _ r h => by simp [cashbookref30_Net.l0] at h, fun _ _ _ _ _ _ _ _ _ r h => by simp [cashbookref30_Net.l1] at h, fun _ _ _ _ _ _ _ _ _ _ _ _ _ _ _ _ r h => by simp [cashbookref30_Net.j2] at h⟩
  | k + 1 => by
    obtain ⟨ih0, ih1, ih2⟩ := cashbookref30_Net.mono_l k
    refine ⟨?_, ?_, ?_⟩
    · intro y0 y1 y2 y3 y4
      unfold cashbookref30_Net.l0
      repeat' first
      | (with_reducible exact ih0 _ _ _ _ _)
      | (with_reducible exact ih1 _ _ _ _ _ _ _ _ _)
      | (with_reducible exact ih2 _ _ _ _ _ _ _ _ _ _ _ _ _ _ _ _)
      | (with_reducible exact LeO.refl _)
      | (with_reducible exact LeO.none _)
      | (with_reducible refine LeO.ite ?_ ?_)
      | (with_reducible refine LeO.bind ?_ (fun _ => ?_))
      | exact ih0 _ _ _ _ _
      | exact ih1 _ _ _ _ _ _ _ _ _
      | exact ih2 _ _ _ _ _ _ _ _ _ _ _ _ _ _ _ _
      | exact LeO.none _
      | refine LeO.ite ?_ ?_
      | refine LeO.bind ?_ (fun _ => ?_)
    · intro y0 y1 y2 y3 y4 y5 y6 y7 y8
      unfold cashbookref30_Net.l1
      repeat' first
      | (with_reducible exact ih0 _ _ _ _ _)
      | (with_reducible exact ih1 _ _ _ _ _ _ _ _ _)
      | (with_reducible exact ih2 _ _ _ _ _ _ _ _ _ _ _ _ _ _ _ _)
      | (with_reducible exact LeO.refl _)
      | (with_reducible exact LeO.none _)
      | (with_reducible refine LeO.ite ?_ ?_)
      | (with_reducible refine LeO.bind ?_ (fun _ => ?_))
      | exact ih0 _ _ _ _ _
      | exact ih1 _ _ _ _ _ _ _ _ _
      | exact ih2 _ _ _ _ _ _ _ _ _ _ _ _ _ _ _ _
      | exact LeO.none _
      | refine LeO.ite ?_ ?_
      | refine LeO.bind ?_ (fun _ => ?_)
    · intro y0 y1 y2 y3 y4 y5 y6 y7 y8 y9 y10 y11 y12 y13 y14 y15
      unfold cashbookref30_Net.j2
      repeat' first
      | (with_reducible exact ih0 _ _ _ _ _)
      | (with_reducible exact ih1 _ _ _ _ _ _ _ _ _)
      | (with_reducible exact ih2 _ _ _ _ _ _ _ _ _ _ _ _ _ _ _ _)
      | (with_reducible exact LeO.refl _)
      | (with_reducible exact LeO.none _)
      | (with_reducible refine LeO.ite ?_ ?_)
      | (with_reducible refine LeO.bind ?_ (fun _ => ?_))
      | exact ih0 _ _ _ _ _
      | exact ih1 _ _ _ _ _ _ _ _ _
      | exact ih2 _ _ _ _ _ _ _ _ _ _ _ _ _ _ _ _
      | exact LeO.none _
      | refine LeO.ite ?_ ?_
      | refine LeO.bind ?_ (fun _ => ?_)
theorem cashbookref30_Net.mono : ∀ a0 a1 a2 k, LeO (cashbookref30_Net.f k a0 a1 a2) (cashbookref30_Net.f (k + 1) a0 a1 a2) := by
  intro a0 a1 a2 k
  obtain ⟨ih0, ih1, ih2⟩ := cashbookref30_Net.mono_l k
  unfold cashbookref30_Net.f
  repeat' first
      | (with_reducible exact ih0 _ _ _ _ _)
      | (with_reducible exact ih1 _ _ _ _ _ _ _ _ _)
      | (with_reducible exact ih2 _ _ _ _ _ _ _ _ _ _ _ _ _ _ _ _)
      | (with_reducible exact LeO.refl _)
      | (with_reducible exact LeO.none _)
      | (with_reducible refine LeO.ite ?_ ?_)
      | (with_reducible refine LeO.bind ?_ (fun _ => ?_))
      | exact ih0 _ _ _ _ _
      | exact ih1 _ _ _ _ _ _ _ _ _
      | exact ih2 _ _ _ _ _ _ _ _ _ _ _ _ _ _ _ _
      | exact LeO.none _
      | refine LeO.ite ?_ ?_
      | refine LeO.bind ?_ (fun _ => ?_)
set_option maxHeartbeats 8000000 in
set_option maxRecDepth 100000 in
theorem cashbookref30_Net.calls (k : Nat) (A0 : Option Addr) (c0 : Nat) (l0 : List (S58)) (a1 : Int) (a2 : Int) (r : List Int) (w : World) (hr0 : Kd.C k58 w A0 l0.length l0) (hc0 : l0.length ≤ c0) (h : cashbookref30_Net.f k l0 a1 a2 = some r) :
    Calls Try.prog 20 #[.slice A0 l0.length c0, .int .i64 a1, .int .i32 a2] w fun e w' => ∃ v0_ : Value, e = .returned (v0_) ∧ Kd.R (Kd.int .i64) 2 w' w.heap.size (fun _ => True) v0_ r ∧ Below w.heap.size w w' := by
  have hu58 := Try.underlying58
  have HR0 := Aside0.mk hr0
  have HC0 := Aside0.mk hc0
  clear hr0 hc0
  have HB := Aside0.mk (Below.refl w.heap.size w)
  have H : (cashbookref30_Net.l0 k l0 a1 a2 (([] : List Int)) 0) = some r := h
  clear h
  obtain ⟨y197, hy197⟩ : ∃ y_ : List Int, y_ = (([] : List Int)) := ⟨_, rfl⟩
  replace H : (cashbookref30_Net.l0 k l0 a1 a2 y197 0) = some r := by first | (rw [hy197]; with_reducible exact H) | (have H2_ := (Option.bind_some _ _).symm.trans H; rw [hy197]; with_reducible exact H2_) | (have H2_ := (Option.bind_some _ _).symm.trans H; with_reducible exact H2_) | with_reducible exact H | (rw [hy197]; exact H) | exact H
  have Ny197 := Aside0.mk hy197
  clear hy197
  have H' := Aside0.mk H
  clear H
  go_enter Try.func20, Try.ntmps20
  go_wp2_with (first | ((with_reducible refine gate_dst (N := 12) rfl ?_); refine Kd.R_lit (Kd.int .i64) _ 2 ?hg (N := 12) ?hd (xs := ([] : List Int)) (inner := []) (ok := fun _ => True) (okp := fun _ => True) ?hr ?hp (fun _ hk => hk) trivial (Below.refl _ _) (Nat.le_refl _) (by simp) ?_; (case hd => rfl); (case hg => rfl); (case hr => first | (go_simp; done) | (go_simp; rfl)); (case hp => exact (Reps.none _ _)); intro v198 w4 ho5 hb hg_ hnew_; clear hg_ hnew_; (first | rw [← Ny197.out] at ho5 | (simp only [Int.reduceToNat] at ho5; rw [← Ny197.out] at ho5)); have n0_ := Aside0.mk (Kd.R_lower ho5 (below_size (by repeat (first | (with_reducible first | exact HB.out | apply below_alloc | apply pw_below_drewN | apply below_drew1) | exact HB.out)))); have n1_ := Aside0.mk (below_step (by repeat (first | (with_reducible first | exact HB.out | apply below_alloc | apply pw_below_drewN | apply below_drew1) | exact HB.out)) hb); clear HB; have HO199 := n0_; have HB := n1_; clear n0_ n1_; clear hb ho5))
  go_loopg [7, 8] k (fun kq v7 v8 w' => ∃ (x7_1 : List Int) (x8_1 : Int), v8 = .int .i64 x8_1 ∧ Aside0 (cashbookref30_Net.l0 kq l0 a1 a2 x7_1 x8_1 = some r) ∧ Aside0 (kq ≤ k) ∧ Aside0 (Kd.R (Kd.int .i64) 2 w' w.heap.size (fun _ => True) v7 x7_1) ∧ Aside0 (Below w.heap.size w w'))
  case atStart => exact ⟨(y197), (0), (by first | rfl | (simp; done) | (simp [*]; done)), H', ⟨Nat.le_refl _⟩, ⟨by (with_reducible repeat (first | apply Kd.R_alloc | apply Kd.R_drewN | apply Kd.R_drew)); exact HO199.out⟩, ⟨by repeat (first | (with_reducible first | exact HB.out | apply below_alloc | apply pw_below_drewN | apply below_drew1) | exact HB.out)⟩⟩
  case round =>
    clear H'
    try clear c2
    try clear p2
    obtain ⟨x7_1, x8_1, rfl, HA, HK1, HO_7, HB⟩ := hrel
    cases gk with
    | zero => exact absurd HA.out (by simp [cashbookref30_Net.l0])
    | succ k1 =>
      have H := HA.out
      clear HA
      simp only [cashbookref30_Net.l0] at H
      by_cases c6 : x8_1 < 16
      · rw [if_pos c6] at H
        have c6b0 : decide (x8_1 < 16) = true := decide_eq_true c6
        clear c6
        have H' := Aside0.mk H
        clear H
        go_wp2
        go_loopg [9, 19] k1 (fun kq v9 v19 w' => ∃ (x9_2 : Int) (x19_2 : Int), v9 = .int .i64 x9_2 ∧ v19 = .int .i64 x19_2 ∧ Aside0 (cashbookref30_Net.l1 kq l0 a1 a2 x7_1 x8_1 x9_2 l0 (l0.length : Int) x19_2 = some r) ∧ Aside0 (kq ≤ k1) ∧ Aside0 (Kd.R (Kd.int .i64) 2 w' w.heap.size (fun _ => True) u7 x7_1) ∧ Aside0 (Below w.heap.size w w'))
        case atStart => exact ⟨(0), (0), (by first | rfl | (simp; done) | (simp [*]; done)), (by first | rfl | (simp; done) | (simp [*]; done)), H', ⟨Nat.le_refl _⟩, ⟨by (with_reducible repeat (first | apply Kd.R_alloc | apply Kd.R_drewN | apply Kd.R_drew)); exact HO_7.out⟩, ⟨by repeat (first | (with_reducible first | exact HB.out | apply below_alloc | apply pw_below_drewN | apply below_drew1) | exact HB.out)⟩⟩
        case round =>
          clear H'
          try clear c2
          try clear p2
          try clear c6
          try clear c6b0
          try clear p2
          obtain ⟨x9_2, x19_2, rfl, rfl, HA, HK2, HO_7, HB⟩ := hrel
          cases gk with
          | zero => exact absurd HA.out (by simp [cashbookref30_Net.l1])
          | succ k2 =>
            have H := HA.out
            clear HA
            simp only [cashbookref30_Net.l1] at H
            by_cases c7 : x19_2 < (l0.length : Int)
            · rw [if_pos c7] at H
              have c7b0 : decide (x19_2 < (l0.length : Int)) = true := decide_eq_true c7
              clear c7
              by_cases c8 : 0 ≤ x19_2
              · rw [if_pos c8] at H
                have c8b0 : decide (0 ≤ x19_2) = true := decide_eq_true c8
                clear c8
                by_cases c9 : x19_2 < (l0.length : Int)
                · rw [if_pos c9] at H
                  have c9b0 : decide (x19_2 < (l0.length : Int)) = true := decide_eq_true c9
                  clear c9
                  have HC10 := Aside0.mk H
                  clear H
                  have p203 : 0 ≤ (x19_2 : Int) := of_decide_eq_true (by first | (with_reducible assumption) | assumption)
                  have q203 : x19_2 < (l0.length : Int) := of_decide_eq_true (by first | (with_reducible assumption) | assumption)
                  obtain ⟨ad203, e203, hx203_0, hx203_1, hx203_2, hx203_3, hx203_4, hx203_5⟩ := at_T58 HR0.out x19_2 p203 q203
                  cases e203
                  replace hx203_0 := (HB.out.cell (World.block_lt_of_cell? w _ hx203_0)).trans hx203_0
                  replace hx203_1 := (HB.out.cell (World.block_lt_of_cell? w _ hx203_1)).trans hx203_1
                  replace hx203_2 := (HB.out.cell (World.block_lt_of_cell? w _ hx203_2)).trans hx203_2
                  replace hx203_3 := (HB.out.cell (World.block_lt_of_cell? w _ hx203_3)).trans hx203_3
                  replace hx203_4 := (HB.out.cell (World.block_lt_of_cell? w _ hx203_4)).trans hx203_4
                  replace hx203_5 := (HB.out.cell (World.block_lt_of_cell? w _ hx203_5)).trans hx203_5
                  replace p203 := eq_true p203
                  replace q203 := eq_true q203
                  go_upto_region 9 with (first | ((with_reducible refine gate_dst (N := 11) rfl ?_); refine box_event ?hg (N := 11) ?hd (cs := #[.int .i64 0, .int .i64 0, .int .i64 0, .int .i64 0, .int .i64 0, .int .i32 0]) (t := 58) ?hr ?_; (case hd => rfl); (case hg => rfl); (case hr => first | (go_simp; done) | (go_simp; rfl)); intro gb204 hg w11 hbox hb; have n0_ := Aside0.mk (Kd.R_below (by (with_reducible repeat (first | apply Kd.R_alloc | apply Kd.R_drewN | apply Kd.R_drew)); exact HO_7.out) hb); have n1_ := Aside0.mk (below_step (by repeat (first | (with_reducible first | exact HB.out | apply below_alloc | apply pw_below_drewN | apply below_drew1) | exact HB.out)) hb); have n2_ := Aside0.mk (hbox); have n3_ := Aside0.mk ((by rw [hg]; exact (below_size (by repeat (first | (with_reducible first | exact HB.out | apply below_alloc | apply pw_below_drewN | apply below_drew1) | exact HB.out))) : w.heap.size ≤ gb204)); have n4_ := Aside0.mk ((by rw [hg]; exact (below_size (by repeat (first | (with_reducible first | exact HB.out | apply below_alloc | apply pw_below_drewN | apply below_drew1) | exact HB.out))) : w.heap.size ≤ gb204)); clear HO_7; clear HB; have HO_7 := n0_; have HB := n1_; have BK204 := n2_; have GW204 := n3_; have GE204 := n4_; clear n0_ n1_ n2_ n3_ n4_; clear hb hbox hg; have hcz12_0 : w11.cell? ⟨gb204, 0, none⟩ = some (.int .i64 0) := (blk_cell BK204.out 0).trans rfl; have hcz12_1 : w11.cell? ⟨gb204, 1, none⟩ = some (.int .i64 0) := (blk_cell BK204.out 1).trans rfl; have hcz12_2 : w11.cell? ⟨gb204, 2, none⟩ = some (.int .i64 0) := (blk_cell BK204.out 2).trans rfl; have hcz12_3 : w11.cell? ⟨gb204, 3, none⟩ = some (.int .i64 0) := (blk_cell BK204.out 3).trans rfl; have hcz12_4 : w11.cell? ⟨gb204, 4, none⟩ = some (.int .i64 0) := (blk_cell BK204.out 4).trans rfl; have hcz12_5 : w11.cell? ⟨gb204, 5, none⟩ = some (.int .i32 0) := (blk_cell BK204.out 5).trans rfl; have hfz12_0 := blk_frozen BK204.out 0; have hfz12_1 := blk_frozen BK204.out 1; have hfz12_2 := blk_frozen BK204.out 2; have hfz12_3 := blk_frozen BK204.out 3; have hfz12_4 := blk_frozen BK204.out 4; have hfz12_5 := blk_frozen BK204.out 5))
                  (try simp only [Act.put, List.setIfInBounds_toArray, List.set_cons_zero, List.set_cons_succ])
                  go_cut [33] (fun v33 wc => ∃ (kq : Nat) (x33_9 : Bool), v33 = .bool x33_9 ∧ Aside0 (cashbookref30_Net.j2 kq l0 a1 a2 x7_1 x8_1 x9_2 l0 (l0.length : Int) x19_2 x33_9 ((rd_T58 l0 x19_2).f0) ((rd_T58 l0 x19_2).f1) ((rd_T58 l0 x19_2).f2) ((rd_T58 l0 x19_2).f3.f0) ((rd_T58 l0 x19_2).f3.f1) ((rd_T58 l0 x19_2).f4) = some r) ∧ Aside0 (kq ≤ k2) ∧ Aside0 (Kd.R (Kd.int .i64) 2 wc w.heap.size (fun _ => True) u7 x7_1) ∧ Aside0 (wc.heap[gb204]? = some (.cells #[.int .i64 ((rd_T58 l0 x19_2).f0), .int .i64 ((rd_T58 l0 x19_2).f1), .int .i64 ((rd_T58 l0 x19_2).f2), .int .i64 ((rd_T58 l0 x19_2).f3.f0), .int .i64 ((rd_T58 l0 x19_2).f3.f1), .int .i32 ((rd_T58 l0 x19_2).f4)] 58 (0, 0))) ∧ Aside0 (Below w.heap.size w wc))
                  case first =>
                    have H := HC10.out
                    clear HC10
                    by_cases c13 : ((rd_T58 l0 x19_2).f3.f0) = a1
                    · rw [if_pos c13] at H
                      have c13b0 : (((rd_T58 l0 x19_2).f3.f0) == a1) = true := beq_iff_eq.mpr c13
                      have c13b1 : (((rd_T58 l0 x19_2).f3.f0) != a1) = false := bne_eq_false_iff_eq.mpr c13
                      clear c13
                      (first | rw [c13b0] | (simp only [i64_w, i32_w]; rw [c13b0]) | skip)
                      have H' := Aside0.mk H
                      clear H
                      have hcz14_0 : w11.cell? ⟨gb204, 0, none⟩ = some (.int .i64 0) := (blk_cell BK204.out 0).trans rfl
                      have hcz14_1 : w11.cell? ⟨gb204, 1, none⟩ = some (.int .i64 0) := (blk_cell BK204.out 1).trans rfl
                      have hcz14_2 : w11.cell? ⟨gb204, 2, none⟩ = some (.int .i64 0) := (blk_cell BK204.out 2).trans rfl
                      have hcz14_3 : w11.cell? ⟨gb204, 3, none⟩ = some (.int .i64 0) := (blk_cell BK204.out 3).trans rfl
                      have hcz14_4 : w11.cell? ⟨gb204, 4, none⟩ = some (.int .i64 0) := (blk_cell BK204.out 4).trans rfl
                      have hcz14_5 : w11.cell? ⟨gb204, 5, none⟩ = some (.int .i32 0) := (blk_cell BK204.out 5).trans rfl
                      have hfz14_0 := blk_frozen BK204.out 0
                      have hfz14_1 := blk_frozen BK204.out 1
                      have hfz14_2 := blk_frozen BK204.out 2
                      have hfz14_3 := blk_frozen BK204.out 3
                      have hfz14_4 := blk_frozen BK204.out 4
                      have hfz14_5 := blk_frozen BK204.out 5
                      go_wp2
                      go_meet
                      case rel => exact ⟨_, ((((rd_T58 l0 x19_2).f4) != a2)), (by first | rfl | (simp; done) | (simp [*]; done)), H', ⟨by have := HK1.out; have := HK2.out; first | omega | exact Nat.le_refl _⟩, ⟨by (with_reducible repeat (first | apply Kd.R_alloc | apply Kd.R_drewN | apply Kd.R_drew)); exact Kd.R_mono (Kd.R_far (p := ⟨gb204, 5, none⟩) (Kd.R_far (p := ⟨gb204, 4, none⟩) (Kd.R_far (p := ⟨gb204, 3, none⟩) (Kd.R_far (p := ⟨gb204, 2, none⟩) (Kd.R_far (p := ⟨gb204, 1, none⟩) (Kd.R_far (p := ⟨gb204, 0, none⟩) (Kd.R_types HO_7.out BK204.out (by decide)) (fun _ hk => hk.2) (.int .i64 ((rd_T58 l0 x19_2).f0))) (fun _ hk => hk.2) (.int .i64 ((rd_T58 l0 x19_2).f1))) (fun _ hk => hk.2) (.int .i64 ((rd_T58 l0 x19_2).f2))) (fun _ hk => hk.2) (.int .i64 ((rd_T58 l0 x19_2).f3.f0))) (fun _ hk => hk.2) (.int .i64 ((rd_T58 l0 x19_2).f3.f1))) (fun _ hk => hk.2) (.int .i32 ((rd_T58 l0 x19_2).f4))) (fun _ hk => trivial)⟩, ⟨by (with_reducible repeat (first | refine blk_drewN ?_ _ | refine blk_drew ?_ | refine blk_alloc ?_ _)); refine blk_put (cs := #[.int .i64 ((rd_T58 l0 x19_2).f0), .int .i64 ((rd_T58 l0 x19_2).f1), .int .i64 ((rd_T58 l0 x19_2).f2), .int .i64 ((rd_T58 l0 x19_2).f3.f0), .int .i64 ((rd_T58 l0 x19_2).f3.f1), .int .i32 0]) ?_ 5 _ rfl; (with_reducible repeat (first | refine blk_drewN ?_ _ | refine blk_drew ?_ | refine blk_alloc ?_ _)); refine blk_put (cs := #[.int .i64 ((rd_T58 l0 x19_2).f0), .int .i64 ((rd_T58 l0 x19_2).f1), .int .i64 ((rd_T58 l0 x19_2).f2), .int .i64 ((rd_T58 l0 x19_2).f3.f0), .int .i64 0, .int .i32 0]) ?_ 4 _ rfl; (with_reducible repeat (first | refine blk_drewN ?_ _ | refine blk_drew ?_ | refine blk_alloc ?_ _)); refine blk_put (cs := #[.int .i64 ((rd_T58 l0 x19_2).f0), .int .i64 ((rd_T58 l0 x19_2).f1), .int .i64 ((rd_T58 l0 x19_2).f2), .int .i64 0, .int .i64 0, .int .i32 0]) ?_ 3 _ rfl; (with_reducible repeat (first | refine blk_drewN ?_ _ | refine blk_drew ?_ | refine blk_alloc ?_ _)); refine blk_put (cs := #[.int .i64 ((rd_T58 l0 x19_2).f0), .int .i64 ((rd_T58 l0 x19_2).f1), .int .i64 0, .int .i64 0, .int .i64 0, .int .i32 0]) ?_ 2 _ rfl; (with_reducible repeat (first | refine blk_drewN ?_ _ | refine blk_drew ?_ | refine blk_alloc ?_ _)); refine blk_put (cs := #[.int .i64 ((rd_T58 l0 x19_2).f0), .int .i64 0, .int .i64 0, .int .i64 0, .int .i64 0, .int .i32 0]) ?_ 1 _ rfl; (with_reducible repeat (first | refine blk_drewN ?_ _ | refine blk_drew ?_ | refine blk_alloc ?_ _)); refine blk_put (cs := #[.int .i64 0, .int .i64 0, .int .i64 0, .int .i64 0, .int .i64 0, .int .i32 0]) ?_ 0 _ rfl; (with_reducible repeat (first | refine blk_drewN ?_ _ | refine blk_drew ?_ | refine blk_alloc ?_ _)); exact BK204.out⟩, ⟨by repeat (first | (with_reducible first | exact HB.out | apply below_alloc | apply pw_below_drewN | apply below_drew1 | refine below_set ?_ GE204.out) | exact HB.out)⟩⟩
                    · rw [if_neg c13] at H
                      have c13b0 : (((rd_T58 l0 x19_2).f3.f0) == a1) = false := beq_eq_false_iff_ne.mpr c13
                      have c13b1 : (((rd_T58 l0 x19_2).f3.f0) != a1) = true := bne_iff_ne.mpr c13
                      (first | rw [c13b0] | (simp only [i64_w, i32_w]; rw [c13b0]) | skip)
                      have H' := Aside0.mk H
                      clear H
                      have hcz15_0 : w11.cell? ⟨gb204, 0, none⟩ = some (.int .i64 0) := (blk_cell BK204.out 0).trans rfl
                      have hcz15_1 : w11.cell? ⟨gb204, 1, none⟩ = some (.int .i64 0) := (blk_cell BK204.out 1).trans rfl
                      have hcz15_2 : w11.cell? ⟨gb204, 2, none⟩ = some (.int .i64 0) := (blk_cell BK204.out 2).trans rfl
                      have hcz15_3 : w11.cell? ⟨gb204, 3, none⟩ = some (.int .i64 0) := (blk_cell BK204.out 3).trans rfl
                      have hcz15_4 : w11.cell? ⟨gb204, 4, none⟩ = some (.int .i64 0) := (blk_cell BK204.out 4).trans rfl
                      have hcz15_5 : w11.cell? ⟨gb204, 5, none⟩ = some (.int .i32 0) := (blk_cell BK204.out 5).trans rfl
                      have hfz15_0 := blk_frozen BK204.out 0
                      have hfz15_1 := blk_frozen BK204.out 1
                      have hfz15_2 := blk_frozen BK204.out 2
                      have hfz15_3 := blk_frozen BK204.out 3
                      have hfz15_4 := blk_frozen BK204.out 4
                      have hfz15_5 := blk_frozen BK204.out 5
                      go_wp2
                      go_meet
                      case rel => exact ⟨_, (true), (by first | rfl | (simp; done) | (simp [*]; done)), H', ⟨by have := HK1.out; have := HK2.out; first | omega | exact Nat.le_refl _⟩, ⟨by (with_reducible repeat (first | apply Kd.R_alloc | apply Kd.R_drewN | apply Kd.R_drew)); exact Kd.R_mono (Kd.R_far (p := ⟨gb204, 5, none⟩) (Kd.R_far (p := ⟨gb204, 4, none⟩) (Kd.R_far (p := ⟨gb204, 3, none⟩) (Kd.R_far (p := ⟨gb204, 2, none⟩) (Kd.R_far (p := ⟨gb204, 1, none⟩) (Kd.R_far (p := ⟨gb204, 0, none⟩) (Kd.R_types HO_7.out BK204.out (by decide)) (fun _ hk => hk.2) (.int .i64 ((rd_T58 l0 x19_2).f0))) (fun _ hk => hk.2) (.int .i64 ((rd_T58 l0 x19_2).f1))) (fun _ hk => hk.2) (.int .i64 ((rd_T58 l0 x19_2).f2))) (fun _ hk => hk.2) (.int .i64 ((rd_T58 l0 x19_2).f3.f0))) (fun _ hk => hk.2) (.int .i64 ((rd_T58 l0 x19_2).f3.f1))) (fun _ hk => hk.2) (.int .i32 ((rd_T58 l0 x19_2).f4))) (fun _ hk => trivial)⟩, ⟨by (with_reducible repeat (first | refine blk_drewN ?_ _ | refine blk_drew ?_ | refine blk_alloc ?_ _)); refine blk_put (cs := #[.int .i64 ((rd_T58 l0 x19_2).f0), .int .i64 ((rd_T58 l0 x19_2).f1), .int .i64 ((rd_T58 l0 x19_2).f2), .int .i64 ((rd_T58 l0 x19_2).f3.f0), .int .i64 ((rd_T58 l0 x19_2).f3.f1), .int .i32 0]) ?_ 5 _ rfl; (with_reducible repeat (first | refine blk_drewN ?_ _ | refine blk_drew ?_ | refine blk_alloc ?_ _)); refine blk_put (cs := #[.int .i64 ((rd_T58 l0 x19_2).f0), .int .i64 ((rd_T58 l0 x19_2).f1), .int .i64 ((rd_T58 l0 x19_2).f2), .int .i64 ((rd_T58 l0 x19_2).f3.f0), .int .i64 0, .int .i32 0]) ?_ 4 _ rfl; (with_reducible repeat (first | refine blk_drewN ?_ _ | refine blk_drew ?_ | refine blk_alloc ?_ _)); refine blk_put (cs := #[.int .i64 ((rd_T58 l0 x19_2).f0), .int .i64 ((rd_T58 l0 x19_2).f1), .int .i64 ((rd_T58 l0 x19_2).f2), .int .i64 0, .int .i64 0, .int .i32 0]) ?_ 3 _ rfl; (with_reducible repeat (first | refine blk_drewN ?_ _ | refine blk_drew ?_ | refine blk_alloc ?_ _)); refine blk_put (cs := #[.int .i64 ((rd_T58 l0 x19_2).f0), .int .i64 ((rd_T58 l0 x19_2).f1), .int .i64 0, .int .i64 0, .int .i64 0, .int .i32 0]) ?_ 2 _ rfl; (with_reducible repeat (first | refine blk_drewN ?_ _ | refine blk_drew ?_ | refine blk_alloc ?_ _)); refine blk_put (cs := #[.int .i64 ((rd_T58 l0 x19_2).f0), .int .i64 0, .int .i64 0, .int .i64 0, .int .i64 0, .int .i32 0]) ?_ 1 _ rfl; (with_reducible repeat (first | refine blk_drewN ?_ _ | refine blk_drew ?_ | refine blk_alloc ?_ _)); refine blk_put (cs := #[.int .i64 0, .int .i64 0, .int .i64 0, .int .i64 0, .int .i64 0, .int .i32 0]) ?_ 0 _ rfl; (with_reducible repeat (first | refine blk_drewN ?_ _ | refine blk_drew ?_ | refine blk_alloc ?_ _)); exact BK204.out⟩, ⟨by repeat (first | (with_reducible first | exact HB.out | apply below_alloc | apply pw_below_drewN | apply below_drew1 | refine below_set ?_ GE204.out) | exact HB.out)⟩⟩
                  case rest =>
                    clear HC10
                    try clear c1
                    try clear c2
                    try clear p2
                    try clear q2
                    try clear hx2
                    try clear c6
                    try clear c6b0
                    try clear c7
                    try clear c7b0
                    try clear c8
                    try clear c8b0
                    try clear c9
                    try clear c9b0
                    try clear c13
                    try clear c13b0
                    try clear c13b1
                    try clear hcz12_0
                    try clear hcz12_1
                    try clear hcz12_2
                    try clear hcz12_3
                    try clear hcz12_4
                    try clear hcz12_5
                    try clear hcz14_0
                    try clear hcz14_1
                    try clear hcz14_2
                    try clear hcz14_3
                    try clear hcz14_4
                    try clear hcz14_5
                    try clear hcz15_0
                    try clear hcz15_1
                    try clear hcz15_2
                    try clear hcz15_3
                    try clear hcz15_4
                    try clear hcz15_5
                    try clear hfz12_0
                    try clear hfz12_1
                    try clear hfz12_2
                    try clear hfz12_3
                    try clear hfz12_4
                    try clear hfz12_5
                    try clear hfz14_0
                    try clear hfz14_1
                    try clear hfz14_2
                    try clear hfz14_3
                    try clear hfz14_4
                    try clear hfz14_5
                    try clear hfz15_0
                    try clear hfz15_1
                    try clear hfz15_2
                    try clear hfz15_3
                    try clear hfz15_4
                    try clear hfz15_5
                    try clear hx203_0
                    try clear hx203_1
                    try clear hx203_2
                    try clear hx203_3
                    try clear hx203_4
                    try clear hx203_5
                    try clear p2
                    try clear p203
                    try clear q203
                    obtain ⟨kq, x33_9, rfl, HA, HJ9, HO_7, BK204, HB⟩ := hcut
                    cases kq with
                    | zero => exact absurd HA.out (by simp [cashbookref30_Net.j2])
                    | succ kj9 =>
                      have H := HA.out
                      clear HA
                      simp only [cashbookref30_Net.j2] at H
                      by_cases c16 : x33_9 = true
                      · subst c16
                        have H1 : (cashbookref30_Net.l1 kj9 l0 a1 a2 x7_1 x8_1 x9_2 l0 (l0.length : Int) (wrap64 (x19_2 + 1))) = some r := by rw [if_pos rfl] at H; exact H
                        clear H
                        have H := H1
                        clear H1
                        have H' := Aside0.mk H
                        clear H
                        go_wp2
                        go_roundg kj9
                        case measure => have := HK1.out; have := HK2.out; have := HJ9.out; omega
                        case rel => exact ⟨(x9_2), (wrap64 (x19_2 + 1)), (by first | rfl | (simp; done) | (simp [*]; done)), (by first | rfl | (simp; done) | (simp [*]; done)), H', ⟨by have := HK1.out; have := HK2.out; have := HJ9.out; omega⟩, ⟨by (with_reducible repeat (first | apply Kd.R_alloc | apply Kd.R_drewN | apply Kd.R_drew)); exact HO_7.out⟩, ⟨by repeat (first | (with_reducible first | exact HB.out | apply below_alloc | apply pw_below_drewN | apply below_drew1 | refine below_set ?_ GE204.out) | exact HB.out)⟩⟩
                      · replace c16 := Bool.eq_false_iff.mpr c16
                        subst c16
                        have H1 : (if ((rd_T58 l0 x19_2).f2) = x8_1 then (if ((rd_T58 l0 x19_2).f1) = x8_1 then (cashbookref30_Net.l1 kj9 l0 a1 a2 x7_1 x8_1 (wrap64 ((wrap64 (x9_2 + ((rd_T58 l0 x19_2).f3.f1))) - ((rd_T58 l0 x19_2).f3.f1))) l0 (l0.length : Int) (wrap64 (x19_2 + 1))) else (cashbookref30_Net.l1 kj9 l0 a1 a2 x7_1 x8_1 (wrap64 (x9_2 + ((rd_T58 l0 x19_2).f3.f1))) l0 (l0.length : Int) (wrap64 (x19_2 + 1)))) else (if ((rd_T58 l0 x19_2).f1) = x8_1 then (cashbookref30_Net.l1 kj9 l0 a1 a2 x7_1 x8_1 (wrap64 (x9_2 - ((rd_T58 l0 x19_2).f3.f1))) l0 (l0.length : Int) (wrap64 (x19_2 + 1))) else (cashbookref30_Net.l1 kj9 l0 a1 a2 x7_1 x8_1 x9_2 l0 (l0.length : Int) (wrap64 (x19_2 + 1))))) = some r := by rw [if_neg (show ¬ (false = true) by decide)] at H; exact H
                        clear H
                        have H := H1
                        clear H1
                        by_cases c17 : ((rd_T58 l0 x19_2).f2) = x8_1
                        · rw [if_pos c17] at H
                          have c17b0 : (((rd_T58 l0 x19_2).f2) == x8_1) = true := beq_iff_eq.mpr c17
                          have c17b1 : (((rd_T58 l0 x19_2).f2) != x8_1) = false := bne_eq_false_iff_eq.mpr c17
                          clear c17
                          by_cases c18 : ((rd_T58 l0 x19_2).f1) = x8_1
                          · rw [if_pos c18] at H
                            have c18b0 : (((rd_T58 l0 x19_2).f1) == x8_1) = true := beq_iff_eq.mpr c18
                            have c18b1 : (((rd_T58 l0 x19_2).f1) != x8_1) = false := bne_eq_false_iff_eq.mpr c18
                            clear c18
                            have H' := Aside0.mk H
                            clear H
                            have hcz19_0 : wc.cell? ⟨gb204, 0, none⟩ = some (.int .i64 ((rd_T58 l0 x19_2).f0)) := (blk_cell BK204.out 0).trans rfl
                            have hcz19_1 : wc.cell? ⟨gb204, 1, none⟩ = some (.int .i64 ((rd_T58 l0 x19_2).f1)) := (blk_cell BK204.out 1).trans rfl
                            have hcz19_2 : wc.cell? ⟨gb204, 2, none⟩ = some (.int .i64 ((rd_T58 l0 x19_2).f2)) := (blk_cell BK204.out 2).trans rfl
                            have hcz19_3 : wc.cell? ⟨gb204, 3, none⟩ = some (.int .i64 ((rd_T58 l0 x19_2).f3.f0)) := (blk_cell BK204.out 3).trans rfl
                            have hcz19_4 : wc.cell? ⟨gb204, 4, none⟩ = some (.int .i64 ((rd_T58 l0 x19_2).f3.f1)) := (blk_cell BK204.out 4).trans rfl
                            have hcz19_5 : wc.cell? ⟨gb204, 5, none⟩ = some (.int .i32 ((rd_T58 l0 x19_2).f4)) := (blk_cell BK204.out 5).trans rfl
                            have hfz19_0 := blk_frozen BK204.out 0
                            have hfz19_1 := blk_frozen BK204.out 1
                            have hfz19_2 := blk_frozen BK204.out 2
                            have hfz19_3 := blk_frozen BK204.out 3
                            have hfz19_4 := blk_frozen BK204.out 4
                            have hfz19_5 := blk_frozen BK204.out 5
                            go_wp2
                            go_roundg kj9
                            case measure => have := HK1.out; have := HK2.out; have := HJ9.out; omega
                            case rel => exact ⟨(wrap64 ((wrap64 (x9_2 + ((rd_T58 l0 x19_2).f3.f1))) - ((rd_T58 l0 x19_2).f3.f1))), (wrap64 (x19_2 + 1)), (by first | rfl | (simp; done) | (simp [*]; done)), (by first | rfl | (simp; done) | (simp [*]; done)), H', ⟨by have := HK1.out; have := HK2.out; have := HJ9.out; omega⟩, ⟨by (with_reducible repeat (first | apply Kd.R_alloc | apply Kd.R_drewN | apply Kd.R_drew)); exact HO_7.out⟩, ⟨by repeat (first | (with_reducible first | exact HB.out | apply below_alloc | apply pw_below_drewN | apply below_drew1 | refine below_set ?_ GE204.out) | exact HB.out)⟩⟩
                          · rw [if_neg c18] at H
                            have c18b0 : (((rd_T58 l0 x19_2).f1) == x8_1) = false := beq_eq_false_iff_ne.mpr c18
                            have c18b1 : (((rd_T58 l0 x19_2).f1) != x8_1) = true := bne_iff_ne.mpr c18
                            have H' := Aside0.mk H
                            clear H
                            have hcz20_0 : wc.cell? ⟨gb204, 0, none⟩ = some (.int .i64 ((rd_T58 l0 x19_2).f0)) := (blk_cell BK204.out 0).trans rfl
                            have hcz20_1 : wc.cell? ⟨gb204, 1, none⟩ = some (.int .i64 ((rd_T58 l0 x19_2).f1)) := (blk_cell BK204.out 1).trans rfl
                            have hcz20_2 : wc.cell? ⟨gb204, 2, none⟩ = some (.int .i64 ((rd_T58 l0 x19_2).f2)) := (blk_cell BK204.out 2).trans rfl
                            have hcz20_3 : wc.cell? ⟨gb204, 3, none⟩ = some (.int .i64 ((rd_T58 l0 x19_2).f3.f0)) := (blk_cell BK204.out 3).trans rfl
                            have hcz20_4 : wc.cell? ⟨gb204, 4, none⟩ = some (.int .i64 ((rd_T58 l0 x19_2).f3.f1)) := (blk_cell BK204.out 4).trans rfl
                            have hcz20_5 : wc.cell? ⟨gb204, 5, none⟩ = some (.int .i32 ((rd_T58 l0 x19_2).f4)) := (blk_cell BK204.out 5).trans rfl
                            have hfz20_0 := blk_frozen BK204.out 0
                            have hfz20_1 := blk_frozen BK204.out 1
                            have hfz20_2 := blk_frozen BK204.out 2
                            have hfz20_3 := blk_frozen BK204.out 3
                            have hfz20_4 := blk_frozen BK204.out 4
                            have hfz20_5 := blk_frozen BK204.out 5
                            go_wp2
                            go_roundg kj9
                            case measure => have := HK1.out; have := HK2.out; have := HJ9.out; omega
                            case rel => exact ⟨(wrap64 (x9_2 + ((rd_T58 l0 x19_2).f3.f1))), (wrap64 (x19_2 + 1)), (by first | rfl | (simp; done) | (simp [*]; done)), (by first | rfl | (simp; done) | (simp [*]; done)), H', ⟨by have := HK1.out; have := HK2.out; have := HJ9.out; omega⟩, ⟨by (with_reducible repeat (first | apply Kd.R_alloc | apply Kd.R_drewN | apply Kd.R_drew)); exact HO_7.out⟩, ⟨by repeat (first | (with_reducible first | exact HB.out | apply below_alloc | apply pw_below_drewN | apply below_drew1 | refine below_set ?_ GE204.out) | exact HB.out)⟩⟩
                        · rw [if_neg c17] at H
                          have c17b0 : (((rd_T58 l0 x19_2).f2) == x8_1) = false := beq_eq_false_iff_ne.mpr c17
                          have c17b1 : (((rd_T58 l0 x19_2).f2) != x8_1) = true := bne_iff_ne.mpr c17
                          by_cases c21 : ((rd_T58 l0 x19_2).f1) = x8_1
                          · rw [if_pos c21] at H
                            have c21b0 : (((rd_T58 l0 x19_2).f1) == x8_1) = true := beq_iff_eq.mpr c21
                            have c21b1 : (((rd_T58 l0 x19_2).f1) != x8_1) = false := bne_eq_false_iff_eq.mpr c21
                            clear c21
                            have H' := Aside0.mk H
                            clear H
                            have hcz22_0 : wc.cell? ⟨gb204, 0, none⟩ = some (.int .i64 ((rd_T58 l0 x19_2).f0)) := (blk_cell BK204.out 0).trans rfl
                            have hcz22_1 : wc.cell? ⟨gb204, 1, none⟩ = some (.int .i64 ((rd_T58 l0 x19_2).f1)) := (blk_cell BK204.out 1).trans rfl
                            have hcz22_2 : wc.cell? ⟨gb204, 2, none⟩ = some (.int .i64 ((rd_T58 l0 x19_2).f2)) := (blk_cell BK204.out 2).trans rfl
                            have hcz22_3 : wc.cell? ⟨gb204, 3, none⟩ = some (.int .i64 ((rd_T58 l0 x19_2).f3.f0)) := (blk_cell BK204.out 3).trans rfl
                            have hcz22_4 : wc.cell? ⟨gb204, 4, none⟩ = some (.int .i64 ((rd_T58 l0 x19_2).f3.f1)) := (blk_cell BK204.out 4).trans rfl
                            have hcz22_5 : wc.cell? ⟨gb204, 5, none⟩ = some (.int .i32 ((rd_T58 l0 x19_2).f4)) := (blk_cell BK204.out 5).trans rfl
                            have hfz22_0 := blk_frozen BK204.out 0
                            have hfz22_1 := blk_frozen BK204.out 1
                            have hfz22_2 := blk_frozen BK204.out 2
                            have hfz22_3 := blk_frozen BK204.out 3
                            have hfz22_4 := blk_frozen BK204.out 4
                            have hfz22_5 := blk_frozen BK204.out 5
                            go_wp2
                            go_roundg kj9
                            case measure => have := HK1.out; have := HK2.out; have := HJ9.out; omega
                            case rel => exact ⟨(wrap64 (x9_2 - ((rd_T58 l0 x19_2).f3.f1))), (wrap64 (x19_2 + 1)), (by first | rfl | (simp; done) | (simp [*]; done)), (by first | rfl | (simp; done) | (simp [*]; done)), H', ⟨by have := HK1.out; have := HK2.out; have := HJ9.out; omega⟩, ⟨by (with_reducible repeat (first | apply Kd.R_alloc | apply Kd.R_drewN | apply Kd.R_drew)); exact HO_7.out⟩, ⟨by repeat (first | (with_reducible first | exact HB.out | apply below_alloc | apply pw_below_drewN | apply below_drew1 | refine below_set ?_ GE204.out) | exact HB.out)⟩⟩
                          · rw [if_neg c21] at H
                            have c21b0 : (((rd_T58 l0 x19_2).f1) == x8_1) = false := beq_eq_false_iff_ne.mpr c21
                            have c21b1 : (((rd_T58 l0 x19_2).f1) != x8_1) = true := bne_iff_ne.mpr c21
                            have H' := Aside0.mk H
                            clear H
                            have hcz23_0 : wc.cell? ⟨gb204, 0, none⟩ = some (.int .i64 ((rd_T58 l0 x19_2).f0)) := (blk_cell BK204.out 0).trans rfl
                            have hcz23_1 : wc.cell? ⟨gb204, 1, none⟩ = some (.int .i64 ((rd_T58 l0 x19_2).f1)) := (blk_cell BK204.out 1).trans rfl
                            have hcz23_2 : wc.cell? ⟨gb204, 2, none⟩ = some (.int .i64 ((rd_T58 l0 x19_2).f2)) := (blk_cell BK204.out 2).trans rfl
                            have hcz23_3 : wc.cell? ⟨gb204, 3, none⟩ = some (.int .i64 ((rd_T58 l0 x19_2).f3.f0)) := (blk_cell BK204.out 3).trans rfl
                            have hcz23_4 : wc.cell? ⟨gb204, 4, none⟩ = some (.int .i64 ((rd_T58 l0 x19_2).f3.f1)) := (blk_cell BK204.out 4).trans rfl
                            have hcz23_5 : wc.cell? ⟨gb204, 5, none⟩ = some (.int .i32 ((rd_T58 l0 x19_2).f4)) := (blk_cell BK204.out 5).trans rfl
                            have hfz23_0 := blk_frozen BK204.out 0
                            have hfz23_1 := blk_frozen BK204.out 1
                            have hfz23_2 := blk_frozen BK204.out 2
                            have hfz23_3 := blk_frozen BK204.out 3
                            have hfz23_4 := blk_frozen BK204.out 4
                            have hfz23_5 := blk_frozen BK204.out 5
                            go_wp2
                            go_roundg kj9
                            case measure => have := HK1.out; have := HK2.out; have := HJ9.out; omega
                            case rel => exact ⟨(x9_2), (wrap64 (x19_2 + 1)), (by first | rfl | (simp; done) | (simp [*]; done)), (by first | rfl | (simp; done) | (simp [*]; done)), H', ⟨by have := HK1.out; have := HK2.out; have := HJ9.out; omega⟩, ⟨by (with_reducible repeat (first | apply Kd.R_alloc | apply Kd.R_drewN | apply Kd.R_drew)); exact HO_7.out⟩, ⟨by repeat (first | (with_reducible first | exact HB.out | apply below_alloc | apply pw_below_drewN | apply below_drew1 | refine below_set ?_ GE204.out) | exact HB.out)⟩⟩
                · rw [if_neg c9] at H
                  exact absurd H (by simp)
              · rw [if_neg c8] at H
                exact absurd H (by simp)
            · rw [if_neg c7] at H
              have c7b0 : decide (x19_2 < (l0.length : Int)) = false := decide_eq_false c7
              clear c7
              by_cases c24 : x7_1.length < 17592186044416
              · rw [if_pos c24] at H
                have LMc24 := Aside0.mk c24
                clear c24
                obtain ⟨y200, hy200⟩ : ∃ y_ : List Int, y_ = (x7_1 ++ [x9_2]) := ⟨_, rfl⟩
                replace H : (cashbookref30_Net.l0 k2 l0 a1 a2 y200 (wrap64 (x8_1 + 1))) = some r := by first | (rw [hy200]; with_reducible exact H) | (have H2_ := (Option.bind_some _ _).symm.trans H; rw [hy200]; with_reducible exact H2_) | (have H2_ := (Option.bind_some _ _).symm.trans H; with_reducible exact H2_) | with_reducible exact H | (rw [hy200]; exact H) | exact H
                have Ny200 := Aside0.mk hy200
                clear hy200
                have H' := Aside0.mk H
                clear H
                go_wp2_with (first | ((with_reducible refine gate_builtin (b := .append) (xs := #[.tmp 53, .tmp 55]) rfl ?_); at_builtin; refine Kd.R_append (Kd.int .i64) (w0 := w) w.heap.size rfl (.tmp 53) (.tmp 55) 25 2 (.int .i64 0) 8 rfl Try.underlying25 info2 rfl (by decide) (by omega) u7 x7_1 x9_2 [.int .i64 x9_2] (fun _ => True) (fun _ => False) rfl rfl ?aP (fun _ hk => hk.elim) ?aF ?aO ?aB ?aS ?aL ?_; (case aP => exact rfl); (case aB => exact (by repeat (first | (with_reducible first | exact HB.out | apply below_alloc | apply pw_below_drewN | apply below_drew1) | exact HB.out))); (case aF => exact (fun _ _ => trivial)); (case aO => exact (by (with_reducible repeat (first | apply Kd.R_alloc | apply Kd.R_drewN | apply Kd.R_drew)); exact HO_7.out)); (case aS => exact (below_size (by repeat (first | (with_reducible first | exact HB.out | apply below_alloc | apply pw_below_drewN | apply below_drew1) | exact HB.out)))); (case aL => have := LMc24.out; omega); intro v201 w25 ho hb hg hat; rw [← Ny200.out] at ho; have n0_ := Aside0.mk (hb); have n1_ := Aside0.mk (ho); clear HB; clear HO_7; have HB := n0_; have HO202 := n1_; clear n0_ n1_; clear ho hb hg hat))
                go_roundg k2
                case measure => have := HK1.out; have := HK2.out; omega
                case rel => exact ⟨(y200), (wrap64 (x8_1 + 1)), (by first | rfl | (simp; done) | (simp [*]; done)), H', ⟨by have := HK1.out; have := HK2.out; omega⟩, ⟨by (with_reducible repeat (first | apply Kd.R_alloc | apply Kd.R_drewN | apply Kd.R_drew)); exact HO202.out⟩, ⟨by repeat (first | (with_reducible first | exact HB.out | apply below_alloc | apply pw_below_drewN | apply below_drew1) | exact HB.out)⟩⟩
              · rw [if_neg c24] at H
                exact absurd H (by simp)
      · rw [if_neg c6] at H
        have c6b0 : decide (x8_1 < 16) = false := decide_eq_false c6
        clear c6
        obtain rfl := Option.some.inj H
        go_wp2
        go_ret
        exact ⟨_, by first | rfl | (simp [errW_none, errW_some] <;> rfl) | (simp [*, errW_none, errW_some] <;> rfl), by (with_reducible repeat (first | apply Kd.R_alloc | apply Kd.R_drewN | apply Kd.R_drew)); exact HO_7.out, by repeat (first | (with_reducible first | exact HB.out | apply below_alloc | apply pw_below_drewN | apply below_drew1) | exact HB.out)⟩

end Go.Proofs.Ytcmaohhcbiienaa.S
