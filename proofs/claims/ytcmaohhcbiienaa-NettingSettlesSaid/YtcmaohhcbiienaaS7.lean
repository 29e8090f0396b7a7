-- Printed by pp.py (wip/pp), a program of this session's, over the kit's print; Lean checks it.
import Derived.Test.YtcmaohhcbiienaaS0
import Derived.Test.YtcmaohhcbiienaaS1
import Derived.Test.YtcmaohhcbiienaaS4
import Derived.Test.YtcmaohhcbiienaaS5
namespace Go.Proofs.Ytcmaohhcbiienaa.S
open Go.RowKit Go.Proofs.YtcmaohhcbiienaaW.PrintWords Go.Proofs.YtcmaohhcbiienaaW.PrintLast Go.Proofs.YtcmaohhcbiienaaW.PrintMore
attribute [local go_sem] max2_int min2_int max_two min_two max_three min_three max_four min_four   -- for this text's walks alone
set_option linter.unusedVariables false
set_option linter.unusedSimpArgs false

attribute [local go_sem high] eqA45
/-! ### cashbookref30_Rows: function 16 -/
def cashbookref30_Rows.l0 : Nat → List (S45) → List (S45) → Int → Int → Option (Bool)
  | 0, _, _, _, _ => none
  | k + 1, x0, x1, x12, x13 => if x13 < x12 then (if 0 ≤ x13 then (if x13 < (x0.length : Int) then (if x13 < (x1.length : Int) then (if (!(((rd_T45 x0 x13).f0) == ((rd_T45 x1 x13).f0)) || (!(((rd_T45 x0 x13).f1) == ((rd_T45 x1 x13).f1)) || (!(((rd_T45 x0 x13).f2) == ((rd_T45 x1 x13).f2))))) = true then (some false) else (cashbookref30_Rows.l0 k x0 x1 x12 (wrap64 (x13 + 1)))) else (none)) else (none)) else (none)) else (some true)
def cashbookref30_Rows.f (k : Nat) (l0 : List (S45)) (l1 : List (S45)) : Option (Bool) := if (l0.length : Int) = (l1.length : Int) then (cashbookref30_Rows.l0 k l0 l1 (l0.length : Int) 0) else (some false)
theorem cashbookref30_Rows.mono_l : ∀ k, (∀ y0 y1 y2 y3, LeO (cashbookref30_Rows.l0 k y0 y1 y2 y3) (cashbookref30_Rows.l0 (k + 1) y0 y1 y2 y3))
  | 0 => fun _ _ _ _ r h => by simp [cashbookref30_Rows.l0] at h
  | k + 1 => by
    have ih0 := cashbookref30_Rows.mono_l k
    · intro y0 y1 y2 y3
      unfold cashbookref30_Rows.l0
      repeat' first
      | (with_reducible exact ih0 _ _ _ _)
      | (with_reducible exact LeO.refl _)
      | (with_reducible exact LeO.none _)
      | (with_reducible refine LeO.ite ?_ ?_)
      | (with_reducible refine LeO.bind ?_ (fun _ => ?_))
      | exact ih0 _ _ _ _
      | exact LeO.none _
      | refine LeO.ite ?_ ?_
      | refine LeO.bind ?_ (fun _ => ?_)
theorem cashbookref30_Rows.mono : ∀ a0 a1 k, LeO (cashbookref30_Rows.f k a0 a1) (cashbookref30_Rows.f (k + 1) a0 a1) := by
  intro a0 a1 k
  have ih0 := cashbookref30_Rows.mono_l k
  unfold cashbookref30_Rows.f
  repeat' first
      | (with_reducible exact ih0 _ _ _ _)
      | (with_reducible exact LeO.refl _)
      | (with_reducible exact LeO.none _)
      | (with_reducible refine LeO.ite ?_ ?_)
      | (with_reducible refine LeO.bind ?_ (fun _ => ?_))
      | exact ih0 _ _ _ _
      | exact LeO.none _
      | refine LeO.ite ?_ ?_
      | refine LeO.bind ?_ (fun _ => ?_)
set_option maxHeartbeats 8000000 in
set_option maxRecDepth 100000 in
theorem cashbookref30_Rows.calls (k : Nat) (A0 : Option Addr) (c0 : Nat) (l0 : List (S45)) (A1 : Option Addr) (c1 : Nat) (l1 : List (S45)) (r : Bool) (w : World) (hr0 : Kd.C k45 w A0 l0.length l0) (hc0 : l0.length ≤ c0) (hr1 : Kd.C k45 w A1 l1.length l1) (hc1 : l1.length ≤ c1) (h : cashbookref30_Rows.f k l0 l1 = some r) :
    Calls Try.prog 16 #[.slice A0 l0.length c0, .slice A1 l1.length c1] w fun e w' => e = .returned (.bool r) ∧ Drawn0 w w' := by
  have hu45 := Try.underlying45
  have HR0 := Aside0.mk hr0
  have HC0 := Aside0.mk hc0
  clear hr0 hc0
  have HR1 := Aside0.mk hr1
  have HC1 := Aside0.mk hc1
  clear hr1 hc1
  have H : (if (l0.length : Int) = (l1.length : Int) then (cashbookref30_Rows.l0 k l0 l1 (l0.length : Int) 0) else (some false)) = some r := h
  clear h
  by_cases c3 : (l0.length : Int) = (l1.length : Int)
  · rw [if_pos c3] at H
    have c3b0 : ((l0.length : Int) == (l1.length : Int)) = true := beq_iff_eq.mpr c3
    have c3b1 : ((l0.length : Int) != (l1.length : Int)) = false := bne_eq_false_iff_eq.mpr c3
    have c3b2 : (l0.length == l1.length) = true := by first | simpa using c3 | (simp at c3 ⊢; omega)
    clear c3
    have H' := Aside0.mk H
    clear H
    go_enter Try.func16, Try.ntmps16
    go_wp2
    repeat (go_quiet (fail); try go_wp2)
    go_loopg [13] k (fun kq v13 w' => ∃ (x13_1 : Int), v13 = .int .i64 x13_1 ∧ Aside0 (cashbookref30_Rows.l0 kq l0 l1 (l0.length : Int) x13_1 = some r) ∧ Aside0 (kq ≤ k) ∧ Drawn0 w w')
    case atStart => exact ⟨(0), (by first | rfl | (simp; done) | (simp [*]; done)), H', ⟨Nat.le_refl _⟩, by repeat (first | exact Drawn0.refl _ | apply Drawn0.step)⟩
    case round =>
      clear H'
      try clear c1
      try clear p2
      try clear c3
      try clear c3b0
      try clear c3b1
      try clear c3b2
      obtain ⟨x13_1, rfl, HA, HK1, ⟨m1, rfl⟩⟩ := hrel
      cases gk with
      | zero => exact absurd HA.out (by simp [cashbookref30_Rows.l0])
      | succ k1 =>
        have H := HA.out
        clear HA
        simp only [cashbookref30_Rows.l0] at H
        by_cases c4 : x13_1 < (l0.length : Int)
        · rw [if_pos c4] at H
          have c4b0 : decide (x13_1 < (l0.length : Int)) = true := decide_eq_true c4
          clear c4
          by_cases c5 : 0 ≤ x13_1
          · rw [if_pos c5] at H
            have c5b0 : decide (0 ≤ x13_1) = true := decide_eq_true c5
            clear c5
            by_cases c6 : x13_1 < (l0.length : Int)
            · rw [if_pos c6] at H
              have c6b0 : decide (x13_1 < (l0.length : Int)) = true := decide_eq_true c6
              clear c6
              by_cases c7 : x13_1 < (l1.length : Int)
              · rw [if_pos c7] at H
                have c7b0 : decide (x13_1 < (l1.length : Int)) = true := decide_eq_true c7
                clear c7
                by_cases c8 : (!(((rd_T45 l0 x13_1).f0) == ((rd_T45 l1 x13_1).f0)) || (!(((rd_T45 l0 x13_1).f1) == ((rd_T45 l1 x13_1).f1)) || (!(((rd_T45 l0 x13_1).f2) == ((rd_T45 l1 x13_1).f2))))) = true
                · rw [if_pos c8] at H
                  have c8b0 : (!(((rd_T45 l0 x13_1).f0) == ((rd_T45 l1 x13_1).f0)) || (!(((rd_T45 l0 x13_1).f1) == ((rd_T45 l1 x13_1).f1)) || (!(((rd_T45 l0 x13_1).f2) == ((rd_T45 l1 x13_1).f2))))) = true := c8
                  clear c8
                  obtain rfl := Option.some.inj H
                  have p153 : 0 ≤ (x13_1 : Int) := of_decide_eq_true (by first | (with_reducible assumption) | assumption)
                  have q153 : x13_1 < (l0.length : Int) := of_decide_eq_true (by first | (with_reducible assumption) | assumption)
                  obtain ⟨ad153, e153, hx153_0, hx153_1, hx153_2⟩ := at_T45 HR0.out x13_1 p153 q153
                  cases e153
                  replace p153 := eq_true p153
                  replace q153 := eq_true q153
                  have p154 : 0 ≤ (x13_1 : Int) := of_decide_eq_true (by first | (with_reducible assumption) | assumption)
                  have q154 : x13_1 < (l1.length : Int) := of_decide_eq_true (by first | (with_reducible assumption) | assumption)
                  obtain ⟨ad154, e154, hx154_0, hx154_1, hx154_2⟩ := at_T45 HR1.out x13_1 p154 q154
                  cases e154
                  replace p154 := eq_true p154
                  replace q154 := eq_true q154
                  go_wp2
                  repeat (go_quiet (fail); try go_wp2)
                  go_ret
                  exact ⟨by first | rfl | (simp; done) | (simp [*]; done), by repeat (first | exact Drawn0.refl _ | apply Drawn0.step)⟩
                · rw [if_neg c8] at H
                  have c8b0 : (!(((rd_T45 l0 x13_1).f0) == ((rd_T45 l1 x13_1).f0)) || (!(((rd_T45 l0 x13_1).f1) == ((rd_T45 l1 x13_1).f1)) || (!(((rd_T45 l0 x13_1).f2) == ((rd_T45 l1 x13_1).f2))))) = false := by simpa using c8
                  clear c8
                  have H' := Aside0.mk H
                  clear H
                  have p153 : 0 ≤ (x13_1 : Int) := of_decide_eq_true (by first | (with_reducible assumption) | assumption)
                  have q153 : x13_1 < (l0.length : Int) := of_decide_eq_true (by first | (with_reducible assumption) | assumption)
                  obtain ⟨ad153, e153, hx153_0, hx153_1, hx153_2⟩ := at_T45 HR0.out x13_1 p153 q153
                  cases e153
                  replace p153 := eq_true p153
                  replace q153 := eq_true q153
                  have p154 : 0 ≤ (x13_1 : Int) := of_decide_eq_true (by first | (with_reducible assumption) | assumption)
                  have q154 : x13_1 < (l1.length : Int) := of_decide_eq_true (by first | (with_reducible assumption) | assumption)
                  obtain ⟨ad154, e154, hx154_0, hx154_1, hx154_2⟩ := at_T45 HR1.out x13_1 p154 q154
                  cases e154
                  replace p154 := eq_true p154
                  replace q154 := eq_true q154
                  go_wp2
                  repeat (go_quiet (fail); try go_wp2)
                  go_roundg k1
                  case measure => have := HK1.out; omega
                  case rel => exact ⟨(wrap64 (x13_1 + 1)), (by first | rfl | (simp; done) | (simp [*]; done)), H', ⟨by have := HK1.out; omega⟩, by repeat (first | exact Drawn0.refl _ | apply Drawn0.step)⟩
              · rw [if_neg c7] at H
                exact absurd H (by simp)
            · rw [if_neg c6] at H
              exact absurd H (by simp)
          · rw [if_neg c5] at H
            exact absurd H (by simp)
        · rw [if_neg c4] at H
          have c4b0 : decide (x13_1 < (l0.length : Int)) = false := decide_eq_false c4
          clear c4
          obtain rfl := Option.some.inj H
          go_wp2
          repeat (go_quiet (fail); try go_wp2)
          go_ret
          exact ⟨by first | rfl | (simp; done) | (simp [*]; done), by repeat (first | exact Drawn0.refl _ | apply Drawn0.step)⟩
  · rw [if_neg c3] at H
    have c3b0 : ((l0.length : Int) == (l1.length : Int)) = false := beq_eq_false_iff_ne.mpr c3
    have c3b1 : ((l0.length : Int) != (l1.length : Int)) = true := bne_iff_ne.mpr c3
    have c3b2 : (l0.length == l1.length) = false := by first | simpa using c3 | (simp at c3 ⊢; omega)
    obtain rfl := Option.some.inj H
    go_enter Try.func16, Try.ntmps16
    go_wp2
    repeat (go_quiet (fail); try go_wp2)
    go_ret
    exact ⟨by first | rfl | (simp; done) | (simp [*]; done), by repeat (first | exact Drawn0.refl _ | apply Drawn0.step)⟩

/-! ### cashbooklaw30_alive: function 13 -/
def cashbooklaw30_alive.f (k : Nat)  : Option (Bool) := (netting_Net.f k (([(⟨1, 0, 1, (⟨0, 5⟩ : S56), 0⟩ : S58), (⟨2, 1, 2, (⟨0, 5⟩ : S56), 0⟩ : S58)] : List (S58))) 0 0).bind fun bt158 => ((netting_Settle.f k bt158.1).bind fun bt162 => (if bt158.2 = 0 then (if bt162.2 = 0 then (if (bt158.1.length : Int) = 16 then (if 0 < (bt158.1.length : Int) then (if (rd bt158.1 0) = (-5) then (if 1 < (bt158.1.length : Int) then (if (rd bt158.1 1) = 0 then ((cashbookref30_Rows.f k bt162.1 (([(⟨0, 2, 5⟩ : S45)] : List (S45)))).bind fun t171 => (some t171)) else (some false)) else (none)) else (some false)) else (none)) else (some false)) else (some false)) else (some false)))
theorem cashbooklaw30_alive.mono : ∀ k, LeO (cashbooklaw30_alive.f k ) (cashbooklaw30_alive.f (k + 1) ) := by
  intro  k
  unfold cashbooklaw30_alive.f
  repeat' first
      | (with_reducible exact cashbookref30_Rows.mono _ _ _)
      | (with_reducible exact netting_Net.mono _ _ _ _)
      | (with_reducible exact netting_Settle.mono _ _)
      | (with_reducible exact LeO.refl _)
      | (with_reducible exact LeO.none _)
      | (with_reducible refine LeO.ite ?_ ?_)
      | (with_reducible refine LeO.bind ?_ (fun _ => ?_))
      | exact cashbookref30_Rows.mono _ _ _
      | exact netting_Net.mono _ _ _ _
      | exact netting_Settle.mono _ _
      | exact LeO.none _
      | refine LeO.ite ?_ ?_
      | refine LeO.bind ?_ (fun _ => ?_)
set_option maxHeartbeats 8000000 in
set_option maxRecDepth 100000 in
theorem cashbooklaw30_alive.calls (k : Nat)  (r : Bool) (w : World) (h : cashbooklaw30_alive.f k  = some r) :
    Calls Try.prog 13 #[] w fun e w' => e = .returned (.bool r) ∧ Below w.heap.size w w' := by
  have hu56 := Try.underlying56
  have hu58 := Try.underlying58
  have hu45 := Try.underlying45
  have HB := Aside0.mk (Below.refl w.heap.size w)
  have H : ((netting_Net.f k (([(⟨1, 0, 1, (⟨0, 5⟩ : S56), 0⟩ : S58), (⟨2, 1, 2, (⟨0, 5⟩ : S56), 0⟩ : S58)] : List (S58))) 0 0).bind fun bt158 => ((netting_Settle.f k bt158.1).bind fun bt162 => (if bt158.2 = 0 then (if bt162.2 = 0 then (if (bt158.1.length : Int) = 16 then (if 0 < (bt158.1.length : Int) then (if (rd bt158.1 0) = (-5) then (if 1 < (bt158.1.length : Int) then (if (rd bt158.1 1) = 0 then ((cashbookref30_Rows.f k bt162.1 (([(⟨0, 2, 5⟩ : S45)] : List (S45)))).bind fun t171 => (some t171)) else (some false)) else (none)) else (some false)) else (none)) else (some false)) else (some false)) else (some false)))) = some r := h
  clear h
  obtain ⟨y155, hy155⟩ : ∃ y_ : List (S58), y_ = (([(⟨1, 0, 1, (⟨0, 5⟩ : S56), 0⟩ : S58), (⟨2, 1, 2, (⟨0, 5⟩ : S56), 0⟩ : S58)] : List (S58))) := ⟨_, rfl⟩
  replace H : ((netting_Net.f k y155 0 0).bind fun bt158 => ((netting_Settle.f k bt158.1).bind fun bt162 => (if bt158.2 = 0 then (if bt162.2 = 0 then (if (bt158.1.length : Int) = 16 then (if 0 < (bt158.1.length : Int) then (if (rd bt158.1 0) = (-5) then (if 1 < (bt158.1.length : Int) then (if (rd bt158.1 1) = 0 then ((cashbookref30_Rows.f k bt162.1 (([(⟨0, 2, 5⟩ : S45)] : List (S45)))).bind fun t171 => (some t171)) else (some false)) else (none)) else (some false)) else (none)) else (some false)) else (some false)) else (some false)))) = some r := by first | (rw [hy155]; with_reducible exact H) | (have H2_ := (Option.bind_some _ _).symm.trans H; rw [hy155]; with_reducible exact H2_) | (have H2_ := (Option.bind_some _ _).symm.trans H; with_reducible exact H2_) | with_reducible exact H | (rw [hy155]; exact H) | exact H
  have Ny155 := Aside0.mk hy155
  clear hy155
  replace H := Option.bind_eq_some_iff.mp H
  obtain ⟨⟨t158, t159⟩, A10, H⟩ := H
  replace H : ((netting_Settle.f k t158).bind fun bt162 => (if t159 = 0 then (if bt162.2 = 0 then (if (t158.length : Int) = 16 then (if 0 < (t158.length : Int) then (if (rd t158 0) = (-5) then (if 1 < (t158.length : Int) then (if (rd t158 1) = 0 then ((cashbookref30_Rows.f k bt162.1 (([(⟨0, 2, 5⟩ : S45)] : List (S45)))).bind fun t171 => (some t171)) else (some false)) else (none)) else (some false)) else (none)) else (some false)) else (some false)) else (some false))) = some r := H
  have A1 := Aside0.mk A10
  clear A10
  replace H := Option.bind_eq_some_iff.mp H
  obtain ⟨⟨t162, t163⟩, A20, H⟩ := H
  replace H : (if t159 = 0 then (if t163 = 0 then (if (t158.length : Int) = 16 then (if 0 < (t158.length : Int) then (if (rd t158 0) = (-5) then (if 1 < (t158.length : Int) then (if (rd t158 1) = 0 then ((cashbookref30_Rows.f k t162 (([(⟨0, 2, 5⟩ : S45)] : List (S45)))).bind fun t171 => (some t171)) else (some false)) else (none)) else (some false)) else (none)) else (some false)) else (some false)) else (some false)) = some r := H
  have A2 := Aside0.mk A20
  clear A20
  by_cases c3 : t159 = 0
  · rw [if_pos c3] at H
    have c3b0 : (t159 == 0) = true := beq_iff_eq.mpr c3
    have c3b1 : (t159 != 0) = false := bne_eq_false_iff_eq.mpr c3
    clear c3
    by_cases c4 : t163 = 0
    · rw [if_pos c4] at H
      have c4b0 : (t163 == 0) = true := beq_iff_eq.mpr c4
      have c4b1 : (t163 != 0) = false := bne_eq_false_iff_eq.mpr c4
      clear c4
      by_cases c5 : (t158.length : Int) = 16
      · rw [if_pos c5] at H
        have c5b0 : ((t158.length : Int) == 16) = true := beq_iff_eq.mpr c5
        have c5b1 : ((t158.length : Int) != 16) = false := bne_eq_false_iff_eq.mpr c5
        clear c5
        by_cases c6 : 0 < (t158.length : Int)
        · rw [if_pos c6] at H
          have c6b0 : decide (0 < (t158.length : Int)) = true := decide_eq_true c6
          have c6b1 : decide (0 < t158.length) = true := decide_eq_true (by omega)
          clear c6
          by_cases c7 : (rd t158 0) = (-5)
          · rw [if_pos c7] at H
            have c7b0 : ((rd t158 0) == (-5)) = true := beq_iff_eq.mpr c7
            have c7b1 : ((rd t158 0) != (-5)) = false := bne_eq_false_iff_eq.mpr c7
            clear c7
            by_cases c8 : 1 < (t158.length : Int)
            · rw [if_pos c8] at H
              have c8b0 : decide (1 < (t158.length : Int)) = true := decide_eq_true c8
              have c8b1 : decide (1 < t158.length) = true := decide_eq_true (by omega)
              clear c8
              by_cases c9 : (rd t158 1) = 0
              · rw [if_pos c9] at H
                have c9b0 : ((rd t158 1) == 0) = true := beq_iff_eq.mpr c9
                have c9b1 : ((rd t158 1) != 0) = false := bne_eq_false_iff_eq.mpr c9
                clear c9
                obtain ⟨y168, hy168⟩ : ∃ y_ : List (S45), y_ = (([(⟨0, 2, 5⟩ : S45)] : List (S45))) := ⟨_, rfl⟩
                replace H : ((cashbookref30_Rows.f k t162 y168).bind fun t171 => (some t171)) = some r := by first | (rw [hy168]; with_reducible exact H) | (have H2_ := (Option.bind_some _ _).symm.trans H; rw [hy168]; with_reducible exact H2_) | (have H2_ := (Option.bind_some _ _).symm.trans H; with_reducible exact H2_) | with_reducible exact H | (rw [hy168]; exact H) | exact H
                have Ny168 := Aside0.mk hy168
                clear hy168
                replace H := Option.bind_eq_some_iff.mp H
                obtain ⟨t171, A100, H⟩ := H
                replace H : (some t171) = some r := H
                have A10 := Aside0.mk A100
                clear A100
                obtain rfl := Option.some.inj H
                go_enter Try.func13, Try.ntmps13
                go_wp2_with (first | ((with_reducible refine gate_dst (N := 10) rfl ?_); (try (refine gate_guard (by rfl) ?_; dsimp only)); refine Kd.R_lit k58 _ 58 ?hg (N := 10) ?hd (xs := ([(⟨1, 0, 1, (⟨0, 5⟩ : S56), 0⟩ : S58), (⟨2, 1, 2, (⟨0, 5⟩ : S56), 0⟩ : S58)] : List (S58))) (inner := [.int .i64 1, .int .i64 0, .int .i64 1, .int .i64 0, .int .i64 5, .int .i32 0, .int .i64 2, .int .i64 1, .int .i64 2, .int .i64 0, .int .i64 5, .int .i32 0]) (ok := fun _ => True) (okp := fun _ => True) ?hr ?hp (fun _ hk => hk) trivial (Below.refl _ _) (Nat.le_refl _) (by simp) ?_; (case hd => rfl); (case hg => rfl); (case hr => first | (go_simp; done) | (go_simp; rfl)); (case hp => exact (Reps.c6 (show Kd.M k58 _ _ _ (⟨1, 0, 1, (⟨0, 5⟩ : S56), 0⟩ : S58) [.int .i64 1, .int .i64 0, .int .i64 1, .int .i64 0, .int .i64 5, .int .i32 0] from (k58_mkM _ _ _ (⟨1, 0, 1, (⟨0, 5⟩ : S56), 0⟩ : S58) )) (Reps.c6 (show Kd.M k58 _ _ _ (⟨2, 1, 2, (⟨0, 5⟩ : S56), 0⟩ : S58) [.int .i64 2, .int .i64 1, .int .i64 2, .int .i64 0, .int .i64 5, .int .i32 0] from (k58_mkM _ _ _ (⟨2, 1, 2, (⟨0, 5⟩ : S56), 0⟩ : S58) )) (Reps.none _ _)))); intro v156 w11 ho12 hb hg_ hnew_; clear hg_ hnew_; (first | rw [← Ny155.out] at ho12 | (simp only [Int.reduceToNat] at ho12; rw [← Ny155.out] at ho12)); have n0_ := Aside0.mk (Kd.R_lower ho12 (below_size (by repeat (first | (with_reducible first | exact HB.out | apply below_alloc | apply pw_below_drewN | apply below_drew1) | exact HB.out)))); have n1_ := Aside0.mk (below_step (by repeat (first | (with_reducible first | exact HB.out | apply below_alloc | apply pw_below_drewN | apply below_drew1) | exact HB.out)) hb); clear HB; have HO157 := n0_; have HB := n1_; clear n0_ n1_; clear hb ho12; obtain ⟨Ao13, co13, eo13⟩ := Kd.R_slice HO157.out; subst eo13) | ((with_reducible refine gate_callee (f := 9) rfl ?_); refine goesL_ (some 13) rfl rfl Try.func9 (by kernel_rfl) rfl #[.slice Ao13 y155.length co13, .int .i64 0, .int .i32 0] rfl (by (try simp only [List.map_toArray, List.map_cons, List.map_nil]); first | done | rfl | (simp only [List.length_drop, List.length_take]; rfl)) ?_; (with_reducible refine (netting_Net.calls k _ _ y155 0 0 t158 t159 _ ?side1 ?side2 A1.out).mono ?_); (case side1 => repeat (first | exact (Kd.R_reads' HO157.out).2.2 | (with_reducible refine Kd.C_alloc ?_ _) | (with_reducible refine Kd.C_drewN ?_ _) | (with_reducible refine Kd.C_drew ?_))); (case side2 => exact (Kd.R_reads' HO157.out).2.1); rintro e w14 ⟨v160, rfl, ho0, hb⟩; refine ⟨_, rfl, ?_⟩; have n0_ := Aside0.mk (Kd.R_below (by (with_reducible repeat (first | apply Kd.R_alloc | apply Kd.R_drewN | apply Kd.R_drew)); exact HO157.out) hb); have n1_ := Aside0.mk (Kd.R_lower ho0 (below_size (by repeat (first | (with_reducible first | exact HB.out | apply below_alloc | apply pw_below_drewN | apply below_drew1) | exact HB.out)))); have n2_ := Aside0.mk (below_step (by repeat (first | (with_reducible first | exact HB.out | apply below_alloc | apply pw_below_drewN | apply below_drew1) | exact HB.out)) hb); clear HO157; clear HB; have HO157 := n0_; have HO161 := n1_; have HB := n2_; clear n0_ n1_ n2_; (try clear hb); (try clear hb2); (try clear hk); (try clear hi); (try clear ho0); obtain ⟨Ao15, co15, eo15⟩ := Kd.R_slice HO161.out; subst eo15) | ((with_reducible refine gate_callee (f := 10) rfl ?_); refine goesL_ (some 18) rfl rfl Try.func10 (by kernel_rfl) rfl #[.slice Ao15 t158.length co15] rfl (by (try simp only [List.map_toArray, List.map_cons, List.map_nil]); first | done | rfl | (simp only [List.length_drop, List.length_take]; rfl)) ?_; (with_reducible refine (netting_Settle.calls k _ _ t158 t162 t163 _ ?side1 ?side2 A2.out).mono ?_); (case side1 => repeat (first | exact (Kd.R_reads' HO161.out).2.2 | (with_reducible refine Kd.C_alloc ?_ _) | (with_reducible refine Kd.C_drewN ?_ _) | (with_reducible refine Kd.C_drew ?_))); (case side2 => exact (Kd.R_reads' HO161.out).2.1); rintro e w16 ⟨v164, rfl, ho0, hb⟩; refine ⟨_, rfl, ?_⟩; have n0_ := Aside0.mk (Kd.R_below (by (with_reducible repeat (first | apply Kd.R_alloc | apply Kd.R_drewN | apply Kd.R_drew)); exact HO157.out) hb); have n1_ := Aside0.mk (Kd.R_below (by (with_reducible repeat (first | apply Kd.R_alloc | apply Kd.R_drewN | apply Kd.R_drew)); exact HO161.out) hb); have n2_ := Aside0.mk (Kd.R_lower ho0 (below_size (by repeat (first | (with_reducible first | exact HB.out | apply below_alloc | apply pw_below_drewN | apply below_drew1) | exact HB.out)))); have n3_ := Aside0.mk (below_step (by repeat (first | (with_reducible first | exact HB.out | apply below_alloc | apply pw_below_drewN | apply below_drew1) | exact HB.out)) hb); clear HO157; clear HO161; clear HB; have HO157 := n0_; have HO161 := n1_; have HO165 := n2_; have HB := n3_; clear n0_ n1_ n2_ n3_; (try clear hb); (try clear hb2); (try clear hk); (try clear hi); (try clear ho0); have p166 : 0 ≤ (0 : Int) := (by omega); have q166 : 0 < (t158.length : Int) := of_decide_eq_true (by first | (with_reducible assumption) | assumption); obtain ⟨ad166, e166, hx166_0⟩ := Kd.at_int (Kd.R_reads' HO161.out).2.2 0 p166 q166; cases e166; have qi166 : (0 < t158.length) = True := eq_true (by omega); (try rw [show ((0 : Int)).toNat = 0 from rfl] at hx166_0); (try rw [Addr.add_zero'] at hx166_0); replace p166 := eq_true p166; replace q166 := eq_true q166; have p167 : 0 ≤ (1 : Int) := (by omega); have q167 : 1 < (t158.length : Int) := of_decide_eq_true (by first | (with_reducible assumption) | assumption); obtain ⟨ad167, e167, hx167_0⟩ := Kd.at_int (Kd.R_reads' HO161.out).2.2 1 p167 q167; obtain rfl : ad166 = ad167 := (by injection e167); (try simp only [show (1 : Int).toNat = 1 from rfl, Nat.reduceMul, Nat.reduceEqDiff, Go.Addr.add, ↓reduceIte] at hx167_0); have qi167 : (1 < t158.length) = True := eq_true (by omega); (try rw [show ((1 : Int)).toNat = 1 from rfl] at hx167_0); replace p167 := eq_true p167; replace q167 := eq_true q167) | ((with_reducible refine gate_dst (N := 47) rfl ?_); (try (refine gate_guard (by rfl) ?_; dsimp only)); refine Kd.R_lit k45 _ 45 ?hg (N := 47) ?hd (xs := ([(⟨0, 2, 5⟩ : S45)] : List (S45))) (inner := [.int .i64 0, .int .i64 2, .int .i64 5]) (ok := fun _ => True) (okp := fun _ => True) ?hr ?hp (fun _ hk => hk) trivial (Below.refl _ _) (Nat.le_refl _) (by simp) ?_; (case hd => rfl); (case hg => rfl); (case hr => first | (go_simp; done) | (go_simp; rfl)); (case hp => exact (Reps.c3 (show Kd.M k45 _ _ _ (⟨0, 2, 5⟩ : S45) [.int .i64 0, .int .i64 2, .int .i64 5] from (k45_mkM _ _ _ (⟨0, 2, 5⟩ : S45) )) (Reps.none _ _))); intro v169 w17 ho18 hb hg_ hnew_; clear hg_ hnew_; (first | rw [← Ny168.out] at ho18 | (simp only [Int.reduceToNat] at ho18; rw [← Ny168.out] at ho18)); have n0_ := Aside0.mk (Kd.R_below (by (with_reducible repeat (first | apply Kd.R_alloc | apply Kd.R_drewN | apply Kd.R_drew)); exact HO157.out) hb); have n1_ := Aside0.mk (Kd.R_below (by (with_reducible repeat (first | apply Kd.R_alloc | apply Kd.R_drewN | apply Kd.R_drew)); exact HO161.out) hb); have n2_ := Aside0.mk (Kd.R_elder' (by (with_reducible repeat (first | apply Kd.R_alloc | apply Kd.R_drewN | apply Kd.R_drew)); exact HO165.out) (Kd.R_base ho18) hb); have n3_ := Aside0.mk (Kd.R_lower (Kd.R_new' ho18 (Kd.R_lt (by (with_reducible repeat (first | apply Kd.R_alloc | apply Kd.R_drewN | apply Kd.R_drew)); exact HO165.out))) (below_size (by repeat (first | (with_reducible first | exact HB.out | apply below_alloc | apply pw_below_drewN | apply below_drew1) | exact HB.out)))); have n4_ := Aside0.mk (below_step (by repeat (first | (with_reducible first | exact HB.out | apply below_alloc | apply pw_below_drewN | apply below_drew1) | exact HB.out)) hb); clear HO157; clear HO161; clear HO165; clear HB; have HO157 := n0_; have HO161 := n1_; have HO165 := n2_; have HO170 := n3_; have HB := n4_; clear n0_ n1_ n2_ n3_ n4_; clear hb ho18; obtain ⟨Ao19, co19, eo19⟩ := Kd.R_slice HO165.out; subst eo19; obtain ⟨Ao20, co20, eo20⟩ := Kd.R_slice HO170.out; subst eo20) | (go_at_call 16; (with_reducible refine (cashbookref30_Rows.calls k _ _ t162 _ _ y168 t171 _ ?side1 ?side2 ?side3 ?side4 A10.out).mono ?_); (case side1 => repeat (first | exact (Kd.R_reads' HO165.out).2.2 | (with_reducible refine Kd.C_alloc ?_ _) | (with_reducible refine Kd.C_drewN ?_ _) | (with_reducible refine Kd.C_drew ?_))); (case side2 => exact (Kd.R_reads' HO165.out).2.1); (case side3 => repeat (first | exact (Kd.R_reads' HO170.out).2.2 | (with_reducible refine Kd.C_alloc ?_ _) | (with_reducible refine Kd.C_drewN ?_ _) | (with_reducible refine Kd.C_drew ?_))); (case side4 => exact (Kd.R_reads' HO170.out).2.1); rintro e w' ⟨rfl, ⟨nd, rfl⟩⟩))
                go_ret
                exact ⟨by first | rfl | (simp [errW_none, errW_some] <;> rfl) | (simp [*, errW_none, errW_some] <;> rfl), by repeat (first | (with_reducible first | exact HB.out | apply below_alloc | apply pw_below_drewN | apply below_drew1) | exact HB.out)⟩
              · rw [if_neg c9] at H
                have c9b0 : ((rd t158 1) == 0) = false := beq_eq_false_iff_ne.mpr c9
                have c9b1 : ((rd t158 1) != 0) = true := bne_iff_ne.mpr c9
                obtain rfl := Option.some.inj H
                go_enter Try.func13, Try.ntmps13
                go_wp2_with (first | ((with_reducible refine gate_dst (N := 10) rfl ?_); (try (refine gate_guard (by rfl) ?_; dsimp only)); refine Kd.R_lit k58 _ 58 ?hg (N := 10) ?hd (xs := ([(⟨1, 0, 1, (⟨0, 5⟩ : S56), 0⟩ : S58), (⟨2, 1, 2, (⟨0, 5⟩ : S56), 0⟩ : S58)] : List (S58))) (inner := [.int .i64 1, .int .i64 0, .int .i64 1, .int .i64 0, .int .i64 5, .int .i32 0, .int .i64 2, .int .i64 1, .int .i64 2, .int .i64 0, .int .i64 5, .int .i32 0]) (ok := fun _ => True) (okp := fun _ => True) ?hr ?hp (fun _ hk => hk) trivial (Below.refl _ _) (Nat.le_refl _) (by simp) ?_; (case hd => rfl); (case hg => rfl); (case hr => first | (go_simp; done) | (go_simp; rfl)); (case hp => exact (Reps.c6 (show Kd.M k58 _ _ _ (⟨1, 0, 1, (⟨0, 5⟩ : S56), 0⟩ : S58) [.int .i64 1, .int .i64 0, .int .i64 1, .int .i64 0, .int .i64 5, .int .i32 0] from (k58_mkM _ _ _ (⟨1, 0, 1, (⟨0, 5⟩ : S56), 0⟩ : S58) )) (Reps.c6 (show Kd.M k58 _ _ _ (⟨2, 1, 2, (⟨0, 5⟩ : S56), 0⟩ : S58) [.int .i64 2, .int .i64 1, .int .i64 2, .int .i64 0, .int .i64 5, .int .i32 0] from (k58_mkM _ _ _ (⟨2, 1, 2, (⟨0, 5⟩ : S56), 0⟩ : S58) )) (Reps.none _ _)))); intro v156 w21 ho22 hb hg_ hnew_; clear hg_ hnew_; (first | rw [← Ny155.out] at ho22 | (simp only [Int.reduceToNat] at ho22; rw [← Ny155.out] at ho22)); have n0_ := Aside0.mk (Kd.R_lower ho22 (below_size (by repeat (first | (with_reducible first | exact HB.out | apply below_alloc | apply pw_below_drewN | apply below_drew1) | exact HB.out)))); have n1_ := Aside0.mk (below_step (by repeat (first | (with_reducible first | exact HB.out | apply below_alloc | apply pw_below_drewN | apply below_drew1) | exact HB.out)) hb); clear HB; have HO157 := n0_; have HB := n1_; clear n0_ n1_; clear hb ho22; obtain ⟨Ao23, co23, eo23⟩ := Kd.R_slice HO157.out; subst eo23) | ((with_reducible refine gate_callee (f := 9) rfl ?_); refine goesL_ (some 13) rfl rfl Try.func9 (by kernel_rfl) rfl #[.slice Ao23 y155.length co23, .int .i64 0, .int .i32 0] rfl (by (try simp only [List.map_toArray, List.map_cons, List.map_nil]); first | done | rfl | (simp only [List.length_drop, List.length_take]; rfl)) ?_; (with_reducible refine (netting_Net.calls k _ _ y155 0 0 t158 t159 _ ?side1 ?side2 A1.out).mono ?_); (case side1 => repeat (first | exact (Kd.R_reads' HO157.out).2.2 | (with_reducible refine Kd.C_alloc ?_ _) | (with_reducible refine Kd.C_drewN ?_ _) | (with_reducible refine Kd.C_drew ?_))); (case side2 => exact (Kd.R_reads' HO157.out).2.1); rintro e w24 ⟨v160, rfl, ho0, hb⟩; refine ⟨_, rfl, ?_⟩; have n0_ := Aside0.mk (Kd.R_below (by (with_reducible repeat (first | apply Kd.R_alloc | apply Kd.R_drewN | apply Kd.R_drew)); exact HO157.out) hb); have n1_ := Aside0.mk (Kd.R_lower ho0 (below_size (by repeat (first | (with_reducible first | exact HB.out | apply below_alloc | apply pw_below_drewN | apply below_drew1) | exact HB.out)))); have n2_ := Aside0.mk (below_step (by repeat (first | (with_reducible first | exact HB.out | apply below_alloc | apply pw_below_drewN | apply below_drew1) | exact HB.out)) hb); clear HO157; clear HB; have HO157 := n0_; have HO161 := n1_; have HB := n2_; clear n0_ n1_ n2_; (try clear hb); (try clear hb2); (try clear hk); (try clear hi); (try clear ho0); obtain ⟨Ao25, co25, eo25⟩ := Kd.R_slice HO161.out; subst eo25) | ((with_reducible refine gate_callee (f := 10) rfl ?_); refine goesL_ (some 18) rfl rfl Try.func10 (by kernel_rfl) rfl #[.slice Ao25 t158.length co25] rfl (by (try simp only [List.map_toArray, List.map_cons, List.map_nil]); first | done | rfl | (simp only [List.length_drop, List.length_take]; rfl)) ?_; (with_reducible refine (netting_Settle.calls k _ _ t158 t162 t163 _ ?side1 ?side2 A2.out).mono ?_); (case side1 => repeat (first | exact (Kd.R_reads' HO161.out).2.2 | (with_reducible refine Kd.C_alloc ?_ _) | (with_reducible refine Kd.C_drewN ?_ _) | (with_reducible refine Kd.C_drew ?_))); (case side2 => exact (Kd.R_reads' HO161.out).2.1); rintro e w26 ⟨v164, rfl, ho0, hb⟩; refine ⟨_, rfl, ?_⟩; have n0_ := Aside0.mk (Kd.R_below (by (with_reducible repeat (first | apply Kd.R_alloc | apply Kd.R_drewN | apply Kd.R_drew)); exact HO157.out) hb); have n1_ := Aside0.mk (Kd.R_below (by (with_reducible repeat (first | apply Kd.R_alloc | apply Kd.R_drewN | apply Kd.R_drew)); exact HO161.out) hb); have n2_ := Aside0.mk (Kd.R_lower ho0 (below_size (by repeat (first | (with_reducible first | exact HB.out | apply below_alloc | apply pw_below_drewN | apply below_drew1) | exact HB.out)))); have n3_ := Aside0.mk (below_step (by repeat (first | (with_reducible first | exact HB.out | apply below_alloc | apply pw_below_drewN | apply below_drew1) | exact HB.out)) hb); clear HO157; clear HO161; clear HB; have HO157 := n0_; have HO161 := n1_; have HO165 := n2_; have HB := n3_; clear n0_ n1_ n2_ n3_; (try clear hb); (try clear hb2); (try clear hk); (try clear hi); (try clear ho0); have p166 : 0 ≤ (0 : Int) := (by omega); have q166 : 0 < (t158.length : Int) := of_decide_eq_true (by first | (with_reducible assumption) | assumption); obtain ⟨ad166, e166, hx166_0⟩ := Kd.at_int (Kd.R_reads' HO161.out).2.2 0 p166 q166; cases e166; have qi166 : (0 < t158.length) = True := eq_true (by omega); (try rw [show ((0 : Int)).toNat = 0 from rfl] at hx166_0); (try rw [Addr.add_zero'] at hx166_0); replace p166 := eq_true p166; replace q166 := eq_true q166; have p167 : 0 ≤ (1 : Int) := (by omega); have q167 : 1 < (t158.length : Int) := of_decide_eq_true (by first | (with_reducible assumption) | assumption); obtain ⟨ad167, e167, hx167_0⟩ := Kd.at_int (Kd.R_reads' HO161.out).2.2 1 p167 q167; obtain rfl : ad166 = ad167 := (by injection e167); (try simp only [show (1 : Int).toNat = 1 from rfl, Nat.reduceMul, Nat.reduceEqDiff, Go.Addr.add, ↓reduceIte] at hx167_0); have qi167 : (1 < t158.length) = True := eq_true (by omega); (try rw [show ((1 : Int)).toNat = 1 from rfl] at hx167_0); replace p167 := eq_true p167; replace q167 := eq_true q167))
                go_ret
                exact ⟨by first | rfl | (simp [errW_none, errW_some] <;> rfl) | (simp [*, errW_none, errW_some] <;> rfl), by repeat (first | (with_reducible first | exact HB.out | apply below_alloc | apply pw_below_drewN | apply below_drew1) | exact HB.out)⟩
            · rw [if_neg c8] at H
              exact absurd H (by simp)
          · rw [if_neg c7] at H
            have c7b0 : ((rd t158 0) == (-5)) = false := beq_eq_false_iff_ne.mpr c7
            have c7b1 : ((rd t158 0) != (-5)) = true := bne_iff_ne.mpr c7
            obtain rfl := Option.some.inj H
            go_enter Try.func13, Try.ntmps13
            go_wp2_with (first | ((with_reducible refine gate_dst (N := 10) rfl ?_); (try (refine gate_guard (by rfl) ?_; dsimp only)); refine Kd.R_lit k58 _ 58 ?hg (N := 10) ?hd (xs := ([(⟨1, 0, 1, (⟨0, 5⟩ : S56), 0⟩ : S58), (⟨2, 1, 2, (⟨0, 5⟩ : S56), 0⟩ : S58)] : List (S58))) (inner := [.int .i64 1, .int .i64 0, .int .i64 1, .int .i64 0, .int .i64 5, .int .i32 0, .int .i64 2, .int .i64 1, .int .i64 2, .int .i64 0, .int .i64 5, .int .i32 0]) (ok := fun _ => True) (okp := fun _ => True) ?hr ?hp (fun _ hk => hk) trivial (Below.refl _ _) (Nat.le_refl _) (by simp) ?_; (case hd => rfl); (case hg => rfl); (case hr => first | (go_simp; done) | (go_simp; rfl)); (case hp => exact (Reps.c6 (show Kd.M k58 _ _ _ (⟨1, 0, 1, (⟨0, 5⟩ : S56), 0⟩ : S58) [.int .i64 1, .int .i64 0, .int .i64 1, .int .i64 0, .int .i64 5, .int .i32 0] from (k58_mkM _ _ _ (⟨1, 0, 1, (⟨0, 5⟩ : S56), 0⟩ : S58) )) (Reps.c6 (show Kd.M k58 _ _ _ (⟨2, 1, 2, (⟨0, 5⟩ : S56), 0⟩ : S58) [.int .i64 2, .int .i64 1, .int .i64 2, .int .i64 0, .int .i64 5, .int .i32 0] from (k58_mkM _ _ _ (⟨2, 1, 2, (⟨0, 5⟩ : S56), 0⟩ : S58) )) (Reps.none _ _)))); intro v156 w27 ho28 hb hg_ hnew_; clear hg_ hnew_; (first | rw [← Ny155.out] at ho28 | (simp only [Int.reduceToNat] at ho28; rw [← Ny155.out] at ho28)); have n0_ := Aside0.mk (Kd.R_lower ho28 (below_size (by repeat (first | (with_reducible first | exact HB.out | apply below_alloc | apply pw_below_drewN | apply below_drew1) | exact HB.out)))); have n1_ := Aside0.mk (below_step (by repeat (first | (with_reducible first | exact HB.out | apply below_alloc | apply pw_below_drewN | apply below_drew1) | exact HB.out)) hb); clear HB; have HO157 := n0_; have HB := n1_; clear n0_ n1_; clear hb ho28; obtain ⟨Ao29, co29, eo29⟩ := Kd.R_slice HO157.out; subst eo29) | ((with_reducible refine gate_callee (f := 9) rfl ?_); refine goesL_ (some 13) rfl rfl Try.func9 (by kernel_rfl) rfl #[.slice Ao29 y155.length co29, .int .i64 0, .int .i32 0] rfl (by (try simp only [List.map_toArray, List.map_cons, List.map_nil]); first | done | rfl | (simp only [List.length_drop, List.length_take]; rfl)) ?_; (with_reducible refine (netting_Net.calls k _ _ y155 0 0 t158 t159 _ ?side1 ?side2 A1.out).mono ?_); (case side1 => repeat (first | exact (Kd.R_reads' HO157.out).2.2 | (with_reducible refine Kd.C_alloc ?_ _) | (with_reducible refine Kd.C_drewN ?_ _) | (with_reducible refine Kd.C_drew ?_))); (case side2 => exact (Kd.R_reads' HO157.out).2.1); rintro e w30 ⟨v160, rfl, ho0, hb⟩; refine ⟨_, rfl, ?_⟩; have n0_ := Aside0.mk (Kd.R_below (by (with_reducible repeat (first | apply Kd.R_alloc | apply Kd.R_drewN | apply Kd.R_drew)); exact HO157.out) hb); have n1_ := Aside0.mk (Kd.R_lower ho0 (below_size (by repeat (first | (with_reducible first | exact HB.out | apply below_alloc | apply pw_below_drewN | apply below_drew1) | exact HB.out)))); have n2_ := Aside0.mk (below_step (by repeat (first | (with_reducible first | exact HB.out | apply below_alloc | apply pw_below_drewN | apply below_drew1) | exact HB.out)) hb); clear HO157; clear HB; have HO157 := n0_; have HO161 := n1_; have HB := n2_; clear n0_ n1_ n2_; (try clear hb); (try clear hb2); (try clear hk); (try clear hi); (try clear ho0); obtain ⟨Ao31, co31, eo31⟩ := Kd.R_slice HO161.out; subst eo31) | ((with_reducible refine gate_callee (f := 10) rfl ?_); refine goesL_ (some 18) rfl rfl Try.func10 (by kernel_rfl) rfl #[.slice Ao31 t158.length co31] rfl (by (try simp only [List.map_toArray, List.map_cons, List.map_nil]); first | done | rfl | (simp only [List.length_drop, List.length_take]; rfl)) ?_; (with_reducible refine (netting_Settle.calls k _ _ t158 t162 t163 _ ?side1 ?side2 A2.out).mono ?_); (case side1 => repeat (first | exact (Kd.R_reads' HO161.out).2.2 | (with_reducible refine Kd.C_alloc ?_ _) | (with_reducible refine Kd.C_drewN ?_ _) | (with_reducible refine Kd.C_drew ?_))); (case side2 => exact (Kd.R_reads' HO161.out).2.1); rintro e w32 ⟨v164, rfl, ho0, hb⟩; refine ⟨_, rfl, ?_⟩; have n0_ := Aside0.mk (Kd.R_below (by (with_reducible repeat (first | apply Kd.R_alloc | apply Kd.R_drewN | apply Kd.R_drew)); exact HO157.out) hb); have n1_ := Aside0.mk (Kd.R_below (by (with_reducible repeat (first | apply Kd.R_alloc | apply Kd.R_drewN | apply Kd.R_drew)); exact HO161.out) hb); have n2_ := Aside0.mk (Kd.R_lower ho0 (below_size (by repeat (first | (with_reducible first | exact HB.out | apply below_alloc | apply pw_below_drewN | apply below_drew1) | exact HB.out)))); have n3_ := Aside0.mk (below_step (by repeat (first | (with_reducible first | exact HB.out | apply below_alloc | apply pw_below_drewN | apply below_drew1) | exact HB.out)) hb); clear HO157; clear HO161; clear HB; have HO157 := n0_; have HO161 := n1_; have HO165 := n2_; have HB := n3_; clear n0_ n1_ n2_ n3_; (try clear hb); (try clear hb2); (try clear hk); (try clear hi); (try clear ho0); have p166 : 0 ≤ (0 : Int) := (by omega); have q166 : 0 < (t158.length : Int) := of_decide_eq_true (by first | (with_reducible assumption) | assumption); obtain ⟨ad166, e166, hx166_0⟩ := Kd.at_int (Kd.R_reads' HO161.out).2.2 0 p166 q166; cases e166; have qi166 : (0 < t158.length) = True := eq_true (by omega); (try rw [show ((0 : Int)).toNat = 0 from rfl] at hx166_0); (try rw [Addr.add_zero'] at hx166_0); replace p166 := eq_true p166; replace q166 := eq_true q166))
            go_ret
            exact ⟨by first | rfl | (simp [errW_none, errW_some] <;> rfl) | (simp [*, errW_none, errW_some] <;> rfl), by repeat (first | (with_reducible first | exact HB.out | apply below_alloc | apply pw_below_drewN | apply below_drew1) | exact HB.out)⟩
        · rw [if_neg c6] at H
          exact absurd H (by simp)
      · rw [if_neg c5] at H
        have c5b0 : ((t158.length : Int) == 16) = false := beq_eq_false_iff_ne.mpr c5
        have c5b1 : ((t158.length : Int) != 16) = true := bne_iff_ne.mpr c5
        obtain rfl := Option.some.inj H
        go_enter Try.func13, Try.ntmps13
        go_wp2_with (first | ((with_reducible refine gate_dst (N := 10) rfl ?_); (try (refine gate_guard (by rfl) ?_; dsimp only)); refine Kd.R_lit k58 _ 58 ?hg (N := 10) ?hd (xs := ([(⟨1, 0, 1, (⟨0, 5⟩ : S56), 0⟩ : S58), (⟨2, 1, 2, (⟨0, 5⟩ : S56), 0⟩ : S58)] : List (S58))) (inner := [.int .i64 1, .int .i64 0, .int .i64 1, .int .i64 0, .int .i64 5, .int .i32 0, .int .i64 2, .int .i64 1, .int .i64 2, .int .i64 0, .int .i64 5, .int .i32 0]) (ok := fun _ => True) (okp := fun _ => True) ?hr ?hp (fun _ hk => hk) trivial (Below.refl _ _) (Nat.le_refl _) (by simp) ?_; (case hd => rfl); (case hg => rfl); (case hr => first | (go_simp; done) | (go_simp; rfl)); (case hp => exact (Reps.c6 (show Kd.M k58 _ _ _ (⟨1, 0, 1, (⟨0, 5⟩ : S56), 0⟩ : S58) [.int .i64 1, .int .i64 0, .int .i64 1, .int .i64 0, .int .i64 5, .int .i32 0] from (k58_mkM _ _ _ (⟨1, 0, 1, (⟨0, 5⟩ : S56), 0⟩ : S58) )) (Reps.c6 (show Kd.M k58 _ _ _ (⟨2, 1, 2, (⟨0, 5⟩ : S56), 0⟩ : S58) [.int .i64 2, .int .i64 1, .int .i64 2, .int .i64 0, .int .i64 5, .int .i32 0] from (k58_mkM _ _ _ (⟨2, 1, 2, (⟨0, 5⟩ : S56), 0⟩ : S58) )) (Reps.none _ _)))); intro v156 w33 ho34 hb hg_ hnew_; clear hg_ hnew_; (first | rw [← Ny155.out] at ho34 | (simp only [Int.reduceToNat] at ho34; rw [← Ny155.out] at ho34)); have n0_ := Aside0.mk (Kd.R_lower ho34 (below_size (by repeat (first | (with_reducible first | exact HB.out | apply below_alloc | apply pw_below_drewN | apply below_drew1) | exact HB.out)))); have n1_ := Aside0.mk (below_step (by repeat (first | (with_reducible first | exact HB.out | apply below_alloc | apply pw_below_drewN | apply below_drew1) | exact HB.out)) hb); clear HB; have HO157 := n0_; have HB := n1_; clear n0_ n1_; clear hb ho34; obtain ⟨Ao35, co35, eo35⟩ := Kd.R_slice HO157.out; subst eo35) | ((with_reducible refine gate_callee (f := 9) rfl ?_); refine goesL_ (some 13) rfl rfl Try.func9 (by kernel_rfl) rfl #[.slice Ao35 y155.length co35, .int .i64 0, .int .i32 0] rfl (by (try simp only [List.map_toArray, List.map_cons, List.map_nil]); first | done | rfl | (simp only [List.length_drop, List.length_take]; rfl)) ?_; (with_reducible refine (netting_Net.calls k _ _ y155 0 0 t158 t159 _ ?side1 ?side2 A1.out).mono ?_); (case side1 => repeat (first | exact (Kd.R_reads' HO157.out).2.2 | (with_reducible refine Kd.C_alloc ?_ _) | (with_reducible refine Kd.C_drewN ?_ _) | (with_reducible refine Kd.C_drew ?_))); (case side2 => exact (Kd.R_reads' HO157.out).2.1); rintro e w36 ⟨v160, rfl, ho0, hb⟩; refine ⟨_, rfl, ?_⟩; have n0_ := Aside0.mk (Kd.R_below (by (with_reducible repeat (first | apply Kd.R_alloc | apply Kd.R_drewN | apply Kd.R_drew)); exact HO157.out) hb); have n1_ := Aside0.mk (Kd.R_lower ho0 (below_size (by repeat (first | (with_reducible first | exact HB.out | apply below_alloc | apply pw_below_drewN | apply below_drew1) | exact HB.out)))); have n2_ := Aside0.mk (below_step (by repeat (first | (with_reducible first | exact HB.out | apply below_alloc | apply pw_below_drewN | apply below_drew1) | exact HB.out)) hb); clear HO157; clear HB; have HO157 := n0_; have HO161 := n1_; have HB := n2_; clear n0_ n1_ n2_; (try clear hb); (try clear hb2); (try clear hk); (try clear hi); (try clear ho0); obtain ⟨Ao37, co37, eo37⟩ := Kd.R_slice HO161.out; subst eo37) | ((with_reducible refine gate_callee (f := 10) rfl ?_); refine goesL_ (some 18) rfl rfl Try.func10 (by kernel_rfl) rfl #[.slice Ao37 t158.length co37] rfl (by (try simp only [List.map_toArray, List.map_cons, List.map_nil]); first | done | rfl | (simp only [List.length_drop, List.length_take]; rfl)) ?_; (with_reducible refine (netting_Settle.calls k _ _ t158 t162 t163 _ ?side1 ?side2 A2.out).mono ?_); (case side1 => repeat (first | exact (Kd.R_reads' HO161.out).2.2 | (with_reducible refine Kd.C_alloc ?_ _) | (with_reducible refine Kd.C_drewN ?_ _) | (with_reducible refine Kd.C_drew ?_))); (case side2 => exact (Kd.R_reads' HO161.out).2.1); rintro e w38 ⟨v164, rfl, ho0, hb⟩; refine ⟨_, rfl, ?_⟩; have n0_ := Aside0.mk (Kd.R_below (by (with_reducible repeat (first | apply Kd.R_alloc | apply Kd.R_drewN | apply Kd.R_drew)); exact HO157.out) hb); have n1_ := Aside0.mk (Kd.R_below (by (with_reducible repeat (first | apply Kd.R_alloc | apply Kd.R_drewN | apply Kd.R_drew)); exact HO161.out) hb); have n2_ := Aside0.mk (Kd.R_lower ho0 (below_size (by repeat (first | (with_reducible first | exact HB.out | apply below_alloc | apply pw_below_drewN | apply below_drew1) | exact HB.out)))); have n3_ := Aside0.mk (below_step (by repeat (first | (with_reducible first | exact HB.out | apply below_alloc | apply pw_below_drewN | apply below_drew1) | exact HB.out)) hb); clear HO157; clear HO161; clear HB; have HO157 := n0_; have HO161 := n1_; have HO165 := n2_; have HB := n3_; clear n0_ n1_ n2_ n3_; (try clear hb); (try clear hb2); (try clear hk); (try clear hi); (try clear ho0)))
        go_ret
        exact ⟨by first | rfl | (simp [errW_none, errW_some] <;> rfl) | (simp [*, errW_none, errW_some] <;> rfl), by repeat (first | (with_reducible first | exact HB.out | apply below_alloc | apply pw_below_drewN | apply below_drew1) | exact HB.out)⟩
    · rw [if_neg c4] at H
      have c4b0 : (t163 == 0) = false := beq_eq_false_iff_ne.mpr c4
      have c4b1 : (t163 != 0) = true := bne_iff_ne.mpr c4
      obtain rfl := Option.some.inj H
      go_enter Try.func13, Try.ntmps13
      go_wp2_with (first | ((with_reducible refine gate_dst (N := 10) rfl ?_); (try (refine gate_guard (by rfl) ?_; dsimp only)); refine Kd.R_lit k58 _ 58 ?hg (N := 10) ?hd (xs := ([(⟨1, 0, 1, (⟨0, 5⟩ : S56), 0⟩ : S58), (⟨2, 1, 2, (⟨0, 5⟩ : S56), 0⟩ : S58)] : List (S58))) (inner := [.int .i64 1, .int .i64 0, .int .i64 1, .int .i64 0, .int .i64 5, .int .i32 0, .int .i64 2, .int .i64 1, .int .i64 2, .int .i64 0, .int .i64 5, .int .i32 0]) (ok := fun _ => True) (okp := fun _ => True) ?hr ?hp (fun _ hk => hk) trivial (Below.refl _ _) (Nat.le_refl _) (by simp) ?_; (case hd => rfl); (case hg => rfl); (case hr => first | (go_simp; done) | (go_simp; rfl)); (case hp => exact (Reps.c6 (show Kd.M k58 _ _ _ (⟨1, 0, 1, (⟨0, 5⟩ : S56), 0⟩ : S58) [.int .i64 1, .int .i64 0, .int .i64 1, .int .i64 0, .int .i64 5, .int .i32 0] from (k58_mkM _ _ _ (⟨1, 0, 1, (⟨0, 5⟩ : S56), 0⟩ : S58) )) (Reps.c6 (show Kd.M k58 _ _ _ (⟨2, 1, 2, (⟨0, 5⟩ : S56), 0⟩ : S58) [.int .i64 2, .int .i64 1, .int .i64 2, .int .i64 0, .int .i64 5, .int .i32 0] from (k58_mkM _ _ _ (⟨2, 1, 2, (⟨0, 5⟩ : S56), 0⟩ : S58) )) (Reps.none _ _)))); intro v156 w39 ho40 hb hg_ hnew_; clear hg_ hnew_; (first | rw [← Ny155.out] at ho40 | (simp only [Int.reduceToNat] at ho40; rw [← Ny155.out] at ho40)); have n0_ := Aside0.mk (Kd.R_lower ho40 (below_size (by repeat (first | (with_reducible first | exact HB.out | apply below_alloc | apply pw_below_drewN | apply below_drew1) | exact HB.out)))); have n1_ := Aside0.mk (below_step (by repeat (first | (with_reducible first | exact HB.out | apply below_alloc | apply pw_below_drewN | apply below_drew1) | exact HB.out)) hb); clear HB; have HO157 := n0_; have HB := n1_; clear n0_ n1_; clear hb ho40; obtain ⟨Ao41, co41, eo41⟩ := Kd.R_slice HO157.out; subst eo41) | ((with_reducible refine gate_callee (f := 9) rfl ?_); refine goesL_ (some 13) rfl rfl Try.func9 (by kernel_rfl) rfl #[.slice Ao41 y155.length co41, .int .i64 0, .int .i32 0] rfl (by (try simp only [List.map_toArray, List.map_cons, List.map_nil]); first | done | rfl | (simp only [List.length_drop, List.length_take]; rfl)) ?_; (with_reducible refine (netting_Net.calls k _ _ y155 0 0 t158 t159 _ ?side1 ?side2 A1.out).mono ?_); (case side1 => repeat (first | exact (Kd.R_reads' HO157.out).2.2 | (with_reducible refine Kd.C_alloc ?_ _) | (with_reducible refine Kd.C_drewN ?_ _) | (with_reducible refine Kd.C_drew ?_))); (case side2 => exact (Kd.R_reads' HO157.out).2.1); rintro e w42 ⟨v160, rfl, ho0, hb⟩; refine ⟨_, rfl, ?_⟩; have n0_ := Aside0.mk (Kd.R_below (by (with_reducible repeat (first | apply Kd.R_alloc | apply Kd.R_drewN | apply Kd.R_drew)); exact HO157.out) hb); have n1_ := Aside0.mk (Kd.R_lower ho0 (below_size (by repeat (first | (with_reducible first | exact HB.out | apply below_alloc | apply pw_below_drewN | apply below_drew1) | exact HB.out)))); have n2_ := Aside0.mk (below_step (by repeat (first | (with_reducible first | exact HB.out | apply below_alloc | apply pw_below_drewN | apply below_drew1) | exact HB.out)) hb); clear HO157; clear HB; have HO157 := n0_; have HO161 := n1_; have HB := n2_; clear n0_ n1_ n2_; (try clear hb); (try clear hb2); (try clear hk); (try clear hi); (try clear ho0); obtain ⟨Ao43, co43, eo43⟩ := Kd.R_slice HO161.out; subst eo43) | ((with_reducible refine gate_callee (f := 10) rfl ?_); refine goesL_ (some 18) rfl rfl Try.func10 (by kernel_rfl) rfl #[.slice Ao43 t158.length co43] rfl (by (try simp only [List.map_toArray, List.map_cons, List.map_nil]); first | done | rfl | (simp only [List.length_drop, List.length_take]; rfl)) ?_; (with_reducible refine (netting_Settle.calls k _ _ t158 t162 t163 _ ?side1 ?side2 A2.out).mono ?_); (case side1 => repeat (first | exact (Kd.R_reads' HO161.out).2.2 | (with_reducible refine Kd.C_alloc ?_ _) | (with_reducible refine Kd.C_drewN ?_ _) | (with_reducible refine Kd.C_drew ?_))); (case side2 => exact (Kd.R_reads' HO161.out).2.1); rintro e w44 ⟨v164, rfl, ho0, hb⟩; refine ⟨_, rfl, ?_⟩; have n0_ := Aside0.mk (Kd.R_below (by (with_reducible repeat (first | apply Kd.R_alloc | apply Kd.R_drewN | apply Kd.R_drew)); exact HO157.out) hb); have n1_ := Aside0.mk (Kd.R_below (by (with_reducible repeat (first | apply Kd.R_alloc | apply Kd.R_drewN | apply Kd.R_drew)); exact HO161.out) hb); have n2_ := Aside0.mk (Kd.R_lower ho0 (below_size (by repeat (first | (with_reducible first | exact HB.out | apply below_alloc | apply pw_below_drewN | apply below_drew1) | exact HB.out)))); have n3_ := Aside0.mk (below_step (by repeat (first | (with_reducible first | exact HB.out | apply below_alloc | apply pw_below_drewN | apply below_drew1) | exact HB.out)) hb); clear HO157; clear HO161; clear HB; have HO157 := n0_; have HO161 := n1_; have HO165 := n2_; have HB := n3_; clear n0_ n1_ n2_ n3_; (try clear hb); (try clear hb2); (try clear hk); (try clear hi); (try clear ho0)))
      go_ret
      exact ⟨by first | rfl | (simp [errW_none, errW_some] <;> rfl) | (simp [*, errW_none, errW_some] <;> rfl), by repeat (first | (with_reducible first | exact HB.out | apply below_alloc | apply pw_below_drewN | apply below_drew1) | exact HB.out)⟩
  · rw [if_neg c3] at H
    have c3b0 : (t159 == 0) = false := beq_eq_false_iff_ne.mpr c3
    have c3b1 : (t159 != 0) = true := bne_iff_ne.mpr c3
    obtain rfl := Option.some.inj H
    go_enter Try.func13, Try.ntmps13
    go_wp2_with (first | ((with_reducible refine gate_dst (N := 10) rfl ?_); (try (refine gate_guard (by rfl) ?_; dsimp only)); refine Kd.R_lit k58 _ 58 ?hg (N := 10) ?hd (xs := ([(⟨1, 0, 1, (⟨0, 5⟩ : S56), 0⟩ : S58), (⟨2, 1, 2, (⟨0, 5⟩ : S56), 0⟩ : S58)] : List (S58))) (inner := [.int .i64 1, .int .i64 0, .int .i64 1, .int .i64 0, .int .i64 5, .int .i32 0, .int .i64 2, .int .i64 1, .int .i64 2, .int .i64 0, .int .i64 5, .int .i32 0]) (ok := fun _ => True) (okp := fun _ => True) ?hr ?hp (fun _ hk => hk) trivial (Below.refl _ _) (Nat.le_refl _) (by simp) ?_; (case hd => rfl); (case hg => rfl); (case hr => first | (go_simp; done) | (go_simp; rfl)); (case hp => exact (Reps.c6 (show Kd.M k58 _ _ _ (⟨1, 0, 1, (⟨0, 5⟩ : S56), 0⟩ : S58) [.int .i64 1, .int .i64 0, .int .i64 1, .int .i64 0, .int .i64 5, .int .i32 0] from (k58_mkM _ _ _ (⟨1, 0, 1, (⟨0, 5⟩ : S56), 0⟩ : S58) )) (Reps.c6 (show Kd.M k58 _ _ _ (⟨2, 1, 2, (⟨0, 5⟩ : S56), 0⟩ : S58) [.int .i64 2, .int .i64 1, .int .i64 2, .int .i64 0, .int .i64 5, .int .i32 0] from (k58_mkM _ _ _ (⟨2, 1, 2, (⟨0, 5⟩ : S56), 0⟩ : S58) )) (Reps.none _ _)))); intro v156 w45 ho46 hb hg_ hnew_; clear hg_ hnew_; (first | rw [← Ny155.out] at ho46 | (simp only [Int.reduceToNat] at ho46; rw [← Ny155.out] at ho46)); have n0_ := Aside0.mk (Kd.R_lower ho46 (below_size (by repeat (first | (with_reducible first | exact HB.out | apply below_alloc | apply pw_below_drewN | apply below_drew1) | exact HB.out)))); have n1_ := Aside0.mk (below_step (by repeat (first | (with_reducible first | exact HB.out | apply below_alloc | apply pw_below_drewN | apply below_drew1) | exact HB.out)) hb); clear HB; have HO157 := n0_; have HB := n1_; clear n0_ n1_; clear hb ho46; obtain ⟨Ao47, co47, eo47⟩ := Kd.R_slice HO157.out; subst eo47) | ((with_reducible refine gate_callee (f := 9) rfl ?_); refine goesL_ (some 13) rfl rfl Try.func9 (by kernel_rfl) rfl #[.slice Ao47 y155.length co47, .int .i64 0, .int .i32 0] rfl (by (try simp only [List.map_toArray, List.map_cons, List.map_nil]); first | done | rfl | (simp only [List.length_drop, List.length_take]; rfl)) ?_; (with_reducible refine (netting_Net.calls k _ _ y155 0 0 t158 t159 _ ?side1 ?side2 A1.out).mono ?_); (case side1 => repeat (first | exact (Kd.R_reads' HO157.out).2.2 | (with_reducible refine Kd.C_alloc ?_ _) | (with_reducible refine Kd.C_drewN ?_ _) | (with_reducible refine Kd.C_drew ?_))); (case side2 => exact (Kd.R_reads' HO157.out).2.1); rintro e w48 ⟨v160, rfl, ho0, hb⟩; refine ⟨_, rfl, ?_⟩; have n0_ := Aside0.mk (Kd.R_below (by (with_reducible repeat (first | apply Kd.R_alloc | apply Kd.R_drewN | apply Kd.R_drew)); exact HO157.out) hb); have n1_ := Aside0.mk (Kd.R_lower ho0 (below_size (by repeat (first | (with_reducible first | exact HB.out | apply below_alloc | apply pw_below_drewN | apply below_drew1) | exact HB.out)))); have n2_ := Aside0.mk (below_step (by repeat (first | (with_reducible first | exact HB.out | apply below_alloc | apply pw_below_drewN | apply below_drew1) | exact HB.out)) hb); clear HO157; clear HB; have HO157 := n0_; have HO161 := n1_; have HB := n2_; clear n0_ n1_ n2_; (try clear hb); (try clear hb2); (try clear hk); (try clear hi); (try clear ho0); obtain ⟨Ao49, co49, eo49⟩ := Kd.R_slice HO161.out; subst eo49) | ((with_reducible refine gate_callee (f := 10) rfl ?_); refine goesL_ (some 18) rfl rfl Try.func10 (by kernel_rfl) rfl #[.slice Ao49 t158.length co49] rfl (by (try simp only [List.map_toArray, List.map_cons, List.map_nil]); first | done | rfl | (simp only [List.length_drop, List.length_take]; rfl)) ?_; (with_reducible refine (netting_Settle.calls k _ _ t158 t162 t163 _ ?side1 ?side2 A2.out).mono ?_); (case side1 => repeat (first | exact (Kd.R_reads' HO161.out).2.2 | (with_reducible refine Kd.C_alloc ?_ _) | (with_reducible refine Kd.C_drewN ?_ _) | (with_reducible refine Kd.C_drew ?_))); (case side2 => exact (Kd.R_reads' HO161.out).2.1); rintro e w50 ⟨v164, rfl, ho0, hb⟩; refine ⟨_, rfl, ?_⟩; have n0_ := Aside0.mk (Kd.R_below (by (with_reducible repeat (first | apply Kd.R_alloc | apply Kd.R_drewN | apply Kd.R_drew)); exact HO157.out) hb); have n1_ := Aside0.mk (Kd.R_below (by (with_reducible repeat (first | apply Kd.R_alloc | apply Kd.R_drewN | apply Kd.R_drew)); exact HO161.out) hb); have n2_ := Aside0.mk (Kd.R_lower ho0 (below_size (by repeat (first | (with_reducible first | exact HB.out | apply below_alloc | apply pw_below_drewN | apply below_drew1) | exact HB.out)))); have n3_ := Aside0.mk (below_step (by repeat (first | (with_reducible first | exact HB.out | apply below_alloc | apply pw_below_drewN | apply below_drew1) | exact HB.out)) hb); clear HO157; clear HO161; clear HB; have HO157 := n0_; have HO161 := n1_; have HO165 := n2_; have HB := n3_; clear n0_ n1_ n2_ n3_; (try clear hb); (try clear hb2); (try clear hk); (try clear hi); (try clear ho0)))
    go_ret
    exact ⟨by first | rfl | (simp [errW_none, errW_some] <;> rfl) | (simp [*, errW_none, errW_some] <;> rfl), by repeat (first | (with_reducible first | exact HB.out | apply below_alloc | apply pw_below_drewN | apply below_drew1) | exact HB.out)⟩

/-! ### cashbookref30_May: function 14 -/
def cashbookref30_May.l0 : Nat → List Int → List Int → Int → Int → Option (Bool)
  | 0, _, _, _, _ => none
  | k + 1, x0, x5, x6, x7 => if x7 < x6 then (if 0 ≤ x7 then (if x7 < (x5.length : Int) then (if (rd x5 x7) < (-300000000000000) then (some false) else (if (rd x5 x7) > 300000000000000 then (some false) else (cashbookref30_May.l0 k x0 x5 x6 (wrap64 (x7 + 1))))) else (none)) else (none)) else (some ((x0.length : Int) == 16))
def cashbookref30_May.f (k : Nat) (l0 : List Int) : Option (Bool) := cashbookref30_May.l0 k l0 l0 (l0.length : Int) 0
theorem cashbookref30_May.mono_l : ∀ k, (∀ y0 y1 y2 y3, LeO (cashbookref30_May.l0 k y0 y1 y2 y3) (cashbookref30_May.l0 (k + 1) y0 y1 y2 y3))
  | 0 => fun _ _ _ _ r h => by simp [cashbookref30_May.l0] at h
  | k + 1 => by
    have ih0 := cashbookref30_May.mono_l k
    · intro y0 y1 y2 y3
      unfold cashbookref30_May.l0
      repeat' first
      | (with_reducible exact ih0 _ _ _ _)
      | (with_reducible exact LeO.refl _)
      | (with_reducible exact LeO.none _)
      | (with_reducible refine LeO.ite ?_ ?_)
      | (with_reducible refine LeO.bind ?_ (fun _ => ?_))
      | exact ih0 _ _ _ _
      | exact LeO.none _
      | refine LeO.ite ?_ ?_
      | refine LeO.bind ?_ (fun _ => ?_)
theorem cashbookref30_May.mono : ∀ a0 k, LeO (cashbookref30_May.f k a0) (cashbookref30_May.f (k + 1) a0) := by
  intro a0 k
  have ih0 := cashbookref30_May.mono_l k
  unfold cashbookref30_May.f
  repeat' first
      | (with_reducible exact ih0 _ _ _ _)
      | (with_reducible exact LeO.refl _)
      | (with_reducible exact LeO.none _)
      | (with_reducible refine LeO.ite ?_ ?_)
      | (with_reducible refine LeO.bind ?_ (fun _ => ?_))
      | exact ih0 _ _ _ _
      | exact LeO.none _
      | refine LeO.ite ?_ ?_
      | refine LeO.bind ?_ (fun _ => ?_)
set_option maxHeartbeats 8000000 in
set_option maxRecDepth 100000 in
theorem cashbookref30_May.calls (k : Nat) (A0 : Option Addr) (c0 : Nat) (l0 : List Int) (r : Bool) (w : World) (hr0 : Kd.C (Kd.int .i64) w A0 l0.length l0) (hc0 : l0.length ≤ c0) (h : cashbookref30_May.f k l0 = some r) :
    Calls Try.prog 14 #[.slice A0 l0.length c0] w fun e w' => e = .returned (.bool r) ∧ Drawn0 w w' := by
  have HR0 := Aside0.mk hr0
  have HC0 := Aside0.mk hc0
  clear hr0 hc0
  have H : (cashbookref30_May.l0 k l0 l0 (l0.length : Int) 0) = some r := h
  clear h
  have H' := Aside0.mk H
  clear H
  go_enter Try.func14, Try.ntmps14
  go_wp2
  go_loopg [7] k (fun kq v7 w' => ∃ (x7_1 : Int), v7 = .int .i64 x7_1 ∧ Aside0 (cashbookref30_May.l0 kq l0 l0 (l0.length : Int) x7_1 = some r) ∧ Aside0 (kq ≤ k) ∧ Drawn0 w w')
  case atStart => exact ⟨(0), (by first | rfl | (simp; done) | (simp [*]; done)), H', ⟨Nat.le_refl _⟩, by repeat (first | exact Drawn0.refl _ | apply Drawn0.step)⟩
  case round =>
    clear H'
    try clear c1
    obtain ⟨x7_1, rfl, HA, HK1, ⟨m1, rfl⟩⟩ := hrel
    cases gk with
    | zero => exact absurd HA.out (by simp [cashbookref30_May.l0])
    | succ k1 =>
      have H := HA.out
      clear HA
      simp only [cashbookref30_May.l0] at H
      by_cases c2 : x7_1 < (l0.length : Int)
      · rw [if_pos c2] at H
        have c2b0 : decide (x7_1 < (l0.length : Int)) = true := decide_eq_true c2
        clear c2
        by_cases c3 : 0 ≤ x7_1
        · rw [if_pos c3] at H
          have c3b0 : decide (0 ≤ x7_1) = true := decide_eq_true c3
          clear c3
          by_cases c4 : x7_1 < (l0.length : Int)
          · rw [if_pos c4] at H
            have c4b0 : decide (x7_1 < (l0.length : Int)) = true := decide_eq_true c4
            clear c4
            by_cases c5 : (rd l0 x7_1) < (-300000000000000)
            · rw [if_pos c5] at H
              have c5b0 : decide ((rd l0 x7_1) < (-300000000000000)) = true := decide_eq_true c5
              clear c5
              obtain rfl := Option.some.inj H
              have p172 : 0 ≤ (x7_1 : Int) := of_decide_eq_true (by first | (with_reducible assumption) | assumption)
              have q172 : x7_1 < (l0.length : Int) := of_decide_eq_true (by first | (with_reducible assumption) | assumption)
              obtain ⟨ad172, e172, hx172_0⟩ := Kd.at_int HR0.out x7_1 p172 q172
              cases e172
              replace p172 := eq_true p172
              replace q172 := eq_true q172
              go_wp2
              go_ret
              exact ⟨by first | rfl | (simp; done) | (simp [*]; done), by repeat (first | exact Drawn0.refl _ | apply Drawn0.step)⟩
            · rw [if_neg c5] at H
              have c5b0 : decide ((rd l0 x7_1) < (-300000000000000)) = false := decide_eq_false c5
              clear c5
              by_cases c6 : (rd l0 x7_1) > 300000000000000
              · rw [if_pos c6] at H
                have c6b0 : decide (300000000000000 < (rd l0 x7_1)) = true := decide_eq_true c6
                clear c6
                obtain rfl := Option.some.inj H
                have p172 : 0 ≤ (x7_1 : Int) := of_decide_eq_true (by first | (with_reducible assumption) | assumption)
                have q172 : x7_1 < (l0.length : Int) := of_decide_eq_true (by first | (with_reducible assumption) | assumption)
                obtain ⟨ad172, e172, hx172_0⟩ := Kd.at_int HR0.out x7_1 p172 q172
                cases e172
                replace p172 := eq_true p172
                replace q172 := eq_true q172
                go_wp2
                go_ret
                exact ⟨by first | rfl | (simp; done) | (simp [*]; done), by repeat (first | exact Drawn0.refl _ | apply Drawn0.step)⟩
              · rw [if_neg c6] at H
                have c6b0 : decide (300000000000000 < (rd l0 x7_1)) = false := decide_eq_false c6
                clear c6
                have H' := Aside0.mk H
                clear H
                have p172 : 0 ≤ (x7_1 : Int) := of_decide_eq_true (by first | (with_reducible assumption) | assumption)
                have q172 : x7_1 < (l0.length : Int) := of_decide_eq_true (by first | (with_reducible assumption) | assumption)
                obtain ⟨ad172, e172, hx172_0⟩ := Kd.at_int HR0.out x7_1 p172 q172
                cases e172
                replace p172 := eq_true p172
                replace q172 := eq_true q172
                go_wp2
                go_roundg k1
                case measure => have := HK1.out; omega
                case rel => exact ⟨(wrap64 (x7_1 + 1)), (by first | rfl | (simp; done) | (simp [*]; done)), H', ⟨by have := HK1.out; omega⟩, by repeat (first | exact Drawn0.refl _ | apply Drawn0.step)⟩
          · rw [if_neg c4] at H
            exact absurd H (by simp)
        · rw [if_neg c3] at H
          exact absurd H (by simp)
      · rw [if_neg c2] at H
        have c2b0 : decide (x7_1 < (l0.length : Int)) = false := decide_eq_false c2
        clear c2
        obtain rfl := Option.some.inj H
        go_wp2
        go_ret
        exact ⟨by first | rfl | (simp; done) | (simp [*]; done), by repeat (first | exact Drawn0.refl _ | apply Drawn0.step)⟩

/-! ### cashbookref30_Sum: function 15 -/
def cashbookref30_Sum.l0 : Nat → Int → List Int → Int → Int → Option (Int)
  | 0, _, _, _, _ => none
  | k + 1, x3, x6, x7, x8 => if x8 < x7 then (if 0 ≤ x8 then (if x8 < (x6.length : Int) then (cashbookref30_Sum.l0 k (wrap64 (x3 + (rd x6 x8))) x6 x7 (wrap64 (x8 + 1))) else (none)) else (none)) else (some x3)
def cashbookref30_Sum.f (k : Nat) (l0 : List Int) : Option (Int) := cashbookref30_Sum.l0 k 0 l0 (l0.length : Int) 0
theorem cashbookref30_Sum.mono_l : ∀ k, (∀ y0 y1 y2 y3, LeO (cashbookref30_Sum.l0 k y0 y1 y2 y3) (cashbookref30_Sum.l0 (k + 1) y0 y1 y2 y3))
  | 0 => fun _ _ _ _ r h => by simp [cashbookref30_Sum.l0] at h
  | k + 1 => by
    have ih0 := cashbookref30_Sum.mono_l k
    · intro y0 y1 y2 y3
      unfold cashbookref30_Sum.l0
      repeat' first
      | (with_reducible exact ih0 _ _ _ _)
      | (with_reducible exact LeO.refl _)
      | (with_reducible exact LeO.none _)
      | (with_reducible refine LeO.ite ?_ ?_)
      | (with_reducible refine LeO.bind ?_ (fun _ => ?_))
      | exact ih0 _ _ _ _
      | exact LeO.none _
      | refine LeO.ite ?_ ?_
      | refine LeO.bind ?_ (fun _ => ?_)
theorem cashbookref30_Sum.mono : ∀ a0 k, LeO (cashbookref30_Sum.f k a0) (cashbookref30_Sum.f (k + 1) a0) := by
  intro a0 k
  have ih0 := cashbookref30_Sum.mono_l k
  unfold cashbookref30_Sum.f
  repeat' first
      | (with_reducible exact ih0 _ _ _ _)
      | (with_reducible exact LeO.refl _)
      | (with_reducible exact LeO.none _)
      | (with_reducible refine LeO.ite ?_ ?_)
      | (with_reducible refine LeO.bind ?_ (fun _ => ?_))
      | exact ih0 _ _ _ _
      | exact LeO.none _
      | refine LeO.ite ?_ ?_
      | refine LeO.bind ?_ (fun _ => ?_)
set_option maxHeartbeats 8000000 in
set_option maxRecDepth 100000 in
theorem cashbookref30_Sum.calls (k : Nat) (A0 : Option Addr) (c0 : Nat) (l0 : List Int) (r : Int) (w : World) (hr0 : Kd.C (Kd.int .i64) w A0 l0.length l0) (hc0 : l0.length ≤ c0) (h : cashbookref30_Sum.f k l0 = some r) :
    Calls Try.prog 15 #[.slice A0 l0.length c0] w fun e w' => e = .returned (.int .i64 r) ∧ Drawn0 w w' := by
  have HR0 := Aside0.mk hr0
  have HC0 := Aside0.mk hc0
  clear hr0 hc0
  have H : (cashbookref30_Sum.l0 k 0 l0 (l0.length : Int) 0) = some r := h
  clear h
  have H' := Aside0.mk H
  clear H
  go_enter Try.func15, Try.ntmps15
  go_wp2
  go_loopg [3, 8] k (fun kq v3 v8 w' => ∃ (x3_1 : Int) (x8_1 : Int), v3 = .int .i64 x3_1 ∧ v8 = .int .i64 x8_1 ∧ Aside0 (cashbookref30_Sum.l0 kq x3_1 l0 (l0.length : Int) x8_1 = some r) ∧ Aside0 (kq ≤ k) ∧ Drawn0 w w')
  case atStart => exact ⟨(0), (0), (by first | rfl | (simp; done) | (simp [*]; done)), (by first | rfl | (simp; done) | (simp [*]; done)), H', ⟨Nat.le_refl _⟩, by repeat (first | exact Drawn0.refl _ | apply Drawn0.step)⟩
  case round =>
    clear H'
    try clear c1
    obtain ⟨x3_1, x8_1, rfl, rfl, HA, HK1, ⟨m1, rfl⟩⟩ := hrel
    cases gk with
    | zero => exact absurd HA.out (by simp [cashbookref30_Sum.l0])
    | succ k1 =>
      have H := HA.out
      clear HA
      simp only [cashbookref30_Sum.l0] at H
      by_cases c2 : x8_1 < (l0.length : Int)
      · rw [if_pos c2] at H
        have c2b0 : decide (x8_1 < (l0.length : Int)) = true := decide_eq_true c2
        clear c2
        by_cases c3 : 0 ≤ x8_1
        · rw [if_pos c3] at H
          have c3b0 : decide (0 ≤ x8_1) = true := decide_eq_true c3
          clear c3
          by_cases c4 : x8_1 < (l0.length : Int)
          · rw [if_pos c4] at H
            have c4b0 : decide (x8_1 < (l0.length : Int)) = true := decide_eq_true c4
            clear c4
            have H' := Aside0.mk H
            clear H
            have p173 : 0 ≤ (x8_1 : Int) := of_decide_eq_true (by first | (with_reducible assumption) | assumption)
            have q173 : x8_1 < (l0.length : Int) := of_decide_eq_true (by first | (with_reducible assumption) | assumption)
            obtain ⟨ad173, e173, hx173_0⟩ := Kd.at_int HR0.out x8_1 p173 q173
            cases e173
            replace p173 := eq_true p173
            replace q173 := eq_true q173
            go_wp2
            go_roundg k1
            case measure => have := HK1.out; omega
            case rel => exact ⟨(wrap64 (x3_1 + (rd l0 x8_1))), (wrap64 (x8_1 + 1)), (by first | rfl | (simp; done) | (simp [*]; done)), (by first | rfl | (simp; done) | (simp [*]; done)), H', ⟨by have := HK1.out; omega⟩, by repeat (first | exact Drawn0.refl _ | apply Drawn0.step)⟩
          · rw [if_neg c4] at H
            exact absurd H (by simp)
        · rw [if_neg c3] at H
          exact absurd H (by simp)
      · rw [if_neg c2] at H
        have c2b0 : decide (x8_1 < (l0.length : Int)) = false := decide_eq_false c2
        clear c2
        obtain rfl := Option.some.inj H
        go_wp2
        go_ret
        exact ⟨by first | rfl | (simp; done) | (simp [*]; done), by repeat (first | exact Drawn0.refl _ | apply Drawn0.step)⟩

/-! ### cashbookref30_first: function 30 -/
def cashbookref30_first.l0 : Nat → Int → List Int → Int → Int → Option (Int)
  | 0, _, _, _, _ => none
  | k + 1, x1, x7, x8, x9 => if x9 < x8 then (if 0 ≤ x9 then (if x9 < (x7.length : Int) then (if (wrap64 (x1 * (rd x7 x9))) < 0 then (some x9) else (cashbookref30_first.l0 k x1 x7 x8 (wrap64 (x9 + 1)))) else (none)) else (none)) else (some (-1))
def cashbookref30_first.f (k : Nat) (l0 : List Int) (a1 : Int) : Option (Int) := cashbookref30_first.l0 k a1 l0 (l0.length : Int) 0
theorem cashbookref30_first.mono_l : ∀ k, (∀ y0 y1 y2 y3, LeO (cashbookref30_first.l0 k y0 y1 y2 y3) (cashbookref30_first.l0 (k + 1) y0 y1 y2 y3))
  | 0 => fun _ _ _ _ r h => by simp [cashbookref30_first.l0] at h
  | k + 1 => by
    have ih0 := cashbookref30_first.mono_l k
    · intro y0 y1 y2 y3
      unfold cashbookref30_first.l0
      repeat' first
      | (with_reducible exact ih0 _ _ _ _)
      | (with_reducible exact LeO.refl _)
      | (with_reducible exact LeO.none _)
      | (with_reducible refine LeO.ite ?_ ?_)
      | (with_reducible refine LeO.bind ?_ (fun _ => ?_))
      | exact ih0 _ _ _ _
      | exact LeO.none _
      | refine LeO.ite ?_ ?_
      | refine LeO.bind ?_ (fun _ => ?_)
theorem cashbookref30_first.mono : ∀ a0 a1 k, LeO (cashbookref30_first.f k a0 a1) (cashbookref30_first.f (k + 1) a0 a1) := by
  intro a0 a1 k
  have ih0 := cashbookref30_first.mono_l k
  unfold cashbookref30_first.f
  repeat' first
      | (with_reducible exact ih0 _ _ _ _)
      | (with_reducible exact LeO.refl _)
      | (with_reducible exact LeO.none _)
      | (with_reducible refine LeO.ite ?_ ?_)
      | (with_reducible refine LeO.bind ?_ (fun _ => ?_))
      | exact ih0 _ _ _ _
      | exact LeO.none _
      | refine LeO.ite ?_ ?_
      | refine LeO.bind ?_ (fun _ => ?_)
set_option maxHeartbeats 8000000 in
set_option maxRecDepth 100000 in
theorem cashbookref30_first.calls (k : Nat) (A0 : Option Addr) (c0 : Nat) (l0 : List Int) (a1 : Int) (r : Int) (w : World) (hr0 : Kd.C (Kd.int .i64) w A0 l0.length l0) (hc0 : l0.length ≤ c0) (h : cashbookref30_first.f k l0 a1 = some r) :
    Calls Try.prog 30 #[.slice A0 l0.length c0, .int .i64 a1] w fun e w' => e = .returned (.int .i64 r) ∧ Drawn0 w w' := by
  have HR0 := Aside0.mk hr0
  have HC0 := Aside0.mk hc0
  clear hr0 hc0
  have H : (cashbookref30_first.l0 k a1 l0 (l0.length : Int) 0) = some r := h
  clear h
  have H' := Aside0.mk H
  clear H
  go_enter Try.func30, Try.ntmps30
  go_wp2
  go_loopg [9] k (fun kq v9 w' => ∃ (x9_1 : Int), v9 = .int .i64 x9_1 ∧ Aside0 (cashbookref30_first.l0 kq a1 l0 (l0.length : Int) x9_1 = some r) ∧ Aside0 (kq ≤ k) ∧ Drawn0 w w')
  case atStart => exact ⟨(0), (by first | rfl | (simp; done) | (simp [*]; done)), H', ⟨Nat.le_refl _⟩, by repeat (first | exact Drawn0.refl _ | apply Drawn0.step)⟩
  case round =>
    clear H'
    try clear p2
    obtain ⟨x9_1, rfl, HA, HK1, ⟨m1, rfl⟩⟩ := hrel
    cases gk with
    | zero => exact absurd HA.out (by simp [cashbookref30_first.l0])
    | succ k1 =>
      have H := HA.out
      clear HA
      simp only [cashbookref30_first.l0] at H
      by_cases c3 : x9_1 < (l0.length : Int)
      · rw [if_pos c3] at H
        have c3b0 : decide (x9_1 < (l0.length : Int)) = true := decide_eq_true c3
        clear c3
        by_cases c4 : 0 ≤ x9_1
        · rw [if_pos c4] at H
          have c4b0 : decide (0 ≤ x9_1) = true := decide_eq_true c4
          clear c4
          by_cases c5 : x9_1 < (l0.length : Int)
          · rw [if_pos c5] at H
            have c5b0 : decide (x9_1 < (l0.length : Int)) = true := decide_eq_true c5
            clear c5
            by_cases c6 : (wrap64 (a1 * (rd l0 x9_1))) < 0
            · rw [if_pos c6] at H
              have c6b0 : decide ((wrap64 (a1 * (rd l0 x9_1))) < 0) = true := decide_eq_true c6
              clear c6
              obtain rfl := Option.some.inj H
              have p174 : 0 ≤ (x9_1 : Int) := of_decide_eq_true (by first | (with_reducible assumption) | assumption)
              have q174 : x9_1 < (l0.length : Int) := of_decide_eq_true (by first | (with_reducible assumption) | assumption)
              obtain ⟨ad174, e174, hx174_0⟩ := Kd.at_int HR0.out x9_1 p174 q174
              cases e174
              replace p174 := eq_true p174
              replace q174 := eq_true q174
              go_wp2
              go_ret
              exact ⟨by first | rfl | (simp; done) | (simp [*]; done), by repeat (first | exact Drawn0.refl _ | apply Drawn0.step)⟩
            · rw [if_neg c6] at H
              have c6b0 : decide ((wrap64 (a1 * (rd l0 x9_1))) < 0) = false := decide_eq_false c6
              clear c6
              have H' := Aside0.mk H
              clear H
              have p174 : 0 ≤ (x9_1 : Int) := of_decide_eq_true (by first | (with_reducible assumption) | assumption)
              have q174 : x9_1 < (l0.length : Int) := of_decide_eq_true (by first | (with_reducible assumption) | assumption)
              obtain ⟨ad174, e174, hx174_0⟩ := Kd.at_int HR0.out x9_1 p174 q174
              cases e174
              replace p174 := eq_true p174
              replace q174 := eq_true q174
              go_wp2
              go_roundg k1
              case measure => have := HK1.out; omega
              case rel => exact ⟨(wrap64 (x9_1 + 1)), (by first | rfl | (simp; done) | (simp [*]; done)), H', ⟨by have := HK1.out; omega⟩, by repeat (first | exact Drawn0.refl _ | apply Drawn0.step)⟩
          · rw [if_neg c5] at H
            exact absurd H (by simp)
        · rw [if_neg c4] at H
          exact absurd H (by simp)
      · rw [if_neg c3] at H
        have c3b0 : decide (x9_1 < (l0.length : Int)) = false := decide_eq_false c3
        clear c3
        obtain rfl := Option.some.inj H
        go_wp2
        go_ret
        exact ⟨by first | rfl | (simp; done) | (simp [*]; done), by repeat (first | exact Drawn0.refl _ | apply Drawn0.step)⟩

/-! ### cashbookref30_Settle: function 17 -/
def cashbookref30_Settle.l0 : Nat → List Int → List (S45) → Option ((List (S45)))
  | 0, _, _ => none
  | k + 1, x3, x4 => (cashbookref30_first.f k x3 1).bind fun t184 => ((cashbookref30_first.f k x3 (-1)).bind fun t185 => (if t184 < 0 then (some x4) else (if t185 < 0 then (some x4) else (if 0 ≤ t184 then (if t184 < (x3.length : Int) then (if 0 ≤ t185 then (if t185 < (x3.length : Int) then (if x4.length < 5864062014805 then ((some (x3.set (t184 : Int).toNat (wrap64 ((rd x3 t184) + (mn (wrap64 (-(rd x3 t184))) (rd x3 t185)))) : List Int)).bind fun y192 => (cashbookref30_Settle.l0 k (y192.set (t185 : Int).toNat (wrap64 ((rd y192 t185) - (mn (wrap64 (-(rd x3 t184))) (rd x3 t185))))) (x4 ++ [(⟨t184, t185, mn (wrap64 (-(rd x3 t184))) (rd x3 t185)⟩ : S45)]))) else (none)) else (none)) else (none)) else (none)) else (none)))))
def cashbookref30_Settle.f (k : Nat) (l0 : List Int) : Option ((List (S45))) := (some (([] : List Int) : List Int)).bind fun y175 => (if y175.length + l0.length < 17592186044416 then (cashbookref30_Settle.l0 k (y175 ++ l0) (([] : List (S45)))) else (none))
theorem cashbookref30_Settle.mono_l : ∀ k, (∀ y0 y1, LeO (cashbookref30_Settle.l0 k y0 y1) (cashbookref30_Settle.l0 (k + 1) y0 y1))
  | 0 => fun _ _ r h => by simp [cashbookref30_Settle.l0] at h
  | k + 1 => by
    have ih0 := cashbookref30_Settle.mono_l k
    · intro y0 y1
      unfold cashbookref30_Settle.l0
      repeat' first
      | (with_reducible exact ih0 _ _)
      | (with_reducible exact cashbookref30_first.mono _ _ _)
      | (with_reducible exact LeO.refl _)
      | (with_reducible exact LeO.none _)
      | (with_reducible refine LeO.ite ?_ ?_)
      | (with_reducible refine LeO.bind ?_ (fun _ => ?_))
      | exact ih0 _ _
      | exact cashbookref30_first.mono _ _ _
      | exact LeO.none _
      | refine LeO.ite ?_ ?_
      | refine LeO.bind ?_ (fun _ => ?_)
theorem cashbookref30_Settle.mono : ∀ a0 k, LeO (cashbookref30_Settle.f k a0) (cashbookref30_Settle.f (k + 1) a0) := by
  intro a0 k
  have ih0 := cashbookref30_Settle.mono_l k
  unfold cashbookref30_Settle.f
  repeat' first
      | (with_reducible exact ih0 _ _)
      | (with_reducible exact cashbookref30_first.mono _ _ _)
      | (with_reducible exact LeO.refl _)
      | (with_reducible exact LeO.none _)
      | (with_reducible refine LeO.ite ?_ ?_)
      | (with_reducible refine LeO.bind ?_ (fun _ => ?_))
      | exact ih0 _ _
      | exact cashbookref30_first.mono _ _ _
      | exact LeO.none _
      | refine LeO.ite ?_ ?_
      | refine LeO.bind ?_ (fun _ => ?_)
set_option maxHeartbeats 8000000 in
set_option maxRecDepth 100000 in
theorem cashbookref30_Settle.calls (k : Nat) (A0 : Option Addr) (c0 : Nat) (l0 : List Int) (r : List (S45)) (w : World) (hr0 : Kd.C (Kd.int .i64) w A0 l0.length l0) (hc0 : l0.length ≤ c0) (h : cashbookref30_Settle.f k l0 = some r) :
    Calls Try.prog 17 #[.slice A0 l0.length c0] w fun e w' => ∃ v0_ : Value, e = .returned (v0_) ∧ Kd.R k45 45 w' w.heap.size (fun _ => True) v0_ r ∧ Below w.heap.size w w' := by
  have hu45 := Try.underlying45
  have HR0 := Aside0.mk hr0
  have HC0 := Aside0.mk hc0
  clear hr0 hc0
  have HB := Aside0.mk (Below.refl w.heap.size w)
  have H : ((some (([] : List Int) : List Int)).bind fun y175 => (if y175.length + l0.length < 17592186044416 then (cashbookref30_Settle.l0 k (y175 ++ l0) (([] : List (S45)))) else (none))) = some r := h
  clear h
  obtain ⟨y175, hy175⟩ : ∃ y_ : List Int, y_ = (([] : List Int)) := ⟨_, rfl⟩
  replace H : (if y175.length + l0.length < 17592186044416 then (cashbookref30_Settle.l0 k (y175 ++ l0) (([] : List (S45)))) else (none)) = some r := by first | (rw [hy175]; with_reducible exact H) | (have H2_ := (Option.bind_some _ _).symm.trans H; rw [hy175]; with_reducible exact H2_) | (have H2_ := (Option.bind_some _ _).symm.trans H; with_reducible exact H2_) | with_reducible exact H | (rw [hy175]; exact H) | exact H
  have Ny175 := Aside0.mk hy175
  clear hy175
  by_cases c2 : y175.length + l0.length < 17592186044416
  · rw [if_pos c2] at H
    have LMc2 := Aside0.mk c2
    clear c2
    obtain ⟨y178, hy178⟩ : ∃ y_ : List Int, y_ = (y175 ++ l0) := ⟨_, rfl⟩
    replace H : (cashbookref30_Settle.l0 k y178 (([] : List (S45)))) = some r := by first | (rw [hy178]; with_reducible exact H) | (have H2_ := (Option.bind_some _ _).symm.trans H; rw [hy178]; with_reducible exact H2_) | (have H2_ := (Option.bind_some _ _).symm.trans H; with_reducible exact H2_) | with_reducible exact H | (rw [hy178]; exact H) | exact H
    have Ny178 := Aside0.mk hy178
    clear hy178
    obtain ⟨y181, hy181⟩ : ∃ y_ : List (S45), y_ = (([] : List (S45))) := ⟨_, rfl⟩
    replace H : (cashbookref30_Settle.l0 k y178 y181) = some r := by first | (rw [hy181]; with_reducible exact H) | (have H2_ := (Option.bind_some _ _).symm.trans H; rw [hy181]; with_reducible exact H2_) | (have H2_ := (Option.bind_some _ _).symm.trans H; with_reducible exact H2_) | with_reducible exact H | (rw [hy181]; exact H) | exact H
    have Ny181 := Aside0.mk hy181
    clear hy181
    have H' := Aside0.mk H
    clear H
    go_enter Try.func17, Try.ntmps17
    go_wp2_with (first | ((with_reducible refine gate_dst (N := 8) rfl ?_); refine Kd.R_lit (Kd.int .i64) _ 2 ?hg (N := 8) ?hd (xs := ([] : List Int)) (inner := []) (ok := fun _ => True) (okp := fun _ => True) ?hr ?hp (fun _ hk => hk) trivial (Below.refl _ _) (Nat.le_refl _) (by simp) ?_; (case hd => rfl); (case hg => rfl); (case hr => first | (go_simp; done) | (go_simp; rfl)); (case hp => exact (Reps.none _ _)); intro v176 w3 ho4 hb hg_ hnew_; clear hg_ hnew_; (first | rw [← Ny175.out] at ho4 | (simp only [Int.reduceToNat] at ho4; rw [← Ny175.out] at ho4)); have n0_ := Aside0.mk (Kd.R_lower ho4 (below_size (by repeat (first | (with_reducible first | exact HB.out | apply below_alloc | apply pw_below_drewN | apply below_drew1) | exact HB.out)))); have n1_ := Aside0.mk (below_step (by repeat (first | (with_reducible first | exact HB.out | apply below_alloc | apply pw_below_drewN | apply below_drew1) | exact HB.out)) hb); clear HB; have HO177 := n0_; have HB := n1_; clear n0_ n1_; clear hb ho4) | ((with_reducible refine gate_builtin (b := .append) (xs := #[.tmp 9, .tmp 10]) rfl ?_); at_builtin; refine Kd.R_append_rows (Kd.int .i64) (w0 := w) w.heap.size rfl (.tmp 9) (.tmp 10) 25 2 (.int .i64 0) 8 rfl Try.underlying25 info2 rfl (by decide) (by omega) v176 y175 l0 _ _ _ (fun _ => True) (fun _ => False) rfl rfl ?aO ?aR (fun _ _ h => h) (fun _ h => h.elim) ?aF ?aB ?aS ?aL ?_; (case aR => repeat (first | exact (Kd.C_below HR0.out HB.out) | (with_reducible refine Kd.C_alloc ?_ _) | (with_reducible refine Kd.C_drewN ?_ _) | (with_reducible refine Kd.C_drew ?_))); (case aB => exact (by repeat (first | (with_reducible first | exact HB.out | apply below_alloc | apply pw_below_drewN | apply below_drew1) | exact HB.out))); (case aF => exact (fun _ _ => trivial)); (case aO => exact (by (with_reducible repeat (first | apply Kd.R_alloc | apply Kd.R_drewN | apply Kd.R_drew)); exact HO177.out)); (case aS => exact (below_size (by repeat (first | (with_reducible first | exact HB.out | apply below_alloc | apply pw_below_drewN | apply below_drew1) | exact HB.out)))); (case aL => have := LMc2.out; omega); intro v179 w5 ho hb hg hat; rw [← Ny178.out] at ho; have n0_ := Aside0.mk (hb); have n1_ := Aside0.mk (ho); clear HB; clear HO177; have HB := n0_; have HO180 := n1_; clear n0_ n1_; clear ho hb hg hat) | ((with_reducible refine gate_dst (N := 12) rfl ?_); refine Kd.R_lit k45 _ 45 ?hg (N := 12) ?hd (xs := ([] : List (S45))) (inner := []) (ok := fun _ => True) (okp := fun _ => True) ?hr ?hp (fun _ hk => hk) trivial (Below.refl _ _) (Nat.le_refl _) (by simp) ?_; (case hd => rfl); (case hg => rfl); (case hr => first | (go_simp; done) | (go_simp; rfl)); (case hp => exact (Reps.none _ _)); intro v182 w6 ho7 hb hg_ hnew_; clear hg_ hnew_; (first | rw [← Ny181.out] at ho7 | (simp only [Int.reduceToNat] at ho7; rw [← Ny181.out] at ho7)); have n0_ := Aside0.mk (Kd.R_below (by (with_reducible repeat (first | apply Kd.R_alloc | apply Kd.R_drewN | apply Kd.R_drew)); exact HO180.out) hb); have n1_ := Aside0.mk (Kd.R_lower ho7 (below_size (by repeat (first | (with_reducible first | exact HB.out | apply below_alloc | apply pw_below_drewN | apply below_drew1) | exact HB.out)))); have n2_ := Aside0.mk (below_step (by repeat (first | (with_reducible first | exact HB.out | apply below_alloc | apply pw_below_drewN | apply below_drew1) | exact HB.out)) hb); clear HO180; clear HB; have HO180 := n0_; have HO183 := n1_; have HB := n2_; clear n0_ n1_ n2_; clear hb ho7))
    repeat (go_quiet (first | ((with_reducible refine gate_dst (N := 8) rfl ?_); refine Kd.R_lit (Kd.int .i64) _ 2 ?hg (N := 8) ?hd (xs := ([] : List Int)) (inner := []) (ok := fun _ => True) (okp := fun _ => True) ?hr ?hp (fun _ hk => hk) trivial (Below.refl _ _) (Nat.le_refl _) (by simp) ?_; (case hd => rfl); (case hg => rfl); (case hr => first | (go_simp; done) | (go_simp; rfl)); (case hp => exact (Reps.none _ _)); intro v176 w3 ho4 hb hg_ hnew_; clear hg_ hnew_; (first | rw [← Ny175.out] at ho4 | (simp only [Int.reduceToNat] at ho4; rw [← Ny175.out] at ho4)); have n0_ := Aside0.mk (Kd.R_lower ho4 (below_size (by repeat (first | (with_reducible first | exact HB.out | apply below_alloc | apply pw_below_drewN | apply below_drew1) | exact HB.out)))); have n1_ := Aside0.mk (below_step (by repeat (first | (with_reducible first | exact HB.out | apply below_alloc | apply pw_below_drewN | apply below_drew1) | exact HB.out)) hb); clear HB; have HO177 := n0_; have HB := n1_; clear n0_ n1_; clear hb ho4) | ((with_reducible refine gate_builtin (b := .append) (xs := #[.tmp 9, .tmp 10]) rfl ?_); at_builtin; refine Kd.R_append_rows (Kd.int .i64) (w0 := w) w.heap.size rfl (.tmp 9) (.tmp 10) 25 2 (.int .i64 0) 8 rfl Try.underlying25 info2 rfl (by decide) (by omega) v176 y175 l0 _ _ _ (fun _ => True) (fun _ => False) rfl rfl ?aO ?aR (fun _ _ h => h) (fun _ h => h.elim) ?aF ?aB ?aS ?aL ?_; (case aR => repeat (first | exact (Kd.C_below HR0.out HB.out) | (with_reducible refine Kd.C_alloc ?_ _) | (with_reducible refine Kd.C_drewN ?_ _) | (with_reducible refine Kd.C_drew ?_))); (case aB => exact (by repeat (first | (with_reducible first | exact HB.out | apply below_alloc | apply pw_below_drewN | apply below_drew1) | exact HB.out))); (case aF => exact (fun _ _ => trivial)); (case aO => exact (by (with_reducible repeat (first | apply Kd.R_alloc | apply Kd.R_drewN | apply Kd.R_drew)); exact HO177.out)); (case aS => exact (below_size (by repeat (first | (with_reducible first | exact HB.out | apply below_alloc | apply pw_below_drewN | apply below_drew1) | exact HB.out)))); (case aL => have := LMc2.out; omega); intro v179 w5 ho hb hg hat; rw [← Ny178.out] at ho; have n0_ := Aside0.mk (hb); have n1_ := Aside0.mk (ho); clear HB; clear HO177; have HB := n0_; have HO180 := n1_; clear n0_ n1_; clear ho hb hg hat) | ((with_reducible refine gate_dst (N := 12) rfl ?_); refine Kd.R_lit k45 _ 45 ?hg (N := 12) ?hd (xs := ([] : List (S45))) (inner := []) (ok := fun _ => True) (okp := fun _ => True) ?hr ?hp (fun _ hk => hk) trivial (Below.refl _ _) (Nat.le_refl _) (by simp) ?_; (case hd => rfl); (case hg => rfl); (case hr => first | (go_simp; done) | (go_simp; rfl)); (case hp => exact (Reps.none _ _)); intro v182 w6 ho7 hb hg_ hnew_; clear hg_ hnew_; (first | rw [← Ny181.out] at ho7 | (simp only [Int.reduceToNat] at ho7; rw [← Ny181.out] at ho7)); have n0_ := Aside0.mk (Kd.R_below (by (with_reducible repeat (first | apply Kd.R_alloc | apply Kd.R_drewN | apply Kd.R_drew)); exact HO180.out) hb); have n1_ := Aside0.mk (Kd.R_lower ho7 (below_size (by repeat (first | (with_reducible first | exact HB.out | apply below_alloc | apply pw_below_drewN | apply below_drew1) | exact HB.out)))); have n2_ := Aside0.mk (below_step (by repeat (first | (with_reducible first | exact HB.out | apply below_alloc | apply pw_below_drewN | apply below_drew1) | exact HB.out)) hb); clear HO180; clear HB; have HO180 := n0_; have HO183 := n1_; have HB := n2_; clear n0_ n1_ n2_; clear hb ho7)); try go_wp2_with (first | ((with_reducible refine gate_dst (N := 8) rfl ?_); refine Kd.R_lit (Kd.int .i64) _ 2 ?hg (N := 8) ?hd (xs := ([] : List Int)) (inner := []) (ok := fun _ => True) (okp := fun _ => True) ?hr ?hp (fun _ hk => hk) trivial (Below.refl _ _) (Nat.le_refl _) (by simp) ?_; (case hd => rfl); (case hg => rfl); (case hr => first | (go_simp; done) | (go_simp; rfl)); (case hp => exact (Reps.none _ _)); intro v176 w3 ho4 hb hg_ hnew_; clear hg_ hnew_; (first | rw [← Ny175.out] at ho4 | (simp only [Int.reduceToNat] at ho4; rw [← Ny175.out] at ho4)); have n0_ := Aside0.mk (Kd.R_lower ho4 (below_size (by repeat (first | (with_reducible first | exact HB.out | apply below_alloc | apply pw_below_drewN | apply below_drew1) | exact HB.out)))); have n1_ := Aside0.mk (below_step (by repeat (first | (with_reducible first | exact HB.out | apply below_alloc | apply pw_below_drewN | apply below_drew1) | exact HB.out)) hb); clear HB; have HO177 := n0_; have HB := n1_; clear n0_ n1_; clear hb ho4) | ((with_reducible refine gate_builtin (b := .append) (xs := #[.tmp 9, .tmp 10]) rfl ?_); at_builtin; refine Kd.R_append_rows (Kd.int .i64) (w0 := w) w.heap.size rfl (.tmp 9) (.tmp 10) 25 2 (.int .i64 0) 8 rfl Try.underlying25 info2 rfl (by decide) (by omega) v176 y175 l0 _ _ _ (fun _ => True) (fun _ => False) rfl rfl ?aO ?aR (fun _ _ h => h) (fun _ h => h.elim) ?aF ?aB ?aS ?aL ?_; (case aR => repeat (first | exact (Kd.C_below HR0.out HB.out) | (with_reducible refine Kd.C_alloc ?_ _) | (with_reducible refine Kd.C_drewN ?_ _) | (with_reducible refine Kd.C_drew ?_))); (case aB => exact (by repeat (first | (with_reducible first | exact HB.out | apply below_alloc | apply pw_below_drewN | apply below_drew1) | exact HB.out))); (case aF => exact (fun _ _ => trivial)); (case aO => exact (by (with_reducible repeat (first | apply Kd.R_alloc | apply Kd.R_drewN | apply Kd.R_drew)); exact HO177.out)); (case aS => exact (below_size (by repeat (first | (with_reducible first | exact HB.out | apply below_alloc | apply pw_below_drewN | apply below_drew1) | exact HB.out)))); (case aL => have := LMc2.out; omega); intro v179 w5 ho hb hg hat; rw [← Ny178.out] at ho; have n0_ := Aside0.mk (hb); have n1_ := Aside0.mk (ho); clear HB; clear HO177; have HB := n0_; have HO180 := n1_; clear n0_ n1_; clear ho hb hg hat) | ((with_reducible refine gate_dst (N := 12) rfl ?_); refine Kd.R_lit k45 _ 45 ?hg (N := 12) ?hd (xs := ([] : List (S45))) (inner := []) (ok := fun _ => True) (okp := fun _ => True) ?hr ?hp (fun _ hk => hk) trivial (Below.refl _ _) (Nat.le_refl _) (by simp) ?_; (case hd => rfl); (case hg => rfl); (case hr => first | (go_simp; done) | (go_simp; rfl)); (case hp => exact (Reps.none _ _)); intro v182 w6 ho7 hb hg_ hnew_; clear hg_ hnew_; (first | rw [← Ny181.out] at ho7 | (simp only [Int.reduceToNat] at ho7; rw [← Ny181.out] at ho7)); have n0_ := Aside0.mk (Kd.R_below (by (with_reducible repeat (first | apply Kd.R_alloc | apply Kd.R_drewN | apply Kd.R_drew)); exact HO180.out) hb); have n1_ := Aside0.mk (Kd.R_lower ho7 (below_size (by repeat (first | (with_reducible first | exact HB.out | apply below_alloc | apply pw_below_drewN | apply below_drew1) | exact HB.out)))); have n2_ := Aside0.mk (below_step (by repeat (first | (with_reducible first | exact HB.out | apply below_alloc | apply pw_below_drewN | apply below_drew1) | exact HB.out)) hb); clear HO180; clear HB; have HO180 := n0_; have HO183 := n1_; have HB := n2_; clear n0_ n1_ n2_; clear hb ho7)))
    go_loopg [4] k (fun kq v4 w' => ∃ (x3_1 : List Int) (x4_1 : List (S45)), Aside0 (cashbookref30_Settle.l0 kq x3_1 x4_1 = some r) ∧ Aside0 (kq ≤ k) ∧ Aside0 (Kd.R (Kd.int .i64) 2 w' w.heap.size (fun _ => True) v179 x3_1) ∧ Aside0 (Kd.R k45 45 w' w.heap.size (fun _ => True) v4 x4_1) ∧ Aside0 (Below w.heap.size w w'))
    case atStart => exact ⟨(y178), (y181), H', ⟨Nat.le_refl _⟩, ⟨by (with_reducible repeat (first | apply Kd.R_alloc | apply Kd.R_drewN | apply Kd.R_drew)); exact HO180.out⟩, ⟨by (with_reducible repeat (first | apply Kd.R_alloc | apply Kd.R_drewN | apply Kd.R_drew)); exact HO183.out⟩, ⟨by repeat (first | (with_reducible first | exact HB.out | apply below_alloc | apply pw_below_drewN | apply below_drew1) | exact HB.out)⟩⟩
    case round =>
      clear H'
      try clear c1
      try clear c2
      try clear p2
      obtain ⟨x3_1, x4_1, HA, HK1, HO_3, HO_4, HB⟩ := hrel
      cases gk with
      | zero => exact absurd HA.out (by simp [cashbookref30_Settle.l0])
      | succ k1 =>
        have H := HA.out
        clear HA
        simp only [cashbookref30_Settle.l0] at H
        replace H := Option.bind_eq_some_iff.mp H
        obtain ⟨t184, A80, H⟩ := H
        replace H : ((cashbookref30_first.f k1 x3_1 (-1)).bind fun t185 => (if t184 < 0 then (some x4_1) else (if t185 < 0 then (some x4_1) else (if 0 ≤ t184 then (if t184 < (x3_1.length : Int) then (if 0 ≤ t185 then (if t185 < (x3_1.length : Int) then (if x4_1.length < 5864062014805 then ((some (x3_1.set (t184 : Int).toNat (wrap64 ((rd x3_1 t184) + (mn (wrap64 (-(rd x3_1 t184))) (rd x3_1 t185)))) : List Int)).bind fun y192 => (cashbookref30_Settle.l0 k1 (y192.set (t185 : Int).toNat (wrap64 ((rd y192 t185) - (mn (wrap64 (-(rd x3_1 t184))) (rd x3_1 t185))))) (x4_1 ++ [(⟨t184, t185, mn (wrap64 (-(rd x3_1 t184))) (rd x3_1 t185)⟩ : S45)]))) else (none)) else (none)) else (none)) else (none)) else (none))))) = some r := H
        have A8 := Aside0.mk A80
        clear A80
        replace H := Option.bind_eq_some_iff.mp H
        obtain ⟨t185, A90, H⟩ := H
        replace H : (if t184 < 0 then (some x4_1) else (if t185 < 0 then (some x4_1) else (if 0 ≤ t184 then (if t184 < (x3_1.length : Int) then (if 0 ≤ t185 then (if t185 < (x3_1.length : Int) then (if x4_1.length < 5864062014805 then ((some (x3_1.set (t184 : Int).toNat (wrap64 ((rd x3_1 t184) + (mn (wrap64 (-(rd x3_1 t184))) (rd x3_1 t185)))) : List Int)).bind fun y192 => (cashbookref30_Settle.l0 k1 (y192.set (t185 : Int).toNat (wrap64 ((rd y192 t185) - (mn (wrap64 (-(rd x3_1 t184))) (rd x3_1 t185))))) (x4_1 ++ [(⟨t184, t185, mn (wrap64 (-(rd x3_1 t184))) (rd x3_1 t185)⟩ : S45)]))) else (none)) else (none)) else (none)) else (none)) else (none)))) = some r := H
        have A9 := Aside0.mk A90
        clear A90
        by_cases c10 : t184 < 0
        · rw [if_pos c10] at H
          have c10b0 : decide (t184 < 0) = true := decide_eq_true c10
          clear c10
          obtain rfl := Option.some.inj H
          obtain ⟨Ao11, co11, eo11⟩ := Kd.R_slice HO_3.out
          subst eo11
          go_wp2_with (first | (go_at_call 30; (with_reducible refine (cashbookref30_first.calls k1 _ _ x3_1 1 t184 _ ?side1 ?side2 A8.out).mono ?_); (case side1 => repeat (first | exact (Kd.R_reads' HO_3.out).2.2 | (with_reducible refine Kd.C_alloc ?_ _) | (with_reducible refine Kd.C_drewN ?_ _) | (with_reducible refine Kd.C_drew ?_))); (case side2 => exact (Kd.R_reads' HO_3.out).2.1); rintro e w' ⟨rfl, ⟨nd, rfl⟩⟩; (try first | exact ⟨rfl, _, World.drewN_drewN _ _ _⟩ | exact ⟨rfl, _, Eq.trans (World.drewN_drewN _ _ _) (congrArg (World.drewN _) (Nat.add_assoc _ _ _))⟩)) | (go_at_call 30; (with_reducible refine (cashbookref30_first.calls k1 _ _ x3_1 (-1) t185 _ ?side1 ?side2 A9.out).mono ?_); (case side1 => repeat (first | exact (Kd.R_reads' HO_3.out).2.2 | (with_reducible refine Kd.C_alloc ?_ _) | (with_reducible refine Kd.C_drewN ?_ _) | (with_reducible refine Kd.C_drew ?_))); (case side2 => exact (Kd.R_reads' HO_3.out).2.1); rintro e w' ⟨rfl, ⟨nd, rfl⟩⟩; (try first | exact ⟨rfl, _, World.drewN_drewN _ _ _⟩ | exact ⟨rfl, _, Eq.trans (World.drewN_drewN _ _ _) (congrArg (World.drewN _) (Nat.add_assoc _ _ _))⟩)))
          repeat (go_quiet (first | (go_at_call 30; (with_reducible refine (cashbookref30_first.calls k1 _ _ x3_1 1 t184 _ ?side1 ?side2 A8.out).mono ?_); (case side1 => repeat (first | exact (Kd.R_reads' HO_3.out).2.2 | (with_reducible refine Kd.C_alloc ?_ _) | (with_reducible refine Kd.C_drewN ?_ _) | (with_reducible refine Kd.C_drew ?_))); (case side2 => exact (Kd.R_reads' HO_3.out).2.1); rintro e w' ⟨rfl, ⟨nd, rfl⟩⟩; (try first | exact ⟨rfl, _, World.drewN_drewN _ _ _⟩ | exact ⟨rfl, _, Eq.trans (World.drewN_drewN _ _ _) (congrArg (World.drewN _) (Nat.add_assoc _ _ _))⟩)) | (go_at_call 30; (with_reducible refine (cashbookref30_first.calls k1 _ _ x3_1 (-1) t185 _ ?side1 ?side2 A9.out).mono ?_); (case side1 => repeat (first | exact (Kd.R_reads' HO_3.out).2.2 | (with_reducible refine Kd.C_alloc ?_ _) | (with_reducible refine Kd.C_drewN ?_ _) | (with_reducible refine Kd.C_drew ?_))); (case side2 => exact (Kd.R_reads' HO_3.out).2.1); rintro e w' ⟨rfl, ⟨nd, rfl⟩⟩; (try first | exact ⟨rfl, _, World.drewN_drewN _ _ _⟩ | exact ⟨rfl, _, Eq.trans (World.drewN_drewN _ _ _) (congrArg (World.drewN _) (Nat.add_assoc _ _ _))⟩))); try go_wp2_with (first | (go_at_call 30; (with_reducible refine (cashbookref30_first.calls k1 _ _ x3_1 1 t184 _ ?side1 ?side2 A8.out).mono ?_); (case side1 => repeat (first | exact (Kd.R_reads' HO_3.out).2.2 | (with_reducible refine Kd.C_alloc ?_ _) | (with_reducible refine Kd.C_drewN ?_ _) | (with_reducible refine Kd.C_drew ?_))); (case side2 => exact (Kd.R_reads' HO_3.out).2.1); rintro e w' ⟨rfl, ⟨nd, rfl⟩⟩; (try first | exact ⟨rfl, _, World.drewN_drewN _ _ _⟩ | exact ⟨rfl, _, Eq.trans (World.drewN_drewN _ _ _) (congrArg (World.drewN _) (Nat.add_assoc _ _ _))⟩)) | (go_at_call 30; (with_reducible refine (cashbookref30_first.calls k1 _ _ x3_1 (-1) t185 _ ?side1 ?side2 A9.out).mono ?_); (case side1 => repeat (first | exact (Kd.R_reads' HO_3.out).2.2 | (with_reducible refine Kd.C_alloc ?_ _) | (with_reducible refine Kd.C_drewN ?_ _) | (with_reducible refine Kd.C_drew ?_))); (case side2 => exact (Kd.R_reads' HO_3.out).2.1); rintro e w' ⟨rfl, ⟨nd, rfl⟩⟩; (try first | exact ⟨rfl, _, World.drewN_drewN _ _ _⟩ | exact ⟨rfl, _, Eq.trans (World.drewN_drewN _ _ _) (congrArg (World.drewN _) (Nat.add_assoc _ _ _))⟩))))
          go_ret
          exact ⟨_, by first | rfl | (simp [errW_none, errW_some] <;> rfl) | (simp [*, errW_none, errW_some] <;> rfl), by (with_reducible repeat (first | apply Kd.R_alloc | apply Kd.R_drewN | apply Kd.R_drew)); exact HO_4.out, by repeat (first | (with_reducible first | exact HB.out | apply below_alloc | apply pw_below_drewN | apply below_drew1) | exact HB.out)⟩
        · rw [if_neg c10] at H
          have c10b0 : decide (t184 < 0) = false := decide_eq_false c10
          clear c10
          by_cases c12 : t185 < 0
          · rw [if_pos c12] at H
            have c12b0 : decide (t185 < 0) = true := decide_eq_true c12
            clear c12
            obtain rfl := Option.some.inj H
            obtain ⟨Ao13, co13, eo13⟩ := Kd.R_slice HO_3.out
            subst eo13
            go_wp2_with (first | (go_at_call 30; (with_reducible refine (cashbookref30_first.calls k1 _ _ x3_1 1 t184 _ ?side1 ?side2 A8.out).mono ?_); (case side1 => repeat (first | exact (Kd.R_reads' HO_3.out).2.2 | (with_reducible refine Kd.C_alloc ?_ _) | (with_reducible refine Kd.C_drewN ?_ _) | (with_reducible refine Kd.C_drew ?_))); (case side2 => exact (Kd.R_reads' HO_3.out).2.1); rintro e w' ⟨rfl, ⟨nd, rfl⟩⟩; (try first | exact ⟨rfl, _, World.drewN_drewN _ _ _⟩ | exact ⟨rfl, _, Eq.trans (World.drewN_drewN _ _ _) (congrArg (World.drewN _) (Nat.add_assoc _ _ _))⟩)) | (go_at_call 30; (with_reducible refine (cashbookref30_first.calls k1 _ _ x3_1 (-1) t185 _ ?side1 ?side2 A9.out).mono ?_); (case side1 => repeat (first | exact (Kd.R_reads' HO_3.out).2.2 | (with_reducible refine Kd.C_alloc ?_ _) | (with_reducible refine Kd.C_drewN ?_ _) | (with_reducible refine Kd.C_drew ?_))); (case side2 => exact (Kd.R_reads' HO_3.out).2.1); rintro e w' ⟨rfl, ⟨nd, rfl⟩⟩; (try first | exact ⟨rfl, _, World.drewN_drewN _ _ _⟩ | exact ⟨rfl, _, Eq.trans (World.drewN_drewN _ _ _) (congrArg (World.drewN _) (Nat.add_assoc _ _ _))⟩)))
            repeat (go_quiet (first | (go_at_call 30; (with_reducible refine (cashbookref30_first.calls k1 _ _ x3_1 1 t184 _ ?side1 ?side2 A8.out).mono ?_); (case side1 => repeat (first | exact (Kd.R_reads' HO_3.out).2.2 | (with_reducible refine Kd.C_alloc ?_ _) | (with_reducible refine Kd.C_drewN ?_ _) | (with_reducible refine Kd.C_drew ?_))); (case side2 => exact (Kd.R_reads' HO_3.out).2.1); rintro e w' ⟨rfl, ⟨nd, rfl⟩⟩; (try first | exact ⟨rfl, _, World.drewN_drewN _ _ _⟩ | exact ⟨rfl, _, Eq.trans (World.drewN_drewN _ _ _) (congrArg (World.drewN _) (Nat.add_assoc _ _ _))⟩)) | (go_at_call 30; (with_reducible refine (cashbookref30_first.calls k1 _ _ x3_1 (-1) t185 _ ?side1 ?side2 A9.out).mono ?_); (case side1 => repeat (first | exact (Kd.R_reads' HO_3.out).2.2 | (with_reducible refine Kd.C_alloc ?_ _) | (with_reducible refine Kd.C_drewN ?_ _) | (with_reducible refine Kd.C_drew ?_))); (case side2 => exact (Kd.R_reads' HO_3.out).2.1); rintro e w' ⟨rfl, ⟨nd, rfl⟩⟩; (try first | exact ⟨rfl, _, World.drewN_drewN _ _ _⟩ | exact ⟨rfl, _, Eq.trans (World.drewN_drewN _ _ _) (congrArg (World.drewN _) (Nat.add_assoc _ _ _))⟩))); try go_wp2_with (first | (go_at_call 30; (with_reducible refine (cashbookref30_first.calls k1 _ _ x3_1 1 t184 _ ?side1 ?side2 A8.out).mono ?_); (case side1 => repeat (first | exact (Kd.R_reads' HO_3.out).2.2 | (with_reducible refine Kd.C_alloc ?_ _) | (with_reducible refine Kd.C_drewN ?_ _) | (with_reducible refine Kd.C_drew ?_))); (case side2 => exact (Kd.R_reads' HO_3.out).2.1); rintro e w' ⟨rfl, ⟨nd, rfl⟩⟩; (try first | exact ⟨rfl, _, World.drewN_drewN _ _ _⟩ | exact ⟨rfl, _, Eq.trans (World.drewN_drewN _ _ _) (congrArg (World.drewN _) (Nat.add_assoc _ _ _))⟩)) | (go_at_call 30; (with_reducible refine (cashbookref30_first.calls k1 _ _ x3_1 (-1) t185 _ ?side1 ?side2 A9.out).mono ?_); (case side1 => repeat (first | exact (Kd.R_reads' HO_3.out).2.2 | (with_reducible refine Kd.C_alloc ?_ _) | (with_reducible refine Kd.C_drewN ?_ _) | (with_reducible refine Kd.C_drew ?_))); (case side2 => exact (Kd.R_reads' HO_3.out).2.1); rintro e w' ⟨rfl, ⟨nd, rfl⟩⟩; (try first | exact ⟨rfl, _, World.drewN_drewN _ _ _⟩ | exact ⟨rfl, _, Eq.trans (World.drewN_drewN _ _ _) (congrArg (World.drewN _) (Nat.add_assoc _ _ _))⟩))))
            go_ret
            exact ⟨_, by first | rfl | (simp [errW_none, errW_some] <;> rfl) | (simp [*, errW_none, errW_some] <;> rfl), by (with_reducible repeat (first | apply Kd.R_alloc | apply Kd.R_drewN | apply Kd.R_drew)); exact HO_4.out, by repeat (first | (with_reducible first | exact HB.out | apply below_alloc | apply pw_below_drewN | apply below_drew1) | exact HB.out)⟩
          · rw [if_neg c12] at H
            have c12b0 : decide (t185 < 0) = false := decide_eq_false c12
            clear c12
            by_cases c14 : 0 ≤ t184
            · rw [if_pos c14] at H
              have c14b0 : decide (0 ≤ t184) = true := decide_eq_true c14
              clear c14
              by_cases c15 : t184 < (x3_1.length : Int)
              · rw [if_pos c15] at H
                have c15b0 : decide (t184 < (x3_1.length : Int)) = true := decide_eq_true c15
                clear c15
                by_cases c16 : 0 ≤ t185
                · rw [if_pos c16] at H
                  have c16b0 : decide (0 ≤ t185) = true := decide_eq_true c16
                  clear c16
                  by_cases c17 : t185 < (x3_1.length : Int)
                  · rw [if_pos c17] at H
                    have c17b0 : decide (t185 < (x3_1.length : Int)) = true := decide_eq_true c17
                    clear c17
                    obtain ⟨ji18, hji18⟩ : ∃ j_ : Int, (mn (wrap64 (-(rd x3_1 t184))) (rd x3_1 t185)) = j_ := ⟨_, rfl⟩
                    replace H : (if x4_1.length < 5864062014805 then ((some (x3_1.set (t184 : Int).toNat (wrap64 ((rd x3_1 t184) + (ji18))) : List Int)).bind fun y192 => (cashbookref30_Settle.l0 k1 (y192.set (t185 : Int).toNat (wrap64 ((rd y192 t185) - (ji18)))) (x4_1 ++ [(⟨t184, t185, ji18⟩ : S45)]))) else (none)) = some r := by first | (rw [hji18] at H; exact H) | (simp only [hji18] at H ⊢; exact H)
                    (try rw [hji18] at A8)
                    (try rw [hji18] at A9)
                    have hji18_ : (if (rd x3_1 t185) < (wrap64 (-(rd x3_1 t184))) then (rd x3_1 t185) else (wrap64 (-(rd x3_1 t184)))) = ji18 := hji18
                    by_cases c19 : x4_1.length < 5864062014805
                    · rw [if_pos c19] at H
                      have LMc19 := Aside0.mk c19
                      clear c19
                      obtain ⟨y188, hy188⟩ : ∃ y_ : List (S45), y_ = (x4_1 ++ [(⟨t184, t185, ji18⟩ : S45)]) := ⟨_, rfl⟩
                      replace H : ((some (x3_1.set (t184 : Int).toNat (wrap64 ((rd x3_1 t184) + (ji18))) : List Int)).bind fun y192 => (cashbookref30_Settle.l0 k1 (y192.set (t185 : Int).toNat (wrap64 ((rd y192 t185) - (ji18)))) y188)) = some r := by first | (rw [hy188]; with_reducible exact H) | (have H2_ := (Option.bind_some _ _).symm.trans H; rw [hy188]; with_reducible exact H2_) | (have H2_ := (Option.bind_some _ _).symm.trans H; with_reducible exact H2_) | with_reducible exact H | (rw [hy188]; exact H) | exact H
                      have Ny188 := Aside0.mk hy188
                      clear hy188
                      obtain ⟨y192, hy192⟩ : ∃ y_ : List Int, y_ = (x3_1.set (t184 : Int).toNat (wrap64 ((rd x3_1 t184) + (ji18)))) := ⟨_, rfl⟩
                      replace H : (cashbookref30_Settle.l0 k1 (y192.set (t185 : Int).toNat (wrap64 ((rd y192 t185) - (ji18)))) y188) = some r := by first | (rw [hy192]; with_reducible exact H) | (have H2_ := (Option.bind_some _ _).symm.trans H; rw [hy192]; with_reducible exact H2_) | (have H2_ := (Option.bind_some _ _).symm.trans H; with_reducible exact H2_) | with_reducible exact H | (rw [hy192]; exact H) | exact H
                      have Ny192 := Aside0.mk hy192
                      clear hy192
                      obtain ⟨y194, hy194⟩ : ∃ y_ : List Int, y_ = (y192.set (t185 : Int).toNat (wrap64 ((rd y192 t185) - (ji18)))) := ⟨_, rfl⟩
                      replace H : (cashbookref30_Settle.l0 k1 y194 y188) = some r := by first | (rw [hy194]; with_reducible exact H) | (have H2_ := (Option.bind_some _ _).symm.trans H; rw [hy194]; with_reducible exact H2_) | (have H2_ := (Option.bind_some _ _).symm.trans H; with_reducible exact H2_) | with_reducible exact H | (rw [hy194]; exact H) | exact H
                      have Ny194 := Aside0.mk hy194
                      clear hy194
                      have H' := Aside0.mk H
                      clear H
                      obtain ⟨Ao22, co22, eo22⟩ := Kd.R_slice HO_3.out
                      subst eo22
                      go_wp2_with (first | (go_at_call 30; (with_reducible refine (cashbookref30_first.calls k1 _ _ x3_1 1 t184 _ ?side1 ?side2 A8.out).mono ?_); (case side1 => repeat (first | exact (Kd.R_reads' HO_3.out).2.2 | (with_reducible refine Kd.C_alloc ?_ _) | (with_reducible refine Kd.C_drewN ?_ _) | (with_reducible refine Kd.C_drew ?_))); (case side2 => exact (Kd.R_reads' HO_3.out).2.1); rintro e w' ⟨rfl, ⟨nd, rfl⟩⟩; (try first | exact ⟨rfl, _, World.drewN_drewN _ _ _⟩ | exact ⟨rfl, _, Eq.trans (World.drewN_drewN _ _ _) (congrArg (World.drewN _) (Nat.add_assoc _ _ _))⟩)) | (go_at_call 30; (with_reducible refine (cashbookref30_first.calls k1 _ _ x3_1 (-1) t185 _ ?side1 ?side2 A9.out).mono ?_); (case side1 => repeat (first | exact (Kd.R_reads' HO_3.out).2.2 | (with_reducible refine Kd.C_alloc ?_ _) | (with_reducible refine Kd.C_drewN ?_ _) | (with_reducible refine Kd.C_drew ?_))); (case side2 => exact (Kd.R_reads' HO_3.out).2.1); rintro e w' ⟨rfl, ⟨nd, rfl⟩⟩; (try first | exact ⟨rfl, _, World.drewN_drewN _ _ _⟩ | exact ⟨rfl, _, Eq.trans (World.drewN_drewN _ _ _) (congrArg (World.drewN _) (Nat.add_assoc _ _ _))⟩); have p186 : 0 ≤ (t184 : Int) := of_decide_eq_true (by first | (with_reducible assumption) | assumption); have q186 : t184 < (x3_1.length : Int) := of_decide_eq_true (by first | (with_reducible assumption) | assumption); obtain ⟨ad186, e186, hx186_0⟩ := Kd.at_int (Kd.R_reads' HO_3.out).2.2 t184 p186 q186; cases e186; replace p186 := eq_true p186; replace q186 := eq_true q186; have p187 : 0 ≤ (t185 : Int) := of_decide_eq_true (by first | (with_reducible assumption) | assumption); have q187 : t185 < (x3_1.length : Int) := of_decide_eq_true (by first | (with_reducible assumption) | assumption); obtain ⟨ad187, e187, hx187_0⟩ := Kd.at_int (Kd.R_reads' HO_3.out).2.2 t185 p187 q187; obtain rfl : ad186 = ad187 := (by injection e187); replace p187 := eq_true p187; replace q187 := eq_true q187) | ((with_reducible refine gate_builtin (b := .append) (xs := #[.tmp 34, .tmp 39]) rfl ?_); at_builtin; refine Kd.R_append k45 (w0 := w) w.heap.size rfl (.tmp 34) (.tmp 39) 31 45 (.agg #[(.int .i64 0), (.int .i64 0), (.int .i64 0)]) 24 rfl Try.underlying31 info45 rfl (by decide) (by omega) u4 x4_1 (⟨t184, t185, ji18⟩ : S45) [.int .i64 t184, .int .i64 t185, .int .i64 ji18] (fun _ => True) (fun _ => False) rfl rfl ?aP (fun _ hk => hk.elim) ?aF ?aO ?aB ?aS ?aL ?_; (case aP => exact k45_mkM _ _ _ (⟨t184, t185, ji18⟩ : S45)); (case aB => exact (by repeat (first | (with_reducible first | exact HB.out | apply below_alloc | apply pw_below_drewN | apply below_drew1) | exact HB.out))); (case aF => exact (fun _ _ => trivial)); (case aO => exact (by (with_reducible repeat (first | apply Kd.R_alloc | apply Kd.R_drewN | apply Kd.R_drew)); exact HO_4.out)); (case aS => exact (below_size (by repeat (first | (with_reducible first | exact HB.out | apply below_alloc | apply pw_below_drewN | apply below_drew1) | exact HB.out)))); (case aL => have := LMc19.out; omega); intro v189 w23 ho hb hg hat; rw [← Ny188.out] at ho; have n0_ := Aside0.mk (Kd.R_over' (by (with_reducible repeat (first | apply Kd.R_alloc | apply Kd.R_drewN | apply Kd.R_drew)); exact HO_3.out) (Kd.R_typed (by (with_reducible repeat (first | apply Kd.R_alloc | apply Kd.R_drewN | apply Kd.R_drew)); exact HO_4.out)) (by decide) hg); have n1_ := Aside0.mk (hb); have n2_ := Aside0.mk (ho); clear HO_3; clear HB; clear HO_4; have HO_3 := n0_; have HB := n1_; have HO190 := n2_; clear n0_ n1_ n2_; clear ho hb hg hat; have p191 : 0 ≤ (t184 : Int) := of_decide_eq_true (by first | (with_reducible assumption) | assumption); have q191 : t184 < (x3_1.length : Int) := of_decide_eq_true (by first | (with_reducible assumption) | assumption); obtain ⟨ad191, e191, hx191_0⟩ := Kd.at_int (Kd.R_reads' HO_3.out).2.2 t184 p191 q191; obtain rfl : ad186 = ad191 := (by injection e191); replace p191 := eq_true p191; replace q191 := eq_true q191; have p20 : 0 ≤ (t184 : Int) := of_decide_eq_true (by first | (with_reducible assumption) | assumption); have q20 : (t184 : Int) < ((x3_1.length : Int) : Int) := of_decide_eq_true (by first | (with_reducible assumption) | assumption); obtain ⟨go20, co20, eo20, gb20, gl20, cl20, HG20⟩ := Kd.R_form HO_3.out (by omega); (first | cases eo20 | (injection eo20 with ea_ en_ ec_; (first | subst ea_ | (injection ea_ with ea_; subst ea_)); subst ec_; clear en_)); have GB20 := Aside0.mk gb20; have GG20 := Aside0.mk HG20; clear gb20 gl20 HG20; (first | simp only [add_plain] at hx186_0 | skip); (first | simp only [add_plain] at hx187_0 | skip); (first | simp only [add_plain] at hx191_0 | skip); obtain ⟨hx20_0, hf20_0⟩ := Kd.R_celln 0 HO_3.out (t184 : Int) p20 q20; replace p20 := eq_true p20; replace q20 := eq_true q20; obtain ⟨hy24_, hz24_⟩ := Kd.R_celln 0 HO_3.out (t184 : Int) (of_decide_eq_true (by first | (with_reducible assumption) | assumption)) (of_decide_eq_true (by first | (with_reducible assumption) | assumption)); have HP24 := Kd.R_putg HO_3.out (t184 : Int) (wrap64 ((rd x3_1 t184) + (ji18)))) | ((with_reducible refine gate_store (t := 2) (p := 49) rfl ?_); (try (rw [drewN_self w23]; generalize hq_ : World.drewN w23 _ = w23; have n0_ := Aside0.mk (Kd.R_at hq_ HO_3.out); have n1_ := Aside0.mk (Kd.R_at hq_ HO190.out); have n2_ := Aside0.mk (below_at hq_ HB.out); clear hq_ HO_3 HO190 HB; have HO_3 := n0_; have HO190 := n1_; have HB := n2_; clear n0_ n1_ n2_; (try (obtain ⟨hy24_, hz24_⟩ := Kd.R_celln 0 HO_3.out (t184 : Int) (of_decide_eq_true (by first | (with_reducible assumption) | assumption)) (of_decide_eq_true (by first | (with_reducible assumption) | assumption)))); (try (have HP24 := Kd.R_putg HO_3.out (t184 : Int) (wrap64 ((rd x3_1 t184) + (ji18))))))); refine store_event (t := 2) (p := 49) (v := ?vo_w25) (w1 := (w23.setCell ⟨go20, (t184 : Int).toNat, none⟩ (.int .i64 (wrap64 ((rd x3_1 t184) + (ji18)))))) ?hg ?ho ?hn ?hr ?_; (case ho => rfl); (case hg => rfl); (case hn => rfl); (case hr => first | (go_simp; done) | (go_simp; rfl)); intro w25 hw; have hg : w23.grownBy w25 (some go20) := (by rw [hw]; exact HP24.2); have hp_ : Kd.R (Kd.int .i64) 2 w25 w.heap.size (fun _ => True) (.slice (some ⟨go20, 0, none⟩) x3_1.length co22) y192 := (by rw [hw, Ny192.out]; exact HP24.1); clear HP24; have n0_ := Aside0.mk (hp_); have n1_ := Aside0.mk (Kd.R_over' (v := (.slice (some ⟨go20, 0, none⟩) x3_1.length co22)) (by (with_reducible repeat (first | apply Kd.R_alloc | apply Kd.R_drewN | apply Kd.R_drew)); exact HO190.out) (Kd.R_typed HO_3.out) (by decide) hg); have n2_ := Aside0.mk ((by rw [hw]; exact below_set (HB.out) GB20.out : Below w.heap.size w w25)); clear HO_3; clear HO190; clear HB; have HO_3 := n0_; have HO190 := n1_; have HB := n2_; clear n0_ n1_ n2_; clear hg hw hp_; have p193 : 0 ≤ (t185 : Int) := of_decide_eq_true (by first | (with_reducible assumption) | assumption); have q193 : t185 < (y192.length : Int) := (by have h_ : (t185 : Int) < ((x3_1.length : Int) : Int) := of_decide_eq_true (by first | (with_reducible assumption) | assumption); first | (have e_ := (Kd.R_reads' HO_3.out).1; omega) | simpa only [Ny192.out, List.length_set] using h_); have ql193 : ((t185 : Int) < ((x3_1.length : Int) : Int)) = True := eq_true (of_decide_eq_true (by first | (with_reducible assumption) | assumption)); obtain ⟨ad193, e193, hx193_0⟩ := Kd.at_int (Kd.R_reads' HO_3.out).2.2 t185 p193 q193; obtain rfl : (⟨go20, 0, none⟩ : Addr) = ad193 := (by injection e193); (first | simp only [add_plain] at hx193_0 | simp only [add_at] at hx193_0 | simp only [Addr.add, Nat.zero_add] at hx193_0 | skip); replace p193 := eq_true p193; replace q193 := eq_true q193; have p21 : 0 ≤ (t185 : Int) := of_decide_eq_true (by first | (with_reducible assumption) | assumption); have q21 : (t185 : Int) < ((x3_1.length : Int) : Int) := of_decide_eq_true (by first | (with_reducible assumption) | assumption); obtain ⟨hx21_0, hf21_0⟩ := Kd.R_celln 0 HO_3.out (t185 : Int) p21 q21; replace p21 := eq_true p21; replace q21 := eq_true q21; obtain ⟨hy26_, hz26_⟩ := Kd.R_celln 0 HO_3.out (t185 : Int) (of_decide_eq_true (by first | (with_reducible assumption) | assumption)) (of_decide_eq_true (by first | (with_reducible assumption) | assumption)); have HP26 := Kd.R_putg HO_3.out (t185 : Int) (wrap64 ((rd y192 t185) - (ji18)))) | ((with_reducible refine gate_store (t := 2) (p := 58) rfl ?_); (try (rw [drewN_self w25]; generalize hq_ : World.drewN w25 _ = w25; have n0_ := Aside0.mk (Kd.R_at hq_ HO_3.out); have n1_ := Aside0.mk (Kd.R_at hq_ HO190.out); have n2_ := Aside0.mk (below_at hq_ HB.out); clear hq_ HO_3 HO190 HB; have HO_3 := n0_; have HO190 := n1_; have HB := n2_; clear n0_ n1_ n2_; (try (obtain ⟨hy26_, hz26_⟩ := Kd.R_celln 0 HO_3.out (t185 : Int) (of_decide_eq_true (by first | (with_reducible assumption) | assumption)) (of_decide_eq_true (by first | (with_reducible assumption) | assumption)))); (try (have HP26 := Kd.R_putg HO_3.out (t185 : Int) (wrap64 ((rd y192 t185) - (ji18))))))); refine store_event (t := 2) (p := 58) (v := ?vo_w27) (w1 := (w25.setCell ⟨go20, (t185 : Int).toNat, none⟩ (.int .i64 (wrap64 ((rd y192 t185) - (ji18)))))) ?hg ?ho ?hn ?hr ?_; (case ho => rfl); (case hg => rfl); (case hn => rfl); (case hr => first | (go_simp; done) | (go_simp; rfl)); intro w27 hw; have hg : w25.grownBy w27 (some go20) := (by rw [hw]; exact HP26.2); have hp_ : Kd.R (Kd.int .i64) 2 w27 w.heap.size (fun _ => True) (.slice (some ⟨go20, 0, none⟩) x3_1.length co22) y194 := (by rw [hw, Ny194.out]; exact HP26.1); clear HP26; have n0_ := Aside0.mk (hp_); have n1_ := Aside0.mk (Kd.R_over' (v := (.slice (some ⟨go20, 0, none⟩) x3_1.length co22)) (by (with_reducible repeat (first | apply Kd.R_alloc | apply Kd.R_drewN | apply Kd.R_drew)); exact HO190.out) (Kd.R_typed HO_3.out) (by decide) hg); have n2_ := Aside0.mk ((by rw [hw]; exact below_set (HB.out) GB20.out : Below w.heap.size w w27)); clear HO_3; clear HO190; clear HB; have HO_3 := n0_; have HO190 := n1_; have HB := n2_; clear n0_ n1_ n2_; clear hg hw hp_))
                      repeat (go_quiet (first | (go_at_call 30; (with_reducible refine (cashbookref30_first.calls k1 _ _ x3_1 1 t184 _ ?side1 ?side2 A8.out).mono ?_); (case side1 => repeat (first | exact (Kd.R_reads' HO_3.out).2.2 | (with_reducible refine Kd.C_alloc ?_ _) | (with_reducible refine Kd.C_drewN ?_ _) | (with_reducible refine Kd.C_drew ?_))); (case side2 => exact (Kd.R_reads' HO_3.out).2.1); rintro e w' ⟨rfl, ⟨nd, rfl⟩⟩; (try first | exact ⟨rfl, _, World.drewN_drewN _ _ _⟩ | exact ⟨rfl, _, Eq.trans (World.drewN_drewN _ _ _) (congrArg (World.drewN _) (Nat.add_assoc _ _ _))⟩)) | (go_at_call 30; (with_reducible refine (cashbookref30_first.calls k1 _ _ x3_1 (-1) t185 _ ?side1 ?side2 A9.out).mono ?_); (case side1 => repeat (first | exact (Kd.R_reads' HO_3.out).2.2 | (with_reducible refine Kd.C_alloc ?_ _) | (with_reducible refine Kd.C_drewN ?_ _) | (with_reducible refine Kd.C_drew ?_))); (case side2 => exact (Kd.R_reads' HO_3.out).2.1); rintro e w' ⟨rfl, ⟨nd, rfl⟩⟩; (try first | exact ⟨rfl, _, World.drewN_drewN _ _ _⟩ | exact ⟨rfl, _, Eq.trans (World.drewN_drewN _ _ _) (congrArg (World.drewN _) (Nat.add_assoc _ _ _))⟩); have p186 : 0 ≤ (t184 : Int) := of_decide_eq_true (by first | (with_reducible assumption) | assumption); have q186 : t184 < (x3_1.length : Int) := of_decide_eq_true (by first | (with_reducible assumption) | assumption); obtain ⟨ad186, e186, hx186_0⟩ := Kd.at_int (Kd.R_reads' HO_3.out).2.2 t184 p186 q186; cases e186; replace p186 := eq_true p186; replace q186 := eq_true q186; have p187 : 0 ≤ (t185 : Int) := of_decide_eq_true (by first | (with_reducible assumption) | assumption); have q187 : t185 < (x3_1.length : Int) := of_decide_eq_true (by first | (with_reducible assumption) | assumption); obtain ⟨ad187, e187, hx187_0⟩ := Kd.at_int (Kd.R_reads' HO_3.out).2.2 t185 p187 q187; obtain rfl : ad186 = ad187 := (by injection e187); replace p187 := eq_true p187; replace q187 := eq_true q187) | ((with_reducible refine gate_builtin (b := .append) (xs := #[.tmp 34, .tmp 39]) rfl ?_); at_builtin; refine Kd.R_append k45 (w0 := w) w.heap.size rfl (.tmp 34) (.tmp 39) 31 45 (.agg #[(.int .i64 0), (.int .i64 0), (.int .i64 0)]) 24 rfl Try.underlying31 info45 rfl (by decide) (by omega) u4 x4_1 (⟨t184, t185, ji18⟩ : S45) [.int .i64 t184, .int .i64 t185, .int .i64 ji18] (fun _ => True) (fun _ => False) rfl rfl ?aP (fun _ hk => hk.elim) ?aF ?aO ?aB ?aS ?aL ?_; (case aP => exact k45_mkM _ _ _ (⟨t184, t185, ji18⟩ : S45)); (case aB => exact (by repeat (first | (with_reducible first | exact HB.out | apply below_alloc | apply pw_below_drewN | apply below_drew1) | exact HB.out))); (case aF => exact (fun _ _ => trivial)); (case aO => exact (by (with_reducible repeat (first | apply Kd.R_alloc | apply Kd.R_drewN | apply Kd.R_drew)); exact HO_4.out)); (case aS => exact (below_size (by repeat (first | (with_reducible first | exact HB.out | apply below_alloc | apply pw_below_drewN | apply below_drew1) | exact HB.out)))); (case aL => have := LMc19.out; omega); intro v189 w23 ho hb hg hat; rw [← Ny188.out] at ho; have n0_ := Aside0.mk (Kd.R_over' (by (with_reducible repeat (first | apply Kd.R_alloc | apply Kd.R_drewN | apply Kd.R_drew)); exact HO_3.out) (Kd.R_typed (by (with_reducible repeat (first | apply Kd.R_alloc | apply Kd.R_drewN | apply Kd.R_drew)); exact HO_4.out)) (by decide) hg); have n1_ := Aside0.mk (hb); have n2_ := Aside0.mk (ho); clear HO_3; clear HB; clear HO_4; have HO_3 := n0_; have HB := n1_; have HO190 := n2_; clear n0_ n1_ n2_; clear ho hb hg hat; have p191 : 0 ≤ (t184 : Int) := of_decide_eq_true (by first | (with_reducible assumption) | assumption); have q191 : t184 < (x3_1.length : Int) := of_decide_eq_true (by first | (with_reducible assumption) | assumption); obtain ⟨ad191, e191, hx191_0⟩ := Kd.at_int (Kd.R_reads' HO_3.out).2.2 t184 p191 q191; obtain rfl : ad186 = ad191 := (by injection e191); replace p191 := eq_true p191; replace q191 := eq_true q191; have p20 : 0 ≤ (t184 : Int) := of_decide_eq_true (by first | (with_reducible assumption) | assumption); have q20 : (t184 : Int) < ((x3_1.length : Int) : Int) := of_decide_eq_true (by first | (with_reducible assumption) | assumption); obtain ⟨go20, co20, eo20, gb20, gl20, cl20, HG20⟩ := Kd.R_form HO_3.out (by omega); (first | cases eo20 | (injection eo20 with ea_ en_ ec_; (first | subst ea_ | (injection ea_ with ea_; subst ea_)); subst ec_; clear en_)); have GB20 := Aside0.mk gb20; have GG20 := Aside0.mk HG20; clear gb20 gl20 HG20; (first | simp only [add_plain] at hx186_0 | skip); (first | simp only [add_plain] at hx187_0 | skip); (first | simp only [add_plain] at hx191_0 | skip); obtain ⟨hx20_0, hf20_0⟩ := Kd.R_celln 0 HO_3.out (t184 : Int) p20 q20; replace p20 := eq_true p20; replace q20 := eq_true q20; obtain ⟨hy24_, hz24_⟩ := Kd.R_celln 0 HO_3.out (t184 : Int) (of_decide_eq_true (by first | (with_reducible assumption) | assumption)) (of_decide_eq_true (by first | (with_reducible assumption) | assumption)); have HP24 := Kd.R_putg HO_3.out (t184 : Int) (wrap64 ((rd x3_1 t184) + (ji18)))) | ((with_reducible refine gate_store (t := 2) (p := 49) rfl ?_); (try (rw [drewN_self w23]; generalize hq_ : World.drewN w23 _ = w23; have n0_ := Aside0.mk (Kd.R_at hq_ HO_3.out); have n1_ := Aside0.mk (Kd.R_at hq_ HO190.out); have n2_ := Aside0.mk (below_at hq_ HB.out); clear hq_ HO_3 HO190 HB; have HO_3 := n0_; have HO190 := n1_; have HB := n2_; clear n0_ n1_ n2_; (try (obtain ⟨hy24_, hz24_⟩ := Kd.R_celln 0 HO_3.out (t184 : Int) (of_decide_eq_true (by first | (with_reducible assumption) | assumption)) (of_decide_eq_true (by first | (with_reducible assumption) | assumption)))); (try (have HP24 := Kd.R_putg HO_3.out (t184 : Int) (wrap64 ((rd x3_1 t184) + (ji18))))))); refine store_event (t := 2) (p := 49) (v := ?vo_w25) (w1 := (w23.setCell ⟨go20, (t184 : Int).toNat, none⟩ (.int .i64 (wrap64 ((rd x3_1 t184) + (ji18)))))) ?hg ?ho ?hn ?hr ?_; (case ho => rfl); (case hg => rfl); (case hn => rfl); (case hr => first | (go_simp; done) | (go_simp; rfl)); intro w25 hw; have hg : w23.grownBy w25 (some go20) := (by rw [hw]; exact HP24.2); have hp_ : Kd.R (Kd.int .i64) 2 w25 w.heap.size (fun _ => True) (.slice (some ⟨go20, 0, none⟩) x3_1.length co22) y192 := (by rw [hw, Ny192.out]; exact HP24.1); clear HP24; have n0_ := Aside0.mk (hp_); have n1_ := Aside0.mk (Kd.R_over' (v := (.slice (some ⟨go20, 0, none⟩) x3_1.length co22)) (by (with_reducible repeat (first | apply Kd.R_alloc | apply Kd.R_drewN | apply Kd.R_drew)); exact HO190.out) (Kd.R_typed HO_3.out) (by decide) hg); have n2_ := Aside0.mk ((by rw [hw]; exact below_set (HB.out) GB20.out : Below w.heap.size w w25)); clear HO_3; clear HO190; clear HB; have HO_3 := n0_; have HO190 := n1_; have HB := n2_; clear n0_ n1_ n2_; clear hg hw hp_; have p193 : 0 ≤ (t185 : Int) := of_decide_eq_true (by first | (with_reducible assumption) | assumption); have q193 : t185 < (y192.length : Int) := (by have h_ : (t185 : Int) < ((x3_1.length : Int) : Int) := of_decide_eq_true (by first | (with_reducible assumption) | assumption); first | (have e_ := (Kd.R_reads' HO_3.out).1; omega) | simpa only [Ny192.out, List.length_set] using h_); have ql193 : ((t185 : Int) < ((x3_1.length : Int) : Int)) = True := eq_true (of_decide_eq_true (by first | (with_reducible assumption) | assumption)); obtain ⟨ad193, e193, hx193_0⟩ := Kd.at_int (Kd.R_reads' HO_3.out).2.2 t185 p193 q193; obtain rfl : (⟨go20, 0, none⟩ : Addr) = ad193 := (by injection e193); (first | simp only [add_plain] at hx193_0 | simp only [add_at] at hx193_0 | simp only [Addr.add, Nat.zero_add] at hx193_0 | skip); replace p193 := eq_true p193; replace q193 := eq_true q193; have p21 : 0 ≤ (t185 : Int) := of_decide_eq_true (by first | (with_reducible assumption) | assumption); have q21 : (t185 : Int) < ((x3_1.length : Int) : Int) := of_decide_eq_true (by first | (with_reducible assumption) | assumption); obtain ⟨hx21_0, hf21_0⟩ := Kd.R_celln 0 HO_3.out (t185 : Int) p21 q21; replace p21 := eq_true p21; replace q21 := eq_true q21; obtain ⟨hy26_, hz26_⟩ := Kd.R_celln 0 HO_3.out (t185 : Int) (of_decide_eq_true (by first | (with_reducible assumption) | assumption)) (of_decide_eq_true (by first | (with_reducible assumption) | assumption)); have HP26 := Kd.R_putg HO_3.out (t185 : Int) (wrap64 ((rd y192 t185) - (ji18)))) | ((with_reducible refine gate_store (t := 2) (p := 58) rfl ?_); (try (rw [drewN_self w25]; generalize hq_ : World.drewN w25 _ = w25; have n0_ := Aside0.mk (Kd.R_at hq_ HO_3.out); have n1_ := Aside0.mk (Kd.R_at hq_ HO190.out); have n2_ := Aside0.mk (below_at hq_ HB.out); clear hq_ HO_3 HO190 HB; have HO_3 := n0_; have HO190 := n1_; have HB := n2_; clear n0_ n1_ n2_; (try (obtain ⟨hy26_, hz26_⟩ := Kd.R_celln 0 HO_3.out (t185 : Int) (of_decide_eq_true (by first | (with_reducible assumption) | assumption)) (of_decide_eq_true (by first | (with_reducible assumption) | assumption)))); (try (have HP26 := Kd.R_putg HO_3.out (t185 : Int) (wrap64 ((rd y192 t185) - (ji18))))))); refine store_event (t := 2) (p := 58) (v := ?vo_w27) (w1 := (w25.setCell ⟨go20, (t185 : Int).toNat, none⟩ (.int .i64 (wrap64 ((rd y192 t185) - (ji18)))))) ?hg ?ho ?hn ?hr ?_; (case ho => rfl); (case hg => rfl); (case hn => rfl); (case hr => first | (go_simp; done) | (go_simp; rfl)); intro w27 hw; have hg : w25.grownBy w27 (some go20) := (by rw [hw]; exact HP26.2); have hp_ : Kd.R (Kd.int .i64) 2 w27 w.heap.size (fun _ => True) (.slice (some ⟨go20, 0, none⟩) x3_1.length co22) y194 := (by rw [hw, Ny194.out]; exact HP26.1); clear HP26; have n0_ := Aside0.mk (hp_); have n1_ := Aside0.mk (Kd.R_over' (v := (.slice (some ⟨go20, 0, none⟩) x3_1.length co22)) (by (with_reducible repeat (first | apply Kd.R_alloc | apply Kd.R_drewN | apply Kd.R_drew)); exact HO190.out) (Kd.R_typed HO_3.out) (by decide) hg); have n2_ := Aside0.mk ((by rw [hw]; exact below_set (HB.out) GB20.out : Below w.heap.size w w27)); clear HO_3; clear HO190; clear HB; have HO_3 := n0_; have HO190 := n1_; have HB := n2_; clear n0_ n1_ n2_; clear hg hw hp_)); try go_wp2_with (first | (go_at_call 30; (with_reducible refine (cashbookref30_first.calls k1 _ _ x3_1 1 t184 _ ?side1 ?side2 A8.out).mono ?_); (case side1 => repeat (first | exact (Kd.R_reads' HO_3.out).2.2 | (with_reducible refine Kd.C_alloc ?_ _) | (with_reducible refine Kd.C_drewN ?_ _) | (with_reducible refine Kd.C_drew ?_))); (case side2 => exact (Kd.R_reads' HO_3.out).2.1); rintro e w' ⟨rfl, ⟨nd, rfl⟩⟩; (try first | exact ⟨rfl, _, World.drewN_drewN _ _ _⟩ | exact ⟨rfl, _, Eq.trans (World.drewN_drewN _ _ _) (congrArg (World.drewN _) (Nat.add_assoc _ _ _))⟩)) | (go_at_call 30; (with_reducible refine (cashbookref30_first.calls k1 _ _ x3_1 (-1) t185 _ ?side1 ?side2 A9.out).mono ?_); (case side1 => repeat (first | exact (Kd.R_reads' HO_3.out).2.2 | (with_reducible refine Kd.C_alloc ?_ _) | (with_reducible refine Kd.C_drewN ?_ _) | (with_reducible refine Kd.C_drew ?_))); (case side2 => exact (Kd.R_reads' HO_3.out).2.1); rintro e w' ⟨rfl, ⟨nd, rfl⟩⟩; (try first | exact ⟨rfl, _, World.drewN_drewN _ _ _⟩ | exact ⟨rfl, _, Eq.trans (World.drewN_drewN _ _ _) (congrArg (World.drewN _) (Nat.add_assoc _ _ _))⟩); have p186 : 0 ≤ (t184 : Int) := of_decide_eq_true (by first | (with_reducible assumption) | assumption); have q186 : t184 < (x3_1.length : Int) := of_decide_eq_true (by first | (with_reducible assumption) | assumption); obtain ⟨ad186, e186, hx186_0⟩ := Kd.at_int (Kd.R_reads' HO_3.out).2.2 t184 p186 q186; cases e186; replace p186 := eq_true p186; replace q186 := eq_true q186; have p187 : 0 ≤ (t185 : Int) := of_decide_eq_true (by first | (with_reducible assumption) | assumption); have q187 : t185 < (x3_1.length : Int) := of_decide_eq_true (by first | (with_reducible assumption) | assumption); obtain ⟨ad187, e187, hx187_0⟩ := Kd.at_int (Kd.R_reads' HO_3.out).2.2 t185 p187 q187; obtain rfl : ad186 = ad187 := (by injection e187); replace p187 := eq_true p187; replace q187 := eq_true q187) | ((with_reducible refine gate_builtin (b := .append) (xs := #[.tmp 34, .tmp 39]) rfl ?_); at_builtin; refine Kd.R_append k45 (w0 := w) w.heap.size rfl (.tmp 34) (.tmp 39) 31 45 (.agg #[(.int .i64 0), (.int .i64 0), (.int .i64 0)]) 24 rfl Try.underlying31 info45 rfl (by decide) (by omega) u4 x4_1 (⟨t184, t185, ji18⟩ : S45) [.int .i64 t184, .int .i64 t185, .int .i64 ji18] (fun _ => True) (fun _ => False) rfl rfl ?aP (fun _ hk => hk.elim) ?aF ?aO ?aB ?aS ?aL ?_; (case aP => exact k45_mkM _ _ _ (⟨t184, t185, ji18⟩ : S45)); (case aB => exact (by repeat (first | (with_reducible first | exact HB.out | apply below_alloc | apply pw_below_drewN | apply below_drew1) | exact HB.out))); (case aF => exact (fun _ _ => trivial)); (case aO => exact (by (with_reducible repeat (first | apply Kd.R_alloc | apply Kd.R_drewN | apply Kd.R_drew)); exact HO_4.out)); (case aS => exact (below_size (by repeat (first | (with_reducible first | exact HB.out | apply below_alloc | apply pw_below_drewN | apply below_drew1) | exact HB.out)))); (case aL => have := LMc19.out; omega); intro v189 w23 ho hb hg hat; rw [← Ny188.out] at ho; have n0_ := Aside0.mk (Kd.R_over' (by (with_reducible repeat (first | apply Kd.R_alloc | apply Kd.R_drewN | apply Kd.R_drew)); exact HO_3.out) (Kd.R_typed (by (with_reducible repeat (first | apply Kd.R_alloc | apply Kd.R_drewN | apply Kd.R_drew)); exact HO_4.out)) (by decide) hg); have n1_ := Aside0.mk (hb); have n2_ := Aside0.mk (ho); clear HO_3; clear HB; clear HO_4; have HO_3 := n0_; have HB := n1_; have HO190 := n2_; clear n0_ n1_ n2_; clear ho hb hg hat; have p191 : 0 ≤ (t184 : Int) := of_decide_eq_true (by first | (with_reducible assumption) | assumption); have q191 : t184 < (x3_1.length : Int) := of_decide_eq_true (by first | (with_reducible assumption) | assumption); obtain ⟨ad191, e191, hx191_0⟩ := Kd.at_int (Kd.R_reads' HO_3.out).2.2 t184 p191 q191; obtain rfl : ad186 = ad191 := (by injection e191); replace p191 := eq_true p191; replace q191 := eq_true q191; have p20 : 0 ≤ (t184 : Int) := of_decide_eq_true (by first | (with_reducible assumption) | assumption); have q20 : (t184 : Int) < ((x3_1.length : Int) : Int) := of_decide_eq_true (by first | (with_reducible assumption) | assumption); obtain ⟨go20, co20, eo20, gb20, gl20, cl20, HG20⟩ := Kd.R_form HO_3.out (by omega); (first | cases eo20 | (injection eo20 with ea_ en_ ec_; (first | subst ea_ | (injection ea_ with ea_; subst ea_)); subst ec_; clear en_)); have GB20 := Aside0.mk gb20; have GG20 := Aside0.mk HG20; clear gb20 gl20 HG20; (first | simp only [add_plain] at hx186_0 | skip); (first | simp only [add_plain] at hx187_0 | skip); (first | simp only [add_plain] at hx191_0 | skip); obtain ⟨hx20_0, hf20_0⟩ := Kd.R_celln 0 HO_3.out (t184 : Int) p20 q20; replace p20 := eq_true p20; replace q20 := eq_true q20; obtain ⟨hy24_, hz24_⟩ := Kd.R_celln 0 HO_3.out (t184 : Int) (of_decide_eq_true (by first | (with_reducible assumption) | assumption)) (of_decide_eq_true (by first | (with_reducible assumption) | assumption)); have HP24 := Kd.R_putg HO_3.out (t184 : Int) (wrap64 ((rd x3_1 t184) + (ji18)))) | ((with_reducible refine gate_store (t := 2) (p := 49) rfl ?_); (try (rw [drewN_self w23]; generalize hq_ : World.drewN w23 _ = w23; have n0_ := Aside0.mk (Kd.R_at hq_ HO_3.out); have n1_ := Aside0.mk (Kd.R_at hq_ HO190.out); have n2_ := Aside0.mk (below_at hq_ HB.out); clear hq_ HO_3 HO190 HB; have HO_3 := n0_; have HO190 := n1_; have HB := n2_; clear n0_ n1_ n2_; (try (obtain ⟨hy24_, hz24_⟩ := Kd.R_celln 0 HO_3.out (t184 : Int) (of_decide_eq_true (by first | (with_reducible assumption) | assumption)) (of_decide_eq_true (by first | (with_reducible assumption) | assumption)))); (try (have HP24 := Kd.R_putg HO_3.out (t184 : Int) (wrap64 ((rd x3_1 t184) + (ji18))))))); refine store_event (t := 2) (p := 49) (v := ?vo_w25) (w1 := (w23.setCell ⟨go20, (t184 : Int).toNat, none⟩ (.int .i64 (wrap64 ((rd x3_1 t184) + (ji18)))))) ?hg ?ho ?hn ?hr ?_; (case ho => rfl); (case hg => rfl); (case hn => rfl); (case hr => first | (go_simp; done) | (go_simp; rfl)); intro w25 hw; have hg : w23.grownBy w25 (some go20) := (by rw [hw]; exact HP24.2); have hp_ : Kd.R (Kd.int .i64) 2 w25 w.heap.size (fun _ => True) (.slice (some ⟨go20, 0, none⟩) x3_1.length co22) y192 := (by rw [hw, Ny192.out]; exact HP24.1); clear HP24; have n0_ := Aside0.mk (hp_); have n1_ := Aside0.mk (Kd.R_over' (v := (.slice (some ⟨go20, 0, none⟩) x3_1.length co22)) (by (with_reducible repeat (first | apply Kd.R_alloc | apply Kd.R_drewN | apply Kd.R_drew)); exact HO190.out) (Kd.R_typed HO_3.out) (by decide) hg); have n2_ := Aside0.mk ((by rw [hw]; exact below_set (HB.out) GB20.out : Below w.heap.size w w25)); clear HO_3; clear HO190; clear HB; have HO_3 := n0_; have HO190 := n1_; have HB := n2_; clear n0_ n1_ n2_; clear hg hw hp_; have p193 : 0 ≤ (t185 : Int) := of_decide_eq_true (by first | (with_reducible assumption) | assumption); have q193 : t185 < (y192.length : Int) := (by have h_ : (t185 : Int) < ((x3_1.length : Int) : Int) := of_decide_eq_true (by first | (with_reducible assumption) | assumption); first | (have e_ := (Kd.R_reads' HO_3.out).1; omega) | simpa only [Ny192.out, List.length_set] using h_); have ql193 : ((t185 : Int) < ((x3_1.length : Int) : Int)) = True := eq_true (of_decide_eq_true (by first | (with_reducible assumption) | assumption)); obtain ⟨ad193, e193, hx193_0⟩ := Kd.at_int (Kd.R_reads' HO_3.out).2.2 t185 p193 q193; obtain rfl : (⟨go20, 0, none⟩ : Addr) = ad193 := (by injection e193); (first | simp only [add_plain] at hx193_0 | simp only [add_at] at hx193_0 | simp only [Addr.add, Nat.zero_add] at hx193_0 | skip); replace p193 := eq_true p193; replace q193 := eq_true q193; have p21 : 0 ≤ (t185 : Int) := of_decide_eq_true (by first | (with_reducible assumption) | assumption); have q21 : (t185 : Int) < ((x3_1.length : Int) : Int) := of_decide_eq_true (by first | (with_reducible assumption) | assumption); obtain ⟨hx21_0, hf21_0⟩ := Kd.R_celln 0 HO_3.out (t185 : Int) p21 q21; replace p21 := eq_true p21; replace q21 := eq_true q21; obtain ⟨hy26_, hz26_⟩ := Kd.R_celln 0 HO_3.out (t185 : Int) (of_decide_eq_true (by first | (with_reducible assumption) | assumption)) (of_decide_eq_true (by first | (with_reducible assumption) | assumption)); have HP26 := Kd.R_putg HO_3.out (t185 : Int) (wrap64 ((rd y192 t185) - (ji18)))) | ((with_reducible refine gate_store (t := 2) (p := 58) rfl ?_); (try (rw [drewN_self w25]; generalize hq_ : World.drewN w25 _ = w25; have n0_ := Aside0.mk (Kd.R_at hq_ HO_3.out); have n1_ := Aside0.mk (Kd.R_at hq_ HO190.out); have n2_ := Aside0.mk (below_at hq_ HB.out); clear hq_ HO_3 HO190 HB; have HO_3 := n0_; have HO190 := n1_; have HB := n2_; clear n0_ n1_ n2_; (try (obtain ⟨hy26_, hz26_⟩ := Kd.R_celln 0 HO_3.out (t185 : Int) (of_decide_eq_true (by first | (with_reducible assumption) | assumption)) (of_decide_eq_true (by first | (with_reducible assumption) | assumption)))); (try (have HP26 := Kd.R_putg HO_3.out (t185 : Int) (wrap64 ((rd y192 t185) - (ji18))))))); refine store_event (t := 2) (p := 58) (v := ?vo_w27) (w1 := (w25.setCell ⟨go20, (t185 : Int).toNat, none⟩ (.int .i64 (wrap64 ((rd y192 t185) - (ji18)))))) ?hg ?ho ?hn ?hr ?_; (case ho => rfl); (case hg => rfl); (case hn => rfl); (case hr => first | (go_simp; done) | (go_simp; rfl)); intro w27 hw; have hg : w25.grownBy w27 (some go20) := (by rw [hw]; exact HP26.2); have hp_ : Kd.R (Kd.int .i64) 2 w27 w.heap.size (fun _ => True) (.slice (some ⟨go20, 0, none⟩) x3_1.length co22) y194 := (by rw [hw, Ny194.out]; exact HP26.1); clear HP26; have n0_ := Aside0.mk (hp_); have n1_ := Aside0.mk (Kd.R_over' (v := (.slice (some ⟨go20, 0, none⟩) x3_1.length co22)) (by (with_reducible repeat (first | apply Kd.R_alloc | apply Kd.R_drewN | apply Kd.R_drew)); exact HO190.out) (Kd.R_typed HO_3.out) (by decide) hg); have n2_ := Aside0.mk ((by rw [hw]; exact below_set (HB.out) GB20.out : Below w.heap.size w w27)); clear HO_3; clear HO190; clear HB; have HO_3 := n0_; have HO190 := n1_; have HB := n2_; clear n0_ n1_ n2_; clear hg hw hp_)))
                      go_roundg k1
                      case measure => have := HK1.out; omega
                      case rel => exact ⟨(y194), (y188), H', ⟨by have := HK1.out; omega⟩, ⟨by (with_reducible repeat (first | apply Kd.R_alloc | apply Kd.R_drewN | apply Kd.R_drew)); exact HO_3.out⟩, ⟨by (with_reducible repeat (first | apply Kd.R_alloc | apply Kd.R_drewN | apply Kd.R_drew)); exact HO190.out⟩, ⟨by repeat (first | (with_reducible first | exact HB.out | apply below_alloc | apply pw_below_drewN | apply below_drew1) | exact HB.out)⟩⟩
                    · rw [if_neg c19] at H
                      exact absurd H (by simp)
                  · rw [if_neg c17] at H
                    exact absurd H (by simp)
                · rw [if_neg c16] at H
                  exact absurd H (by simp)
              · rw [if_neg c15] at H
                exact absurd H (by simp)
            · rw [if_neg c14] at H
              exact absurd H (by simp)
  · rw [if_neg c2] at H
    exact absurd H (by simp)

end Go.Proofs.Ytcmaohhcbiienaa.S
