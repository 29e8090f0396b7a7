-- Printed by pp.py (wip/pp), a program of this session's, over the kit's print; Lean checks it.
import Derived.Test.YtcmaohhcbiienaaS0
import Derived.Test.YtcmaohhcbiienaaS2
import Derived.Test.YtcmaohhcbiienaaS3
namespace Go.Proofs.Ytcmaohhcbiienaa.S
open Go.RowKit Go.Proofs.YtcmaohhcbiienaaW.PrintWords Go.Proofs.YtcmaohhcbiienaaW.PrintLast Go.Proofs.YtcmaohhcbiienaaW.PrintMore
attribute [local go_sem] max2_int min2_int max_two min_two max_three min_three max_four min_four   -- for this text's walks alone
set_option linter.unusedVariables false
set_option linter.unusedSimpArgs false

/-! ### netting_may: function 25 -/
def netting_may.f (k : Nat) (l0 : List (S58)) (a1 : Int) (a2 : Int) : Option (Int) := (netting_Right.f k l0).bind fun t110 => (if t110 = true then ((netting_isCurrency.f a1).bind fun t111 => (if t111 = true then ((date_Right.f a2).bind fun t112 => (if t112 = true then (some 0) else (some 11))) else (some 12))) else (some 1))
theorem netting_may.mono : ∀ a0 a1 a2 k, LeO (netting_may.f k a0 a1 a2) (netting_may.f (k + 1) a0 a1 a2) := by
  intro a0 a1 a2 k
  unfold netting_may.f
  repeat' first
      | (with_reducible exact netting_Right.mono _ _)
      | (with_reducible exact LeO.refl _)
      | (with_reducible exact LeO.none _)
      | (with_reducible refine LeO.ite ?_ ?_)
      | (with_reducible refine LeO.bind ?_ (fun _ => ?_))
      | exact netting_Right.mono _ _
      | exact LeO.none _
      | refine LeO.ite ?_ ?_
      | refine LeO.bind ?_ (fun _ => ?_)
set_option maxHeartbeats 8000000 in
set_option maxRecDepth 100000 in
theorem netting_may.calls (k : Nat) (A0 : Option Addr) (c0 : Nat) (l0 : List (S58)) (a1 : Int) (a2 : Int) (r : Int) (w : World) (hr0 : Kd.C k58 w A0 l0.length l0) (hc0 : l0.length ≤ c0) (h : netting_may.f k l0 a1 a2 = some r) :
    Calls Try.prog 25 #[.slice A0 l0.length c0, .int .i64 a1, .int .i32 a2] w fun e w' => e = .returned (.int .i64 r) ∧ Below w.heap.size w w' := by
  have HR0 := Aside0.mk hr0
  have HC0 := Aside0.mk hc0
  clear hr0 hc0
  have HB := Aside0.mk (Below.refl w.heap.size w)
  have H : ((netting_Right.f k l0).bind fun t110 => (if t110 = true then ((netting_isCurrency.f a1).bind fun t111 => (if t111 = true then ((date_Right.f a2).bind fun t112 => (if t112 = true then (some 0) else (some 11))) else (some 12))) else (some 1))) = some r := h
  clear h
  replace H := Option.bind_eq_some_iff.mp H
  obtain ⟨t110, A40, H⟩ := H
  replace H : (if t110 = true then ((netting_isCurrency.f a1).bind fun t111 => (if t111 = true then ((date_Right.f a2).bind fun t112 => (if t112 = true then (some 0) else (some 11))) else (some 12))) else (some 1)) = some r := H
  have A4 := Aside0.mk A40
  clear A40
  by_cases c5 : t110 = true
  · subst c5
    have H1 : ((netting_isCurrency.f a1).bind fun t111 => (if t111 = true then ((date_Right.f a2).bind fun t112 => (if t112 = true then (some 0) else (some 11))) else (some 12))) = some r := by rw [if_pos rfl] at H; exact H
    clear H
    have H := H1
    clear H1
    replace H := Option.bind_eq_some_iff.mp H
    obtain ⟨t111, A60, H⟩ := H
    replace H : (if t111 = true then ((date_Right.f a2).bind fun t112 => (if t112 = true then (some 0) else (some 11))) else (some 12)) = some r := H
    have A6 := Aside0.mk A60
    clear A60
    by_cases c7 : t111 = true
    · subst c7
      have H1 : ((date_Right.f a2).bind fun t112 => (if t112 = true then (some 0) else (some 11))) = some r := by rw [if_pos rfl] at H; exact H
      clear H
      have H := H1
      clear H1
      replace H := Option.bind_eq_some_iff.mp H
      obtain ⟨t112, A80, H⟩ := H
      replace H : (if t112 = true then (some 0) else (some 11)) = some r := H
      have A8 := Aside0.mk A80
      clear A80
      by_cases c9 : t112 = true
      · subst c9
        have H1 : (some 0) = some r := by rw [if_pos rfl] at H; exact H
        clear H
        have H := H1
        clear H1
        obtain rfl := Option.some.inj H
        go_enter Try.func25, Try.ntmps25
        go_wp2_with (first | ((with_reducible refine gate_callee (f := 11) rfl ?_); refine goesL_ (some 9) rfl rfl Try.func11 (by kernel_rfl) rfl #[.slice A0 l0.length c0] rfl (by (try simp only [List.map_toArray, List.map_cons, List.map_nil]); first | done | rfl | (simp only [List.length_drop, List.length_take]; rfl)) ?_; (with_reducible refine (netting_Right.calls k _ _ l0 true _ ?side1 ?side2 A4.out).mono ?_); (case side1 => repeat (first | exact HR0.out | (with_reducible refine Kd.C_alloc ?_ _) | (with_reducible refine Kd.C_drewN ?_ _) | (with_reducible refine Kd.C_drew ?_))); (case side2 => exact HC0.out); rintro e w10 ⟨rfl, hb⟩; refine ⟨_, rfl, ?_⟩; have n0_ := Aside0.mk (below_step (by repeat (first | (with_reducible first | exact HB.out | apply below_alloc | apply pw_below_drewN | apply below_drew1) | exact HB.out)) hb); clear HB; have HB := n0_; clear n0_; (try clear hb); (try clear hb2); (try clear hk); (try clear hi)) | ((with_reducible refine gate_callee (f := 39) rfl ?_); refine goesL_ (some 13) rfl rfl Try.func39 (by kernel_rfl) rfl #[.int .i64 a1] rfl (by (try simp only [List.map_toArray, List.map_cons, List.map_nil]); first | done | rfl | (simp only [List.length_drop, List.length_take]; rfl)) ?_; (with_reducible refine (netting_isCurrency.calls a1 true _ A6.out).mono ?_); rintro e w' ⟨rfl, ⟨nd, rfl⟩⟩; refine ⟨_, rfl, ?_⟩) | ((with_reducible refine gate_callee (f := 40) rfl ?_); refine goesL_ (some 17) rfl rfl Try.func40 (by kernel_rfl) rfl #[.int .i32 a2] rfl (by (try simp only [List.map_toArray, List.map_cons, List.map_nil]); first | done | rfl | (simp only [List.length_drop, List.length_take]; rfl)) ?_; (with_reducible refine (date_Right.calls a2 true _ A8.out).mono ?_); rintro e w' ⟨rfl, ⟨nd, rfl⟩⟩; refine ⟨_, rfl, ?_⟩))
        go_ret
        exact ⟨by first | rfl | (simp [errW_none, errW_some] <;> rfl) | (simp [*, errW_none, errW_some] <;> rfl), by repeat (first | (with_reducible first | exact HB.out | apply below_alloc | apply pw_below_drewN | apply below_drew1) | exact HB.out)⟩
      · replace c9 := Bool.eq_false_iff.mpr c9
        subst c9
        have H1 : (some 11) = some r := by rw [if_neg (show ¬ (false = true) by decide)] at H; exact H
        clear H
        have H := H1
        clear H1
        obtain rfl := Option.some.inj H
        go_enter Try.func25, Try.ntmps25
        go_wp2_with (first | ((with_reducible refine gate_callee (f := 11) rfl ?_); refine goesL_ (some 9) rfl rfl Try.func11 (by kernel_rfl) rfl #[.slice A0 l0.length c0] rfl (by (try simp only [List.map_toArray, List.map_cons, List.map_nil]); first | done | rfl | (simp only [List.length_drop, List.length_take]; rfl)) ?_; (with_reducible refine (netting_Right.calls k _ _ l0 true _ ?side1 ?side2 A4.out).mono ?_); (case side1 => repeat (first | exact HR0.out | (with_reducible refine Kd.C_alloc ?_ _) | (with_reducible refine Kd.C_drewN ?_ _) | (with_reducible refine Kd.C_drew ?_))); (case side2 => exact HC0.out); rintro e w11 ⟨rfl, hb⟩; refine ⟨_, rfl, ?_⟩; have n0_ := Aside0.mk (below_step (by repeat (first | (with_reducible first | exact HB.out | apply below_alloc | apply pw_below_drewN | apply below_drew1) | exact HB.out)) hb); clear HB; have HB := n0_; clear n0_; (try clear hb); (try clear hb2); (try clear hk); (try clear hi)) | ((with_reducible refine gate_callee (f := 39) rfl ?_); refine goesL_ (some 13) rfl rfl Try.func39 (by kernel_rfl) rfl #[.int .i64 a1] rfl (by (try simp only [List.map_toArray, List.map_cons, List.map_nil]); first | done | rfl | (simp only [List.length_drop, List.length_take]; rfl)) ?_; (with_reducible refine (netting_isCurrency.calls a1 true _ A6.out).mono ?_); rintro e w' ⟨rfl, ⟨nd, rfl⟩⟩; refine ⟨_, rfl, ?_⟩) | ((with_reducible refine gate_callee (f := 40) rfl ?_); refine goesL_ (some 17) rfl rfl Try.func40 (by kernel_rfl) rfl #[.int .i32 a2] rfl (by (try simp only [List.map_toArray, List.map_cons, List.map_nil]); first | done | rfl | (simp only [List.length_drop, List.length_take]; rfl)) ?_; (with_reducible refine (date_Right.calls a2 false _ A8.out).mono ?_); rintro e w' ⟨rfl, ⟨nd, rfl⟩⟩; refine ⟨_, rfl, ?_⟩))
        go_ret
        exact ⟨by first | rfl | (simp [errW_none, errW_some] <;> rfl) | (simp [*, errW_none, errW_some] <;> rfl), by repeat (first | (with_reducible first | exact HB.out | apply below_alloc | apply pw_below_drewN | apply below_drew1) | exact HB.out)⟩
    · replace c7 := Bool.eq_false_iff.mpr c7
      subst c7
      have H1 : (some 12) = some r := by rw [if_neg (show ¬ (false = true) by decide)] at H; exact H
      clear H
      have H := H1
      clear H1
      obtain rfl := Option.some.inj H
      go_enter Try.func25, Try.ntmps25
      go_wp2_with (first | ((with_reducible refine gate_callee (f := 11) rfl ?_); refine goesL_ (some 9) rfl rfl Try.func11 (by kernel_rfl) rfl #[.slice A0 l0.length c0] rfl (by (try simp only [List.map_toArray, List.map_cons, List.map_nil]); first | done | rfl | (simp only [List.length_drop, List.length_take]; rfl)) ?_; (with_reducible refine (netting_Right.calls k _ _ l0 true _ ?side1 ?side2 A4.out).mono ?_); (case side1 => repeat (first | exact HR0.out | (with_reducible refine Kd.C_alloc ?_ _) | (with_reducible refine Kd.C_drewN ?_ _) | (with_reducible refine Kd.C_drew ?_))); (case side2 => exact HC0.out); rintro e w12 ⟨rfl, hb⟩; refine ⟨_, rfl, ?_⟩; have n0_ := Aside0.mk (below_step (by repeat (first | (with_reducible first | exact HB.out | apply below_alloc | apply pw_below_drewN | apply below_drew1) | exact HB.out)) hb); clear HB; have HB := n0_; clear n0_; (try clear hb); (try clear hb2); (try clear hk); (try clear hi)) | ((with_reducible refine gate_callee (f := 39) rfl ?_); refine goesL_ (some 13) rfl rfl Try.func39 (by kernel_rfl) rfl #[.int .i64 a1] rfl (by (try simp only [List.map_toArray, List.map_cons, List.map_nil]); first | done | rfl | (simp only [List.length_drop, List.length_take]; rfl)) ?_; (with_reducible refine (netting_isCurrency.calls a1 false _ A6.out).mono ?_); rintro e w' ⟨rfl, ⟨nd, rfl⟩⟩; refine ⟨_, rfl, ?_⟩))
      go_ret
      exact ⟨by first | rfl | (simp [errW_none, errW_some] <;> rfl) | (simp [*, errW_none, errW_some] <;> rfl), by repeat (first | (with_reducible first | exact HB.out | apply below_alloc | apply pw_below_drewN | apply below_drew1) | exact HB.out)⟩
  · replace c5 := Bool.eq_false_iff.mpr c5
    subst c5
    have H1 : (some 1) = some r := by rw [if_neg (show ¬ (false = true) by decide)] at H; exact H
    clear H
    have H := H1
    clear H1
    obtain rfl := Option.some.inj H
    go_enter Try.func25, Try.ntmps25
    go_wp2_with (first | ((with_reducible refine gate_callee (f := 11) rfl ?_); refine goesL_ (some 9) rfl rfl Try.func11 (by kernel_rfl) rfl #[.slice A0 l0.length c0] rfl (by (try simp only [List.map_toArray, List.map_cons, List.map_nil]); first | done | rfl | (simp only [List.length_drop, List.length_take]; rfl)) ?_; (with_reducible refine (netting_Right.calls k _ _ l0 false _ ?side1 ?side2 A4.out).mono ?_); (case side1 => repeat (first | exact HR0.out | (with_reducible refine Kd.C_alloc ?_ _) | (with_reducible refine Kd.C_drewN ?_ _) | (with_reducible refine Kd.C_drew ?_))); (case side2 => exact HC0.out); rintro e w13 ⟨rfl, hb⟩; refine ⟨_, rfl, ?_⟩; have n0_ := Aside0.mk (below_step (by repeat (first | (with_reducible first | exact HB.out | apply below_alloc | apply pw_below_drewN | apply below_drew1) | exact HB.out)) hb); clear HB; have HB := n0_; clear n0_; (try clear hb); (try clear hb2); (try clear hk); (try clear hi)))
    go_ret
    exact ⟨by first | rfl | (simp [errW_none, errW_some] <;> rfl) | (simp [*, errW_none, errW_some] <;> rfl), by repeat (first | (with_reducible first | exact HB.out | apply below_alloc | apply pw_below_drewN | apply below_drew1) | exact HB.out)⟩

/-! ### netting_netOf: function 26 -/
def netting_netOf.l0 : Nat → Int → Int → List Int → List (S58) → Int → Int → Option (List Int)
  | 0, _, _, _, _, _, _ => none
  | k + 1, x1, x2, x7, x11, x12, x13 => if x13 < x12 then (if 0 ≤ x13 then (if x13 < (x11.length : Int) then (if ((rd_T58 x11 x13).f3.f0) = x1 then (if ((rd_T58 x11 x13).f4) = x2 then (if 0 ≤ ((rd_T58 x11 x13).f1) then (if ((rd_T58 x11 x13).f1) < (x7.length : Int) then ((some (x7.set (((rd_T58 x11 x13).f1) : Int).toNat (wrap64 ((rd x7 ((rd_T58 x11 x13).f1)) - ((rd_T58 x11 x13).f3.f1))) : List Int)).bind fun y119 => (if 0 ≤ ((rd_T58 x11 x13).f2) then (if ((rd_T58 x11 x13).f2) < (x7.length : Int) then (netting_netOf.l0 k x1 x2 (y119.set (((rd_T58 x11 x13).f2) : Int).toNat (wrap64 ((rd y119 ((rd_T58 x11 x13).f2)) + ((rd_T58 x11 x13).f3.f1)))) x11 x12 (wrap64 (x13 + 1))) else (none)) else (none))) else (none)) else (none)) else (netting_netOf.l0 k x1 x2 x7 x11 x12 (wrap64 (x13 + 1)))) else (netting_netOf.l0 k x1 x2 x7 x11 x12 (wrap64 (x13 + 1)))) else (none)) else (none)) else (some x7)
def netting_netOf.f (k : Nat) (l0 : List (S58)) (a1 : Int) (a2 : Int) : Option (List Int) := if 16 ≤ 35184372088832 then (netting_netOf.l0 k a1 a2 (List.replicate 16 0) l0 (l0.length : Int) 0) else (none)
theorem netting_netOf.mono_l : ∀ k, (∀ y0 y1 y2 y3 y4 y5, LeO (netting_netOf.l0 k y0 y1 y2 y3 y4 y5) (netting_netOf.l0 (k + 1) y0 y1 y2 y3 y4 y5))
  | 0 => fun _ _ _ _ _ _ r h => by simp [netting_netOf.l0] at h
  | k + 1 => by
    have ih0 := netting_netOf.mono_l k
    · intro y0 y1 y2 y3 y4 y5
      unfold netting_netOf.l0
      repeat' first
      | (with_reducible exact ih0 _ _ _ _ _ _)
      | (with_reducible exact LeO.refl _)
      | (with_reducible exact LeO.none _)
      | (with_reducible refine LeO.ite ?_ ?_)
      | (with_reducible refine LeO.bind ?_ (fun _ => ?_))
      | exact ih0 _ _ _ _ _ _
      | exact LeO.none _
      | refine LeO.ite ?_ ?_
      | refine LeO.bind ?_ (fun _ => ?_)
theorem netting_netOf.mono : ∀ a0 a1 a2 k, LeO (netting_netOf.f k a0 a1 a2) (netting_netOf.f (k + 1) a0 a1 a2) := by
  intro a0 a1 a2 k
  have ih0 := netting_netOf.mono_l k
  unfold netting_netOf.f
  repeat' first
      | (with_reducible exact ih0 _ _ _ _ _ _)
      | (with_reducible exact LeO.refl _)
      | (with_reducible exact LeO.none _)
      | (with_reducible refine LeO.ite ?_ ?_)
      | (with_reducible refine LeO.bind ?_ (fun _ => ?_))
      | exact ih0 _ _ _ _ _ _
      | exact LeO.none _
      | refine LeO.ite ?_ ?_
      | refine LeO.bind ?_ (fun _ => ?_)
def netting_netOf.T6 : Bool × List (List Nat × List Nat) := (true, [([], []), ([], []), ([1], [1]), ([0, 2], [0, 2]), ([3], [3]), ([], []), ([5], [5]), ([6], [6]), ([4, 7], [4, 7]), ([0, 2, 0, 1, 2, 3, 4, 5, 6, 7, 8], [0, 2]), ([9, 8, 0, 1, 2, 3, 4, 5, 6, 7, 8], [8, 9])])
def netting_netOf.B6 : List Nat := [0, 0, 2, 7, 15, 0, 32, 96, 255, 511, 1023]
theorem netting_netOf.tab6 : rtab .any (opsOf Try.f26 6) = netting_netOf.T6 := by kernel_rfl
theorem netting_netOf.bits6 : waitsOk netting_netOf.T6.2 netting_netOf.B6 = true := by kernel_rfl
def netting_netOf.T7 : Bool × List (List Nat × List Nat) := (true, [([], []), ([], []), ([1], [1]), ([0, 2], [0, 2]), ([3], [3]), ([], []), ([5], [5]), ([6], [6]), ([4, 7], [4, 7]), ([0, 2, 0, 1, 2, 3, 4, 5, 6, 7, 8], [0, 2]), ([9, 8, 0, 1, 2, 3, 4, 5, 6, 7, 8], [8, 9])])
def netting_netOf.B7 : List Nat := [0, 0, 2, 7, 15, 0, 32, 96, 255, 511, 1023]
theorem netting_netOf.tab7 : rtab .any (opsOf Try.f26 7) = netting_netOf.T7 := by kernel_rfl
theorem netting_netOf.bits7 : waitsOk netting_netOf.T7.2 netting_netOf.B7 = true := by kernel_rfl
set_option maxHeartbeats 8000000 in
set_option maxRecDepth 100000 in
theorem netting_netOf.calls (k : Nat) (A0 : Option Addr) (c0 : Nat) (l0 : List (S58)) (a1 : Int) (a2 : Int) (r : List Int) (w : World) (hr0 : Kd.C k58 w A0 l0.length l0) (hc0 : l0.length ≤ c0) (h : netting_netOf.f k l0 a1 a2 = some r) :
    Calls Try.prog 26 #[.slice A0 l0.length c0, .int .i64 a1, .int .i32 a2] w fun e w' => ∃ v0_ : Value, e = .returned (v0_) ∧ Kd.R (Kd.int .i64) 2 w' w.heap.size (fun _ => True) v0_ r ∧ Below w.heap.size w w' := by
  have hu58 := Try.underlying58
  have HR0 := Aside0.mk hr0
  have HC0 := Aside0.mk hc0
  clear hr0 hc0
  have HB := Aside0.mk (Below.refl w.heap.size w)
  have H : (if 16 ≤ 35184372088832 then (netting_netOf.l0 k a1 a2 (List.replicate 16 0) l0 (l0.length : Int) 0) else (none)) = some r := h
  clear h
  by_cases c4 : 16 ≤ 35184372088832
  · rw [if_pos c4] at H
    have c4b0 := eq_true c4
    have c4b1 : decide (16 ≤ 35184372088832) = true := decide_eq_true c4
    clear c4
    obtain ⟨y113, hy113⟩ : ∃ y_ : List Int, y_ = (List.replicate 16 0) := ⟨_, rfl⟩
    replace H : (netting_netOf.l0 k a1 a2 y113 l0 (l0.length : Int) 0) = some r := by first | (rw [hy113]; with_reducible exact H) | (have H2_ := (Option.bind_some _ _).symm.trans H; rw [hy113]; with_reducible exact H2_) | (have H2_ := (Option.bind_some _ _).symm.trans H; with_reducible exact H2_) | with_reducible exact H | (rw [hy113]; exact H) | exact H
    have Ny113 := Aside0.mk hy113
    clear hy113
    have H' := Aside0.mk H
    clear H
    go_enter Try.func26, Try.ntmps26
    go_wp2_with (first | ((with_reducible refine gate_dst (N := 10) rfl ?_); refine Kd.R_make (Kd.int .i64) _ 2 rfl (N := 10) rfl 25 _ _ rfl 16 rfl rfl Try.underlying25 (.int .i64 0) 8 info2 rfl (by decide) (by omega) 0 (ok := fun _ => True) (okp := fun _ => True) rfl (fun _ hk => hk) trivial (by omega) (by omega) (Below.refl _ _) (Nat.le_refl _) ?_; intro v114 w5 ho6 hb hg_ hnew_; clear hg_ hnew_; (first | rw [← Ny113.out] at ho6 | (simp only [Int.reduceToNat] at ho6; rw [← Ny113.out] at ho6)); have n0_ := Aside0.mk (Kd.R_lower ho6 (below_size (by repeat (first | (with_reducible first | exact HB.out | apply below_alloc | apply pw_below_drewN | apply below_drew1) | exact HB.out)))); have n1_ := Aside0.mk (below_step (by repeat (first | (with_reducible first | exact HB.out | apply below_alloc | apply pw_below_drewN | apply below_drew1) | exact HB.out)) hb); clear HB; have HO115 := n0_; have HB := n1_; clear n0_ n1_; clear hb ho6))
    go_loopg [13] k (fun kq v13 w' => ∃ (x7_1 : List Int) (x13_1 : Int), v13 = .int .i64 x13_1 ∧ Aside0 (netting_netOf.l0 kq a1 a2 x7_1 l0 (l0.length : Int) x13_1 = some r) ∧ Aside0 (kq ≤ k) ∧ Aside0 (Kd.R (Kd.int .i64) 2 w' w.heap.size (fun _ => True) v114 x7_1) ∧ Aside0 (Below w.heap.size w w'))
    case atStart => exact ⟨(y113), (0), (by first | rfl | (simp; done) | (simp [*]; done)), H', ⟨Nat.le_refl _⟩, ⟨by (with_reducible repeat (first | apply Kd.R_alloc | apply Kd.R_drewN | apply Kd.R_drew)); exact HO115.out⟩, ⟨by repeat (first | (with_reducible first | exact HB.out | apply below_alloc | apply pw_below_drewN | apply below_drew1) | exact HB.out)⟩⟩
    case round =>
      clear H'
      try clear c2
      try clear p2
      try clear c4
      try clear c4b0
      try clear c4b1
      obtain ⟨x7_1, x13_1, rfl, HA, HK1, HO_7, HB⟩ := hrel
      cases gk with
      | zero => exact absurd HA.out (by simp [netting_netOf.l0])
      | succ k1 =>
        have H := HA.out
        clear HA
        simp only [netting_netOf.l0] at H
        by_cases c7 : x13_1 < (l0.length : Int)
        · rw [if_pos c7] at H
          have c7b0 : decide (x13_1 < (l0.length : Int)) = true := decide_eq_true c7
          clear c7
          by_cases c8 : 0 ≤ x13_1
          · rw [if_pos c8] at H
            have c8b0 : decide (0 ≤ x13_1) = true := decide_eq_true c8
            clear c8
            by_cases c9 : x13_1 < (l0.length : Int)
            · rw [if_pos c9] at H
              have c9b0 : decide (x13_1 < (l0.length : Int)) = true := decide_eq_true c9
              clear c9
              by_cases c10 : ((rd_T58 l0 x13_1).f3.f0) = a1
              · rw [if_pos c10] at H
                have c10b0 : (((rd_T58 l0 x13_1).f3.f0) == a1) = true := beq_iff_eq.mpr c10
                have c10b1 : (((rd_T58 l0 x13_1).f3.f0) != a1) = false := bne_eq_false_iff_eq.mpr c10
                clear c10
                by_cases c11 : ((rd_T58 l0 x13_1).f4) = a2
                · rw [if_pos c11] at H
                  have c11b0 : (((rd_T58 l0 x13_1).f4) == a2) = true := beq_iff_eq.mpr c11
                  have c11b1 : (((rd_T58 l0 x13_1).f4) != a2) = false := bne_eq_false_iff_eq.mpr c11
                  clear c11
                  by_cases c12 : 0 ≤ ((rd_T58 l0 x13_1).f1)
                  · rw [if_pos c12] at H
                    have c12b0 : decide (0 ≤ ((rd_T58 l0 x13_1).f1)) = true := decide_eq_true c12
                    clear c12
                    by_cases c13 : ((rd_T58 l0 x13_1).f1) < (x7_1.length : Int)
                    · rw [if_pos c13] at H
                      have c13b0 : decide (((rd_T58 l0 x13_1).f1) < (x7_1.length : Int)) = true := decide_eq_true c13
                      clear c13
                      obtain ⟨y119, hy119⟩ : ∃ y_ : List Int, y_ = (x7_1.set (((rd_T58 l0 x13_1).f1) : Int).toNat (wrap64 ((rd x7_1 ((rd_T58 l0 x13_1).f1)) - ((rd_T58 l0 x13_1).f3.f1)))) := ⟨_, rfl⟩
                      replace H : (if 0 ≤ ((rd_T58 l0 x13_1).f2) then (if ((rd_T58 l0 x13_1).f2) < (x7_1.length : Int) then (netting_netOf.l0 k1 a1 a2 (y119.set (((rd_T58 l0 x13_1).f2) : Int).toNat (wrap64 ((rd y119 ((rd_T58 l0 x13_1).f2)) + ((rd_T58 l0 x13_1).f3.f1)))) l0 (l0.length : Int) (wrap64 (x13_1 + 1))) else (none)) else (none)) = some r := by first | (rw [hy119]; with_reducible exact H) | (have H2_ := (Option.bind_some _ _).symm.trans H; rw [hy119]; with_reducible exact H2_) | (have H2_ := (Option.bind_some _ _).symm.trans H; with_reducible exact H2_) | with_reducible exact H | (rw [hy119]; exact H) | exact H
                      have Ny119 := Aside0.mk hy119
                      clear hy119
                      by_cases c15 : 0 ≤ ((rd_T58 l0 x13_1).f2)
                      · rw [if_pos c15] at H
                        have c15b0 : decide (0 ≤ ((rd_T58 l0 x13_1).f2)) = true := decide_eq_true c15
                        clear c15
                        by_cases c16 : ((rd_T58 l0 x13_1).f2) < (x7_1.length : Int)
                        · rw [if_pos c16] at H
                          have c16b0 : decide (((rd_T58 l0 x13_1).f2) < (x7_1.length : Int)) = true := decide_eq_true c16
                          clear c16
                          obtain ⟨y121, hy121⟩ : ∃ y_ : List Int, y_ = (y119.set (((rd_T58 l0 x13_1).f2) : Int).toNat (wrap64 ((rd y119 ((rd_T58 l0 x13_1).f2)) + ((rd_T58 l0 x13_1).f3.f1)))) := ⟨_, rfl⟩
                          replace H : (netting_netOf.l0 k1 a1 a2 y121 l0 (l0.length : Int) (wrap64 (x13_1 + 1))) = some r := by first | (rw [hy121]; with_reducible exact H) | (have H2_ := (Option.bind_some _ _).symm.trans H; rw [hy121]; with_reducible exact H2_) | (have H2_ := (Option.bind_some _ _).symm.trans H; with_reducible exact H2_) | with_reducible exact H | (rw [hy121]; exact H) | exact H
                          have Ny121 := Aside0.mk hy121
                          clear hy121
                          have H' := Aside0.mk H
                          clear H
                          have p116 : 0 ≤ (x13_1 : Int) := of_decide_eq_true (by first | (with_reducible assumption) | assumption)
                          have q116 : x13_1 < (l0.length : Int) := of_decide_eq_true (by first | (with_reducible assumption) | assumption)
                          obtain ⟨ad116, e116, hx116_0, hx116_1, hx116_2, hx116_3, hx116_4, hx116_5⟩ := at_T58 HR0.out x13_1 p116 q116
                          cases e116
                          replace hx116_0 := (HB.out.cell (World.block_lt_of_cell? w _ hx116_0)).trans hx116_0
                          replace hx116_1 := (HB.out.cell (World.block_lt_of_cell? w _ hx116_1)).trans hx116_1
                          replace hx116_2 := (HB.out.cell (World.block_lt_of_cell? w _ hx116_2)).trans hx116_2
                          replace hx116_3 := (HB.out.cell (World.block_lt_of_cell? w _ hx116_3)).trans hx116_3
                          replace hx116_4 := (HB.out.cell (World.block_lt_of_cell? w _ hx116_4)).trans hx116_4
                          replace hx116_5 := (HB.out.cell (World.block_lt_of_cell? w _ hx116_5)).trans hx116_5
                          replace p116 := eq_true p116
                          replace q116 := eq_true q116
                          try go_wp2_with (first | ((with_reducible refine gate_dst (N := 9) rfl ?_); refine box_event ?hg (N := 9) ?hd (cs := #[.int .i64 0, .int .i64 0, .int .i64 0, .int .i64 0, .int .i64 0, .int .i32 0]) (t := 58) ?hr ?_; (case hd => rfl); (case hg => rfl); (case hr => first | (go_simp; done) | (go_simp; rfl)); intro gb117 hg w18 hbox hb; have n0_ := Aside0.mk (Kd.R_below (by (with_reducible repeat (first | apply Kd.R_alloc | apply Kd.R_drewN | apply Kd.R_drew)); exact HO_7.out) hb); have n1_ := Aside0.mk (below_step (by repeat (first | (with_reducible first | exact HB.out | apply below_alloc | apply pw_below_drewN | apply below_drew1) | exact HB.out)) hb); have n2_ := Aside0.mk (hbox); have n3_ := Aside0.mk ((by rw [hg]; exact (below_size (by repeat (first | (with_reducible first | exact HB.out | apply below_alloc | apply pw_below_drewN | apply below_drew1) | exact HB.out))) : w.heap.size ≤ gb117)); have n4_ := Aside0.mk ((by rw [hg]; exact (below_size (by repeat (first | (with_reducible first | exact HB.out | apply below_alloc | apply pw_below_drewN | apply below_drew1) | exact HB.out))) : w.heap.size ≤ gb117)); clear HO_7; clear HB; have HO_7 := n0_; have HB := n1_; have BK117 := n2_; have GW117 := n3_; have GE117 := n4_; clear n0_ n1_ n2_ n3_ n4_; clear hb hbox hg; have hcz19_0 : w18.cell? ⟨gb117, 0, none⟩ = some (.int .i64 0) := (blk_cell BK117.out 0).trans rfl; have hcz19_1 : w18.cell? ⟨gb117, 1, none⟩ = some (.int .i64 0) := (blk_cell BK117.out 1).trans rfl; have hcz19_2 : w18.cell? ⟨gb117, 2, none⟩ = some (.int .i64 0) := (blk_cell BK117.out 2).trans rfl; have hcz19_3 : w18.cell? ⟨gb117, 3, none⟩ = some (.int .i64 0) := (blk_cell BK117.out 3).trans rfl; have hcz19_4 : w18.cell? ⟨gb117, 4, none⟩ = some (.int .i64 0) := (blk_cell BK117.out 4).trans rfl; have hcz19_5 : w18.cell? ⟨gb117, 5, none⟩ = some (.int .i32 0) := (blk_cell BK117.out 5).trans rfl; have hfz19_0 := blk_frozen BK117.out 0; have hfz19_1 := blk_frozen BK117.out 1; have hfz19_2 := blk_frozen BK117.out 2; have hfz19_3 := blk_frozen BK117.out 3; have hfz19_4 := blk_frozen BK117.out 4; have hfz19_5 := blk_frozen BK117.out 5))
                          have n0_ : Aside0 (Kd.R (Kd.int .i64) 2 ((((((w18.setCell ⟨gb117, 0, none⟩ (.int .i64 ((rd_T58 l0 x13_1).f0))).setCell ⟨gb117, 1, none⟩ (.int .i64 ((rd_T58 l0 x13_1).f1))).setCell ⟨gb117, 2, none⟩ (.int .i64 ((rd_T58 l0 x13_1).f2))).setCell ⟨gb117, 3, none⟩ (.int .i64 ((rd_T58 l0 x13_1).f3.f0))).setCell ⟨gb117, 4, none⟩ (.int .i64 ((rd_T58 l0 x13_1).f3.f1))).setCell ⟨gb117, 5, none⟩ (.int .i32 ((rd_T58 l0 x13_1).f4))) w.heap.size (fun _ => True) v114 x7_1) := ⟨by (with_reducible repeat (first | apply Kd.R_alloc | apply Kd.R_drewN | apply Kd.R_drew)); exact Kd.R_mono (Kd.R_far (p := ⟨gb117, 5, none⟩) (Kd.R_far (p := ⟨gb117, 4, none⟩) (Kd.R_far (p := ⟨gb117, 3, none⟩) (Kd.R_far (p := ⟨gb117, 2, none⟩) (Kd.R_far (p := ⟨gb117, 1, none⟩) (Kd.R_far (p := ⟨gb117, 0, none⟩) (Kd.R_types HO_7.out BK117.out (by decide)) (fun _ hk => hk.2) (.int .i64 ((rd_T58 l0 x13_1).f0))) (fun _ hk => hk.2) (.int .i64 ((rd_T58 l0 x13_1).f1))) (fun _ hk => hk.2) (.int .i64 ((rd_T58 l0 x13_1).f2))) (fun _ hk => hk.2) (.int .i64 ((rd_T58 l0 x13_1).f3.f0))) (fun _ hk => hk.2) (.int .i64 ((rd_T58 l0 x13_1).f3.f1))) (fun _ hk => hk.2) (.int .i32 ((rd_T58 l0 x13_1).f4))) (fun _ hk => trivial)⟩
                          have n1_ : Aside0 (((((((w18.setCell ⟨gb117, 0, none⟩ (.int .i64 ((rd_T58 l0 x13_1).f0))).setCell ⟨gb117, 1, none⟩ (.int .i64 ((rd_T58 l0 x13_1).f1))).setCell ⟨gb117, 2, none⟩ (.int .i64 ((rd_T58 l0 x13_1).f2))).setCell ⟨gb117, 3, none⟩ (.int .i64 ((rd_T58 l0 x13_1).f3.f0))).setCell ⟨gb117, 4, none⟩ (.int .i64 ((rd_T58 l0 x13_1).f3.f1))).setCell ⟨gb117, 5, none⟩ (.int .i32 ((rd_T58 l0 x13_1).f4))).heap[gb117]? = some (.cells #[.int .i64 ((rd_T58 l0 x13_1).f0), .int .i64 ((rd_T58 l0 x13_1).f1), .int .i64 ((rd_T58 l0 x13_1).f2), .int .i64 ((rd_T58 l0 x13_1).f3.f0), .int .i64 ((rd_T58 l0 x13_1).f3.f1), .int .i32 ((rd_T58 l0 x13_1).f4)] 58 (0, 0))) := ⟨by (with_reducible repeat (first | refine blk_drewN ?_ _ | refine blk_drew ?_ | refine blk_alloc ?_ _)); refine blk_put (cs := #[.int .i64 ((rd_T58 l0 x13_1).f0), .int .i64 ((rd_T58 l0 x13_1).f1), .int .i64 ((rd_T58 l0 x13_1).f2), .int .i64 ((rd_T58 l0 x13_1).f3.f0), .int .i64 ((rd_T58 l0 x13_1).f3.f1), .int .i32 0]) ?_ 5 _ rfl; (with_reducible repeat (first | refine blk_drewN ?_ _ | refine blk_drew ?_ | refine blk_alloc ?_ _)); refine blk_put (cs := #[.int .i64 ((rd_T58 l0 x13_1).f0), .int .i64 ((rd_T58 l0 x13_1).f1), .int .i64 ((rd_T58 l0 x13_1).f2), .int .i64 ((rd_T58 l0 x13_1).f3.f0), .int .i64 0, .int .i32 0]) ?_ 4 _ rfl; (with_reducible repeat (first | refine blk_drewN ?_ _ | refine blk_drew ?_ | refine blk_alloc ?_ _)); refine blk_put (cs := #[.int .i64 ((rd_T58 l0 x13_1).f0), .int .i64 ((rd_T58 l0 x13_1).f1), .int .i64 ((rd_T58 l0 x13_1).f2), .int .i64 0, .int .i64 0, .int .i32 0]) ?_ 3 _ rfl; (with_reducible repeat (first | refine blk_drewN ?_ _ | refine blk_drew ?_ | refine blk_alloc ?_ _)); refine blk_put (cs := #[.int .i64 ((rd_T58 l0 x13_1).f0), .int .i64 ((rd_T58 l0 x13_1).f1), .int .i64 0, .int .i64 0, .int .i64 0, .int .i32 0]) ?_ 2 _ rfl; (with_reducible repeat (first | refine blk_drewN ?_ _ | refine blk_drew ?_ | refine blk_alloc ?_ _)); refine blk_put (cs := #[.int .i64 ((rd_T58 l0 x13_1).f0), .int .i64 0, .int .i64 0, .int .i64 0, .int .i64 0, .int .i32 0]) ?_ 1 _ rfl; (with_reducible repeat (first | refine blk_drewN ?_ _ | refine blk_drew ?_ | refine blk_alloc ?_ _)); refine blk_put (cs := #[.int .i64 0, .int .i64 0, .int .i64 0, .int .i64 0, .int .i64 0, .int .i32 0]) ?_ 0 _ rfl; (with_reducible repeat (first | refine blk_drewN ?_ _ | refine blk_drew ?_ | refine blk_alloc ?_ _)); exact BK117.out⟩
                          have n2_ : Aside0 (Below w.heap.size w ((((((w18.setCell ⟨gb117, 0, none⟩ (.int .i64 ((rd_T58 l0 x13_1).f0))).setCell ⟨gb117, 1, none⟩ (.int .i64 ((rd_T58 l0 x13_1).f1))).setCell ⟨gb117, 2, none⟩ (.int .i64 ((rd_T58 l0 x13_1).f2))).setCell ⟨gb117, 3, none⟩ (.int .i64 ((rd_T58 l0 x13_1).f3.f0))).setCell ⟨gb117, 4, none⟩ (.int .i64 ((rd_T58 l0 x13_1).f3.f1))).setCell ⟨gb117, 5, none⟩ (.int .i32 ((rd_T58 l0 x13_1).f4)))) := ⟨by repeat (first | (with_reducible first | exact HB.out | apply below_alloc | apply pw_below_drewN | apply below_drew1 | refine below_set ?_ GE117.out) | exact HB.out)⟩
                          (try clear HO_7)
                          (try clear BK117)
                          (try clear HB)
                          generalize ((((((w18.setCell ⟨gb117, 0, none⟩ (.int .i64 ((rd_T58 l0 x13_1).f0))).setCell ⟨gb117, 1, none⟩ (.int .i64 ((rd_T58 l0 x13_1).f1))).setCell ⟨gb117, 2, none⟩ (.int .i64 ((rd_T58 l0 x13_1).f2))).setCell ⟨gb117, 3, none⟩ (.int .i64 ((rd_T58 l0 x13_1).f3.f0))).setCell ⟨gb117, 4, none⟩ (.int .i64 ((rd_T58 l0 x13_1).f3.f1))).setCell ⟨gb117, 5, none⟩ (.int .i32 ((rd_T58 l0 x13_1).f4))) = w20 at n0_ n1_ n2_ ⊢
                          have HO_7 := n0_
                          have BK117 := n1_
                          have HB := n2_
                          clear n0_ n1_ n2_
                          have n0_ := Aside0.mk (Kd.R_drew HO_7.out)
                          have n1_ := Aside0.mk (blk_drew BK117.out)
                          have n2_ := Aside0.mk (below_drew1 HB.out)
                          clear HO_7
                          clear BK117
                          clear HB
                          have HO_7 := n0_
                          have BK117 := n1_
                          have HB := n2_
                          clear n0_ n1_ n2_
                          obtain ⟨Ao22, co22, eo22⟩ := Kd.R_slice HO_7.out
                          (first | subst eo22 | (injection eo22 with f1_ f2_ f3_; have f4_ := f1_.symm; have f5_ := f3_.symm; clear f1_ f2_ f3_; subst f4_; subst f5_))
                          have p118 : 0 ≤ (((rd_T58 l0 x13_1).f1) : Int) := of_decide_eq_true (by first | (with_reducible assumption) | assumption)
                          have q118 : ((rd_T58 l0 x13_1).f1) < (x7_1.length : Int) := of_decide_eq_true (by first | (with_reducible assumption) | assumption)
                          obtain ⟨ad118, e118, hx118_0⟩ := Kd.at_int (Kd.R_reads' HO_7.out).2.2 ((rd_T58 l0 x13_1).f1) p118 q118
                          cases e118
                          replace p118 := eq_true p118
                          replace q118 := eq_true q118
                          have p14 : 0 ≤ (((rd_T58 l0 x13_1).f1) : Int) := of_decide_eq_true (by first | (with_reducible assumption) | assumption)
                          have q14 : (((rd_T58 l0 x13_1).f1) : Int) < ((x7_1.length : Int) : Int) := of_decide_eq_true (by first | (with_reducible assumption) | assumption)
                          obtain ⟨go14, co14, eo14, gb14, gl14, cl14, HG14⟩ := Kd.R_form HO_7.out (by omega)
                          (first | cases eo14 | (injection eo14 with ea_ en_ ec_; (first | subst ea_ | (injection ea_ with ea_; subst ea_)); subst ec_; clear en_))
                          have GB14 := Aside0.mk gb14
                          have GG14 := Aside0.mk HG14
                          clear gb14 gl14 HG14
                          (first | simp only [add_plain] at hx118_0 | skip)
                          obtain ⟨hx14_0, hf14_0⟩ := Kd.R_celln 0 HO_7.out (((rd_T58 l0 x13_1).f1) : Int) p14 q14
                          replace p14 := eq_true p14
                          replace q14 := eq_true q14
                          have HP23 := Kd.R_putn HO_7.out (((rd_T58 l0 x13_1).f1) : Int) (wrap64 ((rd x7_1 ((rd_T58 l0 x13_1).f1)) - ((rd_T58 l0 x13_1).f3.f1)))
                          rw [← Ny119.out] at HP23
                          have HQ23 := Aside0.mk HP23
                          clear HP23
                          refine start_ (n := 11) (S := fun w' => w'.cell? ⟨gb117, 0, none⟩ = some (.int .i64 ((rd_T58 l0 x13_1).f0)) ∧ w'.cell? ⟨gb117, 1, none⟩ = some (.int .i64 ((rd_T58 l0 x13_1).f1)) ∧ w'.cell? ⟨gb117, 2, none⟩ = some (.int .i64 ((rd_T58 l0 x13_1).f2)) ∧ w'.cell? ⟨gb117, 3, none⟩ = some (.int .i64 ((rd_T58 l0 x13_1).f3.f0)) ∧ w'.cell? ⟨gb117, 4, none⟩ = some (.int .i64 ((rd_T58 l0 x13_1).f3.f1)) ∧ w'.cell? ⟨gb117, 5, none⟩ = some (.int .i32 ((rd_T58 l0 x13_1).f4)) ∧ w'.cell? ⟨go14, (((rd_T58 l0 x13_1).f1)).toNat, none⟩ = some (.int .i64 (rd x7_1 ((rd_T58 l0 x13_1).f1)))) (ds := [10]) #[false, false, false, false, false, false, false, false, false, false, false] (by kernel_rfl) rfl rfl ⟨(blk_cell BK117.out 0).trans rfl, (blk_cell BK117.out 1).trans rfl, (blk_cell BK117.out 2).trans rfl, (blk_cell BK117.out 3).trans rfl, (blk_cell BK117.out 4).trans rfl, (blk_cell BK117.out 5).trans rfl, hx118_0⟩ (fun hHeld => ?_); refine with_tabW netting_netOf.tab6 netting_netOf.bits6 (fun HT_ HW_ => ?_)
                          generalize w20.drew = w21 at HO_7 BK117 HB GG14 HQ23 hf14_0 hx118_0 hx14_0 hHeld ⊢
                          refine pure_ (i := 0) (N := some 28) (v := ?_) (a' := ?_) #[true, false, false, false, false, false, false, false, false, false, false] rfl rfl (any_of HT_.out (by kernel_rfl)) (fun _ _ _ h => h) (Or.inl ⟨by rfl, ?_⟩) ?_ ?_
                          rotate_left
                          · intro w'
                            go_simp
                            with_reducible rfl
                          rotate_left
                          · simp only [Act.put, List.setIfInBounds_toArray, List.set_cons_zero, List.set_cons_succ, i64_w, i32_w]
                            rfl
                          refine pure_ (i := 1) (N := some 29) (v := ?_) (a' := ?_) #[true, true, false, false, false, false, false, false, false, false, false] rfl rfl (any_of HT_.out (by kernel_rfl)) (fun _ _ _ h => h) (Or.inl ⟨by rfl, ?_⟩) ?_ ?_
                          rotate_left
                          · intro w'
                            go_simp
                            with_reducible rfl
                          rotate_left
                          · simp only [Act.put, List.setIfInBounds_toArray, List.set_cons_zero, List.set_cons_succ, i64_w, i32_w]
                            rfl
                          refine pure_ (i := 5) (N := some 33) (v := ?_) (a' := ?_) #[true, true, false, false, false, true, false, false, false, false, false] rfl rfl (any_of HT_.out (by kernel_rfl)) (fun _ _ _ h => h) (Or.inl ⟨by rfl, ?_⟩) ?_ ?_
                          rotate_left
                          · intro w'
                            go_simp
                            with_reducible rfl
                          rotate_left
                          · simp only [Act.put, List.setIfInBounds_toArray, List.set_cons_zero, List.set_cons_succ, i64_w, i32_w]
                            rfl
                          refine pure_ (i := 6) (N := some 34) (v := ?_) (a' := ?_) #[true, true, false, false, false, true, true, false, false, false, false] rfl rfl (any_of HT_.out (by kernel_rfl)) (fun _ _ _ h => h) (Or.inl ⟨by rfl, ?_⟩) ?_ ?_
                          rotate_left
                          · intro w'
                            go_simp
                            with_reducible rfl
                          rotate_left
                          · simp only [Act.put, List.setIfInBounds_toArray, List.set_cons_zero, List.set_cons_succ, i64_w, i32_w]
                            rfl
                          refine take_ (i := 2) (N := some 30) (v := ?_) (a' := ?_) #[true, true, true, false, false, true, true, false, false, false, false] rfl rfl (take_ofW HT_.out HW_.out (by kernel_rfl)) (fun _ _ _ h => h) (Or.inl ⟨by rfl, ?_⟩) hHeld ?_ ?_
                          rotate_left
                          · rintro w' ⟨s0, s1, s2, s3, s4, s5, s6⟩
                            go_simp
                            with_reducible rfl
                          rotate_left
                          · simp only [Act.put, List.setIfInBounds_toArray, List.set_cons_zero, List.set_cons_succ, i64_w, i32_w]
                            rfl
                          refine pure_ (i := 3) (N := some 31) (v := ?_) (a' := ?_) #[true, true, true, true, false, true, true, false, false, false, false] rfl rfl (any_of HT_.out (by kernel_rfl)) (fun _ _ _ h => h) (Or.inl ⟨by rfl, ?_⟩) ?_ ?_
                          rotate_left
                          · intro w'
                            go_simp
                            with_reducible rfl
                          rotate_left
                          · simp only [Act.put, List.setIfInBounds_toArray, List.set_cons_zero, List.set_cons_succ, i64_w, i32_w]
                            rfl
                          refine take_ (i := 4) (N := some 32) (v := ?_) (a' := ?_) #[true, true, true, true, true, true, true, false, false, false, false] rfl rfl (take_ofW HT_.out HW_.out (by kernel_rfl)) (fun _ _ _ h => h) (Or.inl ⟨by rfl, ?_⟩) hHeld ?_ ?_
                          rotate_left
                          · rintro w' ⟨s0, s1, s2, s3, s4, s5, s6⟩
                            go_simp
                            with_reducible rfl
                          rotate_left
                          · simp only [Act.put, List.setIfInBounds_toArray, List.set_cons_zero, List.set_cons_succ, i64_w, i32_w]
                            rfl
                          refine take_ (i := 7) (N := some 35) (v := ?_) (a' := ?_) #[true, true, true, true, true, true, true, true, false, false, false] rfl rfl (take_ofW HT_.out HW_.out (by kernel_rfl)) (fun _ _ _ h => h) (Or.inl ⟨by rfl, ?_⟩) hHeld ?_ ?_
                          rotate_left
                          · rintro w' ⟨s0, s1, s2, s3, s4, s5, s6⟩
                            go_simp
                            with_reducible rfl
                          rotate_left
                          · simp only [Act.put, List.setIfInBounds_toArray, List.set_cons_zero, List.set_cons_succ, i64_w, i32_w]
                            rfl
                          refine pure_ (i := 8) (N := some 36) (v := ?_) (a' := ?_) #[true, true, true, true, true, true, true, true, true, false, false] rfl rfl (any_of HT_.out (by kernel_rfl)) (fun _ _ _ h => h) (Or.inl ⟨by rfl, ?_⟩) ?_ ?_
                          rotate_left
                          · intro w'
                            go_simp
                            with_reducible rfl
                          rotate_left
                          · simp only [Act.put, List.setIfInBounds_toArray, List.set_cons_zero, List.set_cons_succ, i64_w, i32_w]
                            rfl
                          refine pure_ (i := 9) (N := some 37) (v := ?_) (a' := ?_) #[true, true, true, true, true, true, true, true, true, true, false] rfl rfl (any_of HT_.out (by kernel_rfl)) (fun _ _ _ h => h) (Or.inl ⟨by rfl, ?_⟩) ?_ ?_
                          rotate_left
                          · intro w'
                            go_simp
                            with_reducible rfl
                          rotate_left
                          · simp only [Act.put, List.setIfInBounds_toArray, List.set_cons_zero, List.set_cons_succ, i64_w, i32_w]
                            rfl
                          refine last_ (i := 10) (N := none) #[true, true, true, true, true, true, true, true, true, true, true] rfl rfl (one_of HT_.out (by kernel_rfl)) (by decide) (fun K hK => ?_)
                          refine skip_ (w1 := ?_) (by rfl) rfl ?_ ?_
                          rotate_left
                          · go_simp
                            rfl
                          refine hK.out _ _ ?_
                          clear hK K
                          refine done_ (done_of HT_.out (by kernel_rfl)) ?_
                          try go_wp2
                          have n0_ : Aside0 (Kd.R (Kd.int .i64) 2 (w21.setCell ⟨go14, (((rd_T58 l0 x13_1).f1) : Int).toNat, none⟩ (.int .i64 (wrap64 ((rd x7_1 ((rd_T58 l0 x13_1).f1)) - ((rd_T58 l0 x13_1).f3.f1))))) w.heap.size (fun _ => True) (.slice (some ⟨go14, 0, none⟩) x7_1.length co22) y119) := ⟨by (with_reducible repeat (first | apply Kd.R_alloc | apply Kd.R_drewN | apply Kd.R_drew)); exact HQ23.out⟩
                          have n1_ : Aside0 ((w21.setCell ⟨go14, (((rd_T58 l0 x13_1).f1) : Int).toNat, none⟩ (.int .i64 (wrap64 ((rd x7_1 ((rd_T58 l0 x13_1).f1)) - ((rd_T58 l0 x13_1).f3.f1))))).heap[gb117]? = some (.cells #[.int .i64 ((rd_T58 l0 x13_1).f0), .int .i64 ((rd_T58 l0 x13_1).f1), .int .i64 ((rd_T58 l0 x13_1).f2), .int .i64 ((rd_T58 l0 x13_1).f3.f0), .int .i64 ((rd_T58 l0 x13_1).f3.f1), .int .i32 ((rd_T58 l0 x13_1).f4)] 58 (0, 0))) := ⟨by (with_reducible repeat (first | refine blk_drewN ?_ _ | refine blk_drew ?_ | refine blk_alloc ?_ _)); refine blk_far ?_ (by have h_ := Kd.R_ne HO_7.out BK117.out (by decide); intro e_; exact h_ (by rw [e_]; rfl)) _; (with_reducible repeat (first | refine blk_drewN ?_ _ | refine blk_drew ?_ | refine blk_alloc ?_ _)); exact BK117.out⟩
                          have n2_ : Aside0 (Below w.heap.size w (w21.setCell ⟨go14, (((rd_T58 l0 x13_1).f1) : Int).toNat, none⟩ (.int .i64 (wrap64 ((rd x7_1 ((rd_T58 l0 x13_1).f1)) - ((rd_T58 l0 x13_1).f3.f1)))))) := ⟨by repeat (first | (with_reducible first | exact HB.out | apply below_alloc | apply pw_below_drewN | apply below_drew1 | refine below_set ?_ GB14.out | refine below_set ?_ GE117.out) | exact HB.out)⟩
                          (try clear HO_7)
                          (try clear BK117)
                          (try clear HB)
                          generalize (w21.setCell ⟨go14, (((rd_T58 l0 x13_1).f1) : Int).toNat, none⟩ (.int .i64 (wrap64 ((rd x7_1 ((rd_T58 l0 x13_1).f1)) - ((rd_T58 l0 x13_1).f3.f1))))) = w24 at n0_ n1_ n2_ ⊢
                          have HO_7 := n0_
                          have BK117 := n1_
                          have HB := n2_
                          clear n0_ n1_ n2_
                          have n0_ := Aside0.mk (Kd.R_drew HO_7.out)
                          have n1_ := Aside0.mk (blk_drew BK117.out)
                          have n2_ := Aside0.mk (below_drew1 HB.out)
                          clear HO_7
                          clear BK117
                          clear HB
                          have HO_7 := n0_
                          have BK117 := n1_
                          have HB := n2_
                          clear n0_ n1_ n2_
                          have p120 : 0 ≤ (((rd_T58 l0 x13_1).f2) : Int) := of_decide_eq_true (by first | (with_reducible assumption) | assumption)
                          have q120 : ((rd_T58 l0 x13_1).f2) < (y119.length : Int) := (by have h_ : (((rd_T58 l0 x13_1).f2) : Int) < ((x7_1.length : Int) : Int) := of_decide_eq_true (by first | (with_reducible assumption) | assumption); first | (have e_ := (Kd.R_reads' HO_7.out).1; omega) | simpa only [Ny119.out, List.length_set] using h_)
                          have ql120 : ((((rd_T58 l0 x13_1).f2) : Int) < ((x7_1.length : Int) : Int)) = True := eq_true (of_decide_eq_true (by first | (with_reducible assumption) | assumption))
                          obtain ⟨ad120, e120, hx120_0⟩ := Kd.at_int (Kd.R_reads' HO_7.out).2.2 ((rd_T58 l0 x13_1).f2) p120 q120
                          obtain rfl : (⟨go14, 0, none⟩ : Addr) = ad120 := (by injection e120)
                          (first | simp only [add_plain] at hx120_0 | simp only [add_at] at hx120_0 | simp only [Addr.add, Nat.zero_add] at hx120_0 | skip)
                          replace p120 := eq_true p120
                          replace q120 := eq_true q120
                          have p17 : 0 ≤ (((rd_T58 l0 x13_1).f2) : Int) := of_decide_eq_true (by first | (with_reducible assumption) | assumption)
                          have q17 : (((rd_T58 l0 x13_1).f2) : Int) < ((x7_1.length : Int) : Int) := of_decide_eq_true (by first | (with_reducible assumption) | assumption)
                          obtain ⟨hx17_0, hf17_0⟩ := Kd.R_celln 0 HO_7.out (((rd_T58 l0 x13_1).f2) : Int) p17 q17
                          replace p17 := eq_true p17
                          replace q17 := eq_true q17
                          have HP26 := Kd.R_putn HO_7.out (((rd_T58 l0 x13_1).f2) : Int) (wrap64 ((rd y119 ((rd_T58 l0 x13_1).f2)) + ((rd_T58 l0 x13_1).f3.f1)))
                          rw [← Ny121.out] at HP26
                          have HQ26 := Aside0.mk HP26
                          clear HP26
                          refine start_ (n := 11) (S := fun w' => w'.cell? ⟨gb117, 0, none⟩ = some (.int .i64 ((rd_T58 l0 x13_1).f0)) ∧ w'.cell? ⟨gb117, 1, none⟩ = some (.int .i64 ((rd_T58 l0 x13_1).f1)) ∧ w'.cell? ⟨gb117, 2, none⟩ = some (.int .i64 ((rd_T58 l0 x13_1).f2)) ∧ w'.cell? ⟨gb117, 3, none⟩ = some (.int .i64 ((rd_T58 l0 x13_1).f3.f0)) ∧ w'.cell? ⟨gb117, 4, none⟩ = some (.int .i64 ((rd_T58 l0 x13_1).f3.f1)) ∧ w'.cell? ⟨gb117, 5, none⟩ = some (.int .i32 ((rd_T58 l0 x13_1).f4)) ∧ w'.cell? ⟨go14, (((rd_T58 l0 x13_1).f2)).toNat, none⟩ = some (.int .i64 (rd y119 ((rd_T58 l0 x13_1).f2)))) (ds := [10]) #[false, false, false, false, false, false, false, false, false, false, false] (by kernel_rfl) rfl rfl ⟨(blk_cell BK117.out 0).trans rfl, (blk_cell BK117.out 1).trans rfl, (blk_cell BK117.out 2).trans rfl, (blk_cell BK117.out 3).trans rfl, (blk_cell BK117.out 4).trans rfl, (blk_cell BK117.out 5).trans rfl, hx120_0⟩ (fun hHeld => ?_); refine with_tabW netting_netOf.tab7 netting_netOf.bits7 (fun HT_ HW_ => ?_)
                          generalize w24.drew = w25 at HO_7 BK117 HB HQ23 HQ26 hf17_0 hx120_0 hx17_0 hHeld ⊢
                          (try (obtain ⟨cl14, HG14⟩ := typed_again HO_7.out; have GG14 := Aside0.mk HG14; clear HG14))
                          refine pure_ (i := 0) (N := some 38) (v := ?_) (a' := ?_) #[true, false, false, false, false, false, false, false, false, false, false] rfl rfl (any_of HT_.out (by kernel_rfl)) (fun _ _ _ h => h) (Or.inl ⟨by rfl, ?_⟩) ?_ ?_
                          rotate_left
                          · intro w'
                            go_simp
                            with_reducible rfl
                          rotate_left
                          · simp only [Act.put, List.setIfInBounds_toArray, List.set_cons_zero, List.set_cons_succ, i64_w, i32_w]
                            rfl
                          refine pure_ (i := 1) (N := some 39) (v := ?_) (a' := ?_) #[true, true, false, false, false, false, false, false, false, false, false] rfl rfl (any_of HT_.out (by kernel_rfl)) (fun _ _ _ h => h) (Or.inl ⟨by rfl, ?_⟩) ?_ ?_
                          rotate_left
                          · intro w'
                            go_simp
                            with_reducible rfl
                          rotate_left
                          · simp only [Act.put, List.setIfInBounds_toArray, List.set_cons_zero, List.set_cons_succ, i64_w, i32_w]
                            rfl
                          refine pure_ (i := 5) (N := some 43) (v := ?_) (a' := ?_) #[true, true, false, false, false, true, false, false, false, false, false] rfl rfl (any_of HT_.out (by kernel_rfl)) (fun _ _ _ h => h) (Or.inl ⟨by rfl, ?_⟩) ?_ ?_
                          rotate_left
                          · intro w'
                            go_simp
                            with_reducible rfl
                          rotate_left
                          · simp only [Act.put, List.setIfInBounds_toArray, List.set_cons_zero, List.set_cons_succ, i64_w, i32_w]
                            rfl
                          refine pure_ (i := 6) (N := some 44) (v := ?_) (a' := ?_) #[true, true, false, false, false, true, true, false, false, false, false] rfl rfl (any_of HT_.out (by kernel_rfl)) (fun _ _ _ h => h) (Or.inl ⟨by rfl, ?_⟩) ?_ ?_
                          rotate_left
                          · intro w'
                            go_simp
                            with_reducible rfl
                          rotate_left
                          · simp only [Act.put, List.setIfInBounds_toArray, List.set_cons_zero, List.set_cons_succ, i64_w, i32_w]
                            rfl
                          refine take_ (i := 2) (N := some 40) (v := ?_) (a' := ?_) #[true, true, true, false, false, true, true, false, false, false, false] rfl rfl (take_ofW HT_.out HW_.out (by kernel_rfl)) (fun _ _ _ h => h) (Or.inl ⟨by rfl, ?_⟩) hHeld ?_ ?_
                          rotate_left
                          · rintro w' ⟨s0, s1, s2, s3, s4, s5, s6⟩
                            go_simp
                            with_reducible rfl
                          rotate_left
                          · simp only [Act.put, List.setIfInBounds_toArray, List.set_cons_zero, List.set_cons_succ, i64_w, i32_w]
                            rfl
                          refine pure_ (i := 3) (N := some 41) (v := ?_) (a' := ?_) #[true, true, true, true, false, true, true, false, false, false, false] rfl rfl (any_of HT_.out (by kernel_rfl)) (fun _ _ _ h => h) (Or.inl ⟨by rfl, ?_⟩) ?_ ?_
                          rotate_left
                          · intro w'
                            go_simp
                            with_reducible rfl
                          rotate_left
                          · simp only [Act.put, List.setIfInBounds_toArray, List.set_cons_zero, List.set_cons_succ, i64_w, i32_w]
                            rfl
                          refine take_ (i := 4) (N := some 42) (v := ?_) (a' := ?_) #[true, true, true, true, true, true, true, false, false, false, false] rfl rfl (take_ofW HT_.out HW_.out (by kernel_rfl)) (fun _ _ _ h => h) (Or.inl ⟨by rfl, ?_⟩) hHeld ?_ ?_
                          rotate_left
                          · rintro w' ⟨s0, s1, s2, s3, s4, s5, s6⟩
                            go_simp
                            with_reducible rfl
                          rotate_left
                          · simp only [Act.put, List.setIfInBounds_toArray, List.set_cons_zero, List.set_cons_succ, i64_w, i32_w]
                            rfl
                          refine take_ (i := 7) (N := some 45) (v := ?_) (a' := ?_) #[true, true, true, true, true, true, true, true, false, false, false] rfl rfl (take_ofW HT_.out HW_.out (by kernel_rfl)) (fun _ _ _ h => h) (Or.inl ⟨by rfl, ?_⟩) hHeld ?_ ?_
                          rotate_left
                          · rintro w' ⟨s0, s1, s2, s3, s4, s5, s6⟩
                            go_simp
                            with_reducible rfl
                          rotate_left
                          · simp only [Act.put, List.setIfInBounds_toArray, List.set_cons_zero, List.set_cons_succ, i64_w, i32_w]
                            rfl
                          refine pure_ (i := 8) (N := some 46) (v := ?_) (a' := ?_) #[true, true, true, true, true, true, true, true, true, false, false] rfl rfl (any_of HT_.out (by kernel_rfl)) (fun _ _ _ h => h) (Or.inl ⟨by rfl, ?_⟩) ?_ ?_
                          rotate_left
                          · intro w'
                            go_simp
                            with_reducible rfl
                          rotate_left
                          · simp only [Act.put, List.setIfInBounds_toArray, List.set_cons_zero, List.set_cons_succ, i64_w, i32_w]
                            rfl
                          refine pure_ (i := 9) (N := some 47) (v := ?_) (a' := ?_) #[true, true, true, true, true, true, true, true, true, true, false] rfl rfl (any_of HT_.out (by kernel_rfl)) (fun _ _ _ h => h) (Or.inl ⟨by rfl, ?_⟩) ?_ ?_
                          rotate_left
                          · intro w'
                            go_simp
                            with_reducible rfl
                          rotate_left
                          · simp only [Act.put, List.setIfInBounds_toArray, List.set_cons_zero, List.set_cons_succ, i64_w, i32_w]
                            rfl
                          refine last_ (i := 10) (N := none) #[true, true, true, true, true, true, true, true, true, true, true] rfl rfl (one_of HT_.out (by kernel_rfl)) (by decide) (fun K hK => ?_)
                          refine skip_ (w1 := ?_) (by rfl) rfl ?_ ?_
                          rotate_left
                          · go_simp
                            rfl
                          refine hK.out _ _ ?_
                          clear hK K
                          refine done_ (done_of HT_.out (by kernel_rfl)) ?_
                          try go_wp2
                          go_roundg k1
                          case measure => have := HK1.out; omega
                          case rel => exact ⟨(y121), (wrap64 (x13_1 + 1)), (by first | rfl | (simp; done) | (simp [*]; done)), H', ⟨by have := HK1.out; omega⟩, ⟨by (with_reducible repeat (first | apply Kd.R_alloc | apply Kd.R_drewN | apply Kd.R_drew)); exact HQ26.out⟩, ⟨by repeat (first | (with_reducible first | exact HB.out | apply below_alloc | apply pw_below_drewN | apply below_drew1 | refine below_set ?_ GB14.out | refine below_set ?_ GE117.out) | exact HB.out)⟩⟩
                        · rw [if_neg c16] at H
                          exact absurd H (by simp)
                      · rw [if_neg c15] at H
                        exact absurd H (by simp)
                    · rw [if_neg c13] at H
                      exact absurd H (by simp)
                  · rw [if_neg c12] at H
                    exact absurd H (by simp)
                · rw [if_neg c11] at H
                  have c11b0 : (((rd_T58 l0 x13_1).f4) == a2) = false := beq_eq_false_iff_ne.mpr c11
                  have c11b1 : (((rd_T58 l0 x13_1).f4) != a2) = true := bne_iff_ne.mpr c11
                  have H' := Aside0.mk H
                  clear H
                  have p116 : 0 ≤ (x13_1 : Int) := of_decide_eq_true (by first | (with_reducible assumption) | assumption)
                  have q116 : x13_1 < (l0.length : Int) := of_decide_eq_true (by first | (with_reducible assumption) | assumption)
                  obtain ⟨ad116, e116, hx116_0, hx116_1, hx116_2, hx116_3, hx116_4, hx116_5⟩ := at_T58 HR0.out x13_1 p116 q116
                  cases e116
                  replace hx116_0 := (HB.out.cell (World.block_lt_of_cell? w _ hx116_0)).trans hx116_0
                  replace hx116_1 := (HB.out.cell (World.block_lt_of_cell? w _ hx116_1)).trans hx116_1
                  replace hx116_2 := (HB.out.cell (World.block_lt_of_cell? w _ hx116_2)).trans hx116_2
                  replace hx116_3 := (HB.out.cell (World.block_lt_of_cell? w _ hx116_3)).trans hx116_3
                  replace hx116_4 := (HB.out.cell (World.block_lt_of_cell? w _ hx116_4)).trans hx116_4
                  replace hx116_5 := (HB.out.cell (World.block_lt_of_cell? w _ hx116_5)).trans hx116_5
                  replace p116 := eq_true p116
                  replace q116 := eq_true q116
                  go_wp2_with (first | ((with_reducible refine gate_dst (N := 9) rfl ?_); refine box_event ?hg (N := 9) ?hd (cs := #[.int .i64 0, .int .i64 0, .int .i64 0, .int .i64 0, .int .i64 0, .int .i32 0]) (t := 58) ?hr ?_; (case hd => rfl); (case hg => rfl); (case hr => first | (go_simp; done) | (go_simp; rfl)); intro gb117 hg w27 hbox hb; have n0_ := Aside0.mk (Kd.R_below (by (with_reducible repeat (first | apply Kd.R_alloc | apply Kd.R_drewN | apply Kd.R_drew)); exact HO_7.out) hb); have n1_ := Aside0.mk (below_step (by repeat (first | (with_reducible first | exact HB.out | apply below_alloc | apply pw_below_drewN | apply below_drew1) | exact HB.out)) hb); have n2_ := Aside0.mk (hbox); have n3_ := Aside0.mk ((by rw [hg]; exact (below_size (by repeat (first | (with_reducible first | exact HB.out | apply below_alloc | apply pw_below_drewN | apply below_drew1) | exact HB.out))) : w.heap.size ≤ gb117)); have n4_ := Aside0.mk ((by rw [hg]; exact (below_size (by repeat (first | (with_reducible first | exact HB.out | apply below_alloc | apply pw_below_drewN | apply below_drew1) | exact HB.out))) : w.heap.size ≤ gb117)); clear HO_7; clear HB; have HO_7 := n0_; have HB := n1_; have BK117 := n2_; have GW117 := n3_; have GE117 := n4_; clear n0_ n1_ n2_ n3_ n4_; clear hb hbox hg; have hcz28_0 : w27.cell? ⟨gb117, 0, none⟩ = some (.int .i64 0) := (blk_cell BK117.out 0).trans rfl; have hcz28_1 : w27.cell? ⟨gb117, 1, none⟩ = some (.int .i64 0) := (blk_cell BK117.out 1).trans rfl; have hcz28_2 : w27.cell? ⟨gb117, 2, none⟩ = some (.int .i64 0) := (blk_cell BK117.out 2).trans rfl; have hcz28_3 : w27.cell? ⟨gb117, 3, none⟩ = some (.int .i64 0) := (blk_cell BK117.out 3).trans rfl; have hcz28_4 : w27.cell? ⟨gb117, 4, none⟩ = some (.int .i64 0) := (blk_cell BK117.out 4).trans rfl; have hcz28_5 : w27.cell? ⟨gb117, 5, none⟩ = some (.int .i32 0) := (blk_cell BK117.out 5).trans rfl; have hfz28_0 := blk_frozen BK117.out 0; have hfz28_1 := blk_frozen BK117.out 1; have hfz28_2 := blk_frozen BK117.out 2; have hfz28_3 := blk_frozen BK117.out 3; have hfz28_4 := blk_frozen BK117.out 4; have hfz28_5 := blk_frozen BK117.out 5))
                  go_roundg k1
                  case measure => have := HK1.out; omega
                  case rel => exact ⟨(x7_1), (wrap64 (x13_1 + 1)), (by first | rfl | (simp; done) | (simp [*]; done)), H', ⟨by have := HK1.out; omega⟩, ⟨by (with_reducible repeat (first | apply Kd.R_alloc | apply Kd.R_drewN | apply Kd.R_drew)); exact Kd.R_mono (Kd.R_far (p := ⟨gb117, 5, none⟩) (Kd.R_far (p := ⟨gb117, 4, none⟩) (Kd.R_far (p := ⟨gb117, 3, none⟩) (Kd.R_far (p := ⟨gb117, 2, none⟩) (Kd.R_far (p := ⟨gb117, 1, none⟩) (Kd.R_far (p := ⟨gb117, 0, none⟩) (Kd.R_types HO_7.out BK117.out (by decide)) (fun _ hk => hk.2) (.int .i64 ((rd_T58 l0 x13_1).f0))) (fun _ hk => hk.2) (.int .i64 ((rd_T58 l0 x13_1).f1))) (fun _ hk => hk.2) (.int .i64 ((rd_T58 l0 x13_1).f2))) (fun _ hk => hk.2) (.int .i64 ((rd_T58 l0 x13_1).f3.f0))) (fun _ hk => hk.2) (.int .i64 ((rd_T58 l0 x13_1).f3.f1))) (fun _ hk => hk.2) (.int .i32 ((rd_T58 l0 x13_1).f4))) (fun _ hk => trivial)⟩, ⟨by repeat (first | (with_reducible first | exact HB.out | apply below_alloc | apply pw_below_drewN | apply below_drew1 | refine below_set ?_ GE117.out) | exact HB.out)⟩⟩
              · rw [if_neg c10] at H
                have c10b0 : (((rd_T58 l0 x13_1).f3.f0) == a1) = false := beq_eq_false_iff_ne.mpr c10
                have c10b1 : (((rd_T58 l0 x13_1).f3.f0) != a1) = true := bne_iff_ne.mpr c10
                have H' := Aside0.mk H
                clear H
                have p116 : 0 ≤ (x13_1 : Int) := of_decide_eq_true (by first | (with_reducible assumption) | assumption)
                have q116 : x13_1 < (l0.length : Int) := of_decide_eq_true (by first | (with_reducible assumption) | assumption)
                obtain ⟨ad116, e116, hx116_0, hx116_1, hx116_2, hx116_3, hx116_4, hx116_5⟩ := at_T58 HR0.out x13_1 p116 q116
                cases e116
                replace hx116_0 := (HB.out.cell (World.block_lt_of_cell? w _ hx116_0)).trans hx116_0
                replace hx116_1 := (HB.out.cell (World.block_lt_of_cell? w _ hx116_1)).trans hx116_1
                replace hx116_2 := (HB.out.cell (World.block_lt_of_cell? w _ hx116_2)).trans hx116_2
                replace hx116_3 := (HB.out.cell (World.block_lt_of_cell? w _ hx116_3)).trans hx116_3
                replace hx116_4 := (HB.out.cell (World.block_lt_of_cell? w _ hx116_4)).trans hx116_4
                replace hx116_5 := (HB.out.cell (World.block_lt_of_cell? w _ hx116_5)).trans hx116_5
                replace p116 := eq_true p116
                replace q116 := eq_true q116
                go_wp2_with (first | ((with_reducible refine gate_dst (N := 9) rfl ?_); refine box_event ?hg (N := 9) ?hd (cs := #[.int .i64 0, .int .i64 0, .int .i64 0, .int .i64 0, .int .i64 0, .int .i32 0]) (t := 58) ?hr ?_; (case hd => rfl); (case hg => rfl); (case hr => first | (go_simp; done) | (go_simp; rfl)); intro gb117 hg w29 hbox hb; have n0_ := Aside0.mk (Kd.R_below (by (with_reducible repeat (first | apply Kd.R_alloc | apply Kd.R_drewN | apply Kd.R_drew)); exact HO_7.out) hb); have n1_ := Aside0.mk (below_step (by repeat (first | (with_reducible first | exact HB.out | apply below_alloc | apply pw_below_drewN | apply below_drew1) | exact HB.out)) hb); have n2_ := Aside0.mk (hbox); have n3_ := Aside0.mk ((by rw [hg]; exact (below_size (by repeat (first | (with_reducible first | exact HB.out | apply below_alloc | apply pw_below_drewN | apply below_drew1) | exact HB.out))) : w.heap.size ≤ gb117)); have n4_ := Aside0.mk ((by rw [hg]; exact (below_size (by repeat (first | (with_reducible first | exact HB.out | apply below_alloc | apply pw_below_drewN | apply below_drew1) | exact HB.out))) : w.heap.size ≤ gb117)); clear HO_7; clear HB; have HO_7 := n0_; have HB := n1_; have BK117 := n2_; have GW117 := n3_; have GE117 := n4_; clear n0_ n1_ n2_ n3_ n4_; clear hb hbox hg; have hcz30_0 : w29.cell? ⟨gb117, 0, none⟩ = some (.int .i64 0) := (blk_cell BK117.out 0).trans rfl; have hcz30_1 : w29.cell? ⟨gb117, 1, none⟩ = some (.int .i64 0) := (blk_cell BK117.out 1).trans rfl; have hcz30_2 : w29.cell? ⟨gb117, 2, none⟩ = some (.int .i64 0) := (blk_cell BK117.out 2).trans rfl; have hcz30_3 : w29.cell? ⟨gb117, 3, none⟩ = some (.int .i64 0) := (blk_cell BK117.out 3).trans rfl; have hcz30_4 : w29.cell? ⟨gb117, 4, none⟩ = some (.int .i64 0) := (blk_cell BK117.out 4).trans rfl; have hcz30_5 : w29.cell? ⟨gb117, 5, none⟩ = some (.int .i32 0) := (blk_cell BK117.out 5).trans rfl; have hfz30_0 := blk_frozen BK117.out 0; have hfz30_1 := blk_frozen BK117.out 1; have hfz30_2 := blk_frozen BK117.out 2; have hfz30_3 := blk_frozen BK117.out 3; have hfz30_4 := blk_frozen BK117.out 4; have hfz30_5 := blk_frozen BK117.out 5))
                go_roundg k1
                case measure => have := HK1.out; omega
                case rel => exact ⟨(x7_1), (wrap64 (x13_1 + 1)), (by first | rfl | (simp; done) | (simp [*]; done)), H', ⟨by have := HK1.out; omega⟩, ⟨by (with_reducible repeat (first | apply Kd.R_alloc | apply Kd.R_drewN | apply Kd.R_drew)); exact Kd.R_mono (Kd.R_far (p := ⟨gb117, 5, none⟩) (Kd.R_far (p := ⟨gb117, 4, none⟩) (Kd.R_far (p := ⟨gb117, 3, none⟩) (Kd.R_far (p := ⟨gb117, 2, none⟩) (Kd.R_far (p := ⟨gb117, 1, none⟩) (Kd.R_far (p := ⟨gb117, 0, none⟩) (Kd.R_types HO_7.out BK117.out (by decide)) (fun _ hk => hk.2) (.int .i64 ((rd_T58 l0 x13_1).f0))) (fun _ hk => hk.2) (.int .i64 ((rd_T58 l0 x13_1).f1))) (fun _ hk => hk.2) (.int .i64 ((rd_T58 l0 x13_1).f2))) (fun _ hk => hk.2) (.int .i64 ((rd_T58 l0 x13_1).f3.f0))) (fun _ hk => hk.2) (.int .i64 ((rd_T58 l0 x13_1).f3.f1))) (fun _ hk => hk.2) (.int .i32 ((rd_T58 l0 x13_1).f4))) (fun _ hk => trivial)⟩, ⟨by repeat (first | (with_reducible first | exact HB.out | apply below_alloc | apply pw_below_drewN | apply below_drew1 | refine below_set ?_ GE117.out) | exact HB.out)⟩⟩
            · rw [if_neg c9] at H
              exact absurd H (by simp)
          · rw [if_neg c8] at H
            exact absurd H (by simp)
        · rw [if_neg c7] at H
          have c7b0 : decide (x13_1 < (l0.length : Int)) = false := decide_eq_false c7
          clear c7
          obtain rfl := Option.some.inj H
          go_wp2
          go_ret
          exact ⟨_, by first | rfl | (simp [errW_none, errW_some] <;> rfl) | (simp [*, errW_none, errW_some] <;> rfl), by (with_reducible repeat (first | apply Kd.R_alloc | apply Kd.R_drewN | apply Kd.R_drew)); exact HO_7.out, by repeat (first | (with_reducible first | exact HB.out | apply below_alloc | apply pw_below_drewN | apply below_drew1) | exact HB.out)⟩
  · rw [if_neg c4] at H
    exact absurd H (by simp)

/-! ### netting_Net: function 9 -/
def netting_Net.f (k : Nat) (l0 : List (S58)) (a1 : Int) (a2 : Int) : Option (List Int × Int) := (netting_may.f k l0 a1 a2).bind fun t122 => (if t122 = 0 then ((netting_netOf.f k l0 a1 a2).bind fun t123 => (some (t123, 0))) else (some (([] : List Int), t122)))
theorem netting_Net.mono : ∀ a0 a1 a2 k, LeO (netting_Net.f k a0 a1 a2) (netting_Net.f (k + 1) a0 a1 a2) := by
  intro a0 a1 a2 k
  unfold netting_Net.f
  repeat' first
      | (with_reducible exact netting_may.mono _ _ _ _)
      | (with_reducible exact netting_netOf.mono _ _ _ _)
      | (with_reducible exact LeO.refl _)
      | (with_reducible exact LeO.none _)
      | (with_reducible refine LeO.ite ?_ ?_)
      | (with_reducible refine LeO.bind ?_ (fun _ => ?_))
      | exact netting_may.mono _ _ _ _
      | exact netting_netOf.mono _ _ _ _
      | exact LeO.none _
      | refine LeO.ite ?_ ?_
      | refine LeO.bind ?_ (fun _ => ?_)
set_option maxHeartbeats 8000000 in
set_option maxRecDepth 100000 in
theorem netting_Net.calls (k : Nat) (A0 : Option Addr) (c0 : Nat) (l0 : List (S58)) (a1 : Int) (a2 : Int) (r1 : List Int) (r2 : Int) (w : World) (hr0 : Kd.C k58 w A0 l0.length l0) (hc0 : l0.length ≤ c0) (h : netting_Net.f k l0 a1 a2 = some (r1, r2)) :
    Calls Try.prog 9 #[.slice A0 l0.length c0, .int .i64 a1, .int .i32 a2] w fun e w' => ∃ v0_ : Value, e = .returned (.tuple #[v0_, .int .i64 r2]) ∧ Kd.R (Kd.int .i64) 2 w' w.heap.size (fun _ => True) v0_ r1 ∧ Below w.heap.size w w' := by
  have HR0 := Aside0.mk hr0
  have HC0 := Aside0.mk hc0
  clear hr0 hc0
  have HB := Aside0.mk (Below.refl w.heap.size w)
  have H : ((netting_may.f k l0 a1 a2).bind fun t122 => (if t122 = 0 then ((netting_netOf.f k l0 a1 a2).bind fun t123 => (some (t123, 0))) else (some (([] : List Int), t122)))) = some (r1, r2) := h
  clear h
  replace H := Option.bind_eq_some_iff.mp H
  obtain ⟨t122, A40, H⟩ := H
  replace H : (if t122 = 0 then ((netting_netOf.f k l0 a1 a2).bind fun t123 => (some (t123, 0))) else (some (([] : List Int), t122))) = some (r1, r2) := H
  have A4 := Aside0.mk A40
  clear A40
  by_cases c5 : t122 = 0
  · rw [if_pos c5] at H
    have c5b0 : (t122 == 0) = true := beq_iff_eq.mpr c5
    have c5b1 : (t122 != 0) = false := bne_eq_false_iff_eq.mpr c5
    clear c5
    replace H := Option.bind_eq_some_iff.mp H
    obtain ⟨t123, A60, H⟩ := H
    replace H : (some (t123, 0)) = some (r1, r2) := H
    have A6 := Aside0.mk A60
    clear A60
    simp only [Option.some.injEq, Prod.mk.injEq] at H
    obtain ⟨rfl, rfl⟩ := H
    go_enter Try.func9, Try.ntmps9
    go_wp2_with (first | ((with_reducible refine gate_callee (f := 25) rfl ?_); refine goesL_ (some 12) rfl rfl Try.func25 (by kernel_rfl) rfl #[.slice A0 l0.length c0, .int .i64 a1, .int .i32 a2] rfl (by (try simp only [List.map_toArray, List.map_cons, List.map_nil]); first | done | rfl | (simp only [List.length_drop, List.length_take]; rfl)) ?_; (with_reducible refine (netting_may.calls k _ _ l0 a1 a2 t122 _ ?side1 ?side2 A4.out).mono ?_); (case side1 => repeat (first | exact HR0.out | (with_reducible refine Kd.C_alloc ?_ _) | (with_reducible refine Kd.C_drewN ?_ _) | (with_reducible refine Kd.C_drew ?_))); (case side2 => exact HC0.out); rintro e w7 ⟨rfl, hb⟩; refine ⟨_, rfl, ?_⟩; have n0_ := Aside0.mk (below_step (by repeat (first | (with_reducible first | exact HB.out | apply below_alloc | apply pw_below_drewN | apply below_drew1) | exact HB.out)) hb); clear HB; have HB := n0_; clear n0_; (try clear hb); (try clear hb2); (try clear hk); (try clear hi)) | ((with_reducible refine gate_callee (f := 26) rfl ?_); refine goesL_ (some 19) rfl rfl Try.func26 (by kernel_rfl) rfl #[.slice A0 l0.length c0, .int .i64 a1, .int .i32 a2] rfl (by (try simp only [List.map_toArray, List.map_cons, List.map_nil]); first | done | rfl | (simp only [List.length_drop, List.length_take]; rfl)) ?_; (with_reducible refine (netting_netOf.calls k _ _ l0 a1 a2 t123 _ ?side1 ?side2 A6.out).mono ?_); (case side1 => repeat (first | exact (Kd.C_below HR0.out HB.out) | (with_reducible refine Kd.C_alloc ?_ _) | (with_reducible refine Kd.C_drewN ?_ _) | (with_reducible refine Kd.C_drew ?_))); (case side2 => exact HC0.out); rintro e w8 ⟨v124, rfl, ho0, hb⟩; refine ⟨_, rfl, ?_⟩; have n0_ := Aside0.mk (Kd.R_lower ho0 (below_size (by repeat (first | (with_reducible first | exact HB.out | apply below_alloc | apply pw_below_drewN | apply below_drew1) | exact HB.out)))); have n1_ := Aside0.mk (below_step (by repeat (first | (with_reducible first | exact HB.out | apply below_alloc | apply pw_below_drewN | apply below_drew1) | exact HB.out)) hb); clear HB; have HO125 := n0_; have HB := n1_; clear n0_ n1_; (try clear hb); (try clear hb2); (try clear hk); (try clear hi); (try clear ho0)))
    go_ret2
    exact ⟨_, by first | rfl | (simp [errW_none, errW_some] <;> rfl) | (simp [*, errW_none, errW_some] <;> rfl), by (with_reducible repeat (first | apply Kd.R_alloc | apply Kd.R_drewN | apply Kd.R_drew)); exact HO125.out, by repeat (first | (with_reducible first | exact HB.out | apply below_alloc | apply pw_below_drewN | apply below_drew1) | exact HB.out)⟩
  · rw [if_neg c5] at H
    have c5b0 : (t122 == 0) = false := beq_eq_false_iff_ne.mpr c5
    have c5b1 : (t122 != 0) = true := bne_iff_ne.mpr c5
    simp only [Option.some.injEq, Prod.mk.injEq] at H
    obtain ⟨rfl, rfl⟩ := H
    go_enter Try.func9, Try.ntmps9
    go_wp2_with (first | ((with_reducible refine gate_callee (f := 25) rfl ?_); refine goesL_ (some 12) rfl rfl Try.func25 (by kernel_rfl) rfl #[.slice A0 l0.length c0, .int .i64 a1, .int .i32 a2] rfl (by (try simp only [List.map_toArray, List.map_cons, List.map_nil]); first | done | rfl | (simp only [List.length_drop, List.length_take]; rfl)) ?_; (with_reducible refine (netting_may.calls k _ _ l0 a1 a2 t122 _ ?side1 ?side2 A4.out).mono ?_); (case side1 => repeat (first | exact HR0.out | (with_reducible refine Kd.C_alloc ?_ _) | (with_reducible refine Kd.C_drewN ?_ _) | (with_reducible refine Kd.C_drew ?_))); (case side2 => exact HC0.out); rintro e w9 ⟨rfl, hb⟩; refine ⟨_, rfl, ?_⟩; have n0_ := Aside0.mk (below_step (by repeat (first | (with_reducible first | exact HB.out | apply below_alloc | apply pw_below_drewN | apply below_drew1) | exact HB.out)) hb); clear HB; have HB := n0_; clear n0_; (try clear hb); (try clear hb2); (try clear hk); (try clear hi)))
    go_ret2
    exact ⟨_, by first | rfl | (simp [errW_none, errW_some] <;> rfl) | (simp [*, errW_none, errW_some] <;> rfl), by first | exact Kd.R_nil _ _ _ _ _ | exact Kd.N_nil _ _ _ _ _ | exact Kd.V_nil _ _ _ _ _ | exact Kd.Q_nil _ _ _ _ _ | exact Kd.S_nil _ _ _ _ _, by repeat (first | (with_reducible first | exact HB.out | apply below_alloc | apply pw_below_drewN | apply below_drew1) | exact HB.out)⟩

/-! ### slices_Clone_int64_int64: function 41 -/
def slices_Clone_int64_int64.f (l0 : List Int) : Option (List Int) := if l0.length < 17592186044416 then some l0 else none
set_option maxHeartbeats 8000000 in
set_option maxRecDepth 100000 in
theorem slices_Clone_int64_int64.calls (A0 : Option Addr) (c0 : Nat) (l0 : List Int) (r : List Int) (w : World) (hr0 : Kd.C (Kd.int .i64) w A0 l0.length l0) (hc0 : l0.length ≤ c0) (h : slices_Clone_int64_int64.f l0 = some r) :
    Calls Try.prog 41 #[.slice A0 l0.length c0] w fun e w' => ∃ v0_ : Value, e = .returned (v0_) ∧ Kd.R (Kd.int .i64) 2 w' w.heap.size (fun _ => True) v0_ r ∧ Below w.heap.size w w' := by
  have hl : l0.length < 17592186044416 := by
    unfold slices_Clone_int64_int64.f at h
    by_cases hh : l0.length < 17592186044416
    · exact hh
    · rw [if_neg hh] at h
      cases h
  obtain rfl : l0 = r := by
    unfold slices_Clone_int64_int64.f at h
    rw [if_pos hl] at h
    exact Option.some.inj h
  clear h
  have HL := Aside0.mk hl
  have HR0 := Aside0.mk hr0
  clear hr0 hl
  have q22 := fun (w : World) (a : Option Addr) (n c n' c' : Nat) => Lib.run_eql_slice_nil (P := Try.prog) w 25 2 a n c n' c' Try.underlying25
  cases A0 with
  | none =>
    have hn : l0.length = 0 := by
      rcases Nat.eq_zero_or_pos l0.length with h0 | h0
      · exact h0
      · obtain ⟨ad, he, _⟩ := HR0.out.2.2 h0
        cases he
    obtain rfl : l0 = [] := List.eq_nil_of_length_eq_zero hn
    clear HR0
    go_enter Try.func41, Try.ntmps41
    go_wp2
    go_ret
    exact ⟨_, rfl, Kd.R_nil _ _ _ _ _, Below.refl _ _⟩
  | some a0 =>
    have HB := Aside0.mk (Below.refl w.heap.size w)
    go_enter Try.func41, Try.ntmps41
    go_wp2_with (first | ((with_reducible refine gate_dst (N := 5) rfl ?_); refine Kd.R_lit (Kd.int .i64) _ 2 ?hg (N := 5) ?hd (xs := ([] : List Int)) (inner := []) (ok := fun _ => True) (okp := fun _ => True) ?hr ?hp (fun _ hk => hk) trivial (Below.refl _ _) (Nat.le_refl _) (by simp) ?_; (case hd => rfl); (case hg => rfl); (case hr => first | (go_simp; done) | (go_simp; rfl)); (case hp => exact (Reps.none _ _)); intro v154 w3 ho4 hb hg_ hnew_; clear hg_ hnew_; have HO := Aside0.mk ho4; have HB1 := Aside0.mk hb; clear hb ho4) | ((with_reducible refine gate_builtin (b := .append) (xs := #[.tmp 5, .tmp 6]) rfl ?_); at_builtin; refine Kd.R_append_rows (Kd.int .i64) (w0 := w) w.heap.size rfl (.tmp 5) (.tmp 6) 25 2 (.int .i64 0) 8 rfl Try.underlying25 info2 rfl (by decide) (by omega) v154 [] l0 _ _ _ (fun _ => True) (fun _ => False) rfl rfl ?aO ?aR (fun _ _ h => h) (fun _ h => h.elim) ?aF ?aB ?aS ?aL ?_; (case aR => exact Kd.C_below HR0.out HB1.out); (case aB => exact HB1.out); (case aF => exact (fun _ _ => trivial)); (case aO => exact HO.out); (case aS => exact below_size HB1.out); (case aL => have := HL.out; simp only [List.length_nil]; omega); intro v157 w5 ho hb hg hat; have HO2 := Aside0.mk ho; have HB2 := Aside0.mk hb; clear ho hb hg hat))
    go_ret
    exact ⟨_, rfl, by have := HO2.out; rwa [List.nil_append] at this, HB2.out⟩

end Go.Proofs.Ytcmaohhcbiienaa.S
