-- Printed by pp.py (wip/pp), a program of this session's, over the kit's print; Lean checks it.
import Derived.Test.YtcidmdjhmhkmgaaDoorS0
import Derived.Test.YtcidmdjhmhkmgaaDoorS1
import Derived.Test.YtcidmdjhmhkmgaaDoorS2
import Derived.Test.YtcidmdjhmhkmgaaDoorS3
import Derived.Test.YtcidmdjhmhkmgaaDoorS4
import Derived.Test.YtcidmdjhmhkmgaaDoorS12
namespace Go.Proofs.YtcidmdjhmhkmgaaDoor.S
open Go.RowKit Go.Proofs.YtcidmdjhmhkmgaaDoorW.PrintWords Go.Proofs.YtcidmdjhmhkmgaaDoorW.PrintLast Go.Proofs.YtcidmdjhmhkmgaaDoorW.PrintMore
attribute [local go_sem] max2_int min2_int max_two min_two max_three min_three max_four min_four   -- for this text's walks alone
set_option linter.unusedVariables false
set_option linter.unusedSimpArgs false


/-! ### cashbooklaw01_NatBack: function 12 -/
mutual
def cashbooklaw01_NatBack.j0 : Nat → List Int → ByteArray → Int → Bool → Option (Bool)
  | 0, _, _, _, _ => none
  | k + 1, x0, x1, x2, x22 => if x22 = true then ((cashbooklaw01_alive.f k).bind fun t868 => (some t868)) else ((nat_Text.f k x0).bind fun t869 => ((nat_Right.f x0).bind fun t870 => (if (t870 != (t869.toList != ([] : List UInt8))) = true then (some false) else (if t869.toList = ([] : List UInt8) then (cashbooklaw01_NatBack.j1 k x0 x1 x2 t869) else ((nat_Parse.f k t869).bind fun bt871 => ((cashbookref01_Same.f k bt871.1 x0).bind fun t875 => (if bt871.2 = 0 then (if t875 = true then (if (t869.size : Int) > 1 then (if 0 < (t869.size : Int) then (if (bt t869 0) = 48 then (some false) else (cashbooklaw01_NatBack.j1 k x0 x1 x2 t869)) else (none)) else (cashbooklaw01_NatBack.j1 k x0 x1 x2 t869)) else (some false)) else (some false))))))))
def cashbooklaw01_NatBack.j1 : Nat → List Int → ByteArray → Int → ByteArray → Option (Bool)
  | 0, _, _, _, _ => none
  | k + 1, x0, x1, x2, x7 => (nat_Parse.f k x1).bind fun bt876 => ((nat_Of.f k x2).bind fun t880 => ((nat_Fits.f t880).bind fun bt883 => (if bt883.2 = true then (if bt883.1 = x2 then (cashbooklaw01_NatBack.j2 k x0 x1 x2 x7 bt876.1 bt883.1 bt883.2 (bt876.2 != 0)) else (cashbooklaw01_NatBack.j2 k x0 x1 x2 x7 bt876.1 bt883.1 bt883.2 true)) else (cashbooklaw01_NatBack.j2 k x0 x1 x2 x7 bt876.1 bt883.1 bt883.2 true))))
def cashbooklaw01_NatBack.j2 : Nat → List Int → ByteArray → Int → ByteArray → List Int → Int → Bool → Bool → Option (Bool)
  | 0, _, _, _, _, _, _, _, _ => none
  | k + 1, x0, x1, x2, x7, x11, x13, x14, x78 => if x78 = true then ((cashbooklaw01_alive.f k).bind fun t885 => (if t885 = true then (if x14 = true then (if x13 = x2 then (some ((x11.length : Int) == 0)) else (some false)) else (some false)) else (some false))) else ((cashbooklaw01_alive.f k).bind fun t886 => (if t886 = true then ((nat_Text.f k x11).bind fun t887 => (if t887.toList = x1.toList then (if (x1.size : Int) = (x7.size : Int) then (if x1.toList = x7.toList then (some true) else ((nat_Compare.f k x11 x0).bind fun t888 => (some ((t888 == (-1)) == (Op.bytesLess x1.toList x7.toList))))) else (some true)) else (some false))) else (some false)))
end
def cashbooklaw01_NatBack.f (k : Nat) (l0 : List Int) (a1 : ByteArray) (a2 : Int) : Option (Bool) := (cashbooklaw01_short.f l0 10).bind fun t867 => (if t867 = true then (cashbooklaw01_NatBack.j0 k l0 a1 a2 (decide ((a1.size : Int) > 3000))) else (cashbooklaw01_NatBack.j0 k l0 a1 a2 true))
theorem cashbooklaw01_NatBack.mono_l : ∀ k, (∀ y0 y1 y2 y3, LeO (cashbooklaw01_NatBack.j0 k y0 y1 y2 y3) (cashbooklaw01_NatBack.j0 (k + 1) y0 y1 y2 y3)) ∧ (∀ y0 y1 y2 y3, LeO (cashbooklaw01_NatBack.j1 k y0 y1 y2 y3) (cashbooklaw01_NatBack.j1 (k + 1) y0 y1 y2 y3)) ∧ (∀ y0 y1 y2 y3 y4 y5 y6 y7, LeO (cashbooklaw01_NatBack.j2 k y0 y1 y2 y3 y4 y5 y6 y7) (cashbooklaw01_NatBack.j2 (k + 1) y0 y1 y2 y3 y4 y5 y6 y7))
  | 0 => ⟨fun _ _ _ _ r h => by simp [cashbooklaw01_NatBack.j0] at h, fun _ _ _ _ r h => by simp [cashbooklaw01_NatBack.j1] at h, fun _ _ _ _ _ _ _ _ r h => by simp [cashbooklaw01_NatBack.j2] at h⟩
  | k + 1 => by
    obtain ⟨ih0, ih1, ih2⟩ := cashbooklaw01_NatBack.mono_l k
    refine ⟨?_, ?_, ?_⟩
    · intro y0 y1 y2 y3
      unfold cashbooklaw01_NatBack.j0
      repeat' first
      | (with_reducible exact ih0 _ _ _ _)
      | (with_reducible exact ih1 _ _ _ _)
      | (with_reducible exact ih2 _ _ _ _ _ _ _ _)
      | (with_reducible exact cashbooklaw01_alive.mono _)
      | (with_reducible exact cashbookref01_Same.mono _ _ _)
      | (with_reducible exact nat_Compare.mono _ _ _)
      | (with_reducible exact nat_Of.mono _ _)
      | (with_reducible exact nat_Parse.mono _ _)
      | (with_reducible exact nat_Text.mono _ _)
      | (with_reducible exact LeO.refl _)
      | (with_reducible exact LeO.none _)
      | (with_reducible refine LeO.ite ?_ ?_)
      | (with_reducible refine LeO.bind ?_ (fun _ => ?_))
      | exact ih0 _ _ _ _
      | exact ih1 _ _ _ _
      | exact ih2 _ _ _ _ _ _ _ _
      | exact cashbooklaw01_alive.mono _
      | exact cashbookref01_Same.mono _ _ _
      | exact nat_Compare.mono _ _ _
      | exact nat_Of.mono _ _
      | exact nat_Parse.mono _ _
      | exact nat_Text.mono _ _
      | exact LeO.none _
      | refine LeO.ite ?_ ?_
      | refine LeO.bind ?_ (fun _ => ?_)
    · intro y0 y1 y2 y3
      unfold cashbooklaw01_NatBack.j1
      repeat' first
      | (with_reducible exact ih0 _ _ _ _)
      | (with_reducible exact ih1 _ _ _ _)
      | (with_reducible exact ih2 _ _ _ _ _ _ _ _)
      | (with_reducible exact cashbooklaw01_alive.mono _)
      | (with_reducible exact cashbookref01_Same.mono _ _ _)
      | (with_reducible exact nat_Compare.mono _ _ _)
      | (with_reducible exact nat_Of.mono _ _)
      | (with_reducible exact nat_Parse.mono _ _)
      | (with_reducible exact nat_Text.mono _ _)
      | (with_reducible exact LeO.refl _)
      | (with_reducible exact LeO.none _)
      | (with_reducible refine LeO.ite ?_ ?_)
      | (with_reducible refine LeO.bind ?_ (fun _ => ?_))
      | exact ih0 _ _ _ _
      | exact ih1 _ _ _ _
      | exact ih2 _ _ _ _ _ _ _ _
      | exact cashbooklaw01_alive.mono _
      | exact cashbookref01_Same.mono _ _ _
      | exact nat_Compare.mono _ _ _
      | exact nat_Of.mono _ _
      | exact nat_Parse.mono _ _
      | exact nat_Text.mono _ _
      | exact LeO.none _
      | refine LeO.ite ?_ ?_
      | refine LeO.bind ?_ (fun _ => ?_)
    · intro y0 y1 y2 y3 y4 y5 y6 y7
      unfold cashbooklaw01_NatBack.j2
      repeat' first
      | (with_reducible exact ih0 _ _ _ _)
      | (with_reducible exact ih1 _ _ _ _)
      | (with_reducible exact ih2 _ _ _ _ _ _ _ _)
      | (with_reducible exact cashbooklaw01_alive.mono _)
      | (with_reducible exact cashbookref01_Same.mono _ _ _)
      | (with_reducible exact nat_Compare.mono _ _ _)
      | (with_reducible exact nat_Of.mono _ _)
      | (with_reducible exact nat_Parse.mono _ _)
      | (with_reducible exact nat_Text.mono _ _)
      | (with_reducible exact LeO.refl _)
      | (with_reducible exact LeO.none _)
      | (with_reducible refine LeO.ite ?_ ?_)
      | (with_reducible refine LeO.bind ?_ (fun _ => ?_))
      | exact ih0 _ _ _ _
      | exact ih1 _ _ _ _
      | exact ih2 _ _ _ _ _ _ _ _
      | exact cashbooklaw01_alive.mono _
      | exact cashbookref01_Same.mono _ _ _
      | exact nat_Compare.mono _ _ _
      | exact nat_Of.mono _ _
      | exact nat_Parse.mono _ _
      | exact nat_Text.mono _ _
      | exact LeO.none _
      | refine LeO.ite ?_ ?_
      | refine LeO.bind ?_ (fun _ => ?_)
theorem cashbooklaw01_NatBack.mono : ∀ a0 a1 a2 k, LeO (cashbooklaw01_NatBack.f k a0 a1 a2) (cashbooklaw01_NatBack.f (k + 1) a0 a1 a2) := by
  intro a0 a1 a2 k
  obtain ⟨ih0, ih1, ih2⟩ := cashbooklaw01_NatBack.mono_l k
  unfold cashbooklaw01_NatBack.f
  repeat' first
      | (with_reducible exact ih0 _ _ _ _)
      | (with_reducible exact ih1 _ _ _ _)
      | (with_reducible exact ih2 _ _ _ _ _ _ _ _)
      | (with_reducible exact cashbooklaw01_alive.mono _)
      | (with_reducible exact cashbookref01_Same.mono _ _ _)
      | (with_reducible exact nat_Compare.mono _ _ _)
      | (with_reducible exact nat_Of.mono _ _)
      | (with_reducible exact nat_Parse.mono _ _)
      | (with_reducible exact nat_Text.mono _ _)
      | (with_reducible exact LeO.refl _)
      | (with_reducible exact LeO.none _)
      | (with_reducible refine LeO.ite ?_ ?_)
      | (with_reducible refine LeO.bind ?_ (fun _ => ?_))
      | exact ih0 _ _ _ _
      | exact ih1 _ _ _ _
      | exact ih2 _ _ _ _ _ _ _ _
      | exact cashbooklaw01_alive.mono _
      | exact cashbookref01_Same.mono _ _ _
      | exact nat_Compare.mono _ _ _
      | exact nat_Of.mono _ _
      | exact nat_Parse.mono _ _
      | exact nat_Text.mono _ _
      | exact LeO.none _
      | refine LeO.ite ?_ ?_
      | refine LeO.bind ?_ (fun _ => ?_)
set_option maxHeartbeats 8000000 in
set_option maxRecDepth 100000 in
theorem cashbooklaw01_NatBack.calls (k : Nat) (A0 : Option Addr) (c0 : Nat) (l0 : List Int) (a1 : ByteArray) (a2 : Int) (r : Bool) (w : World) (hT : TabOK w) (hr0 : Kd.C (Kd.int .u32) w A0 l0.length l0) (hc0 : l0.length ≤ c0) (h : cashbooklaw01_NatBack.f k l0 a1 a2 = some r) :
    Calls Tryd.prog 12 #[.slice A0 l0.length c0, .string a1, .int .u64 a2] w fun e w' => e = .returned (.bool r) ∧ Below w.heap.size w w' := by
  have HT := Aside0.mk hT
  clear hT
  have HR0 := Aside0.mk hr0
  have HC0 := Aside0.mk hc0
  clear hr0 hc0
  have HB := Aside0.mk (Below.refl w.heap.size w)
  have H : ((cashbooklaw01_short.f l0 10).bind fun t867 => (if t867 = true then (cashbooklaw01_NatBack.j0 k l0 a1 a2 (decide ((a1.size : Int) > 3000))) else (cashbooklaw01_NatBack.j0 k l0 a1 a2 true))) = some r := h
  clear h
  have HC4 := Aside0.mk H
  clear H
  go_enter Tryd.func12, Tryd.ntmps12
  go_upto_region 1 with (fail)
  go_cut [22] (fun v22 wc => ∃ (kq : Nat) (x22_3 : Bool), v22 = .bool x22_3 ∧ Aside0 (cashbooklaw01_NatBack.j0 kq l0 a1 a2 x22_3 = some r) ∧ Aside0 (kq ≤ k) ∧ Aside0 (Below w.heap.size w wc))
  case first =>
    have H := HC4.out
    clear HC4
    replace H := Option.bind_eq_some_iff.mp H
    obtain ⟨t867, A50, H⟩ := H
    replace H : (if t867 = true then (cashbooklaw01_NatBack.j0 k l0 a1 a2 (decide ((a1.size : Int) > 3000))) else (cashbooklaw01_NatBack.j0 k l0 a1 a2 true)) = some r := H
    have A5 := Aside0.mk A50
    clear A50
    by_cases c6 : t867 = true
    · subst c6
      have H1 : (cashbooklaw01_NatBack.j0 k l0 a1 a2 (decide ((a1.size : Int) > 3000))) = some r := by rw [if_pos rfl] at H; exact H
      clear H
      have H := H1
      clear H1
      have H' := Aside0.mk H
      clear H
      go_wp2_with (first | ((with_reducible refine gate_callee (f := 13) rfl ?_); refine goesL_ (some 16) rfl rfl Tryd.func13 (by kernel_rfl) rfl #[.slice A0 l0.length c0, .int .i64 10] rfl (by (try simp only [List.map_toArray, List.map_cons, List.map_nil]); first | done | rfl | (simp only [List.length_drop, List.length_take]; rfl)) ?_; (with_reducible refine (cashbooklaw01_short.calls _ _ l0 10 true _ ?side1 ?side2 A5.out).mono ?_); (case side1 => repeat (first | exact (Kd.C_below HR0.out HB.out) | (with_reducible refine Kd.C_alloc ?_ _) | (with_reducible refine Kd.C_drewN ?_ _) | (with_reducible refine Kd.C_drew ?_))); (case side2 => exact HC0.out); rintro e w' ⟨rfl, ⟨nd, rfl⟩⟩; refine ⟨_, rfl, ?_⟩))
      go_meet
      case rel => exact ⟨_, (decide ((a1.size : Int) > 3000)), (by first | rfl | (simp; done) | (simp [*]; done)), H', ⟨by first | omega | exact Nat.le_refl _⟩, ⟨by repeat (first | (with_reducible first | exact HB.out | apply below_alloc | apply pw_below_drewN | apply below_drew1) | exact HB.out)⟩⟩
    · replace c6 := Bool.eq_false_iff.mpr c6
      subst c6
      have H1 : (cashbooklaw01_NatBack.j0 k l0 a1 a2 true) = some r := by rw [if_neg (show ¬ (false = true) by decide)] at H; exact H
      clear H
      have H := H1
      clear H1
      have H' := Aside0.mk H
      clear H
      go_wp2_with (first | ((with_reducible refine gate_callee (f := 13) rfl ?_); refine goesL_ (some 16) rfl rfl Tryd.func13 (by kernel_rfl) rfl #[.slice A0 l0.length c0, .int .i64 10] rfl (by (try simp only [List.map_toArray, List.map_cons, List.map_nil]); first | done | rfl | (simp only [List.length_drop, List.length_take]; rfl)) ?_; (with_reducible refine (cashbooklaw01_short.calls _ _ l0 10 false _ ?side1 ?side2 A5.out).mono ?_); (case side1 => repeat (first | exact (Kd.C_below HR0.out HB.out) | (with_reducible refine Kd.C_alloc ?_ _) | (with_reducible refine Kd.C_drewN ?_ _) | (with_reducible refine Kd.C_drew ?_))); (case side2 => exact HC0.out); rintro e w' ⟨rfl, ⟨nd, rfl⟩⟩; refine ⟨_, rfl, ?_⟩))
      go_meet
      case rel => exact ⟨_, (true), (by first | rfl | (simp; done) | (simp [*]; done)), H', ⟨by first | omega | exact Nat.le_refl _⟩, ⟨by repeat (first | (with_reducible first | exact HB.out | apply below_alloc | apply pw_below_drewN | apply below_drew1) | exact HB.out)⟩⟩
  case rest =>
    clear HC4
    try clear c1
    try clear p2
    try clear c6
    obtain ⟨kq, x22_3, rfl, HA, HJ3, HB⟩ := hcut
    cases kq with
    | zero => exact absurd HA.out (by simp [cashbooklaw01_NatBack.j0])
    | succ kj3 =>
      have H := HA.out
      clear HA
      simp only [cashbooklaw01_NatBack.j0] at H
      by_cases c7 : x22_3 = true
      · subst c7
        have H1 : ((cashbooklaw01_alive.f kj3).bind fun t868 => (some t868)) = some r := by rw [if_pos rfl] at H; exact H
        clear H
        have H := H1
        clear H1
        replace H := Option.bind_eq_some_iff.mp H
        obtain ⟨t868, A80, H⟩ := H
        replace H : (some t868) = some r := H
        have A8 := Aside0.mk A80
        clear A80
        obtain rfl := Option.some.inj H
        go_wp2_with (first | ((with_reducible refine gate_callee (f := 14) rfl ?_); refine goesL_ (some 23) rfl rfl Tryd.func14 (by kernel_rfl) rfl #[] rfl (by (try simp only [List.map_toArray, List.map_cons, List.map_nil]); first | done | rfl | (simp only [List.length_drop, List.length_take]; rfl)) ?_; (with_reducible refine (cashbooklaw01_alive.calls kj3  t868 _ ?side1 A8.out).mono ?_); (case side1 => exact TabOK.below HT.out (by repeat (first | (with_reducible first | exact HB.out | apply below_alloc | apply pw_below_drewN | apply below_drew1) | exact HB.out))); rintro e w9 ⟨rfl, hb⟩; refine ⟨_, rfl, ?_⟩; have n0_ := Aside0.mk (below_step (by repeat (first | (with_reducible first | exact HB.out | apply below_alloc | apply pw_below_drewN | apply below_drew1) | exact HB.out)) hb); clear HB; have HB := n0_; clear n0_; (try clear hb); (try clear hb2); (try clear hk); (try clear hi)))
        go_ret
        exact ⟨by first | rfl | (simp [errW_none, errW_some] <;> rfl) | (simp [*, errW_none, errW_some] <;> rfl), by repeat (first | (with_reducible first | exact HB.out | apply below_alloc | apply pw_below_drewN | apply below_drew1) | exact HB.out)⟩
      · replace c7 := Bool.eq_false_iff.mpr c7
        subst c7
        have H1 : ((nat_Text.f kj3 l0).bind fun t869 => ((nat_Right.f l0).bind fun t870 => (if (t870 != (t869.toList != ([] : List UInt8))) = true then (some false) else (if t869.toList = ([] : List UInt8) then (cashbooklaw01_NatBack.j1 kj3 l0 a1 a2 t869) else ((nat_Parse.f kj3 t869).bind fun bt871 => ((cashbookref01_Same.f kj3 bt871.1 l0).bind fun t875 => (if bt871.2 = 0 then (if t875 = true then (if (t869.size : Int) > 1 then (if 0 < (t869.size : Int) then (if (bt t869 0) = 48 then (some false) else (cashbooklaw01_NatBack.j1 kj3 l0 a1 a2 t869)) else (none)) else (cashbooklaw01_NatBack.j1 kj3 l0 a1 a2 t869)) else (some false)) else (some false)))))))) = some r := by rw [if_neg (show ¬ (false = true) by decide)] at H; exact H
        clear H
        have H := H1
        clear H1
        replace H := Option.bind_eq_some_iff.mp H
        obtain ⟨t869, A100, H⟩ := H
        replace H : ((nat_Right.f l0).bind fun t870 => (if (t870 != (t869.toList != ([] : List UInt8))) = true then (some false) else (if t869.toList = ([] : List UInt8) then (cashbooklaw01_NatBack.j1 kj3 l0 a1 a2 t869) else ((nat_Parse.f kj3 t869).bind fun bt871 => ((cashbookref01_Same.f kj3 bt871.1 l0).bind fun t875 => (if bt871.2 = 0 then (if t875 = true then (if (t869.size : Int) > 1 then (if 0 < (t869.size : Int) then (if (bt t869 0) = 48 then (some false) else (cashbooklaw01_NatBack.j1 kj3 l0 a1 a2 t869)) else (none)) else (cashbooklaw01_NatBack.j1 kj3 l0 a1 a2 t869)) else (some false)) else (some false))))))) = some r := H
        have A10 := Aside0.mk A100
        clear A100
        replace H := Option.bind_eq_some_iff.mp H
        obtain ⟨t870, A110, H⟩ := H
        replace H : (if (t870 != (t869.toList != ([] : List UInt8))) = true then (some false) else (if t869.toList = ([] : List UInt8) then (cashbooklaw01_NatBack.j1 kj3 l0 a1 a2 t869) else ((nat_Parse.f kj3 t869).bind fun bt871 => ((cashbookref01_Same.f kj3 bt871.1 l0).bind fun t875 => (if bt871.2 = 0 then (if t875 = true then (if (t869.size : Int) > 1 then (if 0 < (t869.size : Int) then (if (bt t869 0) = 48 then (some false) else (cashbooklaw01_NatBack.j1 kj3 l0 a1 a2 t869)) else (none)) else (cashbooklaw01_NatBack.j1 kj3 l0 a1 a2 t869)) else (some false)) else (some false)))))) = some r := H
        have A11 := Aside0.mk A110
        clear A110
        by_cases c12 : (t870 != (t869.toList != ([] : List UInt8))) = true
        · rw [if_pos c12] at H
          have c12b0 : (t870 != (t869.toList != ([] : List UInt8))) = true := c12
          (try (have c12b9 : (t870 == !t869.toList.isEmpty) = false := by revert c12b0; cases t870 <;> cases t869.toList <;> simp))
          (try (have c12b1 : decide (t870 = (t869.toList != ([] : List UInt8))) = false := by simpa using c12))
          (try (have c12b2 : (t870 == (t869.toList != ([] : List UInt8))) = false := by simpa using c12))
          (try (have c12b3 : ¬ (t870 = (t869.toList != ([] : List UInt8))) := by simpa using c12))
          clear c12
          obtain rfl := Option.some.inj H
          go_wp2_with (first | ((with_reducible refine gate_callee (f := 28) rfl ?_); refine goesL_ (some 25) rfl rfl Tryd.func28 (by kernel_rfl) rfl #[.slice A0 l0.length c0] rfl (by (try simp only [List.map_toArray, List.map_cons, List.map_nil]); first | done | rfl | (simp only [List.length_drop, List.length_take]; rfl)) ?_; (with_reducible refine (nat_Text.calls kj3 (fun k_ => k_ < w.heap.size) _ _ l0 t869 _ ?side1 ?side2 A10.out).mono ?_); (case side1 => exact TabOK.below HT.out (by repeat (first | (with_reducible first | exact HB.out | apply below_alloc | apply pw_below_drewN | apply below_drew1) | exact HB.out))); (case side2 => exact Kd.V_mk HC0.out (Kd.F_below (Kd.C_F (Kd.heap_int .u32) HR0.out) (by repeat (first | (with_reducible first | exact HB.out | apply below_alloc | apply pw_below_drewN | apply below_drew1) | exact HB.out)))); rintro e w13 ⟨rfl, hb⟩; refine ⟨_, rfl, ?_⟩; have n0_ := Aside0.mk (below_step (by repeat (first | (with_reducible first | exact HB.out | apply below_alloc | apply pw_below_drewN | apply below_drew1) | exact HB.out)) hb); clear HB; have HB := n0_; clear n0_; (try clear hb); (try clear hb2); (try clear hk); (try clear hi)) | ((with_reducible refine gate_callee (f := 32) rfl ?_); refine goesL_ (some 27) rfl rfl Tryd.func32 (by kernel_rfl) rfl #[.slice A0 l0.length c0] rfl (by (try simp only [List.map_toArray, List.map_cons, List.map_nil]); first | done | rfl | (simp only [List.length_drop, List.length_take]; rfl)) ?_; (with_reducible refine (nat_Right.calls _ _ l0 t870 _ ?side1 ?side2 A11.out).mono ?_); (case side1 => repeat (first | exact (Kd.C_below HR0.out HB.out) | (with_reducible refine Kd.C_alloc ?_ _) | (with_reducible refine Kd.C_drewN ?_ _) | (with_reducible refine Kd.C_drew ?_))); (case side2 => exact HC0.out); rintro e w' ⟨rfl, ⟨nd, rfl⟩⟩; refine ⟨_, rfl, ?_⟩))
          go_ret
          exact ⟨by first | rfl | (simp [errW_none, errW_some] <;> rfl) | (simp [*, errW_none, errW_some] <;> rfl), by repeat (first | (with_reducible first | exact HB.out | apply below_alloc | apply pw_below_drewN | apply below_drew1) | exact HB.out)⟩
        · rw [if_neg c12] at H
          have c12b0 : (t870 != (t869.toList != ([] : List UInt8))) = false := by simpa using c12
          (try (have c12b9 : (t870 == !t869.toList.isEmpty) = true := by revert c12b0; cases t870 <;> cases t869.toList <;> simp))
          (try (have c12b1 : decide (t870 = (t869.toList != ([] : List UInt8))) = true := by simpa using c12))
          (try (have c12b2 : (t870 == (t869.toList != ([] : List UInt8))) = true := by simpa using c12))
          clear c12
          have HC14 := Aside0.mk H
          clear H
          go_upto_if 32 with (first | ((with_reducible refine gate_callee (f := 28) rfl ?_); refine goesL_ (some 25) rfl rfl Tryd.func28 (by kernel_rfl) rfl #[.slice A0 l0.length c0] rfl (by (try simp only [List.map_toArray, List.map_cons, List.map_nil]); first | done | rfl | (simp only [List.length_drop, List.length_take]; rfl)) ?_; (with_reducible refine (nat_Text.calls kj3 (fun k_ => k_ < w.heap.size) _ _ l0 t869 _ ?side1 ?side2 A10.out).mono ?_); (case side1 => exact TabOK.below HT.out (by repeat (first | (with_reducible first | exact HB.out | apply below_alloc | apply pw_below_drewN | apply below_drew1) | exact HB.out))); (case side2 => exact Kd.V_mk HC0.out (Kd.F_below (Kd.C_F (Kd.heap_int .u32) HR0.out) (by repeat (first | (with_reducible first | exact HB.out | apply below_alloc | apply pw_below_drewN | apply below_drew1) | exact HB.out)))); rintro e w15 ⟨rfl, hb⟩; refine ⟨_, rfl, ?_⟩; have n0_ := Aside0.mk (below_step (by repeat (first | (with_reducible first | exact HB.out | apply below_alloc | apply pw_below_drewN | apply below_drew1) | exact HB.out)) hb); clear HB; have HB := n0_; clear n0_; (try clear hb); (try clear hb2); (try clear hk); (try clear hi)) | ((with_reducible refine gate_callee (f := 32) rfl ?_); refine goesL_ (some 27) rfl rfl Tryd.func32 (by kernel_rfl) rfl #[.slice A0 l0.length c0] rfl (by (try simp only [List.map_toArray, List.map_cons, List.map_nil]); first | done | rfl | (simp only [List.length_drop, List.length_take]; rfl)) ?_; (with_reducible refine (nat_Right.calls _ _ l0 t870 _ ?side1 ?side2 A11.out).mono ?_); (case side1 => repeat (first | exact (Kd.C_below HR0.out HB.out) | (with_reducible refine Kd.C_alloc ?_ _) | (with_reducible refine Kd.C_drewN ?_ _) | (with_reducible refine Kd.C_drew ?_))); (case side2 => exact HC0.out); rintro e w' ⟨rfl, ⟨nd, rfl⟩⟩; refine ⟨_, rfl, ?_⟩))
          (try simp only [Act.put, List.setIfInBounds_toArray, List.set_cons_zero, List.set_cons_succ])
          go_cut [] (fun wc => ∃ (kq : Nat), Aside0 (cashbooklaw01_NatBack.j1 kq l0 a1 a2 t869 = some r) ∧ Aside0 (kq ≤ kj3) ∧ Aside0 (Below w.heap.size w wc))
          case first =>
            have H := HC14.out
            clear HC14
            by_cases c16 : t869.toList = ([] : List UInt8)
            · rw [if_pos c16] at H
              have c16b0 : (t869.toList == ([] : List UInt8)) = true := beq_iff_eq.mpr c16
              (try (have c16b8 : t869.toList.isEmpty = true := by revert c16b0; cases t869.toList <;> simp))
              (try (have c16b7 : (!t869.toList.isEmpty) = false := by rw [c16b8]; rfl))
              (try simp only [c16b8, Bool.not_false, Bool.not_true])
              have c16b1 : (t869.toList != ([] : List UInt8)) = false := bne_eq_false_iff_eq.mpr c16
              clear c16
              (first | rw [c16b0] | (simp only [i64_w, i32_w]; rw [c16b0]) | skip)
              have H' := Aside0.mk H
              clear H
              go_wp2
              go_meet
              case rel => exact ⟨_, H', ⟨by have := HJ3.out; first | omega | exact Nat.le_refl _⟩, ⟨by repeat (first | (with_reducible first | exact HB.out | apply below_alloc | apply pw_below_drewN | apply below_drew1) | exact HB.out)⟩⟩
            · rw [if_neg c16] at H
              have c16b0 : (t869.toList == ([] : List UInt8)) = false := beq_eq_false_iff_ne.mpr c16
              (try (have c16b8 : t869.toList.isEmpty = false := by revert c16b0; cases t869.toList <;> simp))
              (try (have c16b7 : (!t869.toList.isEmpty) = true := by rw [c16b8]; rfl))
              (try simp only [c16b8, Bool.not_false, Bool.not_true])
              have c16b1 : (t869.toList != ([] : List UInt8)) = true := bne_iff_ne.mpr c16
              (first | rw [c16b0] | (simp only [i64_w, i32_w]; rw [c16b0]) | skip)
              replace H := Option.bind_eq_some_iff.mp H
              obtain ⟨⟨t871, t874⟩, A170, H⟩ := H
              replace H : ((cashbookref01_Same.f kj3 t871 l0).bind fun t875 => (if t874 = 0 then (if t875 = true then (if (t869.size : Int) > 1 then (if 0 < (t869.size : Int) then (if (bt t869 0) = 48 then (some false) else (cashbooklaw01_NatBack.j1 kj3 l0 a1 a2 t869)) else (none)) else (cashbooklaw01_NatBack.j1 kj3 l0 a1 a2 t869)) else (some false)) else (some false))) = some r := H
              have A17 := Aside0.mk A170
              clear A170
              replace H := Option.bind_eq_some_iff.mp H
              obtain ⟨t875, A180, H⟩ := H
              replace H : (if t874 = 0 then (if t875 = true then (if (t869.size : Int) > 1 then (if 0 < (t869.size : Int) then (if (bt t869 0) = 48 then (some false) else (cashbooklaw01_NatBack.j1 kj3 l0 a1 a2 t869)) else (none)) else (cashbooklaw01_NatBack.j1 kj3 l0 a1 a2 t869)) else (some false)) else (some false)) = some r := H
              have A18 := Aside0.mk A180
              clear A180
              by_cases c19 : t874 = 0
              · rw [if_pos c19] at H
                have c19b0 : (t874 == 0) = true := beq_iff_eq.mpr c19
                have c19b1 : (t874 != 0) = false := bne_eq_false_iff_eq.mpr c19
                clear c19
                by_cases c20 : t875 = true
                · subst c20
                  have H1 : (if (t869.size : Int) > 1 then (if 0 < (t869.size : Int) then (if (bt t869 0) = 48 then (some false) else (cashbooklaw01_NatBack.j1 kj3 l0 a1 a2 t869)) else (none)) else (cashbooklaw01_NatBack.j1 kj3 l0 a1 a2 t869)) = some r := by rw [if_pos rfl] at H; exact H
                  clear H
                  have H := H1
                  clear H1
                  by_cases c21 : (t869.size : Int) > 1
                  · rw [if_pos c21] at H
                    have c21b0 : decide (1 < (t869.size : Int)) = true := decide_eq_true c21
                    have c21b1 : decide (1 < t869.size) = true := decide_eq_true (by omega)
                    clear c21
                    by_cases c22 : 0 < (t869.size : Int)
                    · rw [if_pos c22] at H
                      have c22b0 : decide (0 < (t869.size : Int)) = true := decide_eq_true c22
                      have c22b1 : decide (0 < t869.size) = true := decide_eq_true (by omega)
                      clear c22
                      by_cases c24 : (bt t869 0) = 48
                      · rw [if_pos c24] at H
                        have c24b0 : ((bt t869 0) == 48) = true := beq_iff_eq.mpr c24
                        have c24b1 : ((bt t869 0) != 48) = false := bne_eq_false_iff_eq.mpr c24
                        clear c24
                        obtain rfl := Option.some.inj H
                        go_wp2_with (first | ((with_reducible refine gate_callee (f := 26) rfl ?_); refine goesL_ (some 35) rfl rfl Tryd.func26 (by kernel_rfl) rfl #[.string t869] rfl (by (try simp only [List.map_toArray, List.map_cons, List.map_nil]); first | done | rfl | (simp only [List.length_drop, List.length_take]; rfl)) ?_; (with_reducible refine (nat_Parse.calls kj3 t869 t871 t874 _ A17.out).mono ?_); rintro e w25 ⟨v872, rfl, ho0, hb⟩; refine ⟨_, rfl, ?_⟩; have n0_ := Aside0.mk (Kd.V_lower (Kd.V_mono (ok' := fun k_ => True) ho0 (fun k_ hk_ => trivial)) (below_size (by repeat (first | (with_reducible first | exact HB.out | apply below_alloc | apply pw_below_drewN | apply below_drew1) | exact HB.out)))); have n1_ := Aside0.mk (below_step (by repeat (first | (with_reducible first | exact HB.out | apply below_alloc | apply pw_below_drewN | apply below_drew1) | exact HB.out)) hb); clear HB; have HO873 := n0_; have HB := n1_; clear n0_ n1_; (try clear hb); (try clear hb2); (try clear hk); (try clear hi); (try clear ho0); obtain ⟨Ao26, co26, eo26⟩ := Kd.V_slice HO873.out; subst eo26) | ((with_reducible refine gate_callee (f := 19) rfl ?_); refine goesL_ (some 40) rfl rfl Tryd.func19 (by kernel_rfl) rfl #[.slice Ao26 t871.length co26, .slice A0 l0.length c0] rfl (by (try simp only [List.map_toArray, List.map_cons, List.map_nil]); first | done | rfl | (simp only [List.length_drop, List.length_take]; rfl)) ?_; (with_reducible refine (cashbookref01_Same.calls kj3 _ _ t871 _ _ l0 true _ ?side1 ?side2 ?side3 ?side4 A18.out).mono ?_); (case side1 => repeat (first | exact (Kd.V_reads' HO873.out).2.2 | (with_reducible refine Kd.C_alloc ?_ _) | (with_reducible refine Kd.C_drewN ?_ _) | (with_reducible refine Kd.C_drew ?_))); (case side2 => exact (Kd.V_reads' HO873.out).2.1); (case side3 => repeat (first | exact (Kd.C_below HR0.out HB.out) | (with_reducible refine Kd.C_alloc ?_ _) | (with_reducible refine Kd.C_drewN ?_ _) | (with_reducible refine Kd.C_drew ?_))); (case side4 => exact HC0.out); rintro e w' ⟨rfl, ⟨nd, rfl⟩⟩; refine ⟨_, rfl, ?_⟩; have p23 : 0 ≤ (0 : Int) := (by omega); have q23 : 0 < t869.size := (by have : (0 : Int) < (t869.size : Int) := of_decide_eq_true (by first | (with_reducible assumption) | assumption); omega); have hx23 : ∀ h : 0 < t869.size, ((t869[0]'h).toNat : Int) = bt t869 0 := bt_at t869 0; clear p23; have qi23 : (0 < (t869.size : Int)) = True := eq_true (of_decide_eq_true (by first | (with_reducible assumption) | assumption)); replace q23 := eq_true q23))
                        go_ret
                        exact ⟨by first | rfl | (simp [errW_none, errW_some] <;> rfl) | (simp [*, errW_none, errW_some] <;> rfl), by repeat (first | (with_reducible first | exact HB.out | apply below_alloc | apply pw_below_drewN | apply below_drew1) | exact HB.out)⟩
                      · rw [if_neg c24] at H
                        have c24b0 : ((bt t869 0) == 48) = false := beq_eq_false_iff_ne.mpr c24
                        have c24b1 : ((bt t869 0) != 48) = true := bne_iff_ne.mpr c24
                        have H' := Aside0.mk H
                        clear H
                        go_wp2_with (first | ((with_reducible refine gate_callee (f := 26) rfl ?_); refine goesL_ (some 35) rfl rfl Tryd.func26 (by kernel_rfl) rfl #[.string t869] rfl (by (try simp only [List.map_toArray, List.map_cons, List.map_nil]); first | done | rfl | (simp only [List.length_drop, List.length_take]; rfl)) ?_; (with_reducible refine (nat_Parse.calls kj3 t869 t871 t874 _ A17.out).mono ?_); rintro e w27 ⟨v872, rfl, ho0, hb⟩; refine ⟨_, rfl, ?_⟩; have n0_ := Aside0.mk (Kd.V_lower (Kd.V_mono (ok' := fun k_ => True) ho0 (fun k_ hk_ => trivial)) (below_size (by repeat (first | (with_reducible first | exact HB.out | apply below_alloc | apply pw_below_drewN | apply below_drew1) | exact HB.out)))); have n1_ := Aside0.mk (below_step (by repeat (first | (with_reducible first | exact HB.out | apply below_alloc | apply pw_below_drewN | apply below_drew1) | exact HB.out)) hb); clear HB; have HO873 := n0_; have HB := n1_; clear n0_ n1_; (try clear hb); (try clear hb2); (try clear hk); (try clear hi); (try clear ho0); obtain ⟨Ao28, co28, eo28⟩ := Kd.V_slice HO873.out; subst eo28) | ((with_reducible refine gate_callee (f := 19) rfl ?_); refine goesL_ (some 40) rfl rfl Tryd.func19 (by kernel_rfl) rfl #[.slice Ao28 t871.length co28, .slice A0 l0.length c0] rfl (by (try simp only [List.map_toArray, List.map_cons, List.map_nil]); first | done | rfl | (simp only [List.length_drop, List.length_take]; rfl)) ?_; (with_reducible refine (cashbookref01_Same.calls kj3 _ _ t871 _ _ l0 true _ ?side1 ?side2 ?side3 ?side4 A18.out).mono ?_); (case side1 => repeat (first | exact (Kd.V_reads' HO873.out).2.2 | (with_reducible refine Kd.C_alloc ?_ _) | (with_reducible refine Kd.C_drewN ?_ _) | (with_reducible refine Kd.C_drew ?_))); (case side2 => exact (Kd.V_reads' HO873.out).2.1); (case side3 => repeat (first | exact (Kd.C_below HR0.out HB.out) | (with_reducible refine Kd.C_alloc ?_ _) | (with_reducible refine Kd.C_drewN ?_ _) | (with_reducible refine Kd.C_drew ?_))); (case side4 => exact HC0.out); rintro e w' ⟨rfl, ⟨nd, rfl⟩⟩; refine ⟨_, rfl, ?_⟩; have p23 : 0 ≤ (0 : Int) := (by omega); have q23 : 0 < t869.size := (by have : (0 : Int) < (t869.size : Int) := of_decide_eq_true (by first | (with_reducible assumption) | assumption); omega); have hx23 : ∀ h : 0 < t869.size, ((t869[0]'h).toNat : Int) = bt t869 0 := bt_at t869 0; clear p23; have qi23 : (0 < (t869.size : Int)) = True := eq_true (of_decide_eq_true (by first | (with_reducible assumption) | assumption)); replace q23 := eq_true q23))
                        go_meet
                        case rel => exact ⟨_, H', ⟨by have := HJ3.out; first | omega | exact Nat.le_refl _⟩, ⟨by repeat (first | (with_reducible first | exact HB.out | apply below_alloc | apply pw_below_drewN | apply below_drew1) | exact HB.out)⟩⟩
                    · rw [if_neg c22] at H
                      exact absurd H (by simp)
                  · rw [if_neg c21] at H
                    have c21b0 : decide (1 < (t869.size : Int)) = false := decide_eq_false c21
                    have c21b1 : decide (1 < t869.size) = false := decide_eq_false (by omega)
                    clear c21
                    have H' := Aside0.mk H
                    clear H
                    go_wp2_with (first | ((with_reducible refine gate_callee (f := 26) rfl ?_); refine goesL_ (some 35) rfl rfl Tryd.func26 (by kernel_rfl) rfl #[.string t869] rfl (by (try simp only [List.map_toArray, List.map_cons, List.map_nil]); first | done | rfl | (simp only [List.length_drop, List.length_take]; rfl)) ?_; (with_reducible refine (nat_Parse.calls kj3 t869 t871 t874 _ A17.out).mono ?_); rintro e w29 ⟨v872, rfl, ho0, hb⟩; refine ⟨_, rfl, ?_⟩; have n0_ := Aside0.mk (Kd.V_lower (Kd.V_mono (ok' := fun k_ => True) ho0 (fun k_ hk_ => trivial)) (below_size (by repeat (first | (with_reducible first | exact HB.out | apply below_alloc | apply pw_below_drewN | apply below_drew1) | exact HB.out)))); have n1_ := Aside0.mk (below_step (by repeat (first | (with_reducible first | exact HB.out | apply below_alloc | apply pw_below_drewN | apply below_drew1) | exact HB.out)) hb); clear HB; have HO873 := n0_; have HB := n1_; clear n0_ n1_; (try clear hb); (try clear hb2); (try clear hk); (try clear hi); (try clear ho0); obtain ⟨Ao30, co30, eo30⟩ := Kd.V_slice HO873.out; subst eo30) | ((with_reducible refine gate_callee (f := 19) rfl ?_); refine goesL_ (some 40) rfl rfl Tryd.func19 (by kernel_rfl) rfl #[.slice Ao30 t871.length co30, .slice A0 l0.length c0] rfl (by (try simp only [List.map_toArray, List.map_cons, List.map_nil]); first | done | rfl | (simp only [List.length_drop, List.length_take]; rfl)) ?_; (with_reducible refine (cashbookref01_Same.calls kj3 _ _ t871 _ _ l0 true _ ?side1 ?side2 ?side3 ?side4 A18.out).mono ?_); (case side1 => repeat (first | exact (Kd.V_reads' HO873.out).2.2 | (with_reducible refine Kd.C_alloc ?_ _) | (with_reducible refine Kd.C_drewN ?_ _) | (with_reducible refine Kd.C_drew ?_))); (case side2 => exact (Kd.V_reads' HO873.out).2.1); (case side3 => repeat (first | exact (Kd.C_below HR0.out HB.out) | (with_reducible refine Kd.C_alloc ?_ _) | (with_reducible refine Kd.C_drewN ?_ _) | (with_reducible refine Kd.C_drew ?_))); (case side4 => exact HC0.out); rintro e w' ⟨rfl, ⟨nd, rfl⟩⟩; refine ⟨_, rfl, ?_⟩))
                    go_meet
                    case rel => exact ⟨_, H', ⟨by have := HJ3.out; first | omega | exact Nat.le_refl _⟩, ⟨by repeat (first | (with_reducible first | exact HB.out | apply below_alloc | apply pw_below_drewN | apply below_drew1) | exact HB.out)⟩⟩
                · replace c20 := Bool.eq_false_iff.mpr c20
                  subst c20
                  have H1 : (some false) = some r := by rw [if_neg (show ¬ (false = true) by decide)] at H; exact H
                  clear H
                  have H := H1
                  clear H1
                  obtain rfl := Option.some.inj H
                  go_wp2_with (first | ((with_reducible refine gate_callee (f := 26) rfl ?_); refine goesL_ (some 35) rfl rfl Tryd.func26 (by kernel_rfl) rfl #[.string t869] rfl (by (try simp only [List.map_toArray, List.map_cons, List.map_nil]); first | done | rfl | (simp only [List.length_drop, List.length_take]; rfl)) ?_; (with_reducible refine (nat_Parse.calls kj3 t869 t871 t874 _ A17.out).mono ?_); rintro e w31 ⟨v872, rfl, ho0, hb⟩; refine ⟨_, rfl, ?_⟩; have n0_ := Aside0.mk (Kd.V_lower (Kd.V_mono (ok' := fun k_ => True) ho0 (fun k_ hk_ => trivial)) (below_size (by repeat (first | (with_reducible first | exact HB.out | apply below_alloc | apply pw_below_drewN | apply below_drew1) | exact HB.out)))); have n1_ := Aside0.mk (below_step (by repeat (first | (with_reducible first | exact HB.out | apply below_alloc | apply pw_below_drewN | apply below_drew1) | exact HB.out)) hb); clear HB; have HO873 := n0_; have HB := n1_; clear n0_ n1_; (try clear hb); (try clear hb2); (try clear hk); (try clear hi); (try clear ho0); obtain ⟨Ao32, co32, eo32⟩ := Kd.V_slice HO873.out; subst eo32) | ((with_reducible refine gate_callee (f := 19) rfl ?_); refine goesL_ (some 40) rfl rfl Tryd.func19 (by kernel_rfl) rfl #[.slice Ao32 t871.length co32, .slice A0 l0.length c0] rfl (by (try simp only [List.map_toArray, List.map_cons, List.map_nil]); first | done | rfl | (simp only [List.length_drop, List.length_take]; rfl)) ?_; (with_reducible refine (cashbookref01_Same.calls kj3 _ _ t871 _ _ l0 false _ ?side1 ?side2 ?side3 ?side4 A18.out).mono ?_); (case side1 => repeat (first | exact (Kd.V_reads' HO873.out).2.2 | (with_reducible refine Kd.C_alloc ?_ _) | (with_reducible refine Kd.C_drewN ?_ _) | (with_reducible refine Kd.C_drew ?_))); (case side2 => exact (Kd.V_reads' HO873.out).2.1); (case side3 => repeat (first | exact (Kd.C_below HR0.out HB.out) | (with_reducible refine Kd.C_alloc ?_ _) | (with_reducible refine Kd.C_drewN ?_ _) | (with_reducible refine Kd.C_drew ?_))); (case side4 => exact HC0.out); rintro e w' ⟨rfl, ⟨nd, rfl⟩⟩; refine ⟨_, rfl, ?_⟩))
                  go_ret
                  exact ⟨by first | rfl | (simp [errW_none, errW_some] <;> rfl) | (simp [*, errW_none, errW_some] <;> rfl), by repeat (first | (with_reducible first | exact HB.out | apply below_alloc | apply pw_below_drewN | apply below_drew1) | exact HB.out)⟩
              · rw [if_neg c19] at H
                have c19b0 : (t874 == 0) = false := beq_eq_false_iff_ne.mpr c19
                have c19b1 : (t874 != 0) = true := bne_iff_ne.mpr c19
                obtain rfl := Option.some.inj H
                go_wp2_with (first | ((with_reducible refine gate_callee (f := 26) rfl ?_); refine goesL_ (some 35) rfl rfl Tryd.func26 (by kernel_rfl) rfl #[.string t869] rfl (by (try simp only [List.map_toArray, List.map_cons, List.map_nil]); first | done | rfl | (simp only [List.length_drop, List.length_take]; rfl)) ?_; (with_reducible refine (nat_Parse.calls kj3 t869 t871 t874 _ A17.out).mono ?_); rintro e w33 ⟨v872, rfl, ho0, hb⟩; refine ⟨_, rfl, ?_⟩; have n0_ := Aside0.mk (Kd.V_lower (Kd.V_mono (ok' := fun k_ => True) ho0 (fun k_ hk_ => trivial)) (below_size (by repeat (first | (with_reducible first | exact HB.out | apply below_alloc | apply pw_below_drewN | apply below_drew1) | exact HB.out)))); have n1_ := Aside0.mk (below_step (by repeat (first | (with_reducible first | exact HB.out | apply below_alloc | apply pw_below_drewN | apply below_drew1) | exact HB.out)) hb); clear HB; have HO873 := n0_; have HB := n1_; clear n0_ n1_; (try clear hb); (try clear hb2); (try clear hk); (try clear hi); (try clear ho0); obtain ⟨Ao34, co34, eo34⟩ := Kd.V_slice HO873.out; subst eo34) | ((with_reducible refine gate_callee (f := 19) rfl ?_); refine goesL_ (some 40) rfl rfl Tryd.func19 (by kernel_rfl) rfl #[.slice Ao34 t871.length co34, .slice A0 l0.length c0] rfl (by (try simp only [List.map_toArray, List.map_cons, List.map_nil]); first | done | rfl | (simp only [List.length_drop, List.length_take]; rfl)) ?_; (with_reducible refine (cashbookref01_Same.calls kj3 _ _ t871 _ _ l0 t875 _ ?side1 ?side2 ?side3 ?side4 A18.out).mono ?_); (case side1 => repeat (first | exact (Kd.V_reads' HO873.out).2.2 | (with_reducible refine Kd.C_alloc ?_ _) | (with_reducible refine Kd.C_drewN ?_ _) | (with_reducible refine Kd.C_drew ?_))); (case side2 => exact (Kd.V_reads' HO873.out).2.1); (case side3 => repeat (first | exact (Kd.C_below HR0.out HB.out) | (with_reducible refine Kd.C_alloc ?_ _) | (with_reducible refine Kd.C_drewN ?_ _) | (with_reducible refine Kd.C_drew ?_))); (case side4 => exact HC0.out); rintro e w' ⟨rfl, ⟨nd, rfl⟩⟩; refine ⟨_, rfl, ?_⟩))
                go_ret
                exact ⟨by first | rfl | (simp [errW_none, errW_some] <;> rfl) | (simp [*, errW_none, errW_some] <;> rfl), by repeat (first | (with_reducible first | exact HB.out | apply below_alloc | apply pw_below_drewN | apply below_drew1) | exact HB.out)⟩
          case rest =>
            clear HC14
            try clear c1
            try clear c2
            try clear p2
            try clear q2
            try clear hx2
            try clear qi2
            try clear c3
            try clear c6
            try clear c7
            try clear c12
            try clear c12b0
            try clear c12b1
            try clear c12b2
            try clear c13
            try clear c14
            try clear c16
            try clear c16b0
            try clear c16b1
            try clear c19
            try clear c19b0
            try clear c19b1
            try clear c20
            try clear c21
            try clear c21b0
            try clear c21b1
            try clear c22
            try clear c22b0
            try clear c22b1
            try clear p23
            try clear q23
            try clear hx23
            try clear qi23
            try clear c24
            try clear c24b0
            try clear c24b1
            try clear c26
            try clear c28
            try clear c32
            try clear p2
            try clear p23
            try clear q23
            obtain ⟨kq, HA, HJ13, HB⟩ := hcut
            cases kq with
            | zero => exact absurd HA.out (by simp [cashbooklaw01_NatBack.j1])
            | succ kj13 =>
              have H := HA.out
              clear HA
              simp only [cashbooklaw01_NatBack.j1] at H
              replace H := Option.bind_eq_some_iff.mp H
              obtain ⟨⟨t876, t879⟩, A350, H⟩ := H
              replace H : ((nat_Of.f kj13 a2).bind fun t880 => ((nat_Fits.f t880).bind fun bt883 => (if bt883.2 = true then (if bt883.1 = a2 then (cashbooklaw01_NatBack.j2 kj13 l0 a1 a2 t869 t876 bt883.1 bt883.2 (t879 != 0)) else (cashbooklaw01_NatBack.j2 kj13 l0 a1 a2 t869 t876 bt883.1 bt883.2 true)) else (cashbooklaw01_NatBack.j2 kj13 l0 a1 a2 t869 t876 bt883.1 bt883.2 true)))) = some r := H
              have A35 := Aside0.mk A350
              clear A350
              replace H := Option.bind_eq_some_iff.mp H
              obtain ⟨t880, A360, H⟩ := H
              replace H : ((nat_Fits.f t880).bind fun bt883 => (if bt883.2 = true then (if bt883.1 = a2 then (cashbooklaw01_NatBack.j2 kj13 l0 a1 a2 t869 t876 bt883.1 bt883.2 (t879 != 0)) else (cashbooklaw01_NatBack.j2 kj13 l0 a1 a2 t869 t876 bt883.1 bt883.2 true)) else (cashbooklaw01_NatBack.j2 kj13 l0 a1 a2 t869 t876 bt883.1 bt883.2 true))) = some r := H
              have A36 := Aside0.mk A360
              clear A360
              replace H := Option.bind_eq_some_iff.mp H
              obtain ⟨⟨t883, t884⟩, A370, H⟩ := H
              replace H : (if t884 = true then (if t883 = a2 then (cashbooklaw01_NatBack.j2 kj13 l0 a1 a2 t869 t876 t883 t884 (t879 != 0)) else (cashbooklaw01_NatBack.j2 kj13 l0 a1 a2 t869 t876 t883 t884 true)) else (cashbooklaw01_NatBack.j2 kj13 l0 a1 a2 t869 t876 t883 t884 true)) = some r := H
              have A37 := Aside0.mk A370
              clear A370
              have HC38 := Aside0.mk H
              clear H
              go_upto_region 13 with (first | ((with_reducible refine gate_callee (f := 26) rfl ?_); refine goesL_ (some 59) rfl rfl Tryd.func26 (by kernel_rfl) rfl #[.string a1] rfl (by (try simp only [List.map_toArray, List.map_cons, List.map_nil]); first | done | rfl | (simp only [List.length_drop, List.length_take]; rfl)) ?_; (with_reducible refine (nat_Parse.calls kj13 a1 t876 t879 _ A35.out).mono ?_); rintro e w39 ⟨v877, rfl, ho0, hb⟩; refine ⟨_, rfl, ?_⟩; have n0_ := Aside0.mk (Kd.V_lower (Kd.V_mono (ok' := fun k_ => True) ho0 (fun k_ hk_ => trivial)) (below_size (by repeat (first | (with_reducible first | exact HB.out | apply below_alloc | apply pw_below_drewN | apply below_drew1) | exact HB.out)))); have n1_ := Aside0.mk (below_step (by repeat (first | (with_reducible first | exact HB.out | apply below_alloc | apply pw_below_drewN | apply below_drew1) | exact HB.out)) hb); clear HB; have HO878 := n0_; have HB := n1_; clear n0_ n1_; (try clear hb); (try clear hb2); (try clear hk); (try clear hi); (try clear ho0)) | ((with_reducible refine gate_callee (f := 35) rfl ?_); refine goesL_ (some 64) rfl rfl Tryd.func35 (by kernel_rfl) rfl #[.int .u64 a2] rfl (by (try simp only [List.map_toArray, List.map_cons, List.map_nil]); first | done | rfl | (simp only [List.length_drop, List.length_take]; rfl)) ?_; (with_reducible refine (nat_Of.calls kj13 a2 t880 _ A36.out).mono ?_); rintro e w40 ⟨v881, rfl, ho0, hb⟩; refine ⟨_, rfl, ?_⟩; have n0_ := Aside0.mk (Kd.V_below (by (with_reducible repeat (first | apply Kd.V_alloc | apply Kd.V_drewN | apply Kd.V_drew)); exact HO878.out) hb); have n1_ := Aside0.mk (Kd.V_lower (Kd.V_mono (ok' := fun k_ => True) ho0 (fun k_ hk_ => trivial)) (below_size (by repeat (first | (with_reducible first | exact HB.out | apply below_alloc | apply pw_below_drewN | apply below_drew1) | exact HB.out)))); have n2_ := Aside0.mk (below_step (by repeat (first | (with_reducible first | exact HB.out | apply below_alloc | apply pw_below_drewN | apply below_drew1) | exact HB.out)) hb); clear HO878; clear HB; have HO878 := n0_; have HO882 := n1_; have HB := n2_; clear n0_ n1_ n2_; (try clear hb); (try clear hb2); (try clear hk); (try clear hi); (try clear ho0); obtain ⟨Ao41, co41, eo41⟩ := Kd.V_slice HO882.out; subst eo41) | ((with_reducible refine gate_callee (f := 33) rfl ?_); refine goesL_ (some 65) rfl rfl Tryd.func33 (by kernel_rfl) rfl #[.slice Ao41 t880.length co41] rfl (by (try simp only [List.map_toArray, List.map_cons, List.map_nil]); first | done | rfl | (simp only [List.length_drop, List.length_take]; rfl)) ?_; (with_reducible refine (nat_Fits.calls _ _ t880 t883 t884 _ ?side1 ?side2 A37.out).mono ?_); (case side1 => repeat (first | exact (Kd.V_reads' HO882.out).2.2 | (with_reducible refine Kd.C_alloc ?_ _) | (with_reducible refine Kd.C_drewN ?_ _) | (with_reducible refine Kd.C_drew ?_))); (case side2 => exact (Kd.V_reads' HO882.out).2.1); rintro e w42 ⟨rfl, hb⟩; refine ⟨_, rfl, ?_⟩; have n0_ := Aside0.mk (Kd.V_below (by (with_reducible repeat (first | apply Kd.V_alloc | apply Kd.V_drewN | apply Kd.V_drew)); exact HO878.out) hb); have n1_ := Aside0.mk (Kd.V_below (by (with_reducible repeat (first | apply Kd.V_alloc | apply Kd.V_drewN | apply Kd.V_drew)); exact HO882.out) hb); have n2_ := Aside0.mk (below_step (by repeat (first | (with_reducible first | exact HB.out | apply below_alloc | apply pw_below_drewN | apply below_drew1) | exact HB.out)) hb); clear HO878; clear HO882; clear HB; have HO878 := n0_; have HO882 := n1_; have HB := n2_; clear n0_ n1_ n2_; (try clear hb); (try clear hb2); (try clear hk); (try clear hi)))
              (try simp only [Act.put, List.setIfInBounds_toArray, List.set_cons_zero, List.set_cons_succ])
              go_cut [78] (fun v78 wc => ∃ (kq : Nat) (x78_37 : Bool), v78 = .bool x78_37 ∧ Aside0 (cashbooklaw01_NatBack.j2 kq l0 a1 a2 t869 t876 t883 t884 x78_37 = some r) ∧ Aside0 (kq ≤ kj13) ∧ Aside0 (Kd.V (Kd.int .u32) 56 wc w.heap.size (fun _ => True) v877 t876) ∧ Aside0 (Below w.heap.size w wc))
              case first =>
                have H := HC38.out
                clear HC38
                by_cases c43 : t884 = true
                · subst c43
                  have H1 : (if t883 = a2 then (cashbooklaw01_NatBack.j2 kj13 l0 a1 a2 t869 t876 t883 true (t879 != 0)) else (cashbooklaw01_NatBack.j2 kj13 l0 a1 a2 t869 t876 t883 true true)) = some r := by rw [if_pos rfl] at H; exact H
                  clear H
                  have H := H1
                  clear H1
                  by_cases c44 : t883 = a2
                  · rw [if_pos c44] at H
                    have c44b0 : (t883 == a2) = true := beq_iff_eq.mpr c44
                    have c44b1 : (t883 != a2) = false := bne_eq_false_iff_eq.mpr c44
                    clear c44
                    (first | rw [c44b0] | (simp only [i64_w, i32_w]; rw [c44b0]) | skip)
                    have H' := Aside0.mk H
                    clear H
                    go_wp2
                    go_meet
                    case rel => exact ⟨_, ((t879 != 0)), (by first | rfl | (simp; done) | (simp [*]; done)), H', ⟨by have := HJ3.out; have := HJ13.out; first | omega | exact Nat.le_refl _⟩, ⟨by (with_reducible repeat (first | apply Kd.V_alloc | apply Kd.V_drewN | apply Kd.V_drew)); exact HO878.out⟩, ⟨by repeat (first | (with_reducible first | exact HB.out | apply below_alloc | apply pw_below_drewN | apply below_drew1) | exact HB.out)⟩⟩
                  · rw [if_neg c44] at H
                    have c44b0 : (t883 == a2) = false := beq_eq_false_iff_ne.mpr c44
                    have c44b1 : (t883 != a2) = true := bne_iff_ne.mpr c44
                    (first | rw [c44b0] | (simp only [i64_w, i32_w]; rw [c44b0]) | skip)
                    have H' := Aside0.mk H
                    clear H
                    go_wp2
                    go_meet
                    case rel => exact ⟨_, (true), (by first | rfl | (simp; done) | (simp [*]; done)), H', ⟨by have := HJ3.out; have := HJ13.out; first | omega | exact Nat.le_refl _⟩, ⟨by (with_reducible repeat (first | apply Kd.V_alloc | apply Kd.V_drewN | apply Kd.V_drew)); exact HO878.out⟩, ⟨by repeat (first | (with_reducible first | exact HB.out | apply below_alloc | apply pw_below_drewN | apply below_drew1) | exact HB.out)⟩⟩
                · replace c43 := Bool.eq_false_iff.mpr c43
                  subst c43
                  have H1 : (cashbooklaw01_NatBack.j2 kj13 l0 a1 a2 t869 t876 t883 false true) = some r := by rw [if_neg (show ¬ (false = true) by decide)] at H; exact H
                  clear H
                  have H := H1
                  clear H1
                  have H' := Aside0.mk H
                  clear H
                  go_wp2
                  go_meet
                  case rel => exact ⟨_, (true), (by first | rfl | (simp; done) | (simp [*]; done)), H', ⟨by have := HJ3.out; have := HJ13.out; first | omega | exact Nat.le_refl _⟩, ⟨by (with_reducible repeat (first | apply Kd.V_alloc | apply Kd.V_drewN | apply Kd.V_drew)); exact HO878.out⟩, ⟨by repeat (first | (with_reducible first | exact HB.out | apply below_alloc | apply pw_below_drewN | apply below_drew1) | exact HB.out)⟩⟩
              case rest =>
                clear HC38
                try clear c1
                try clear c2
                try clear p2
                try clear q2
                try clear hx2
                try clear qi2
                try clear c3
                try clear c4
                try clear c6
                try clear c7
                try clear c12
                try clear c12b0
                try clear c12b1
                try clear c12b2
                try clear c13
                try clear c14
                try clear c16
                try clear c16b0
                try clear c16b1
                try clear c19
                try clear c19b0
                try clear c19b1
                try clear c20
                try clear c21
                try clear c21b0
                try clear c21b1
                try clear c22
                try clear c22b0
                try clear c22b1
                try clear p23
                try clear q23
                try clear hx23
                try clear qi23
                try clear c24
                try clear c24b0
                try clear c24b1
                try clear c26
                try clear c28
                try clear c32
                try clear c33
                try clear c35
                try clear c43
                try clear c44
                try clear c44b0
                try clear c44b1
                try clear p2
                try clear p23
                try clear q2
                try clear q23
                obtain ⟨kq, x78_37, rfl, HA, HJ37, HO_11, HB⟩ := hcut
                cases kq with
                | zero => exact absurd HA.out (by simp [cashbooklaw01_NatBack.j2])
                | succ kj37 =>
                  have H := HA.out
                  clear HA
                  simp only [cashbooklaw01_NatBack.j2] at H
                  by_cases c45 : x78_37 = true
                  · subst c45
                    have H1 : ((cashbooklaw01_alive.f kj37).bind fun t885 => (if t885 = true then (if t884 = true then (if t883 = a2 then (some ((t876.length : Int) == 0)) else (some false)) else (some false)) else (some false))) = some r := by rw [if_pos rfl] at H; exact H
                    clear H
                    have H := H1
                    clear H1
                    replace H := Option.bind_eq_some_iff.mp H
                    obtain ⟨t885, A460, H⟩ := H
                    replace H : (if t885 = true then (if t884 = true then (if t883 = a2 then (some ((t876.length : Int) == 0)) else (some false)) else (some false)) else (some false)) = some r := H
                    have A46 := Aside0.mk A460
                    clear A460
                    by_cases c47 : t885 = true
                    · subst c47
                      have H1 : (if t884 = true then (if t883 = a2 then (some ((t876.length : Int) == 0)) else (some false)) else (some false)) = some r := by rw [if_pos rfl] at H; exact H
                      clear H
                      have H := H1
                      clear H1
                      by_cases c48 : t884 = true
                      · subst c48
                        have H1 : (if t883 = a2 then (some ((t876.length : Int) == 0)) else (some false)) = some r := by rw [if_pos rfl] at H; exact H
                        clear H
                        have H := H1
                        clear H1
                        by_cases c49 : t883 = a2
                        · rw [if_pos c49] at H
                          have c49b0 : (t883 == a2) = true := beq_iff_eq.mpr c49
                          have c49b1 : (t883 != a2) = false := bne_eq_false_iff_eq.mpr c49
                          clear c49
                          obtain rfl := Option.some.inj H
                          go_wp2_with (first | ((with_reducible refine gate_callee (f := 14) rfl ?_); refine goesL_ (some 79) rfl rfl Tryd.func14 (by kernel_rfl) rfl #[] rfl (by (try simp only [List.map_toArray, List.map_cons, List.map_nil]); first | done | rfl | (simp only [List.length_drop, List.length_take]; rfl)) ?_; (with_reducible refine (cashbooklaw01_alive.calls kj37  true _ ?side1 A46.out).mono ?_); (case side1 => exact TabOK.below HT.out (by repeat (first | (with_reducible first | exact HB.out | apply below_alloc | apply pw_below_drewN | apply below_drew1) | exact HB.out))); rintro e w50 ⟨rfl, hb⟩; refine ⟨_, rfl, ?_⟩; have n0_ := Aside0.mk (Kd.V_below (by (with_reducible repeat (first | apply Kd.V_alloc | apply Kd.V_drewN | apply Kd.V_drew)); exact HO_11.out) hb); have n1_ := Aside0.mk (below_step (by repeat (first | (with_reducible first | exact HB.out | apply below_alloc | apply pw_below_drewN | apply below_drew1) | exact HB.out)) hb); clear HO_11; clear HB; have HO_11 := n0_; have HB := n1_; clear n0_ n1_; (try clear hb); (try clear hb2); (try clear hk); (try clear hi); obtain ⟨Ao51, co51, eo51⟩ := Kd.V_slice HO_11.out; subst eo51))
                          go_ret
                          exact ⟨by first | rfl | (simp [errW_none, errW_some] <;> rfl) | (simp [*, errW_none, errW_some] <;> rfl), by repeat (first | (with_reducible first | exact HB.out | apply below_alloc | apply pw_below_drewN | apply below_drew1) | exact HB.out)⟩
                        · rw [if_neg c49] at H
                          have c49b0 : (t883 == a2) = false := beq_eq_false_iff_ne.mpr c49
                          have c49b1 : (t883 != a2) = true := bne_iff_ne.mpr c49
                          obtain rfl := Option.some.inj H
                          go_wp2_with (first | ((with_reducible refine gate_callee (f := 14) rfl ?_); refine goesL_ (some 79) rfl rfl Tryd.func14 (by kernel_rfl) rfl #[] rfl (by (try simp only [List.map_toArray, List.map_cons, List.map_nil]); first | done | rfl | (simp only [List.length_drop, List.length_take]; rfl)) ?_; (with_reducible refine (cashbooklaw01_alive.calls kj37  true _ ?side1 A46.out).mono ?_); (case side1 => exact TabOK.below HT.out (by repeat (first | (with_reducible first | exact HB.out | apply below_alloc | apply pw_below_drewN | apply below_drew1) | exact HB.out))); rintro e w52 ⟨rfl, hb⟩; refine ⟨_, rfl, ?_⟩; have n0_ := Aside0.mk (Kd.V_below (by (with_reducible repeat (first | apply Kd.V_alloc | apply Kd.V_drewN | apply Kd.V_drew)); exact HO_11.out) hb); have n1_ := Aside0.mk (below_step (by repeat (first | (with_reducible first | exact HB.out | apply below_alloc | apply pw_below_drewN | apply below_drew1) | exact HB.out)) hb); clear HO_11; clear HB; have HO_11 := n0_; have HB := n1_; clear n0_ n1_; (try clear hb); (try clear hb2); (try clear hk); (try clear hi)))
                          go_ret
                          exact ⟨by first | rfl | (simp [errW_none, errW_some] <;> rfl) | (simp [*, errW_none, errW_some] <;> rfl), by repeat (first | (with_reducible first | exact HB.out | apply below_alloc | apply pw_below_drewN | apply below_drew1) | exact HB.out)⟩
                      · replace c48 := Bool.eq_false_iff.mpr c48
                        subst c48
                        have H1 : (some false) = some r := by rw [if_neg (show ¬ (false = true) by decide)] at H; exact H
                        clear H
                        have H := H1
                        clear H1
                        obtain rfl := Option.some.inj H
                        go_wp2_with (first | ((with_reducible refine gate_callee (f := 14) rfl ?_); refine goesL_ (some 79) rfl rfl Tryd.func14 (by kernel_rfl) rfl #[] rfl (by (try simp only [List.map_toArray, List.map_cons, List.map_nil]); first | done | rfl | (simp only [List.length_drop, List.length_take]; rfl)) ?_; (with_reducible refine (cashbooklaw01_alive.calls kj37  true _ ?side1 A46.out).mono ?_); (case side1 => exact TabOK.below HT.out (by repeat (first | (with_reducible first | exact HB.out | apply below_alloc | apply pw_below_drewN | apply below_drew1) | exact HB.out))); rintro e w53 ⟨rfl, hb⟩; refine ⟨_, rfl, ?_⟩; have n0_ := Aside0.mk (Kd.V_below (by (with_reducible repeat (first | apply Kd.V_alloc | apply Kd.V_drewN | apply Kd.V_drew)); exact HO_11.out) hb); have n1_ := Aside0.mk (below_step (by repeat (first | (with_reducible first | exact HB.out | apply below_alloc | apply pw_below_drewN | apply below_drew1) | exact HB.out)) hb); clear HO_11; clear HB; have HO_11 := n0_; have HB := n1_; clear n0_ n1_; (try clear hb); (try clear hb2); (try clear hk); (try clear hi)))
                        go_ret
                        exact ⟨by first | rfl | (simp [errW_none, errW_some] <;> rfl) | (simp [*, errW_none, errW_some] <;> rfl), by repeat (first | (with_reducible first | exact HB.out | apply below_alloc | apply pw_below_drewN | apply below_drew1) | exact HB.out)⟩
                    · replace c47 := Bool.eq_false_iff.mpr c47
                      subst c47
                      have H1 : (some false) = some r := by rw [if_neg (show ¬ (false = true) by decide)] at H; exact H
                      clear H
                      have H := H1
                      clear H1
                      obtain rfl := Option.some.inj H
                      go_wp2_with (first | ((with_reducible refine gate_callee (f := 14) rfl ?_); refine goesL_ (some 79) rfl rfl Tryd.func14 (by kernel_rfl) rfl #[] rfl (by (try simp only [List.map_toArray, List.map_cons, List.map_nil]); first | done | rfl | (simp only [List.length_drop, List.length_take]; rfl)) ?_; (with_reducible refine (cashbooklaw01_alive.calls kj37  false _ ?side1 A46.out).mono ?_); (case side1 => exact TabOK.below HT.out (by repeat (first | (with_reducible first | exact HB.out | apply below_alloc | apply pw_below_drewN | apply below_drew1) | exact HB.out))); rintro e w54 ⟨rfl, hb⟩; refine ⟨_, rfl, ?_⟩; have n0_ := Aside0.mk (Kd.V_below (by (with_reducible repeat (first | apply Kd.V_alloc | apply Kd.V_drewN | apply Kd.V_drew)); exact HO_11.out) hb); have n1_ := Aside0.mk (below_step (by repeat (first | (with_reducible first | exact HB.out | apply below_alloc | apply pw_below_drewN | apply below_drew1) | exact HB.out)) hb); clear HO_11; clear HB; have HO_11 := n0_; have HB := n1_; clear n0_ n1_; (try clear hb); (try clear hb2); (try clear hk); (try clear hi)))
                      go_ret
                      exact ⟨by first | rfl | (simp [errW_none, errW_some] <;> rfl) | (simp [*, errW_none, errW_some] <;> rfl), by repeat (first | (with_reducible first | exact HB.out | apply below_alloc | apply pw_below_drewN | apply below_drew1) | exact HB.out)⟩
                  · replace c45 := Bool.eq_false_iff.mpr c45
                    subst c45
                    have H1 : ((cashbooklaw01_alive.f kj37).bind fun t886 => (if t886 = true then ((nat_Text.f kj37 t876).bind fun t887 => (if t887.toList = a1.toList then (if (a1.size : Int) = (t869.size : Int) then (if a1.toList = t869.toList then (some true) else ((nat_Compare.f kj37 t876 l0).bind fun t888 => (some ((t888 == (-1)) == (Op.bytesLess a1.toList t869.toList))))) else (some true)) else (some false))) else (some false))) = some r := by rw [if_neg (show ¬ (false = true) by decide)] at H; exact H
                    clear H
                    have H := H1
                    clear H1
                    replace H := Option.bind_eq_some_iff.mp H
                    obtain ⟨t886, A550, H⟩ := H
                    replace H : (if t886 = true then ((nat_Text.f kj37 t876).bind fun t887 => (if t887.toList = a1.toList then (if (a1.size : Int) = (t869.size : Int) then (if a1.toList = t869.toList then (some true) else ((nat_Compare.f kj37 t876 l0).bind fun t888 => (some ((t888 == (-1)) == (Op.bytesLess a1.toList t869.toList))))) else (some true)) else (some false))) else (some false)) = some r := H
                    have A55 := Aside0.mk A550
                    clear A550
                    by_cases c56 : t886 = true
                    · subst c56
                      have H1 : ((nat_Text.f kj37 t876).bind fun t887 => (if t887.toList = a1.toList then (if (a1.size : Int) = (t869.size : Int) then (if a1.toList = t869.toList then (some true) else ((nat_Compare.f kj37 t876 l0).bind fun t888 => (some ((t888 == (-1)) == (Op.bytesLess a1.toList t869.toList))))) else (some true)) else (some false))) = some r := by rw [if_pos rfl] at H; exact H
                      clear H
                      have H := H1
                      clear H1
                      replace H := Option.bind_eq_some_iff.mp H
                      obtain ⟨t887, A570, H⟩ := H
                      replace H : (if t887.toList = a1.toList then (if (a1.size : Int) = (t869.size : Int) then (if a1.toList = t869.toList then (some true) else ((nat_Compare.f kj37 t876 l0).bind fun t888 => (some ((t888 == (-1)) == (Op.bytesLess a1.toList t869.toList))))) else (some true)) else (some false)) = some r := H
                      have A57 := Aside0.mk A570
                      clear A570
                      by_cases c58 : t887.toList = a1.toList
                      · rw [if_pos c58] at H
                        have c58b0 : (t887.toList == a1.toList) = true := beq_iff_eq.mpr c58
                        have c58b1 : (t887.toList != a1.toList) = false := bne_eq_false_iff_eq.mpr c58
                        clear c58
                        by_cases c59 : (a1.size : Int) = (t869.size : Int)
                        · rw [if_pos c59] at H
                          have c59b0 : ((a1.size : Int) == (t869.size : Int)) = true := beq_iff_eq.mpr c59
                          have c59b1 : ((a1.size : Int) != (t869.size : Int)) = false := bne_eq_false_iff_eq.mpr c59
                          have c59b2 : (a1.size == t869.size) = true := by first | simpa using c59 | (simp at c59 ⊢; omega)
                          clear c59
                          by_cases c60 : a1.toList = t869.toList
                          · rw [if_pos c60] at H
                            have c60b0 : (a1.toList == t869.toList) = true := beq_iff_eq.mpr c60
                            have c60b1 : (a1.toList != t869.toList) = false := bne_eq_false_iff_eq.mpr c60
                            clear c60
                            obtain rfl := Option.some.inj H
                            go_wp2_with (first | ((with_reducible refine gate_callee (f := 14) rfl ?_); refine goesL_ (some 93) rfl rfl Tryd.func14 (by kernel_rfl) rfl #[] rfl (by (try simp only [List.map_toArray, List.map_cons, List.map_nil]); first | done | rfl | (simp only [List.length_drop, List.length_take]; rfl)) ?_; (with_reducible refine (cashbooklaw01_alive.calls kj37  true _ ?side1 A55.out).mono ?_); (case side1 => exact TabOK.below HT.out (by repeat (first | (with_reducible first | exact HB.out | apply below_alloc | apply pw_below_drewN | apply below_drew1) | exact HB.out))); rintro e w61 ⟨rfl, hb⟩; refine ⟨_, rfl, ?_⟩; have n0_ := Aside0.mk (Kd.V_below (by (with_reducible repeat (first | apply Kd.V_alloc | apply Kd.V_drewN | apply Kd.V_drew)); exact HO_11.out) hb); have n1_ := Aside0.mk (below_step (by repeat (first | (with_reducible first | exact HB.out | apply below_alloc | apply pw_below_drewN | apply below_drew1) | exact HB.out)) hb); clear HO_11; clear HB; have HO_11 := n0_; have HB := n1_; clear n0_ n1_; (try clear hb); (try clear hb2); (try clear hk); (try clear hi); obtain ⟨Ao62, co62, eo62⟩ := Kd.V_slice HO_11.out; subst eo62) | (go_at_call 28; (with_reducible refine (nat_Text.calls kj37 (fun k_ => True) _ _ t876 t887 _ ?side1 ?side2 A57.out).mono ?_); (case side1 => exact TabOK.below HT.out (by repeat (first | (with_reducible first | exact HB.out | apply below_alloc | apply pw_below_drewN | apply below_drew1) | exact HB.out))); (case side2 => exact HO_11.out); rintro e w63 ⟨rfl, hb⟩; have n0_ := Aside0.mk (Kd.V_below (by (with_reducible repeat (first | apply Kd.V_alloc | apply Kd.V_drewN | apply Kd.V_drew)); exact HO_11.out) hb); have n1_ := Aside0.mk (below_step (by repeat (first | (with_reducible first | exact HB.out | apply below_alloc | apply pw_below_drewN | apply below_drew1) | exact HB.out)) hb); clear HO_11; clear HB; have HO_11 := n0_; have HB := n1_; clear n0_ n1_; (try clear hb); (try clear hb2); (try clear hk); (try clear hi)))
                            go_ret
                            exact ⟨by first | rfl | (simp [errW_none, errW_some] <;> rfl) | (simp [*, errW_none, errW_some] <;> rfl), by repeat (first | (with_reducible first | exact HB.out | apply below_alloc | apply pw_below_drewN | apply below_drew1) | exact HB.out)⟩
                          · rw [if_neg c60] at H
                            have c60b0 : (a1.toList == t869.toList) = false := beq_eq_false_iff_ne.mpr c60
                            have c60b1 : (a1.toList != t869.toList) = true := bne_iff_ne.mpr c60
                            replace H := Option.bind_eq_some_iff.mp H
                            obtain ⟨t888, A640, H⟩ := H
                            replace H : (some ((t888 == (-1)) == (Op.bytesLess a1.toList t869.toList))) = some r := H
                            have A64 := Aside0.mk A640
                            clear A640
                            obtain rfl := Option.some.inj H
                            go_wp2_with (first | ((with_reducible refine gate_callee (f := 14) rfl ?_); refine goesL_ (some 93) rfl rfl Tryd.func14 (by kernel_rfl) rfl #[] rfl (by (try simp only [List.map_toArray, List.map_cons, List.map_nil]); first | done | rfl | (simp only [List.length_drop, List.length_take]; rfl)) ?_; (with_reducible refine (cashbooklaw01_alive.calls kj37  true _ ?side1 A55.out).mono ?_); (case side1 => exact TabOK.below HT.out (by repeat (first | (with_reducible first | exact HB.out | apply below_alloc | apply pw_below_drewN | apply below_drew1) | exact HB.out))); rintro e w65 ⟨rfl, hb⟩; refine ⟨_, rfl, ?_⟩; have n0_ := Aside0.mk (Kd.V_below (by (with_reducible repeat (first | apply Kd.V_alloc | apply Kd.V_drewN | apply Kd.V_drew)); exact HO_11.out) hb); have n1_ := Aside0.mk (below_step (by repeat (first | (with_reducible first | exact HB.out | apply below_alloc | apply pw_below_drewN | apply below_drew1) | exact HB.out)) hb); clear HO_11; clear HB; have HO_11 := n0_; have HB := n1_; clear n0_ n1_; (try clear hb); (try clear hb2); (try clear hk); (try clear hi); obtain ⟨Ao66, co66, eo66⟩ := Kd.V_slice HO_11.out; subst eo66) | (go_at_call 28; (with_reducible refine (nat_Text.calls kj37 (fun k_ => True) _ _ t876 t887 _ ?side1 ?side2 A57.out).mono ?_); (case side1 => exact TabOK.below HT.out (by repeat (first | (with_reducible first | exact HB.out | apply below_alloc | apply pw_below_drewN | apply below_drew1) | exact HB.out))); (case side2 => exact HO_11.out); rintro e w67 ⟨rfl, hb⟩; have n0_ := Aside0.mk (Kd.V_below (by (with_reducible repeat (first | apply Kd.V_alloc | apply Kd.V_drewN | apply Kd.V_drew)); exact HO_11.out) hb); have n1_ := Aside0.mk (below_step (by repeat (first | (with_reducible first | exact HB.out | apply below_alloc | apply pw_below_drewN | apply below_drew1) | exact HB.out)) hb); clear HO_11; clear HB; have HO_11 := n0_; have HB := n1_; clear n0_ n1_; (try clear hb); (try clear hb2); (try clear hk); (try clear hi)) | (go_at_call 31; (with_reducible refine (nat_Compare.calls kj37 _ _ t876 _ _ l0 t888 _ ?side1 ?side2 ?side3 ?side4 A64.out).mono ?_); (case side1 => repeat (first | exact (Kd.V_reads' HO_11.out).2.2 | (with_reducible refine Kd.C_alloc ?_ _) | (with_reducible refine Kd.C_drewN ?_ _) | (with_reducible refine Kd.C_drew ?_))); (case side2 => exact (Kd.V_reads' HO_11.out).2.1); (case side3 => repeat (first | exact (Kd.C_below HR0.out HB.out) | (with_reducible refine Kd.C_alloc ?_ _) | (with_reducible refine Kd.C_drewN ?_ _) | (with_reducible refine Kd.C_drew ?_))); (case side4 => exact HC0.out); rintro e w' ⟨rfl, ⟨nd, rfl⟩⟩))
                            go_ret
                            exact ⟨by first | rfl | (simp [errW_none, errW_some] <;> rfl) | (simp [*, errW_none, errW_some] <;> rfl), by repeat (first | (with_reducible first | exact HB.out | apply below_alloc | apply pw_below_drewN | apply below_drew1) | exact HB.out)⟩
                        · rw [if_neg c59] at H
                          have c59b0 : ((a1.size : Int) == (t869.size : Int)) = false := beq_eq_false_iff_ne.mpr c59
                          have c59b1 : ((a1.size : Int) != (t869.size : Int)) = true := bne_iff_ne.mpr c59
                          have c59b2 : (a1.size == t869.size) = false := by first | simpa using c59 | (simp at c59 ⊢; omega)
                          obtain rfl := Option.some.inj H
                          go_wp2_with (first | ((with_reducible refine gate_callee (f := 14) rfl ?_); refine goesL_ (some 93) rfl rfl Tryd.func14 (by kernel_rfl) rfl #[] rfl (by (try simp only [List.map_toArray, List.map_cons, List.map_nil]); first | done | rfl | (simp only [List.length_drop, List.length_take]; rfl)) ?_; (with_reducible refine (cashbooklaw01_alive.calls kj37  true _ ?side1 A55.out).mono ?_); (case side1 => exact TabOK.below HT.out (by repeat (first | (with_reducible first | exact HB.out | apply below_alloc | apply pw_below_drewN | apply below_drew1) | exact HB.out))); rintro e w68 ⟨rfl, hb⟩; refine ⟨_, rfl, ?_⟩; have n0_ := Aside0.mk (Kd.V_below (by (with_reducible repeat (first | apply Kd.V_alloc | apply Kd.V_drewN | apply Kd.V_drew)); exact HO_11.out) hb); have n1_ := Aside0.mk (below_step (by repeat (first | (with_reducible first | exact HB.out | apply below_alloc | apply pw_below_drewN | apply below_drew1) | exact HB.out)) hb); clear HO_11; clear HB; have HO_11 := n0_; have HB := n1_; clear n0_ n1_; (try clear hb); (try clear hb2); (try clear hk); (try clear hi); obtain ⟨Ao69, co69, eo69⟩ := Kd.V_slice HO_11.out; subst eo69) | (go_at_call 28; (with_reducible refine (nat_Text.calls kj37 (fun k_ => True) _ _ t876 t887 _ ?side1 ?side2 A57.out).mono ?_); (case side1 => exact TabOK.below HT.out (by repeat (first | (with_reducible first | exact HB.out | apply below_alloc | apply pw_below_drewN | apply below_drew1) | exact HB.out))); (case side2 => exact HO_11.out); rintro e w70 ⟨rfl, hb⟩; have n0_ := Aside0.mk (Kd.V_below (by (with_reducible repeat (first | apply Kd.V_alloc | apply Kd.V_drewN | apply Kd.V_drew)); exact HO_11.out) hb); have n1_ := Aside0.mk (below_step (by repeat (first | (with_reducible first | exact HB.out | apply below_alloc | apply pw_below_drewN | apply below_drew1) | exact HB.out)) hb); clear HO_11; clear HB; have HO_11 := n0_; have HB := n1_; clear n0_ n1_; (try clear hb); (try clear hb2); (try clear hk); (try clear hi)))
                          go_ret
                          exact ⟨by first | rfl | (simp [errW_none, errW_some] <;> rfl) | (simp [*, errW_none, errW_some] <;> rfl), by repeat (first | (with_reducible first | exact HB.out | apply below_alloc | apply pw_below_drewN | apply below_drew1) | exact HB.out)⟩
                      · rw [if_neg c58] at H
                        have c58b0 : (t887.toList == a1.toList) = false := beq_eq_false_iff_ne.mpr c58
                        have c58b1 : (t887.toList != a1.toList) = true := bne_iff_ne.mpr c58
                        obtain rfl := Option.some.inj H
                        go_wp2_with (first | ((with_reducible refine gate_callee (f := 14) rfl ?_); refine goesL_ (some 93) rfl rfl Tryd.func14 (by kernel_rfl) rfl #[] rfl (by (try simp only [List.map_toArray, List.map_cons, List.map_nil]); first | done | rfl | (simp only [List.length_drop, List.length_take]; rfl)) ?_; (with_reducible refine (cashbooklaw01_alive.calls kj37  true _ ?side1 A55.out).mono ?_); (case side1 => exact TabOK.below HT.out (by repeat (first | (with_reducible first | exact HB.out | apply below_alloc | apply pw_below_drewN | apply below_drew1) | exact HB.out))); rintro e w71 ⟨rfl, hb⟩; refine ⟨_, rfl, ?_⟩; have n0_ := Aside0.mk (Kd.V_below (by (with_reducible repeat (first | apply Kd.V_alloc | apply Kd.V_drewN | apply Kd.V_drew)); exact HO_11.out) hb); have n1_ := Aside0.mk (below_step (by repeat (first | (with_reducible first | exact HB.out | apply below_alloc | apply pw_below_drewN | apply below_drew1) | exact HB.out)) hb); clear HO_11; clear HB; have HO_11 := n0_; have HB := n1_; clear n0_ n1_; (try clear hb); (try clear hb2); (try clear hk); (try clear hi); obtain ⟨Ao72, co72, eo72⟩ := Kd.V_slice HO_11.out; subst eo72) | (go_at_call 28; (with_reducible refine (nat_Text.calls kj37 (fun k_ => True) _ _ t876 t887 _ ?side1 ?side2 A57.out).mono ?_); (case side1 => exact TabOK.below HT.out (by repeat (first | (with_reducible first | exact HB.out | apply below_alloc | apply pw_below_drewN | apply below_drew1) | exact HB.out))); (case side2 => exact HO_11.out); rintro e w73 ⟨rfl, hb⟩; have n0_ := Aside0.mk (Kd.V_below (by (with_reducible repeat (first | apply Kd.V_alloc | apply Kd.V_drewN | apply Kd.V_drew)); exact HO_11.out) hb); have n1_ := Aside0.mk (below_step (by repeat (first | (with_reducible first | exact HB.out | apply below_alloc | apply pw_below_drewN | apply below_drew1) | exact HB.out)) hb); clear HO_11; clear HB; have HO_11 := n0_; have HB := n1_; clear n0_ n1_; (try clear hb); (try clear hb2); (try clear hk); (try clear hi)))
                        go_ret
                        exact ⟨by first | rfl | (simp [errW_none, errW_some] <;> rfl) | (simp [*, errW_none, errW_some] <;> rfl), by repeat (first | (with_reducible first | exact HB.out | apply below_alloc | apply pw_below_drewN | apply below_drew1) | exact HB.out)⟩
                    · replace c56 := Bool.eq_false_iff.mpr c56
                      subst c56
                      have H1 : (some false) = some r := by rw [if_neg (show ¬ (false = true) by decide)] at H; exact H
                      clear H
                      have H := H1
                      clear H1
                      obtain rfl := Option.some.inj H
                      go_wp2_with (first | ((with_reducible refine gate_callee (f := 14) rfl ?_); refine goesL_ (some 93) rfl rfl Tryd.func14 (by kernel_rfl) rfl #[] rfl (by (try simp only [List.map_toArray, List.map_cons, List.map_nil]); first | done | rfl | (simp only [List.length_drop, List.length_take]; rfl)) ?_; (with_reducible refine (cashbooklaw01_alive.calls kj37  false _ ?side1 A55.out).mono ?_); (case side1 => exact TabOK.below HT.out (by repeat (first | (with_reducible first | exact HB.out | apply below_alloc | apply pw_below_drewN | apply below_drew1) | exact HB.out))); rintro e w74 ⟨rfl, hb⟩; refine ⟨_, rfl, ?_⟩; have n0_ := Aside0.mk (Kd.V_below (by (with_reducible repeat (first | apply Kd.V_alloc | apply Kd.V_drewN | apply Kd.V_drew)); exact HO_11.out) hb); have n1_ := Aside0.mk (below_step (by repeat (first | (with_reducible first | exact HB.out | apply below_alloc | apply pw_below_drewN | apply below_drew1) | exact HB.out)) hb); clear HO_11; clear HB; have HO_11 := n0_; have HB := n1_; clear n0_ n1_; (try clear hb); (try clear hb2); (try clear hk); (try clear hi)))
                      go_ret
                      exact ⟨by first | rfl | (simp [errW_none, errW_some] <;> rfl) | (simp [*, errW_none, errW_some] <;> rfl), by repeat (first | (with_reducible first | exact HB.out | apply below_alloc | apply pw_below_drewN | apply below_drew1) | exact HB.out)⟩

/-- THE ONE PURE STATEMENT of cashbooklaw01_NatBack: yours. -/
def cashbooklaw01_NatBack.Pure : Prop := ∀ (l0 : List Int) (a1 : ByteArray) (a2 : Int), l0.length ≤ maxLen → l0.length * 4 ≤ 140737488351232 → (∀ x ∈ l0, (Lit.int .u32 x).wf = true) → a1.size ≤ 140737488351232 → (Lit.int .u64 a2).wf = true → ∃ k, cashbooklaw01_NatBack.f k l0 a1 a2 = some true
theorem cashbooklaw01_NatBack.walk (P : cashbooklaw01_NatBack.Pure) (a0 : Option Addr) (len0 cap0 : Nat) (z0 : List Int) (a1 : ByteArray) (a2 : Int) (w : World) (hT : TabOK w) (w0 : (a0 = none ∧ len0 = 0 ∧ cap0 = 0 ∧ z0 = []) ∨ ∃ x, a0 = some x ∧ len0 ≤ cap0 ∧ cap0 ≤ maxLen ∧ z0.length = cap0 ∧ (∀ i, i < z0.length → w.cell? (x.add i) = some (.int .u32 (z0.getD i 0))) ∧ ∀ n ∈ z0, (Lit.int .u32 n).wf = true) (y0 : len0 * 4 ≤ 140737488351232) (w1 : a1.size ≤ 140737488351232) (w2 : (Lit.int .u64 a2).wf = true) :
    Calls Tryd.prog 12 #[.slice a0 len0 cap0, .string a1, .int .u64 a2] w fun e w' => e = .returned (.bool true) ∧ Below w.heap.size w w' := by
  obtain ⟨l0, rfl, hr0, hm0, hw0, hc0⟩ := ReadsInt.ofRowC w0
  obtain ⟨k, h⟩ := P l0 a1 a2 hm0 y0 hw0 w1 w2
  refine (cashbooklaw01_NatBack.calls k _ _ l0 a1 a2 true w hT (Kd.C_of_reads (d := (0 : Int)) (h1 := fun _ => rfl) hr0) hc0 h).mono ?_
  rintro e w' ⟨rfl, hd⟩
  exact ⟨rfl, hd⟩

end Go.Proofs.YtcidmdjhmhkmgaaDoor.S
