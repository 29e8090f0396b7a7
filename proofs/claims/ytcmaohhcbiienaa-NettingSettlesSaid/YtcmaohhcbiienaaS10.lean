-- Printed by pp.py (wip/pp), a program of this session's, over the kit's print; Lean checks it.
import Derived.Test.YtcmaohhcbiienaaS0
import Derived.Test.YtcmaohhcbiienaaS2
import Derived.Test.YtcmaohhcbiienaaS4
import Derived.Test.YtcmaohhcbiienaaS5
import Derived.Test.YtcmaohhcbiienaaS7
namespace Go.Proofs.Ytcmaohhcbiienaa.S
open Go.RowKit Go.Proofs.YtcmaohhcbiienaaW.PrintWords Go.Proofs.YtcmaohhcbiienaaW.PrintLast Go.Proofs.YtcmaohhcbiienaaW.PrintMore
attribute [local go_sem] max2_int min2_int max_two min_two max_three min_three max_four min_four   -- for this text's walks alone
set_option linter.unusedVariables false
set_option linter.unusedSimpArgs false

/-! ### cashbooklaw30_NettingSettles: function 4 -/
mutual
def cashbooklaw30_NettingSettles.j0 : Nat → List Int → List (S45) → Bool → Option (Bool)
  | 0, _, _, _ => none
  | k + 1, x7, x9, x51 => if x51 = true then (some false) else ((some (([] : List Int) : List Int)).bind fun y244 => (if y244.length + x7.length < 17592186044416 then (cashbooklaw30_NettingSettles.l0 k x7 x9 (y244 ++ x7) 0 x7 (x7.length : Int) 0) else (none)))
def cashbooklaw30_NettingSettles.l0 : Nat → List Int → List (S45) → List Int → Int → List Int → Int → Int → Option (Bool)
  | 0, _, _, _, _, _, _, _ => none
  | k + 1, x7, x9, x11, x12, x55, x56, x57 => if x57 < x56 then (if 0 ≤ x57 then (if x57 < (x55.length : Int) then (if (rd x55 x57) = 0 then (cashbooklaw30_NettingSettles.l0 k x7 x9 x11 x12 x55 x56 (wrap64 (x57 + 1))) else (cashbooklaw30_NettingSettles.l0 k x7 x9 x11 (wrap64 (x12 + 1)) x55 x56 (wrap64 (x57 + 1)))) else (none)) else (none)) else (cashbooklaw30_NettingSettles.l1 k x7 x9 x11 x12 x9 (x9.length : Int) 0)
def cashbooklaw30_NettingSettles.l1 : Nat → List Int → List (S45) → List Int → Int → List (S45) → Int → Int → Option (Bool)
  | 0, _, _, _, _, _, _, _ => none
  | k + 1, x7, x9, x11, x12, x66, x67, x68 => if x68 < x67 then (if 0 ≤ x68 then (if x68 < (x66.length : Int) then (if ((rd_T45 x66 x68).f0) < 0 then (some false) else (if ((rd_T45 x66 x68).f0) > 15 then (some false) else (if ((rd_T45 x66 x68).f1) < 0 then (some false) else (if ((rd_T45 x66 x68).f1) > 15 then (some false) else (if ((rd_T45 x66 x68).f2) < 1 then (some false) else (if 0 ≤ ((rd_T45 x66 x68).f0) then (if ((rd_T45 x66 x68).f0) < (x7.length : Int) then (if (rd x7 ((rd_T45 x66 x68).f0)) ≥ 0 then (some false) else (if 0 ≤ ((rd_T45 x66 x68).f1) then (if ((rd_T45 x66 x68).f1) < (x7.length : Int) then (if (rd x7 ((rd_T45 x66 x68).f1)) ≤ 0 then (some false) else (if ((rd_T45 x66 x68).f0) < (x11.length : Int) then ((some (x11.set (((rd_T45 x66 x68).f0) : Int).toNat (wrap64 ((rd x11 ((rd_T45 x66 x68).f0)) + ((rd_T45 x66 x68).f2))) : List Int)).bind fun y256 => (if ((rd_T45 x66 x68).f1) < (x11.length : Int) then (cashbooklaw30_NettingSettles.l1 k x7 x9 (y256.set (((rd_T45 x66 x68).f1) : Int).toNat (wrap64 ((rd y256 ((rd_T45 x66 x68).f1)) - ((rd_T45 x66 x68).f2)))) x12 x66 x67 (wrap64 (x68 + 1))) else (none))) else (none))) else (none)) else (none))) else (none)) else (none))))))) else (none)) else (none)) else (cashbooklaw30_NettingSettles.l2 k x9 x12 x11 (x11.length : Int) 0)
def cashbooklaw30_NettingSettles.l2 : Nat → List (S45) → Int → List Int → Int → Int → Option (Bool)
  | 0, _, _, _, _, _ => none
  | k + 1, x9, x12, x130, x131, x132 => if x132 < x131 then (if 0 ≤ x132 then (if x132 < (x130.length : Int) then (if (rd x130 x132) = 0 then (cashbooklaw30_NettingSettles.l2 k x9 x12 x130 x131 (wrap64 (x132 + 1))) else (some false)) else (none)) else (none)) else (if (x9.length : Int) = 0 then (if x12 = 0 then (some true) else (some (decide ((x9.length : Int) < x12)))) else (some (decide ((x9.length : Int) < x12))))
end
def cashbooklaw30_NettingSettles.f (k : Nat) (l0 : List (S58)) (a1 : Int) (a2 : Int) : Option (Bool) := (cashbooklaw30_few.f l0).bind fun t232 => ((netting_Net.f k t232 a1 a2).bind fun bt234 => (if bt234.2 = 0 then ((netting_Settle.f k bt234.1).bind fun bt239 => (if bt239.2 = 0 then (if (bt234.1.length : Int) = 16 then ((cashbooklaw30_alive.f k).bind fun t243 => (cashbooklaw30_NettingSettles.j0 k bt234.1 bt239.1 (!t243))) else (cashbooklaw30_NettingSettles.j0 k bt234.1 bt239.1 true)) else (cashbooklaw30_NettingSettles.j0 k bt234.1 bt239.1 true))) else ((cashbooklaw30_alive.f k).bind fun t238 => (if t238 = true then (some ((bt234.1.length : Int) == 0)) else (some false)))))
theorem cashbooklaw30_NettingSettles.mono_l : ∀ k, (∀ y0 y1 y2, LeO (cashbooklaw30_NettingSettles.j0 k y0 y1 y2) (cashbooklaw30_NettingSettles.j0 (k + 1) y0 y1 y2)) ∧ (∀ y0 y1 y2 y3 y4 y5 y6, LeO (cashbooklaw30_NettingSettles.l0 k y0 y1 y2 y3 y4 y5 y6) (cashbooklaw30_NettingSettles.l0 (k + 1) y0 y1 y2 y3 y4 y5 y6)) ∧ (∀ y0 y1 y2 y3 y4 y5 y6, LeO (cashbooklaw30_NettingSettles.l1 k y0 y1 y2 y3 y4 y5 y6) (cashbooklaw30_NettingSettles.l1 (k + 1) y0 y1 y2 y3 y4 y5 y6)) ∧ (∀ y0 y1 y2 y3 y4, LeO (cashbooklaw30_NettingSettles.l2 k y0 y1 y2 y3 y4) (cashbooklaw30_NettingSettles.l2 (k + 1) y0 y1 y2 y3 y4))
  | 0 => ⟨fun _ _ _ r h => by simp [cashbooklaw30_NettingSettles.j0] at h, fun _ _ _ _ _ _ _ r h => by simp [cashbooklaw30_NettingSettles.l0] at h, fun _ _ _ _ _ _ _ r h => by simp [cashbooklaw30_NettingSettles.l1] at h, fun _ _ _ _ _ r h => by simp [cashbooklaw30_NettingSettles.l2] at h⟩
  | k + 1 => by
    obtain ⟨ih0, ih1, ih2, ih3⟩ := cashbooklaw30_NettingSettles.mono_l k
    refine ⟨?_, ?_, ?_, ?_⟩
    · intro y0 y1 y2
      unfold cashbooklaw30_NettingSettles.j0
      repeat' first
      | (with_reducible exact ih0 _ _ _)
      | (with_reducible exact ih1 _ _ _ _ _ _ _)
      | (with_reducible exact ih2 _ _ _ _ _ _ _)
      | (with_reducible exact ih3 _ _ _ _ _)
      | (with_reducible exact cashbooklaw30_alive.mono _)
      | (with_reducible exact netting_Net.mono _ _ _ _)
      | (with_reducible exact netting_Settle.mono _ _)
      | (with_reducible exact LeO.refl _)
      | (with_reducible exact LeO.none _)
      | (with_reducible refine LeO.ite ?_ ?_)
      | (with_reducible refine LeO.bind ?_ (fun _ => ?_))
      | exact ih0 _ _ _
      | exact ih1 _ _ _ _ _ _ _
      | exact ih2 _ _ _ _ _ _ _
      | exact ih3 _ _ _ _ _
      | exact cashbooklaw30_alive.mono _
      | exact netting_Net.mono _ _ _ _
      | exact netting_Settle.mono _ _
      | exact LeO.none _
      | refine LeO.ite ?_ ?_
      | refine LeO.bind ?_ (fun _ => ?_)
    · intro y0 y1 y2 y3 y4 y5 y6
      unfold cashbooklaw30_NettingSettles.l0
      repeat' first
      | (with_reducible exact ih0 _ _ _)
      | (with_reducible exact ih1 _ _ _ _ _ _ _)
      | (with_reducible exact ih2 _ _ _ _ _ _ _)
      | (with_reducible exact ih3 _ _ _ _ _)
      | (with_reducible exact cashbooklaw30_alive.mono _)
      | (with_reducible exact netting_Net.mono _ _ _ _)
      | (with_reducible exact netting_Settle.mono _ _)
      | (with_reducible exact LeO.refl _)
      | (with_reducible exact LeO.none _)
      | (with_reducible refine LeO.ite ?_ ?_)
      | (with_reducible refine LeO.bind ?_ (fun _ => ?_))
      | exact ih0 _ _ _
      | exact ih1 _ _ _ _ _ _ _
      | exact ih2 _ _ _ _ _ _ _
      | exact ih3 _ _ _ _ _
      | exact cashbooklaw30_alive.mono _
      | exact netting_Net.mono _ _ _ _
      | exact netting_Settle.mono _ _
      | exact LeO.none _
      | refine LeO.ite ?_ ?_
      | refine LeO.bind ?_ (fun _ => ?_)
    · intro y0 y1 y2 y3 y4 y5 y6
      unfold cashbooklaw30_NettingSettles.l1
      repeat' first
      | (with_reducible exact ih0 _ _ _)
      | (with_reducible exact ih1 _ _ _ _ _ _ _)
      | (with_reducible exact ih2 _ _ _ _ _ _ _)
      | (with_reducible exact ih3 _ _ _ _ _)
      | (with_reducible exact cashbooklaw30_alive.mono _)
      | (with_reducible exact netting_Net.mono _ _ _ _)
      | (with_reducible exact netting_Settle.mono _ _)
      | (with_reducible exact LeO.refl _)
      | (with_reducible exact LeO.none _)
      | (with_reducible refine LeO.ite ?_ ?_)
      | (with_reducible refine LeO.bind ?_ (fun _ => ?_))
      | exact ih0 _ _ _
      | exact ih1 _ _ _ _ _ _ _
      | exact ih2 _ _ _ _ _ _ _
      | exact ih3 _ _ _ _ _
      | exact cashbooklaw30_alive.mono _
      | exact netting_Net.mono _ _ _ _
      | exact netting_Settle.mono _ _
      | exact LeO.none _
      | refine LeO.ite ?_ ?_
      | refine LeO.bind ?_ (fun _ => ?_)
    · intro y0 y1 y2 y3 y4
      unfold cashbooklaw30_NettingSettles.l2
      repeat' first
      | (with_reducible exact ih0 _ _ _)
      | (with_reducible exact ih1 _ _ _ _ _ _ _)
      | (with_reducible exact ih2 _ _ _ _ _ _ _)
      | (with_reducible exact ih3 _ _ _ _ _)
      | (with_reducible exact cashbooklaw30_alive.mono _)
      | (with_reducible exact netting_Net.mono _ _ _ _)
      | (with_reducible exact netting_Settle.mono _ _)
      | (with_reducible exact LeO.refl _)
      | (with_reducible exact LeO.none _)
      | (with_reducible refine LeO.ite ?_ ?_)
      | (with_reducible refine LeO.bind ?_ (fun _ => ?_))
      | exact ih0 _ _ _
      | exact ih1 _ _ _ _ _ _ _
      | exact ih2 _ _ _ _ _ _ _
      | exact ih3 _ _ _ _ _
      | exact cashbooklaw30_alive.mono _
      | exact netting_Net.mono _ _ _ _
      | exact netting_Settle.mono _ _
      | exact LeO.none _
      | refine LeO.ite ?_ ?_
      | refine LeO.bind ?_ (fun _ => ?_)
theorem cashbooklaw30_NettingSettles.mono : ∀ a0 a1 a2 k, LeO (cashbooklaw30_NettingSettles.f k a0 a1 a2) (cashbooklaw30_NettingSettles.f (k + 1) a0 a1 a2) := by
  intro a0 a1 a2 k
  obtain ⟨ih0, ih1, ih2, ih3⟩ := cashbooklaw30_NettingSettles.mono_l k
  unfold cashbooklaw30_NettingSettles.f
  repeat' first
      | (with_reducible exact ih0 _ _ _)
      | (with_reducible exact ih1 _ _ _ _ _ _ _)
      | (with_reducible exact ih2 _ _ _ _ _ _ _)
      | (with_reducible exact ih3 _ _ _ _ _)
      | (with_reducible exact cashbooklaw30_alive.mono _)
      | (with_reducible exact netting_Net.mono _ _ _ _)
      | (with_reducible exact netting_Settle.mono _ _)
      | (with_reducible exact LeO.refl _)
      | (with_reducible exact LeO.none _)
      | (with_reducible refine LeO.ite ?_ ?_)
      | (with_reducible refine LeO.bind ?_ (fun _ => ?_))
      | exact ih0 _ _ _
      | exact ih1 _ _ _ _ _ _ _
      | exact ih2 _ _ _ _ _ _ _
      | exact ih3 _ _ _ _ _
      | exact cashbooklaw30_alive.mono _
      | exact netting_Net.mono _ _ _ _
      | exact netting_Settle.mono _ _
      | exact LeO.none _
      | refine LeO.ite ?_ ?_
      | refine LeO.bind ?_ (fun _ => ?_)
def cashbooklaw30_NettingSettles.T21 : Bool × List (List Nat × List Nat) := (true, [([], []), ([], []), ([1], [1]), ([0, 2], [0, 2]), ([3], [3]), ([], []), ([5], [5]), ([4, 6], [4, 6]), ([0, 2, 0, 1, 2, 3, 4, 5, 6, 7], [0, 2]), ([8, 7, 0, 1, 2, 3, 4, 5, 6, 7], [7, 8])])
def cashbooklaw30_NettingSettles.B21 : List Nat := [0, 0, 2, 7, 15, 0, 32, 127, 255, 511]
theorem cashbooklaw30_NettingSettles.tab21 : rtab .any (opsOf Try.f4 21) = cashbooklaw30_NettingSettles.T21 := by kernel_rfl
theorem cashbooklaw30_NettingSettles.bits21 : waitsOk cashbooklaw30_NettingSettles.T21.2 cashbooklaw30_NettingSettles.B21 = true := by kernel_rfl
def cashbooklaw30_NettingSettles.T22 : Bool × List (List Nat × List Nat) := (true, [([], []), ([], []), ([1], [1]), ([0, 2], [0, 2]), ([3], [3]), ([], []), ([5], [5]), ([4, 6], [4, 6]), ([0, 2, 0, 1, 2, 3, 4, 5, 6, 7], [0, 2]), ([8, 7, 0, 1, 2, 3, 4, 5, 6, 7], [7, 8])])
def cashbooklaw30_NettingSettles.B22 : List Nat := [0, 0, 2, 7, 15, 0, 32, 127, 255, 511]
theorem cashbooklaw30_NettingSettles.tab22 : rtab .any (opsOf Try.f4 22) = cashbooklaw30_NettingSettles.T22 := by kernel_rfl
theorem cashbooklaw30_NettingSettles.bits22 : waitsOk cashbooklaw30_NettingSettles.T22.2 cashbooklaw30_NettingSettles.B22 = true := by kernel_rfl
set_option maxHeartbeats 8000000 in
set_option maxRecDepth 100000 in
theorem cashbooklaw30_NettingSettles.calls (k : Nat) (A0 : Option Addr) (c0 : Nat) (l0 : List (S58)) (a1 : Int) (a2 : Int) (r : Bool) (w : World) (hr0 : Kd.C k58 w A0 l0.length l0) (hc0 : l0.length ≤ c0) (h : cashbooklaw30_NettingSettles.f k l0 a1 a2 = some r) :
    Calls Try.prog 4 #[.slice A0 l0.length c0, .int .i64 a1, .int .i32 a2] w fun e w' => e = .returned (.bool r) ∧ Below w.heap.size w w' := by
  have hu45 := Try.underlying45
  have HR0 := Aside0.mk hr0
  have HC0 := Aside0.mk hc0
  clear hr0 hc0
  have HB := Aside0.mk (Below.refl w.heap.size w)
  have H : ((cashbooklaw30_few.f l0).bind fun t232 => ((netting_Net.f k t232 a1 a2).bind fun bt234 => (if bt234.2 = 0 then ((netting_Settle.f k bt234.1).bind fun bt239 => (if bt239.2 = 0 then (if (bt234.1.length : Int) = 16 then ((cashbooklaw30_alive.f k).bind fun t243 => (cashbooklaw30_NettingSettles.j0 k bt234.1 bt239.1 (!t243))) else (cashbooklaw30_NettingSettles.j0 k bt234.1 bt239.1 true)) else (cashbooklaw30_NettingSettles.j0 k bt234.1 bt239.1 true))) else ((cashbooklaw30_alive.f k).bind fun t238 => (if t238 = true then (some ((bt234.1.length : Int) == 0)) else (some false)))))) = some r := h
  clear h
  replace H := Option.bind_eq_some_iff.mp H
  obtain ⟨t232, A40, H⟩ := H
  replace H : ((netting_Net.f k t232 a1 a2).bind fun bt234 => (if bt234.2 = 0 then ((netting_Settle.f k bt234.1).bind fun bt239 => (if bt239.2 = 0 then (if (bt234.1.length : Int) = 16 then ((cashbooklaw30_alive.f k).bind fun t243 => (cashbooklaw30_NettingSettles.j0 k bt234.1 bt239.1 (!t243))) else (cashbooklaw30_NettingSettles.j0 k bt234.1 bt239.1 true)) else (cashbooklaw30_NettingSettles.j0 k bt234.1 bt239.1 true))) else ((cashbooklaw30_alive.f k).bind fun t238 => (if t238 = true then (some ((bt234.1.length : Int) == 0)) else (some false))))) = some r := H
  have A4 := Aside0.mk A40
  clear A40
  replace H := Option.bind_eq_some_iff.mp H
  obtain ⟨⟨t234, t235⟩, A50, H⟩ := H
  replace H : (if t235 = 0 then ((netting_Settle.f k t234).bind fun bt239 => (if bt239.2 = 0 then (if (t234.length : Int) = 16 then ((cashbooklaw30_alive.f k).bind fun t243 => (cashbooklaw30_NettingSettles.j0 k t234 bt239.1 (!t243))) else (cashbooklaw30_NettingSettles.j0 k t234 bt239.1 true)) else (cashbooklaw30_NettingSettles.j0 k t234 bt239.1 true))) else ((cashbooklaw30_alive.f k).bind fun t238 => (if t238 = true then (some ((t234.length : Int) == 0)) else (some false)))) = some r := H
  have A5 := Aside0.mk A50
  clear A50
  by_cases c6 : t235 = 0
  · rw [if_pos c6] at H
    have c6b0 : (t235 == 0) = true := beq_iff_eq.mpr c6
    have c6b1 : (t235 != 0) = false := bne_eq_false_iff_eq.mpr c6
    clear c6
    replace H := Option.bind_eq_some_iff.mp H
    obtain ⟨⟨t239, t240⟩, A70, H⟩ := H
    replace H : (if t240 = 0 then (if (t234.length : Int) = 16 then ((cashbooklaw30_alive.f k).bind fun t243 => (cashbooklaw30_NettingSettles.j0 k t234 t239 (!t243))) else (cashbooklaw30_NettingSettles.j0 k t234 t239 true)) else (cashbooklaw30_NettingSettles.j0 k t234 t239 true)) = some r := H
    have A7 := Aside0.mk A70
    clear A70
    have HC8 := Aside0.mk H
    clear H
    have HR233 := Aside0.mk (cashbooklaw30_few.reads HR0.out A4.out)
    have HC233 := Aside0.mk (cashbooklaw30_few.room HC0.out A4.out)
    go_enter Try.func4, Try.ntmps4
    go_upto_region 6 with (first | ((with_reducible refine gate_callee (f := 7) rfl ?_); refine goesL_ (some 20) rfl rfl Try.func7 (by kernel_rfl) rfl #[.slice A0 l0.length c0] rfl (by (try simp only [List.map_toArray, List.map_cons, List.map_nil]); first | done | rfl | (simp only [List.length_drop, List.length_take]; rfl)) ?_; (with_reducible refine (cashbooklaw30_few.calls _ _ l0 t232 _ ?side1 ?side2 A4.out).mono ?_); (case side1 => repeat (first | exact HR0.out | (with_reducible refine Kd.C_alloc ?_ _) | (with_reducible refine Kd.C_drewN ?_ _) | (with_reducible refine Kd.C_drew ?_))); (case side2 => exact HC0.out); rintro e w' ⟨rfl, ⟨nd, rfl⟩⟩; refine ⟨_, rfl, ?_⟩) | ((with_reducible refine gate_callee (f := 9) rfl ?_); refine goesL_ (some 25) rfl rfl Try.func9 (by kernel_rfl) rfl #[.slice A0 t232.length c0, .int .i64 a1, .int .i32 a2] rfl (by (try simp only [List.map_toArray, List.map_cons, List.map_nil]); first | done | rfl | (simp only [List.length_drop, List.length_take]; rfl)) ?_; (with_reducible refine (netting_Net.calls k _ _ t232 a1 a2 t234 t235 _ ?side1 ?side2 A5.out).mono ?_); (case side1 => repeat (first | exact HR233.out | (with_reducible refine Kd.C_alloc ?_ _) | (with_reducible refine Kd.C_drewN ?_ _) | (with_reducible refine Kd.C_drew ?_))); (case side2 => exact HC233.out); rintro e w9 ⟨v236, rfl, ho0, hb⟩; refine ⟨_, rfl, ?_⟩; have n0_ := Aside0.mk (Kd.R_lower ho0 (below_size (by repeat (first | (with_reducible first | exact HB.out | apply below_alloc | apply pw_below_drewN | apply below_drew1) | exact HB.out)))); have n1_ := Aside0.mk (below_step (by repeat (first | (with_reducible first | exact HB.out | apply below_alloc | apply pw_below_drewN | apply below_drew1) | exact HB.out)) hb); clear HB; have HO237 := n0_; have HB := n1_; clear n0_ n1_; (try clear hb); (try clear hb2); (try clear hk); (try clear hi); (try clear ho0); obtain ⟨Ao10, co10, eo10⟩ := Kd.R_slice HO237.out; subst eo10) | ((with_reducible refine gate_callee (f := 10) rfl ?_); refine goesL_ (some 38) rfl rfl Try.func10 (by kernel_rfl) rfl #[.slice Ao10 t234.length co10] rfl (by (try simp only [List.map_toArray, List.map_cons, List.map_nil]); first | done | rfl | (simp only [List.length_drop, List.length_take]; rfl)) ?_; (with_reducible refine (netting_Settle.calls k _ _ t234 t239 t240 _ ?side1 ?side2 A7.out).mono ?_); (case side1 => repeat (first | exact (Kd.R_reads' HO237.out).2.2 | (with_reducible refine Kd.C_alloc ?_ _) | (with_reducible refine Kd.C_drewN ?_ _) | (with_reducible refine Kd.C_drew ?_))); (case side2 => exact (Kd.R_reads' HO237.out).2.1); rintro e w11 ⟨v241, rfl, ho0, hb⟩; refine ⟨_, rfl, ?_⟩; have n0_ := Aside0.mk (Kd.R_below (by (with_reducible repeat (first | apply Kd.R_alloc | apply Kd.R_drewN | apply Kd.R_drew)); exact HO237.out) hb); have n1_ := Aside0.mk (Kd.R_lower ho0 (below_size (by repeat (first | (with_reducible first | exact HB.out | apply below_alloc | apply pw_below_drewN | apply below_drew1) | exact HB.out)))); have n2_ := Aside0.mk (below_step (by repeat (first | (with_reducible first | exact HB.out | apply below_alloc | apply pw_below_drewN | apply below_drew1) | exact HB.out)) hb); clear HO237; clear HB; have HO237 := n0_; have HO242 := n1_; have HB := n2_; clear n0_ n1_ n2_; (try clear hb); (try clear hb2); (try clear hk); (try clear hi); (try clear ho0)))
    (try simp only [Act.put, List.setIfInBounds_toArray, List.set_cons_zero, List.set_cons_succ])
    go_cut [51] (fun v51 wc => ∃ (kq : Nat) (x51_7 : Bool), v51 = .bool x51_7 ∧ Aside0 (cashbooklaw30_NettingSettles.j0 kq t234 t239 x51_7 = some r) ∧ Aside0 (kq ≤ k) ∧ Aside0 (Kd.R (Kd.int .i64) 2 wc w.heap.size (fun _ => True) (.slice Ao10 t234.length co10) t234) ∧ Aside0 (Kd.R k45 45 wc w.heap.size (fun _ => True) v241 t239) ∧ Aside0 (Below w.heap.size w wc))
    case first =>
      have H := HC8.out
      clear HC8
      by_cases c12 : t240 = 0
      · rw [if_pos c12] at H
        have c12b0 : (t240 == 0) = true := beq_iff_eq.mpr c12
        have c12b1 : (t240 != 0) = false := bne_eq_false_iff_eq.mpr c12
        clear c12
        (first | rw [c12b0] | (simp only [i64_w, i32_w]; rw [c12b0]) | skip)
        by_cases c13 : (t234.length : Int) = 16
        · rw [if_pos c13] at H
          have c13b0 : ((t234.length : Int) == 16) = true := beq_iff_eq.mpr c13
          have c13b1 : ((t234.length : Int) != 16) = false := bne_eq_false_iff_eq.mpr c13
          clear c13
          replace H := Option.bind_eq_some_iff.mp H
          obtain ⟨t243, A140, H⟩ := H
          replace H : (cashbooklaw30_NettingSettles.j0 k t234 t239 (!t243)) = some r := H
          have A14 := Aside0.mk A140
          clear A140
          have H' := Aside0.mk H
          clear H
          go_wp2_with (first | (go_at_call 13; (with_reducible refine (cashbooklaw30_alive.calls k  t243 _ A14.out).mono ?_); rintro e w15 ⟨rfl, hb⟩; have n0_ := Aside0.mk (Kd.R_below (by (with_reducible repeat (first | apply Kd.R_alloc | apply Kd.R_drewN | apply Kd.R_drew)); exact HO237.out) hb); have n1_ := Aside0.mk (Kd.R_below (by (with_reducible repeat (first | apply Kd.R_alloc | apply Kd.R_drewN | apply Kd.R_drew)); exact HO242.out) hb); have n2_ := Aside0.mk (below_step (by repeat (first | (with_reducible first | exact HB.out | apply below_alloc | apply pw_below_drewN | apply below_drew1) | exact HB.out)) hb); clear HO237; clear HO242; clear HB; have HO237 := n0_; have HO242 := n1_; have HB := n2_; clear n0_ n1_ n2_; (try clear hb); (try clear hb2); (try clear hk); (try clear hi)))
          go_meet
          case rel => exact ⟨_, (!t243), (by first | rfl | (simp; done) | (simp [*]; done)), H', ⟨by first | omega | exact Nat.le_refl _⟩, ⟨by (with_reducible repeat (first | apply Kd.R_alloc | apply Kd.R_drewN | apply Kd.R_drew)); exact HO237.out⟩, ⟨by (with_reducible repeat (first | apply Kd.R_alloc | apply Kd.R_drewN | apply Kd.R_drew)); exact HO242.out⟩, ⟨by repeat (first | (with_reducible first | exact HB.out | apply below_alloc | apply pw_below_drewN | apply below_drew1) | exact HB.out)⟩⟩
        · rw [if_neg c13] at H
          have c13b0 : ((t234.length : Int) == 16) = false := beq_eq_false_iff_ne.mpr c13
          have c13b1 : ((t234.length : Int) != 16) = true := bne_iff_ne.mpr c13
          have H' := Aside0.mk H
          clear H
          go_wp2
          go_meet
          case rel => exact ⟨_, (true), (by first | rfl | (simp; done) | (simp [*]; done)), H', ⟨by first | omega | exact Nat.le_refl _⟩, ⟨by (with_reducible repeat (first | apply Kd.R_alloc | apply Kd.R_drewN | apply Kd.R_drew)); exact HO237.out⟩, ⟨by (with_reducible repeat (first | apply Kd.R_alloc | apply Kd.R_drewN | apply Kd.R_drew)); exact HO242.out⟩, ⟨by repeat (first | (with_reducible first | exact HB.out | apply below_alloc | apply pw_below_drewN | apply below_drew1) | exact HB.out)⟩⟩
      · rw [if_neg c12] at H
        have c12b0 : (t240 == 0) = false := beq_eq_false_iff_ne.mpr c12
        have c12b1 : (t240 != 0) = true := bne_iff_ne.mpr c12
        (first | rw [c12b0] | (simp only [i64_w, i32_w]; rw [c12b0]) | skip)
        have H' := Aside0.mk H
        clear H
        go_wp2
        go_meet
        case rel => exact ⟨_, (true), (by first | rfl | (simp; done) | (simp [*]; done)), H', ⟨by first | omega | exact Nat.le_refl _⟩, ⟨by (with_reducible repeat (first | apply Kd.R_alloc | apply Kd.R_drewN | apply Kd.R_drew)); exact HO237.out⟩, ⟨by (with_reducible repeat (first | apply Kd.R_alloc | apply Kd.R_drewN | apply Kd.R_drew)); exact HO242.out⟩, ⟨by repeat (first | (with_reducible first | exact HB.out | apply below_alloc | apply pw_below_drewN | apply below_drew1) | exact HB.out)⟩⟩
    case rest =>
      clear HC8
      try clear c1
      try clear p2
      try clear c4
      try clear c6
      try clear c6b0
      try clear c6b1
      try clear c7
      try clear c9
      try clear c10
      try clear c12
      try clear c12b0
      try clear c12b1
      try clear c13
      try clear c13b0
      try clear c13b1
      obtain ⟨kq, x51_7, rfl, HA, HJ7, HO_7, HO_9, HB⟩ := hcut
      cases kq with
      | zero => exact absurd HA.out (by simp [cashbooklaw30_NettingSettles.j0])
      | succ kj7 =>
        have H := HA.out
        clear HA
        simp only [cashbooklaw30_NettingSettles.j0] at H
        by_cases c16 : x51_7 = true
        · subst c16
          have H1 : (some false) = some r := by rw [if_pos rfl] at H; exact H
          clear H
          have H := H1
          clear H1
          obtain rfl := Option.some.inj H
          go_wp2
          go_ret
          exact ⟨by first | rfl | (simp [errW_none, errW_some] <;> rfl) | (simp [*, errW_none, errW_some] <;> rfl), by repeat (first | (with_reducible first | exact HB.out | apply below_alloc | apply pw_below_drewN | apply below_drew1) | exact HB.out)⟩
        · replace c16 := Bool.eq_false_iff.mpr c16
          subst c16
          have H1 : ((some (([] : List Int) : List Int)).bind fun y244 => (if y244.length + t234.length < 17592186044416 then (cashbooklaw30_NettingSettles.l0 kj7 t234 t239 (y244 ++ t234) 0 t234 (t234.length : Int) 0) else (none))) = some r := by rw [if_neg (show ¬ (false = true) by decide)] at H; exact H
          clear H
          have H := H1
          clear H1
          obtain ⟨y244, hy244⟩ : ∃ y_ : List Int, y_ = (([] : List Int)) := ⟨_, rfl⟩
          replace H : (if y244.length + t234.length < 17592186044416 then (cashbooklaw30_NettingSettles.l0 kj7 t234 t239 (y244 ++ t234) 0 t234 (t234.length : Int) 0) else (none)) = some r := by first | (rw [hy244]; with_reducible exact H) | (have H2_ := (Option.bind_some _ _).symm.trans H; rw [hy244]; with_reducible exact H2_) | (have H2_ := (Option.bind_some _ _).symm.trans H; with_reducible exact H2_) | with_reducible exact H | (rw [hy244]; exact H) | exact H
          have Ny244 := Aside0.mk hy244
          clear hy244
          by_cases c17 : y244.length + t234.length < 17592186044416
          · rw [if_pos c17] at H
            have LMc17 := Aside0.mk c17
            clear c17
            obtain ⟨y247, hy247⟩ : ∃ y_ : List Int, y_ = (y244 ++ t234) := ⟨_, rfl⟩
            replace H : (cashbooklaw30_NettingSettles.l0 kj7 t234 t239 y247 0 t234 (t234.length : Int) 0) = some r := by first | (rw [hy247]; with_reducible exact H) | (have H2_ := (Option.bind_some _ _).symm.trans H; rw [hy247]; with_reducible exact H2_) | (have H2_ := (Option.bind_some _ _).symm.trans H; with_reducible exact H2_) | with_reducible exact H | (rw [hy247]; exact H) | exact H
            have Ny247 := Aside0.mk hy247
            clear hy247
            have H' := Aside0.mk H
            clear H
            go_wp2_with (first | ((with_reducible refine gate_dst (N := 52) rfl ?_); (try (refine gate_guard (by rfl) ?_; dsimp only)); refine Kd.R_lit (Kd.int .i64) _ 2 ?hg (N := 52) ?hd (xs := ([] : List Int)) (inner := []) (ok := fun _ => True) (okp := fun _ => True) ?hr ?hp (fun _ hk => hk) trivial (Below.refl _ _) (Nat.le_refl _) (by simp) ?_; (case hd => rfl); (case hg => rfl); (case hr => first | (go_simp; done) | (go_simp; rfl)); (case hp => exact (Reps.none _ _)); intro v245 w18 ho19 hb hg_ hnew_; clear hg_ hnew_; (first | rw [← Ny244.out] at ho19 | (simp only [Int.reduceToNat] at ho19; rw [← Ny244.out] at ho19)); have n0_ := Aside0.mk (Kd.R_elder' (by (with_reducible repeat (first | apply Kd.R_alloc | apply Kd.R_drewN | apply Kd.R_drew)); exact HO_7.out) (Kd.R_base ho19) hb); have n1_ := Aside0.mk (Kd.R_below (by (with_reducible repeat (first | apply Kd.R_alloc | apply Kd.R_drewN | apply Kd.R_drew)); exact HO_9.out) hb); have n2_ := Aside0.mk (Kd.R_lower (Kd.R_new' ho19 (Kd.R_lt (by (with_reducible repeat (first | apply Kd.R_alloc | apply Kd.R_drewN | apply Kd.R_drew)); exact HO_7.out))) (below_size (by repeat (first | (with_reducible first | exact HB.out | apply below_alloc | apply pw_below_drewN | apply below_drew1) | exact HB.out)))); have n3_ := Aside0.mk (below_step (by repeat (first | (with_reducible first | exact HB.out | apply below_alloc | apply pw_below_drewN | apply below_drew1) | exact HB.out)) hb); clear HO_7; clear HO_9; clear HB; have HO_7 := n0_; have HO_9 := n1_; have HO246 := n2_; have HB := n3_; clear n0_ n1_ n2_ n3_; clear hb ho19) | ((with_reducible refine gate_builtin (b := .append) (xs := #[.tmp 52, .tmp 53]) rfl ?_); (try (refine gate_guard (by rfl) ?_; dsimp only)); at_builtin; refine Kd.R_append_rows (Kd.int .i64) (w0 := w) w.heap.size rfl (.tmp 52) (.tmp 53) 25 2 (.int .i64 0) 8 rfl Try.underlying25 info2 rfl (by decide) (by omega) v245 y244 t234 _ _ _ (fun k_ => some k_ ≠ (.slice Ao10 t234.length co10 : Value).ownBlock) (fun _ => False) rfl rfl ?aO ?aR (fun _ _ h => h) (fun _ h => h.elim) ?aF ?aB ?aS ?aL ?_; (case aR => repeat (first | exact (Kd.R_reads' HO_7.out).2.2 | (with_reducible refine Kd.C_alloc ?_ _) | (with_reducible refine Kd.C_drewN ?_ _) | (with_reducible refine Kd.C_drew ?_))); (case aB => exact (by repeat (first | (with_reducible first | exact HB.out | apply below_alloc | apply pw_below_drewN | apply below_drew1) | exact HB.out))); (case aF => exact (fun k_ hk => Kd.fresh' (Kd.R_lt (by (with_reducible repeat (first | apply Kd.R_alloc | apply Kd.R_drewN | apply Kd.R_drew)); exact HO_7.out)) k_ hk)); (case aO => exact (by (with_reducible repeat (first | apply Kd.R_alloc | apply Kd.R_drewN | apply Kd.R_drew)); exact Kd.R_mono HO246.out (fun _ hk => hk.2))); (case aS => exact (below_size (by repeat (first | (with_reducible first | exact HB.out | apply below_alloc | apply pw_below_drewN | apply below_drew1) | exact HB.out)))); (case aL => have := LMc17.out; omega); intro v248 w20 ho hb hg hat; rw [← Ny247.out] at ho; have n0_ := Aside0.mk (Kd.R_after (ok := (fun _ => True)) (by (with_reducible repeat (first | apply Kd.R_alloc | apply Kd.R_drewN | apply Kd.R_drew)); exact HO_7.out) hg hat); have n1_ := Aside0.mk (Kd.R_over' (by (with_reducible repeat (first | apply Kd.R_alloc | apply Kd.R_drewN | apply Kd.R_drew)); exact HO_9.out) (Kd.R_typed (by (with_reducible repeat (first | apply Kd.R_alloc | apply Kd.R_drewN | apply Kd.R_drew)); exact HO246.out)) (by decide) hg); have n2_ := Aside0.mk (hb); have n3_ := Aside0.mk (ho); clear HO_7; clear HO_9; clear HB; clear HO246; have HO_7 := n0_; have HO_9 := n1_; have HB := n2_; have HO249 := n3_; clear n0_ n1_ n2_ n3_; clear ho hb hg hat))
            go_loopg [12, 57] kj7 (fun kq v12 v57 w' => ∃ (x12_2 : Int) (x57_2 : Int), v12 = .int .i64 x12_2 ∧ v57 = .int .i64 x57_2 ∧ Aside0 (cashbooklaw30_NettingSettles.l0 kq t234 t239 y247 x12_2 t234 (t234.length : Int) x57_2 = some r) ∧ Aside0 (kq ≤ kj7) ∧ Aside0 (Kd.R (Kd.int .i64) 2 w' w.heap.size (fun k_ => some k_ ≠ (v248 : Value).ownBlock) (.slice Ao10 t234.length co10) t234) ∧ Aside0 (Kd.R k45 45 w' w.heap.size (fun _ => True) v241 t239) ∧ Aside0 (Kd.R (Kd.int .i64) 2 w' w.heap.size (fun k_ => some k_ ≠ ((.slice Ao10 t234.length co10) : Value).ownBlock ∧ some k_ ≠ ((.slice Ao10 t234.length co10) : Value).ownBlock) v248 y247) ∧ Aside0 (Kd.R (Kd.int .i64) 2 w' w.heap.size (fun k_ => some k_ ≠ (v248 : Value).ownBlock) (.slice Ao10 t234.length co10) t234) ∧ Aside0 (Below w.heap.size w w'))
            case atStart => exact ⟨(0), (0), (by first | rfl | (simp; done) | (simp [*]; done)), (by first | rfl | (simp; done) | (simp [*]; done)), H', ⟨Nat.le_refl _⟩, ⟨by (with_reducible repeat (first | apply Kd.R_alloc | apply Kd.R_drewN | apply Kd.R_drew)); exact Kd.R_mono HO_7.out (fun _ hk => hk.2)⟩, ⟨by (with_reducible repeat (first | apply Kd.R_alloc | apply Kd.R_drewN | apply Kd.R_drew)); exact HO_9.out⟩, ⟨by (with_reducible repeat (first | apply Kd.R_alloc | apply Kd.R_drewN | apply Kd.R_drew)); exact Kd.R_mono HO249.out (fun _ hk => ⟨hk, hk⟩)⟩, ⟨by (with_reducible repeat (first | apply Kd.R_alloc | apply Kd.R_drewN | apply Kd.R_drew)); exact Kd.R_mono HO_7.out (fun _ hk => hk.2)⟩, ⟨by repeat (first | (with_reducible first | exact HB.out | apply below_alloc | apply pw_below_drewN | apply below_drew1) | exact HB.out)⟩⟩
            case round =>
              clear H'
              try clear c1
              try clear p2
              try clear c4
              try clear c6
              try clear c6b0
              try clear c6b1
              try clear c7
              try clear c9
              try clear c10
              try clear c12
              try clear c12b0
              try clear c12b1
              try clear c13
              try clear c13b0
              try clear c13b1
              try clear c16
              try clear c17
              try clear p2
              obtain ⟨x12_2, x57_2, rfl, rfl, HA, HK2, HO_7, HO_9, HO_11, HO_55, HB⟩ := hrel
              cases gk with
              | zero => exact absurd HA.out (by simp [cashbooklaw30_NettingSettles.l0])
              | succ k2 =>
                have H := HA.out
                clear HA
                simp only [cashbooklaw30_NettingSettles.l0] at H
                by_cases c21 : x57_2 < (t234.length : Int)
                · rw [if_pos c21] at H
                  have c21b0 : decide (x57_2 < (t234.length : Int)) = true := decide_eq_true c21
                  clear c21
                  by_cases c22 : 0 ≤ x57_2
                  · rw [if_pos c22] at H
                    have c22b0 : decide (0 ≤ x57_2) = true := decide_eq_true c22
                    clear c22
                    by_cases c23 : x57_2 < (t234.length : Int)
                    · rw [if_pos c23] at H
                      have c23b0 : decide (x57_2 < (t234.length : Int)) = true := decide_eq_true c23
                      clear c23
                      by_cases c24 : (rd t234 x57_2) = 0
                      · rw [if_pos c24] at H
                        have c24b0 : ((rd t234 x57_2) == 0) = true := beq_iff_eq.mpr c24
                        have c24b1 : ((rd t234 x57_2) != 0) = false := bne_eq_false_iff_eq.mpr c24
                        clear c24
                        have H' := Aside0.mk H
                        clear H
                        have p250 : 0 ≤ (x57_2 : Int) := of_decide_eq_true (by first | (with_reducible assumption) | assumption)
                        have q250 : x57_2 < (t234.length : Int) := of_decide_eq_true (by first | (with_reducible assumption) | assumption)
                        obtain ⟨ad250, e250, hx250_0⟩ := Kd.at_int (Kd.R_reads' HO_55.out).2.2 x57_2 p250 q250
                        cases e250
                        replace p250 := eq_true p250
                        replace q250 := eq_true q250
                        go_wp2
                        go_roundg k2
                        case measure => have := HJ7.out; have := HK2.out; omega
                        case rel => exact ⟨(x12_2), (wrap64 (x57_2 + 1)), (by first | rfl | (simp; done) | (simp [*]; done)), (by first | rfl | (simp; done) | (simp [*]; done)), H', ⟨by have := HJ7.out; have := HK2.out; omega⟩, ⟨by (with_reducible repeat (first | apply Kd.R_alloc | apply Kd.R_drewN | apply Kd.R_drew)); exact HO_7.out⟩, ⟨by (with_reducible repeat (first | apply Kd.R_alloc | apply Kd.R_drewN | apply Kd.R_drew)); exact HO_9.out⟩, ⟨by (with_reducible repeat (first | apply Kd.R_alloc | apply Kd.R_drewN | apply Kd.R_drew)); exact HO_11.out⟩, ⟨by (with_reducible repeat (first | apply Kd.R_alloc | apply Kd.R_drewN | apply Kd.R_drew)); exact HO_55.out⟩, ⟨by repeat (first | (with_reducible first | exact HB.out | apply below_alloc | apply pw_below_drewN | apply below_drew1) | exact HB.out)⟩⟩
                      · rw [if_neg c24] at H
                        have c24b0 : ((rd t234 x57_2) == 0) = false := beq_eq_false_iff_ne.mpr c24
                        have c24b1 : ((rd t234 x57_2) != 0) = true := bne_iff_ne.mpr c24
                        have H' := Aside0.mk H
                        clear H
                        have p250 : 0 ≤ (x57_2 : Int) := of_decide_eq_true (by first | (with_reducible assumption) | assumption)
                        have q250 : x57_2 < (t234.length : Int) := of_decide_eq_true (by first | (with_reducible assumption) | assumption)
                        obtain ⟨ad250, e250, hx250_0⟩ := Kd.at_int (Kd.R_reads' HO_55.out).2.2 x57_2 p250 q250
                        cases e250
                        replace p250 := eq_true p250
                        replace q250 := eq_true q250
                        go_wp2
                        go_roundg k2
                        case measure => have := HJ7.out; have := HK2.out; omega
                        case rel => exact ⟨(wrap64 (x12_2 + 1)), (wrap64 (x57_2 + 1)), (by first | rfl | (simp; done) | (simp [*]; done)), (by first | rfl | (simp; done) | (simp [*]; done)), H', ⟨by have := HJ7.out; have := HK2.out; omega⟩, ⟨by (with_reducible repeat (first | apply Kd.R_alloc | apply Kd.R_drewN | apply Kd.R_drew)); exact HO_7.out⟩, ⟨by (with_reducible repeat (first | apply Kd.R_alloc | apply Kd.R_drewN | apply Kd.R_drew)); exact HO_9.out⟩, ⟨by (with_reducible repeat (first | apply Kd.R_alloc | apply Kd.R_drewN | apply Kd.R_drew)); exact HO_11.out⟩, ⟨by (with_reducible repeat (first | apply Kd.R_alloc | apply Kd.R_drewN | apply Kd.R_drew)); exact HO_55.out⟩, ⟨by repeat (first | (with_reducible first | exact HB.out | apply below_alloc | apply pw_below_drewN | apply below_drew1) | exact HB.out)⟩⟩
                    · rw [if_neg c23] at H
                      exact absurd H (by simp)
                  · rw [if_neg c22] at H
                    exact absurd H (by simp)
                · rw [if_neg c21] at H
                  have c21b0 : decide (x57_2 < (t234.length : Int)) = false := decide_eq_false c21
                  clear c21
                  have H' := Aside0.mk H
                  clear H
                  obtain ⟨Ao25, co25, eo25⟩ := Kd.R_slice HO_9.out
                  subst eo25
                  go_wp2
                  go_loopg [68] k2 (fun kq v68 w' => ∃ (x11_3 : List Int) (x68_3 : Int), v68 = .int .i64 x68_3 ∧ Aside0 (cashbooklaw30_NettingSettles.l1 kq t234 t239 x11_3 x12_2 t239 (t239.length : Int) x68_3 = some r) ∧ Aside0 (kq ≤ k2) ∧ Aside0 (Kd.R (Kd.int .i64) 2 w' w.heap.size (fun k_ => some k_ ≠ (v248 : Value).ownBlock) (.slice Ao10 t234.length co10) t234) ∧ Aside0 (Kd.R k45 45 w' w.heap.size (fun _ => True) (.slice Ao25 t239.length co25) t239) ∧ Aside0 (Kd.R (Kd.int .i64) 2 w' w.heap.size (fun k_ => some k_ ≠ ((.slice Ao10 t234.length co10) : Value).ownBlock) v248 x11_3) ∧ Aside0 (Kd.R k45 45 w' w.heap.size (fun _ => True) (.slice Ao25 t239.length co25) t239) ∧ Aside0 (Below w.heap.size w w'))
                  case atStart => exact ⟨(y247), (0), (by first | rfl | (simp; done) | (simp [*]; done)), H', ⟨Nat.le_refl _⟩, ⟨by (with_reducible repeat (first | apply Kd.R_alloc | apply Kd.R_drewN | apply Kd.R_drew)); exact HO_7.out⟩, ⟨by (with_reducible repeat (first | apply Kd.R_alloc | apply Kd.R_drewN | apply Kd.R_drew)); exact HO_9.out⟩, ⟨by (with_reducible repeat (first | apply Kd.R_alloc | apply Kd.R_drewN | apply Kd.R_drew)); exact Kd.R_mono HO_11.out (fun _ hk => hk.1)⟩, ⟨by (with_reducible repeat (first | apply Kd.R_alloc | apply Kd.R_drewN | apply Kd.R_drew)); exact HO_9.out⟩, ⟨by repeat (first | (with_reducible first | exact HB.out | apply below_alloc | apply pw_below_drewN | apply below_drew1) | exact HB.out)⟩⟩
                  case round =>
                    clear H'
                    try clear c1
                    try clear c2
                    try clear p2
                    try clear q2
                    try clear hx2
                    try clear c4
                    try clear c6
                    try clear c6b0
                    try clear c6b1
                    try clear p6
                    try clear c7
                    try clear c9
                    try clear c10
                    try clear c12
                    try clear c12b0
                    try clear c12b1
                    try clear c13
                    try clear c13b0
                    try clear c13b1
                    try clear c16
                    try clear c17
                    try clear c21
                    try clear c21b0
                    try clear c22
                    try clear c22b0
                    try clear c23
                    try clear c23b0
                    try clear c24
                    try clear c24b0
                    try clear c24b1
                    try clear p25
                    try clear q25
                    try clear hx25
                    try clear hx250_0
                    try clear p2
                    try clear p250
                    try clear q250
                    obtain ⟨x11_3, x68_3, rfl, HA, HK3, HO_7, HO_9, HO_11, HO_66, HB⟩ := hrel
                    cases gk with
                    | zero => exact absurd HA.out (by simp [cashbooklaw30_NettingSettles.l1])
                    | succ k3 =>
                      have H := HA.out
                      clear HA
                      simp only [cashbooklaw30_NettingSettles.l1] at H
                      by_cases c26 : x68_3 < (t239.length : Int)
                      · rw [if_pos c26] at H
                        have c26b0 : decide (x68_3 < (t239.length : Int)) = true := decide_eq_true c26
                        clear c26
                        by_cases c27 : 0 ≤ x68_3
                        · rw [if_pos c27] at H
                          have c27b0 : decide (0 ≤ x68_3) = true := decide_eq_true c27
                          clear c27
                          by_cases c28 : x68_3 < (t239.length : Int)
                          · rw [if_pos c28] at H
                            have c28b0 : decide (x68_3 < (t239.length : Int)) = true := decide_eq_true c28
                            clear c28
                            by_cases c29 : ((rd_T45 t239 x68_3).f0) < 0
                            · rw [if_pos c29] at H
                              have c29b0 : decide (((rd_T45 t239 x68_3).f0) < 0) = true := decide_eq_true c29
                              clear c29
                              obtain rfl := Option.some.inj H
                              have p251 : 0 ≤ (x68_3 : Int) := of_decide_eq_true (by first | (with_reducible assumption) | assumption)
                              have q251 : x68_3 < (t239.length : Int) := of_decide_eq_true (by first | (with_reducible assumption) | assumption)
                              obtain ⟨ad251, e251, hx251_0, hx251_1, hx251_2⟩ := at_T45 (Kd.R_reads' HO_66.out).2.2 x68_3 p251 q251
                              cases e251
                              replace p251 := eq_true p251
                              replace q251 := eq_true q251
                              go_wp2_with (first | ((with_reducible refine gate_dst (N := 16) rfl ?_); (try (refine gate_guard (by rfl) ?_; dsimp only)); refine box_event ?hg (N := 16) ?hd (cs := #[.int .i64 0, .int .i64 0, .int .i64 0]) (t := 45) ?hr ?_; (case hd => rfl); (case hg => rfl); (case hr => first | (go_simp; done) | (go_simp; rfl)); intro gb252 hg w30 hbox hb; have n0_ := Aside0.mk (Kd.R_below (by (with_reducible repeat (first | apply Kd.R_alloc | apply Kd.R_drewN | apply Kd.R_drew)); exact HO_7.out) hb); have n1_ := Aside0.mk (Kd.R_below (Kd.R_elderB (by (with_reducible repeat (first | apply Kd.R_alloc | apply Kd.R_drewN | apply Kd.R_drew)); exact HO_9.out) gb252 (Nat.le_of_eq hg.symm)) hb); have n2_ := Aside0.mk (Kd.R_below (by (with_reducible repeat (first | apply Kd.R_alloc | apply Kd.R_drewN | apply Kd.R_drew)); exact HO_11.out) hb); have n3_ := Aside0.mk (Kd.R_below (Kd.R_elderB (by (with_reducible repeat (first | apply Kd.R_alloc | apply Kd.R_drewN | apply Kd.R_drew)); exact HO_66.out) gb252 (Nat.le_of_eq hg.symm)) hb); have n4_ := Aside0.mk (below_step (by repeat (first | (with_reducible first | exact HB.out | apply below_alloc | apply pw_below_drewN | apply below_drew1) | exact HB.out)) hb); have n5_ := Aside0.mk (hbox); have n6_ := Aside0.mk ((by rw [hg]; exact (below_size (by repeat (first | (with_reducible first | exact HB.out | apply below_alloc | apply pw_below_drewN | apply below_drew1) | exact HB.out))) : w.heap.size ≤ gb252)); have n7_ := Aside0.mk ((by rw [hg]; exact (below_size (by repeat (first | (with_reducible first | exact HB.out | apply below_alloc | apply pw_below_drewN | apply below_drew1) | exact HB.out))) : w.heap.size ≤ gb252)); clear HO_7; clear HO_9; clear HO_11; clear HO_66; clear HB; have HO_7 := n0_; have HO_9 := n1_; have HO_11 := n2_; have HO_66 := n3_; have HB := n4_; have BK252 := n5_; have GW252 := n6_; have GE252 := n7_; clear n0_ n1_ n2_ n3_ n4_ n5_ n6_ n7_; clear hb hbox hg; have hcz31_0 : w30.cell? ⟨gb252, 0, none⟩ = some (.int .i64 0) := (blk_cell BK252.out 0).trans rfl; have hcz31_1 : w30.cell? ⟨gb252, 1, none⟩ = some (.int .i64 0) := (blk_cell BK252.out 1).trans rfl; have hcz31_2 : w30.cell? ⟨gb252, 2, none⟩ = some (.int .i64 0) := (blk_cell BK252.out 2).trans rfl; have hfz31_0 := blk_frozen BK252.out 0; have hfz31_1 := blk_frozen BK252.out 1; have hfz31_2 := blk_frozen BK252.out 2))
                              go_ret
                              exact ⟨by first | rfl | (simp [errW_none, errW_some] <;> rfl) | (simp [*, errW_none, errW_some] <;> rfl), by repeat (first | (with_reducible first | exact HB.out | apply below_alloc | apply pw_below_drewN | apply below_drew1 | refine below_set ?_ GE252.out) | exact HB.out)⟩
                            · rw [if_neg c29] at H
                              have c29b0 : decide (((rd_T45 t239 x68_3).f0) < 0) = false := decide_eq_false c29
                              clear c29
                              by_cases c32 : ((rd_T45 t239 x68_3).f0) > 15
                              · rw [if_pos c32] at H
                                have c32b0 : decide (15 < ((rd_T45 t239 x68_3).f0)) = true := decide_eq_true c32
                                clear c32
                                obtain rfl := Option.some.inj H
                                have p251 : 0 ≤ (x68_3 : Int) := of_decide_eq_true (by first | (with_reducible assumption) | assumption)
                                have q251 : x68_3 < (t239.length : Int) := of_decide_eq_true (by first | (with_reducible assumption) | assumption)
                                obtain ⟨ad251, e251, hx251_0, hx251_1, hx251_2⟩ := at_T45 (Kd.R_reads' HO_66.out).2.2 x68_3 p251 q251
                                cases e251
                                replace p251 := eq_true p251
                                replace q251 := eq_true q251
                                go_wp2_with (first | ((with_reducible refine gate_dst (N := 16) rfl ?_); (try (refine gate_guard (by rfl) ?_; dsimp only)); refine box_event ?hg (N := 16) ?hd (cs := #[.int .i64 0, .int .i64 0, .int .i64 0]) (t := 45) ?hr ?_; (case hd => rfl); (case hg => rfl); (case hr => first | (go_simp; done) | (go_simp; rfl)); intro gb252 hg w33 hbox hb; have n0_ := Aside0.mk (Kd.R_below (by (with_reducible repeat (first | apply Kd.R_alloc | apply Kd.R_drewN | apply Kd.R_drew)); exact HO_7.out) hb); have n1_ := Aside0.mk (Kd.R_below (Kd.R_elderB (by (with_reducible repeat (first | apply Kd.R_alloc | apply Kd.R_drewN | apply Kd.R_drew)); exact HO_9.out) gb252 (Nat.le_of_eq hg.symm)) hb); have n2_ := Aside0.mk (Kd.R_below (by (with_reducible repeat (first | apply Kd.R_alloc | apply Kd.R_drewN | apply Kd.R_drew)); exact HO_11.out) hb); have n3_ := Aside0.mk (Kd.R_below (Kd.R_elderB (by (with_reducible repeat (first | apply Kd.R_alloc | apply Kd.R_drewN | apply Kd.R_drew)); exact HO_66.out) gb252 (Nat.le_of_eq hg.symm)) hb); have n4_ := Aside0.mk (below_step (by repeat (first | (with_reducible first | exact HB.out | apply below_alloc | apply pw_below_drewN | apply below_drew1) | exact HB.out)) hb); have n5_ := Aside0.mk (hbox); have n6_ := Aside0.mk ((by rw [hg]; exact (below_size (by repeat (first | (with_reducible first | exact HB.out | apply below_alloc | apply pw_below_drewN | apply below_drew1) | exact HB.out))) : w.heap.size ≤ gb252)); have n7_ := Aside0.mk ((by rw [hg]; exact (below_size (by repeat (first | (with_reducible first | exact HB.out | apply below_alloc | apply pw_below_drewN | apply below_drew1) | exact HB.out))) : w.heap.size ≤ gb252)); clear HO_7; clear HO_9; clear HO_11; clear HO_66; clear HB; have HO_7 := n0_; have HO_9 := n1_; have HO_11 := n2_; have HO_66 := n3_; have HB := n4_; have BK252 := n5_; have GW252 := n6_; have GE252 := n7_; clear n0_ n1_ n2_ n3_ n4_ n5_ n6_ n7_; clear hb hbox hg; have hcz34_0 : w33.cell? ⟨gb252, 0, none⟩ = some (.int .i64 0) := (blk_cell BK252.out 0).trans rfl; have hcz34_1 : w33.cell? ⟨gb252, 1, none⟩ = some (.int .i64 0) := (blk_cell BK252.out 1).trans rfl; have hcz34_2 : w33.cell? ⟨gb252, 2, none⟩ = some (.int .i64 0) := (blk_cell BK252.out 2).trans rfl; have hfz34_0 := blk_frozen BK252.out 0; have hfz34_1 := blk_frozen BK252.out 1; have hfz34_2 := blk_frozen BK252.out 2))
                                go_ret
                                exact ⟨by first | rfl | (simp [errW_none, errW_some] <;> rfl) | (simp [*, errW_none, errW_some] <;> rfl), by repeat (first | (with_reducible first | exact HB.out | apply below_alloc | apply pw_below_drewN | apply below_drew1 | refine below_set ?_ GE252.out) | exact HB.out)⟩
                              · rw [if_neg c32] at H
                                have c32b0 : decide (15 < ((rd_T45 t239 x68_3).f0)) = false := decide_eq_false c32
                                clear c32
                                by_cases c35 : ((rd_T45 t239 x68_3).f1) < 0
                                · rw [if_pos c35] at H
                                  have c35b0 : decide (((rd_T45 t239 x68_3).f1) < 0) = true := decide_eq_true c35
                                  clear c35
                                  obtain rfl := Option.some.inj H
                                  have p251 : 0 ≤ (x68_3 : Int) := of_decide_eq_true (by first | (with_reducible assumption) | assumption)
                                  have q251 : x68_3 < (t239.length : Int) := of_decide_eq_true (by first | (with_reducible assumption) | assumption)
                                  obtain ⟨ad251, e251, hx251_0, hx251_1, hx251_2⟩ := at_T45 (Kd.R_reads' HO_66.out).2.2 x68_3 p251 q251
                                  cases e251
                                  replace p251 := eq_true p251
                                  replace q251 := eq_true q251
                                  go_wp2_with (first | ((with_reducible refine gate_dst (N := 16) rfl ?_); (try (refine gate_guard (by rfl) ?_; dsimp only)); refine box_event ?hg (N := 16) ?hd (cs := #[.int .i64 0, .int .i64 0, .int .i64 0]) (t := 45) ?hr ?_; (case hd => rfl); (case hg => rfl); (case hr => first | (go_simp; done) | (go_simp; rfl)); intro gb252 hg w36 hbox hb; have n0_ := Aside0.mk (Kd.R_below (by (with_reducible repeat (first | apply Kd.R_alloc | apply Kd.R_drewN | apply Kd.R_drew)); exact HO_7.out) hb); have n1_ := Aside0.mk (Kd.R_below (Kd.R_elderB (by (with_reducible repeat (first | apply Kd.R_alloc | apply Kd.R_drewN | apply Kd.R_drew)); exact HO_9.out) gb252 (Nat.le_of_eq hg.symm)) hb); have n2_ := Aside0.mk (Kd.R_below (by (with_reducible repeat (first | apply Kd.R_alloc | apply Kd.R_drewN | apply Kd.R_drew)); exact HO_11.out) hb); have n3_ := Aside0.mk (Kd.R_below (Kd.R_elderB (by (with_reducible repeat (first | apply Kd.R_alloc | apply Kd.R_drewN | apply Kd.R_drew)); exact HO_66.out) gb252 (Nat.le_of_eq hg.symm)) hb); have n4_ := Aside0.mk (below_step (by repeat (first | (with_reducible first | exact HB.out | apply below_alloc | apply pw_below_drewN | apply below_drew1) | exact HB.out)) hb); have n5_ := Aside0.mk (hbox); have n6_ := Aside0.mk ((by rw [hg]; exact (below_size (by repeat (first | (with_reducible first | exact HB.out | apply below_alloc | apply pw_below_drewN | apply below_drew1) | exact HB.out))) : w.heap.size ≤ gb252)); have n7_ := Aside0.mk ((by rw [hg]; exact (below_size (by repeat (first | (with_reducible first | exact HB.out | apply below_alloc | apply pw_below_drewN | apply below_drew1) | exact HB.out))) : w.heap.size ≤ gb252)); clear HO_7; clear HO_9; clear HO_11; clear HO_66; clear HB; have HO_7 := n0_; have HO_9 := n1_; have HO_11 := n2_; have HO_66 := n3_; have HB := n4_; have BK252 := n5_; have GW252 := n6_; have GE252 := n7_; clear n0_ n1_ n2_ n3_ n4_ n5_ n6_ n7_; clear hb hbox hg; have hcz37_0 : w36.cell? ⟨gb252, 0, none⟩ = some (.int .i64 0) := (blk_cell BK252.out 0).trans rfl; have hcz37_1 : w36.cell? ⟨gb252, 1, none⟩ = some (.int .i64 0) := (blk_cell BK252.out 1).trans rfl; have hcz37_2 : w36.cell? ⟨gb252, 2, none⟩ = some (.int .i64 0) := (blk_cell BK252.out 2).trans rfl; have hfz37_0 := blk_frozen BK252.out 0; have hfz37_1 := blk_frozen BK252.out 1; have hfz37_2 := blk_frozen BK252.out 2))
                                  go_ret
                                  exact ⟨by first | rfl | (simp [errW_none, errW_some] <;> rfl) | (simp [*, errW_none, errW_some] <;> rfl), by repeat (first | (with_reducible first | exact HB.out | apply below_alloc | apply pw_below_drewN | apply below_drew1 | refine below_set ?_ GE252.out) | exact HB.out)⟩
                                · rw [if_neg c35] at H
                                  have c35b0 : decide (((rd_T45 t239 x68_3).f1) < 0) = false := decide_eq_false c35
                                  clear c35
                                  by_cases c38 : ((rd_T45 t239 x68_3).f1) > 15
                                  · rw [if_pos c38] at H
                                    have c38b0 : decide (15 < ((rd_T45 t239 x68_3).f1)) = true := decide_eq_true c38
                                    clear c38
                                    obtain rfl := Option.some.inj H
                                    have p251 : 0 ≤ (x68_3 : Int) := of_decide_eq_true (by first | (with_reducible assumption) | assumption)
                                    have q251 : x68_3 < (t239.length : Int) := of_decide_eq_true (by first | (with_reducible assumption) | assumption)
                                    obtain ⟨ad251, e251, hx251_0, hx251_1, hx251_2⟩ := at_T45 (Kd.R_reads' HO_66.out).2.2 x68_3 p251 q251
                                    cases e251
                                    replace p251 := eq_true p251
                                    replace q251 := eq_true q251
                                    go_wp2_with (first | ((with_reducible refine gate_dst (N := 16) rfl ?_); (try (refine gate_guard (by rfl) ?_; dsimp only)); refine box_event ?hg (N := 16) ?hd (cs := #[.int .i64 0, .int .i64 0, .int .i64 0]) (t := 45) ?hr ?_; (case hd => rfl); (case hg => rfl); (case hr => first | (go_simp; done) | (go_simp; rfl)); intro gb252 hg w39 hbox hb; have n0_ := Aside0.mk (Kd.R_below (by (with_reducible repeat (first | apply Kd.R_alloc | apply Kd.R_drewN | apply Kd.R_drew)); exact HO_7.out) hb); have n1_ := Aside0.mk (Kd.R_below (Kd.R_elderB (by (with_reducible repeat (first | apply Kd.R_alloc | apply Kd.R_drewN | apply Kd.R_drew)); exact HO_9.out) gb252 (Nat.le_of_eq hg.symm)) hb); have n2_ := Aside0.mk (Kd.R_below (by (with_reducible repeat (first | apply Kd.R_alloc | apply Kd.R_drewN | apply Kd.R_drew)); exact HO_11.out) hb); have n3_ := Aside0.mk (Kd.R_below (Kd.R_elderB (by (with_reducible repeat (first | apply Kd.R_alloc | apply Kd.R_drewN | apply Kd.R_drew)); exact HO_66.out) gb252 (Nat.le_of_eq hg.symm)) hb); have n4_ := Aside0.mk (below_step (by repeat (first | (with_reducible first | exact HB.out | apply below_alloc | apply pw_below_drewN | apply below_drew1) | exact HB.out)) hb); have n5_ := Aside0.mk (hbox); have n6_ := Aside0.mk ((by rw [hg]; exact (below_size (by repeat (first | (with_reducible first | exact HB.out | apply below_alloc | apply pw_below_drewN | apply below_drew1) | exact HB.out))) : w.heap.size ≤ gb252)); have n7_ := Aside0.mk ((by rw [hg]; exact (below_size (by repeat (first | (with_reducible first | exact HB.out | apply below_alloc | apply pw_below_drewN | apply below_drew1) | exact HB.out))) : w.heap.size ≤ gb252)); clear HO_7; clear HO_9; clear HO_11; clear HO_66; clear HB; have HO_7 := n0_; have HO_9 := n1_; have HO_11 := n2_; have HO_66 := n3_; have HB := n4_; have BK252 := n5_; have GW252 := n6_; have GE252 := n7_; clear n0_ n1_ n2_ n3_ n4_ n5_ n6_ n7_; clear hb hbox hg; have hcz40_0 : w39.cell? ⟨gb252, 0, none⟩ = some (.int .i64 0) := (blk_cell BK252.out 0).trans rfl; have hcz40_1 : w39.cell? ⟨gb252, 1, none⟩ = some (.int .i64 0) := (blk_cell BK252.out 1).trans rfl; have hcz40_2 : w39.cell? ⟨gb252, 2, none⟩ = some (.int .i64 0) := (blk_cell BK252.out 2).trans rfl; have hfz40_0 := blk_frozen BK252.out 0; have hfz40_1 := blk_frozen BK252.out 1; have hfz40_2 := blk_frozen BK252.out 2))
                                    go_ret
                                    exact ⟨by first | rfl | (simp [errW_none, errW_some] <;> rfl) | (simp [*, errW_none, errW_some] <;> rfl), by repeat (first | (with_reducible first | exact HB.out | apply below_alloc | apply pw_below_drewN | apply below_drew1 | refine below_set ?_ GE252.out) | exact HB.out)⟩
                                  · rw [if_neg c38] at H
                                    have c38b0 : decide (15 < ((rd_T45 t239 x68_3).f1)) = false := decide_eq_false c38
                                    clear c38
                                    by_cases c41 : ((rd_T45 t239 x68_3).f2) < 1
                                    · rw [if_pos c41] at H
                                      have c41b0 : decide (((rd_T45 t239 x68_3).f2) < 1) = true := decide_eq_true c41
                                      clear c41
                                      obtain rfl := Option.some.inj H
                                      have p251 : 0 ≤ (x68_3 : Int) := of_decide_eq_true (by first | (with_reducible assumption) | assumption)
                                      have q251 : x68_3 < (t239.length : Int) := of_decide_eq_true (by first | (with_reducible assumption) | assumption)
                                      obtain ⟨ad251, e251, hx251_0, hx251_1, hx251_2⟩ := at_T45 (Kd.R_reads' HO_66.out).2.2 x68_3 p251 q251
                                      cases e251
                                      replace p251 := eq_true p251
                                      replace q251 := eq_true q251
                                      go_wp2_with (first | ((with_reducible refine gate_dst (N := 16) rfl ?_); (try (refine gate_guard (by rfl) ?_; dsimp only)); refine box_event ?hg (N := 16) ?hd (cs := #[.int .i64 0, .int .i64 0, .int .i64 0]) (t := 45) ?hr ?_; (case hd => rfl); (case hg => rfl); (case hr => first | (go_simp; done) | (go_simp; rfl)); intro gb252 hg w42 hbox hb; have n0_ := Aside0.mk (Kd.R_below (by (with_reducible repeat (first | apply Kd.R_alloc | apply Kd.R_drewN | apply Kd.R_drew)); exact HO_7.out) hb); have n1_ := Aside0.mk (Kd.R_below (Kd.R_elderB (by (with_reducible repeat (first | apply Kd.R_alloc | apply Kd.R_drewN | apply Kd.R_drew)); exact HO_9.out) gb252 (Nat.le_of_eq hg.symm)) hb); have n2_ := Aside0.mk (Kd.R_below (by (with_reducible repeat (first | apply Kd.R_alloc | apply Kd.R_drewN | apply Kd.R_drew)); exact HO_11.out) hb); have n3_ := Aside0.mk (Kd.R_below (Kd.R_elderB (by (with_reducible repeat (first | apply Kd.R_alloc | apply Kd.R_drewN | apply Kd.R_drew)); exact HO_66.out) gb252 (Nat.le_of_eq hg.symm)) hb); have n4_ := Aside0.mk (below_step (by repeat (first | (with_reducible first | exact HB.out | apply below_alloc | apply pw_below_drewN | apply below_drew1) | exact HB.out)) hb); have n5_ := Aside0.mk (hbox); have n6_ := Aside0.mk ((by rw [hg]; exact (below_size (by repeat (first | (with_reducible first | exact HB.out | apply below_alloc | apply pw_below_drewN | apply below_drew1) | exact HB.out))) : w.heap.size ≤ gb252)); have n7_ := Aside0.mk ((by rw [hg]; exact (below_size (by repeat (first | (with_reducible first | exact HB.out | apply below_alloc | apply pw_below_drewN | apply below_drew1) | exact HB.out))) : w.heap.size ≤ gb252)); clear HO_7; clear HO_9; clear HO_11; clear HO_66; clear HB; have HO_7 := n0_; have HO_9 := n1_; have HO_11 := n2_; have HO_66 := n3_; have HB := n4_; have BK252 := n5_; have GW252 := n6_; have GE252 := n7_; clear n0_ n1_ n2_ n3_ n4_ n5_ n6_ n7_; clear hb hbox hg; have hcz43_0 : w42.cell? ⟨gb252, 0, none⟩ = some (.int .i64 0) := (blk_cell BK252.out 0).trans rfl; have hcz43_1 : w42.cell? ⟨gb252, 1, none⟩ = some (.int .i64 0) := (blk_cell BK252.out 1).trans rfl; have hcz43_2 : w42.cell? ⟨gb252, 2, none⟩ = some (.int .i64 0) := (blk_cell BK252.out 2).trans rfl; have hfz43_0 := blk_frozen BK252.out 0; have hfz43_1 := blk_frozen BK252.out 1; have hfz43_2 := blk_frozen BK252.out 2))
                                      go_ret
                                      exact ⟨by first | rfl | (simp [errW_none, errW_some] <;> rfl) | (simp [*, errW_none, errW_some] <;> rfl), by repeat (first | (with_reducible first | exact HB.out | apply below_alloc | apply pw_below_drewN | apply below_drew1 | refine below_set ?_ GE252.out) | exact HB.out)⟩
                                    · rw [if_neg c41] at H
                                      have c41b0 : decide (((rd_T45 t239 x68_3).f2) < 1) = false := decide_eq_false c41
                                      clear c41
                                      by_cases c44 : 0 ≤ ((rd_T45 t239 x68_3).f0)
                                      · rw [if_pos c44] at H
                                        have c44b0 : decide (0 ≤ ((rd_T45 t239 x68_3).f0)) = true := decide_eq_true c44
                                        clear c44
                                        by_cases c45 : ((rd_T45 t239 x68_3).f0) < (t234.length : Int)
                                        · rw [if_pos c45] at H
                                          have c45b0 : decide (((rd_T45 t239 x68_3).f0) < (t234.length : Int)) = true := decide_eq_true c45
                                          clear c45
                                          by_cases c46 : (rd t234 ((rd_T45 t239 x68_3).f0)) ≥ 0
                                          · rw [if_pos c46] at H
                                            have c46b0 : decide (0 ≤ (rd t234 ((rd_T45 t239 x68_3).f0))) = true := decide_eq_true c46
                                            clear c46
                                            obtain rfl := Option.some.inj H
                                            have p251 : 0 ≤ (x68_3 : Int) := of_decide_eq_true (by first | (with_reducible assumption) | assumption)
                                            have q251 : x68_3 < (t239.length : Int) := of_decide_eq_true (by first | (with_reducible assumption) | assumption)
                                            obtain ⟨ad251, e251, hx251_0, hx251_1, hx251_2⟩ := at_T45 (Kd.R_reads' HO_66.out).2.2 x68_3 p251 q251
                                            cases e251
                                            replace p251 := eq_true p251
                                            replace q251 := eq_true q251
                                            go_wp2_with (first | ((with_reducible refine gate_dst (N := 16) rfl ?_); (try (refine gate_guard (by rfl) ?_; dsimp only)); refine box_event ?hg (N := 16) ?hd (cs := #[.int .i64 0, .int .i64 0, .int .i64 0]) (t := 45) ?hr ?_; (case hd => rfl); (case hg => rfl); (case hr => first | (go_simp; done) | (go_simp; rfl)); intro gb252 hg w47 hbox hb; have n0_ := Aside0.mk (Kd.R_below (by (with_reducible repeat (first | apply Kd.R_alloc | apply Kd.R_drewN | apply Kd.R_drew)); exact HO_7.out) hb); have n1_ := Aside0.mk (Kd.R_below (Kd.R_elderB (by (with_reducible repeat (first | apply Kd.R_alloc | apply Kd.R_drewN | apply Kd.R_drew)); exact HO_9.out) gb252 (Nat.le_of_eq hg.symm)) hb); have n2_ := Aside0.mk (Kd.R_below (by (with_reducible repeat (first | apply Kd.R_alloc | apply Kd.R_drewN | apply Kd.R_drew)); exact HO_11.out) hb); have n3_ := Aside0.mk (Kd.R_below (Kd.R_elderB (by (with_reducible repeat (first | apply Kd.R_alloc | apply Kd.R_drewN | apply Kd.R_drew)); exact HO_66.out) gb252 (Nat.le_of_eq hg.symm)) hb); have n4_ := Aside0.mk (below_step (by repeat (first | (with_reducible first | exact HB.out | apply below_alloc | apply pw_below_drewN | apply below_drew1) | exact HB.out)) hb); have n5_ := Aside0.mk (hbox); have n6_ := Aside0.mk ((by rw [hg]; exact (below_size (by repeat (first | (with_reducible first | exact HB.out | apply below_alloc | apply pw_below_drewN | apply below_drew1) | exact HB.out))) : w.heap.size ≤ gb252)); have n7_ := Aside0.mk ((by rw [hg]; exact (below_size (by repeat (first | (with_reducible first | exact HB.out | apply below_alloc | apply pw_below_drewN | apply below_drew1) | exact HB.out))) : w.heap.size ≤ gb252)); clear HO_7; clear HO_9; clear HO_11; clear HO_66; clear HB; have HO_7 := n0_; have HO_9 := n1_; have HO_11 := n2_; have HO_66 := n3_; have HB := n4_; have BK252 := n5_; have GW252 := n6_; have GE252 := n7_; clear n0_ n1_ n2_ n3_ n4_ n5_ n6_ n7_; clear hb hbox hg; have hcz48_0 : w47.cell? ⟨gb252, 0, none⟩ = some (.int .i64 0) := (blk_cell BK252.out 0).trans rfl; have hcz48_1 : w47.cell? ⟨gb252, 1, none⟩ = some (.int .i64 0) := (blk_cell BK252.out 1).trans rfl; have hcz48_2 : w47.cell? ⟨gb252, 2, none⟩ = some (.int .i64 0) := (blk_cell BK252.out 2).trans rfl; have hfz48_0 := blk_frozen BK252.out 0; have hfz48_1 := blk_frozen BK252.out 1; have hfz48_2 := blk_frozen BK252.out 2; have p253 : 0 ≤ (((rd_T45 t239 x68_3).f0) : Int) := of_decide_eq_true (by first | (with_reducible assumption) | assumption); have q253 : ((rd_T45 t239 x68_3).f0) < (t234.length : Int) := of_decide_eq_true (by first | (with_reducible assumption) | assumption); obtain ⟨ad253, e253, hx253_0⟩ := Kd.at_int (Kd.R_reads' HO_7.out).2.2 ((rd_T45 t239 x68_3).f0) p253 q253; cases e253; have hn253_0 : ad253.block ≠ gb252 := Kd.own_blk (Kd.R_ne HO_7.out BK252.out (by decide)); have hn253_1 : ad253.block ≠ gb252 := Kd.own_blk (Kd.R_ne HO_7.out BK252.out (by decide)); have hn253_2 : ad253.block ≠ gb252 := Kd.own_blk (Kd.R_ne HO_7.out BK252.out (by decide)); replace hx253_0 := (cell_far (p := ⟨gb252, 0, none⟩) (by first | (rw [add_block]; exact hn253_0) | (show (Addr.add _ _).block ≠ _; rw [add_block]; exact hn253_0) | exact hn253_0) (.int .i64 ((rd_T45 t239 x68_3).f0))).trans hx253_0; replace hx253_0 := (cell_far (p := ⟨gb252, 1, none⟩) (by first | (rw [add_block]; exact hn253_1) | (show (Addr.add _ _).block ≠ _; rw [add_block]; exact hn253_1) | exact hn253_1) (.int .i64 ((rd_T45 t239 x68_3).f1))).trans hx253_0; replace hx253_0 := (cell_far (p := ⟨gb252, 2, none⟩) (by first | (rw [add_block]; exact hn253_2) | (show (Addr.add _ _).block ≠ _; rw [add_block]; exact hn253_2) | exact hn253_2) (.int .i64 ((rd_T45 t239 x68_3).f2))).trans hx253_0; clear hn253_0; clear hn253_1; clear hn253_2; replace p253 := eq_true p253; replace q253 := eq_true q253))
                                            go_ret
                                            exact ⟨by first | rfl | (simp [errW_none, errW_some] <;> rfl) | (simp [*, errW_none, errW_some] <;> rfl), by repeat (first | (with_reducible first | exact HB.out | apply below_alloc | apply pw_below_drewN | apply below_drew1 | refine below_set ?_ GE252.out) | exact HB.out)⟩
                                          · rw [if_neg c46] at H
                                            have c46b0 : decide (0 ≤ (rd t234 ((rd_T45 t239 x68_3).f0))) = false := decide_eq_false c46
                                            clear c46
                                            by_cases c49 : 0 ≤ ((rd_T45 t239 x68_3).f1)
                                            · rw [if_pos c49] at H
                                              have c49b0 : decide (0 ≤ ((rd_T45 t239 x68_3).f1)) = true := decide_eq_true c49
                                              clear c49
                                              by_cases c50 : ((rd_T45 t239 x68_3).f1) < (t234.length : Int)
                                              · rw [if_pos c50] at H
                                                have c50b0 : decide (((rd_T45 t239 x68_3).f1) < (t234.length : Int)) = true := decide_eq_true c50
                                                clear c50
                                                by_cases c51 : (rd t234 ((rd_T45 t239 x68_3).f1)) ≤ 0
                                                · rw [if_pos c51] at H
                                                  have c51b0 : decide ((rd t234 ((rd_T45 t239 x68_3).f1)) ≤ 0) = true := decide_eq_true c51
                                                  clear c51
                                                  obtain rfl := Option.some.inj H
                                                  have p251 : 0 ≤ (x68_3 : Int) := of_decide_eq_true (by first | (with_reducible assumption) | assumption)
                                                  have q251 : x68_3 < (t239.length : Int) := of_decide_eq_true (by first | (with_reducible assumption) | assumption)
                                                  obtain ⟨ad251, e251, hx251_0, hx251_1, hx251_2⟩ := at_T45 (Kd.R_reads' HO_66.out).2.2 x68_3 p251 q251
                                                  cases e251
                                                  replace p251 := eq_true p251
                                                  replace q251 := eq_true q251
                                                  go_wp2_with (first | ((with_reducible refine gate_dst (N := 16) rfl ?_); (try (refine gate_guard (by rfl) ?_; dsimp only)); refine box_event ?hg (N := 16) ?hd (cs := #[.int .i64 0, .int .i64 0, .int .i64 0]) (t := 45) ?hr ?_; (case hd => rfl); (case hg => rfl); (case hr => first | (go_simp; done) | (go_simp; rfl)); intro gb252 hg w52 hbox hb; have n0_ := Aside0.mk (Kd.R_below (by (with_reducible repeat (first | apply Kd.R_alloc | apply Kd.R_drewN | apply Kd.R_drew)); exact HO_7.out) hb); have n1_ := Aside0.mk (Kd.R_below (Kd.R_elderB (by (with_reducible repeat (first | apply Kd.R_alloc | apply Kd.R_drewN | apply Kd.R_drew)); exact HO_9.out) gb252 (Nat.le_of_eq hg.symm)) hb); have n2_ := Aside0.mk (Kd.R_below (by (with_reducible repeat (first | apply Kd.R_alloc | apply Kd.R_drewN | apply Kd.R_drew)); exact HO_11.out) hb); have n3_ := Aside0.mk (Kd.R_below (Kd.R_elderB (by (with_reducible repeat (first | apply Kd.R_alloc | apply Kd.R_drewN | apply Kd.R_drew)); exact HO_66.out) gb252 (Nat.le_of_eq hg.symm)) hb); have n4_ := Aside0.mk (below_step (by repeat (first | (with_reducible first | exact HB.out | apply below_alloc | apply pw_below_drewN | apply below_drew1) | exact HB.out)) hb); have n5_ := Aside0.mk (hbox); have n6_ := Aside0.mk ((by rw [hg]; exact (below_size (by repeat (first | (with_reducible first | exact HB.out | apply below_alloc | apply pw_below_drewN | apply below_drew1) | exact HB.out))) : w.heap.size ≤ gb252)); have n7_ := Aside0.mk ((by rw [hg]; exact (below_size (by repeat (first | (with_reducible first | exact HB.out | apply below_alloc | apply pw_below_drewN | apply below_drew1) | exact HB.out))) : w.heap.size ≤ gb252)); clear HO_7; clear HO_9; clear HO_11; clear HO_66; clear HB; have HO_7 := n0_; have HO_9 := n1_; have HO_11 := n2_; have HO_66 := n3_; have HB := n4_; have BK252 := n5_; have GW252 := n6_; have GE252 := n7_; clear n0_ n1_ n2_ n3_ n4_ n5_ n6_ n7_; clear hb hbox hg; have hcz53_0 : w52.cell? ⟨gb252, 0, none⟩ = some (.int .i64 0) := (blk_cell BK252.out 0).trans rfl; have hcz53_1 : w52.cell? ⟨gb252, 1, none⟩ = some (.int .i64 0) := (blk_cell BK252.out 1).trans rfl; have hcz53_2 : w52.cell? ⟨gb252, 2, none⟩ = some (.int .i64 0) := (blk_cell BK252.out 2).trans rfl; have hfz53_0 := blk_frozen BK252.out 0; have hfz53_1 := blk_frozen BK252.out 1; have hfz53_2 := blk_frozen BK252.out 2; have p253 : 0 ≤ (((rd_T45 t239 x68_3).f0) : Int) := of_decide_eq_true (by first | (with_reducible assumption) | assumption); have q253 : ((rd_T45 t239 x68_3).f0) < (t234.length : Int) := of_decide_eq_true (by first | (with_reducible assumption) | assumption); obtain ⟨ad253, e253, hx253_0⟩ := Kd.at_int (Kd.R_reads' HO_7.out).2.2 ((rd_T45 t239 x68_3).f0) p253 q253; cases e253; have hn253_0 : ad253.block ≠ gb252 := Kd.own_blk (Kd.R_ne HO_7.out BK252.out (by decide)); have hn253_1 : ad253.block ≠ gb252 := Kd.own_blk (Kd.R_ne HO_7.out BK252.out (by decide)); have hn253_2 : ad253.block ≠ gb252 := Kd.own_blk (Kd.R_ne HO_7.out BK252.out (by decide)); replace hx253_0 := (cell_far (p := ⟨gb252, 0, none⟩) (by first | (rw [add_block]; exact hn253_0) | (show (Addr.add _ _).block ≠ _; rw [add_block]; exact hn253_0) | exact hn253_0) (.int .i64 ((rd_T45 t239 x68_3).f0))).trans hx253_0; replace hx253_0 := (cell_far (p := ⟨gb252, 1, none⟩) (by first | (rw [add_block]; exact hn253_1) | (show (Addr.add _ _).block ≠ _; rw [add_block]; exact hn253_1) | exact hn253_1) (.int .i64 ((rd_T45 t239 x68_3).f1))).trans hx253_0; replace hx253_0 := (cell_far (p := ⟨gb252, 2, none⟩) (by first | (rw [add_block]; exact hn253_2) | (show (Addr.add _ _).block ≠ _; rw [add_block]; exact hn253_2) | exact hn253_2) (.int .i64 ((rd_T45 t239 x68_3).f2))).trans hx253_0; clear hn253_0; clear hn253_1; clear hn253_2; replace p253 := eq_true p253; replace q253 := eq_true q253; have p254 : 0 ≤ (((rd_T45 t239 x68_3).f1) : Int) := of_decide_eq_true (by first | (with_reducible assumption) | assumption); have q254 : ((rd_T45 t239 x68_3).f1) < (t234.length : Int) := of_decide_eq_true (by first | (with_reducible assumption) | assumption); obtain ⟨ad254, e254, hx254_0⟩ := Kd.at_int (Kd.R_reads' HO_7.out).2.2 ((rd_T45 t239 x68_3).f1) p254 q254; obtain rfl : ad253 = ad254 := (by injection e254); have hn254_0 : ad253.block ≠ gb252 := Kd.own_blk (Kd.R_ne HO_7.out BK252.out (by decide)); have hn254_1 : ad253.block ≠ gb252 := Kd.own_blk (Kd.R_ne HO_7.out BK252.out (by decide)); have hn254_2 : ad253.block ≠ gb252 := Kd.own_blk (Kd.R_ne HO_7.out BK252.out (by decide)); replace hx254_0 := (cell_far (p := ⟨gb252, 0, none⟩) (by first | (rw [add_block]; exact hn254_0) | (show (Addr.add _ _).block ≠ _; rw [add_block]; exact hn254_0) | exact hn254_0) (.int .i64 ((rd_T45 t239 x68_3).f0))).trans hx254_0; replace hx254_0 := (cell_far (p := ⟨gb252, 1, none⟩) (by first | (rw [add_block]; exact hn254_1) | (show (Addr.add _ _).block ≠ _; rw [add_block]; exact hn254_1) | exact hn254_1) (.int .i64 ((rd_T45 t239 x68_3).f1))).trans hx254_0; replace hx254_0 := (cell_far (p := ⟨gb252, 2, none⟩) (by first | (rw [add_block]; exact hn254_2) | (show (Addr.add _ _).block ≠ _; rw [add_block]; exact hn254_2) | exact hn254_2) (.int .i64 ((rd_T45 t239 x68_3).f2))).trans hx254_0; clear hn254_0; clear hn254_1; clear hn254_2; replace p254 := eq_true p254; replace q254 := eq_true q254))
                                                  go_ret
                                                  exact ⟨by first | rfl | (simp [errW_none, errW_some] <;> rfl) | (simp [*, errW_none, errW_some] <;> rfl), by repeat (first | (with_reducible first | exact HB.out | apply below_alloc | apply pw_below_drewN | apply below_drew1 | refine below_set ?_ GE252.out) | exact HB.out)⟩
                                                · rw [if_neg c51] at H
                                                  have c51b0 : decide ((rd t234 ((rd_T45 t239 x68_3).f1)) ≤ 0) = false := decide_eq_false c51
                                                  clear c51
                                                  by_cases c54 : ((rd_T45 t239 x68_3).f0) < (x11_3.length : Int)
                                                  · rw [if_pos c54] at H
                                                    have c54b0 : decide (((rd_T45 t239 x68_3).f0) < (x11_3.length : Int)) = true := decide_eq_true c54
                                                    clear c54
                                                    obtain ⟨y256, hy256⟩ : ∃ y_ : List Int, y_ = (x11_3.set (((rd_T45 t239 x68_3).f0) : Int).toNat (wrap64 ((rd x11_3 ((rd_T45 t239 x68_3).f0)) + ((rd_T45 t239 x68_3).f2)))) := ⟨_, rfl⟩
                                                    replace H : (if ((rd_T45 t239 x68_3).f1) < (x11_3.length : Int) then (cashbooklaw30_NettingSettles.l1 k3 t234 t239 (y256.set (((rd_T45 t239 x68_3).f1) : Int).toNat (wrap64 ((rd y256 ((rd_T45 t239 x68_3).f1)) - ((rd_T45 t239 x68_3).f2)))) x12_2 t239 (t239.length : Int) (wrap64 (x68_3 + 1))) else (none)) = some r := by first | (rw [hy256]; with_reducible exact H) | (have H2_ := (Option.bind_some _ _).symm.trans H; rw [hy256]; with_reducible exact H2_) | (have H2_ := (Option.bind_some _ _).symm.trans H; with_reducible exact H2_) | with_reducible exact H | (rw [hy256]; exact H) | exact H
                                                    have Ny256 := Aside0.mk hy256
                                                    clear hy256
                                                    by_cases c56 : ((rd_T45 t239 x68_3).f1) < (x11_3.length : Int)
                                                    · rw [if_pos c56] at H
                                                      have c56b0 : decide (((rd_T45 t239 x68_3).f1) < (x11_3.length : Int)) = true := decide_eq_true c56
                                                      clear c56
                                                      obtain ⟨y258, hy258⟩ : ∃ y_ : List Int, y_ = (y256.set (((rd_T45 t239 x68_3).f1) : Int).toNat (wrap64 ((rd y256 ((rd_T45 t239 x68_3).f1)) - ((rd_T45 t239 x68_3).f2)))) := ⟨_, rfl⟩
                                                      replace H : (cashbooklaw30_NettingSettles.l1 k3 t234 t239 y258 x12_2 t239 (t239.length : Int) (wrap64 (x68_3 + 1))) = some r := by first | (rw [hy258]; with_reducible exact H) | (have H2_ := (Option.bind_some _ _).symm.trans H; rw [hy258]; with_reducible exact H2_) | (have H2_ := (Option.bind_some _ _).symm.trans H; with_reducible exact H2_) | with_reducible exact H | (rw [hy258]; exact H) | exact H
                                                      have Ny258 := Aside0.mk hy258
                                                      clear hy258
                                                      have H' := Aside0.mk H
                                                      clear H
                                                      have p251 : 0 ≤ (x68_3 : Int) := of_decide_eq_true (by first | (with_reducible assumption) | assumption)
                                                      have q251 : x68_3 < (t239.length : Int) := of_decide_eq_true (by first | (with_reducible assumption) | assumption)
                                                      obtain ⟨ad251, e251, hx251_0, hx251_1, hx251_2⟩ := at_T45 (Kd.R_reads' HO_66.out).2.2 x68_3 p251 q251
                                                      cases e251
                                                      replace p251 := eq_true p251
                                                      replace q251 := eq_true q251
                                                      try go_wp2_with (first | ((with_reducible refine gate_dst (N := 16) rfl ?_); (try (refine gate_guard (by rfl) ?_; dsimp only)); refine box_event ?hg (N := 16) ?hd (cs := #[.int .i64 0, .int .i64 0, .int .i64 0]) (t := 45) ?hr ?_; (case hd => rfl); (case hg => rfl); (case hr => first | (go_simp; done) | (go_simp; rfl)); intro gb252 hg w58 hbox hb; have n0_ := Aside0.mk (Kd.R_below (by (with_reducible repeat (first | apply Kd.R_alloc | apply Kd.R_drewN | apply Kd.R_drew)); exact HO_7.out) hb); have n1_ := Aside0.mk (Kd.R_below (Kd.R_elderB (by (with_reducible repeat (first | apply Kd.R_alloc | apply Kd.R_drewN | apply Kd.R_drew)); exact HO_9.out) gb252 (Nat.le_of_eq hg.symm)) hb); have n2_ := Aside0.mk (Kd.R_below (by (with_reducible repeat (first | apply Kd.R_alloc | apply Kd.R_drewN | apply Kd.R_drew)); exact HO_11.out) hb); have n3_ := Aside0.mk (Kd.R_below (Kd.R_elderB (by (with_reducible repeat (first | apply Kd.R_alloc | apply Kd.R_drewN | apply Kd.R_drew)); exact HO_66.out) gb252 (Nat.le_of_eq hg.symm)) hb); have n4_ := Aside0.mk (below_step (by repeat (first | (with_reducible first | exact HB.out | apply below_alloc | apply pw_below_drewN | apply below_drew1) | exact HB.out)) hb); have n5_ := Aside0.mk (hbox); have n6_ := Aside0.mk ((by rw [hg]; exact (below_size (by repeat (first | (with_reducible first | exact HB.out | apply below_alloc | apply pw_below_drewN | apply below_drew1) | exact HB.out))) : w.heap.size ≤ gb252)); have n7_ := Aside0.mk ((by rw [hg]; exact (below_size (by repeat (first | (with_reducible first | exact HB.out | apply below_alloc | apply pw_below_drewN | apply below_drew1) | exact HB.out))) : w.heap.size ≤ gb252)); clear HO_7; clear HO_9; clear HO_11; clear HO_66; clear HB; have HO_7 := n0_; have HO_9 := n1_; have HO_11 := n2_; have HO_66 := n3_; have HB := n4_; have BK252 := n5_; have GW252 := n6_; have GE252 := n7_; clear n0_ n1_ n2_ n3_ n4_ n5_ n6_ n7_; clear hb hbox hg; have hcz59_0 : w58.cell? ⟨gb252, 0, none⟩ = some (.int .i64 0) := (blk_cell BK252.out 0).trans rfl; have hcz59_1 : w58.cell? ⟨gb252, 1, none⟩ = some (.int .i64 0) := (blk_cell BK252.out 1).trans rfl; have hcz59_2 : w58.cell? ⟨gb252, 2, none⟩ = some (.int .i64 0) := (blk_cell BK252.out 2).trans rfl; have hfz59_0 := blk_frozen BK252.out 0; have hfz59_1 := blk_frozen BK252.out 1; have hfz59_2 := blk_frozen BK252.out 2; have p253 : 0 ≤ (((rd_T45 t239 x68_3).f0) : Int) := of_decide_eq_true (by first | (with_reducible assumption) | assumption); have q253 : ((rd_T45 t239 x68_3).f0) < (t234.length : Int) := of_decide_eq_true (by first | (with_reducible assumption) | assumption); obtain ⟨ad253, e253, hx253_0⟩ := Kd.at_int (Kd.R_reads' HO_7.out).2.2 ((rd_T45 t239 x68_3).f0) p253 q253; cases e253; have hn253_0 : ad253.block ≠ gb252 := Kd.own_blk (Kd.R_ne HO_7.out BK252.out (by decide)); have hn253_1 : ad253.block ≠ gb252 := Kd.own_blk (Kd.R_ne HO_7.out BK252.out (by decide)); have hn253_2 : ad253.block ≠ gb252 := Kd.own_blk (Kd.R_ne HO_7.out BK252.out (by decide)); replace hx253_0 := (cell_far (p := ⟨gb252, 0, none⟩) (by first | (rw [add_block]; exact hn253_0) | (show (Addr.add _ _).block ≠ _; rw [add_block]; exact hn253_0) | exact hn253_0) (.int .i64 ((rd_T45 t239 x68_3).f0))).trans hx253_0; replace hx253_0 := (cell_far (p := ⟨gb252, 1, none⟩) (by first | (rw [add_block]; exact hn253_1) | (show (Addr.add _ _).block ≠ _; rw [add_block]; exact hn253_1) | exact hn253_1) (.int .i64 ((rd_T45 t239 x68_3).f1))).trans hx253_0; replace hx253_0 := (cell_far (p := ⟨gb252, 2, none⟩) (by first | (rw [add_block]; exact hn253_2) | (show (Addr.add _ _).block ≠ _; rw [add_block]; exact hn253_2) | exact hn253_2) (.int .i64 ((rd_T45 t239 x68_3).f2))).trans hx253_0; clear hn253_0; clear hn253_1; clear hn253_2; replace p253 := eq_true p253; replace q253 := eq_true q253; have p254 : 0 ≤ (((rd_T45 t239 x68_3).f1) : Int) := of_decide_eq_true (by first | (with_reducible assumption) | assumption); have q254 : ((rd_T45 t239 x68_3).f1) < (t234.length : Int) := of_decide_eq_true (by first | (with_reducible assumption) | assumption); obtain ⟨ad254, e254, hx254_0⟩ := Kd.at_int (Kd.R_reads' HO_7.out).2.2 ((rd_T45 t239 x68_3).f1) p254 q254; obtain rfl : ad253 = ad254 := (by injection e254); have hn254_0 : ad253.block ≠ gb252 := Kd.own_blk (Kd.R_ne HO_7.out BK252.out (by decide)); have hn254_1 : ad253.block ≠ gb252 := Kd.own_blk (Kd.R_ne HO_7.out BK252.out (by decide)); have hn254_2 : ad253.block ≠ gb252 := Kd.own_blk (Kd.R_ne HO_7.out BK252.out (by decide)); replace hx254_0 := (cell_far (p := ⟨gb252, 0, none⟩) (by first | (rw [add_block]; exact hn254_0) | (show (Addr.add _ _).block ≠ _; rw [add_block]; exact hn254_0) | exact hn254_0) (.int .i64 ((rd_T45 t239 x68_3).f0))).trans hx254_0; replace hx254_0 := (cell_far (p := ⟨gb252, 1, none⟩) (by first | (rw [add_block]; exact hn254_1) | (show (Addr.add _ _).block ≠ _; rw [add_block]; exact hn254_1) | exact hn254_1) (.int .i64 ((rd_T45 t239 x68_3).f1))).trans hx254_0; replace hx254_0 := (cell_far (p := ⟨gb252, 2, none⟩) (by first | (rw [add_block]; exact hn254_2) | (show (Addr.add _ _).block ≠ _; rw [add_block]; exact hn254_2) | exact hn254_2) (.int .i64 ((rd_T45 t239 x68_3).f2))).trans hx254_0; clear hn254_0; clear hn254_1; clear hn254_2; replace p254 := eq_true p254; replace q254 := eq_true q254))
                                                      have n0_ : Aside0 (Kd.R (Kd.int .i64) 2 (((w58.setCell ⟨gb252, 0, none⟩ (.int .i64 ((rd_T45 t239 x68_3).f0))).setCell ⟨gb252, 1, none⟩ (.int .i64 ((rd_T45 t239 x68_3).f1))).setCell ⟨gb252, 2, none⟩ (.int .i64 ((rd_T45 t239 x68_3).f2))) w.heap.size (fun k_ => some k_ ≠ (v248 : Value).ownBlock) (.slice (some ad253) t234.length co10) t234) := ⟨by (with_reducible repeat (first | apply Kd.R_alloc | apply Kd.R_drewN | apply Kd.R_drew)); exact Kd.R_mono (Kd.R_far (p := ⟨gb252, 2, none⟩) (Kd.R_far (p := ⟨gb252, 1, none⟩) (Kd.R_far (p := ⟨gb252, 0, none⟩) (Kd.R_types HO_7.out BK252.out (by decide)) (fun _ hk => hk.2) (.int .i64 ((rd_T45 t239 x68_3).f0))) (fun _ hk => hk.2) (.int .i64 ((rd_T45 t239 x68_3).f1))) (fun _ hk => hk.2) (.int .i64 ((rd_T45 t239 x68_3).f2))) (fun _ hk => hk.1)⟩
                                                      have n1_ : Aside0 (Kd.R k45 45 (((w58.setCell ⟨gb252, 0, none⟩ (.int .i64 ((rd_T45 t239 x68_3).f0))).setCell ⟨gb252, 1, none⟩ (.int .i64 ((rd_T45 t239 x68_3).f1))).setCell ⟨gb252, 2, none⟩ (.int .i64 ((rd_T45 t239 x68_3).f2))) w.heap.size (fun k_ => k_ ≠ gb252) (.slice (some ad251) t239.length co25) t239) := ⟨by (with_reducible repeat (first | apply Kd.R_alloc | apply Kd.R_drewN | apply Kd.R_drew)); exact Kd.R_mono (Kd.R_far (p := ⟨gb252, 2, none⟩) (Kd.R_far (p := ⟨gb252, 1, none⟩) (Kd.R_far (p := ⟨gb252, 0, none⟩) (Kd.R_mono HO_9.out (fun k_ hk => (⟨hk, hk.2⟩ : _ ∧ k_ ≠ gb252))) (fun _ hk => hk.2) (.int .i64 ((rd_T45 t239 x68_3).f0))) (fun _ hk => hk.2) (.int .i64 ((rd_T45 t239 x68_3).f1))) (fun _ hk => hk.2) (.int .i64 ((rd_T45 t239 x68_3).f2))) (fun _ hk => hk.1.2)⟩
                                                      have n2_ : Aside0 (Kd.R (Kd.int .i64) 2 (((w58.setCell ⟨gb252, 0, none⟩ (.int .i64 ((rd_T45 t239 x68_3).f0))).setCell ⟨gb252, 1, none⟩ (.int .i64 ((rd_T45 t239 x68_3).f1))).setCell ⟨gb252, 2, none⟩ (.int .i64 ((rd_T45 t239 x68_3).f2))) w.heap.size (fun k_ => some k_ ≠ (.slice (some ad253) t234.length co10 : Value).ownBlock) v248 x11_3) := ⟨by (with_reducible repeat (first | apply Kd.R_alloc | apply Kd.R_drewN | apply Kd.R_drew)); exact Kd.R_mono (Kd.R_far (p := ⟨gb252, 2, none⟩) (Kd.R_far (p := ⟨gb252, 1, none⟩) (Kd.R_far (p := ⟨gb252, 0, none⟩) (Kd.R_types HO_11.out BK252.out (by decide)) (fun _ hk => hk.2) (.int .i64 ((rd_T45 t239 x68_3).f0))) (fun _ hk => hk.2) (.int .i64 ((rd_T45 t239 x68_3).f1))) (fun _ hk => hk.2) (.int .i64 ((rd_T45 t239 x68_3).f2))) (fun _ hk => hk.1)⟩
                                                      have n3_ : Aside0 (Kd.R k45 45 (((w58.setCell ⟨gb252, 0, none⟩ (.int .i64 ((rd_T45 t239 x68_3).f0))).setCell ⟨gb252, 1, none⟩ (.int .i64 ((rd_T45 t239 x68_3).f1))).setCell ⟨gb252, 2, none⟩ (.int .i64 ((rd_T45 t239 x68_3).f2))) w.heap.size (fun k_ => k_ ≠ gb252) (.slice (some ad251) t239.length co25) t239) := ⟨by (with_reducible repeat (first | apply Kd.R_alloc | apply Kd.R_drewN | apply Kd.R_drew)); exact Kd.R_mono (Kd.R_far (p := ⟨gb252, 2, none⟩) (Kd.R_far (p := ⟨gb252, 1, none⟩) (Kd.R_far (p := ⟨gb252, 0, none⟩) (Kd.R_mono HO_66.out (fun k_ hk => (⟨hk, hk.2⟩ : _ ∧ k_ ≠ gb252))) (fun _ hk => hk.2) (.int .i64 ((rd_T45 t239 x68_3).f0))) (fun _ hk => hk.2) (.int .i64 ((rd_T45 t239 x68_3).f1))) (fun _ hk => hk.2) (.int .i64 ((rd_T45 t239 x68_3).f2))) (fun _ hk => hk.1.2)⟩
                                                      have n4_ : Aside0 ((((w58.setCell ⟨gb252, 0, none⟩ (.int .i64 ((rd_T45 t239 x68_3).f0))).setCell ⟨gb252, 1, none⟩ (.int .i64 ((rd_T45 t239 x68_3).f1))).setCell ⟨gb252, 2, none⟩ (.int .i64 ((rd_T45 t239 x68_3).f2))).heap[gb252]? = some (.cells #[.int .i64 ((rd_T45 t239 x68_3).f0), .int .i64 ((rd_T45 t239 x68_3).f1), .int .i64 ((rd_T45 t239 x68_3).f2)] 45 (0, 0))) := ⟨by (with_reducible repeat (first | refine blk_drewN ?_ _ | refine blk_drew ?_ | refine blk_alloc ?_ _)); refine blk_put (cs := #[.int .i64 ((rd_T45 t239 x68_3).f0), .int .i64 ((rd_T45 t239 x68_3).f1), .int .i64 0]) ?_ 2 _ rfl; (with_reducible repeat (first | refine blk_drewN ?_ _ | refine blk_drew ?_ | refine blk_alloc ?_ _)); refine blk_put (cs := #[.int .i64 ((rd_T45 t239 x68_3).f0), .int .i64 0, .int .i64 0]) ?_ 1 _ rfl; (with_reducible repeat (first | refine blk_drewN ?_ _ | refine blk_drew ?_ | refine blk_alloc ?_ _)); refine blk_put (cs := #[.int .i64 0, .int .i64 0, .int .i64 0]) ?_ 0 _ rfl; (with_reducible repeat (first | refine blk_drewN ?_ _ | refine blk_drew ?_ | refine blk_alloc ?_ _)); exact BK252.out⟩
                                                      have n5_ : Aside0 (Below w.heap.size w (((w58.setCell ⟨gb252, 0, none⟩ (.int .i64 ((rd_T45 t239 x68_3).f0))).setCell ⟨gb252, 1, none⟩ (.int .i64 ((rd_T45 t239 x68_3).f1))).setCell ⟨gb252, 2, none⟩ (.int .i64 ((rd_T45 t239 x68_3).f2)))) := ⟨by repeat (first | (with_reducible first | exact HB.out | apply below_alloc | apply pw_below_drewN | apply below_drew1 | refine below_set ?_ GE252.out) | exact HB.out)⟩
                                                      (try clear HO_7)
                                                      (try clear HO_9)
                                                      (try clear HO_11)
                                                      (try clear HO_66)
                                                      (try clear BK252)
                                                      (try clear HB)
                                                      generalize (((w58.setCell ⟨gb252, 0, none⟩ (.int .i64 ((rd_T45 t239 x68_3).f0))).setCell ⟨gb252, 1, none⟩ (.int .i64 ((rd_T45 t239 x68_3).f1))).setCell ⟨gb252, 2, none⟩ (.int .i64 ((rd_T45 t239 x68_3).f2))) = w60 at n0_ n1_ n2_ n3_ n4_ n5_ ⊢
                                                      have HO_7 := n0_
                                                      have HO_9 := n1_
                                                      have HO_11 := n2_
                                                      have HO_66 := n3_
                                                      have BK252 := n4_
                                                      have HB := n5_
                                                      clear n0_ n1_ n2_ n3_ n4_ n5_
                                                      have n0_ := Aside0.mk (Kd.R_drew HO_7.out)
                                                      have n1_ := Aside0.mk (Kd.R_drew HO_9.out)
                                                      have n2_ := Aside0.mk (Kd.R_drew HO_11.out)
                                                      have n3_ := Aside0.mk (Kd.R_drew HO_66.out)
                                                      have n4_ := Aside0.mk (blk_drew BK252.out)
                                                      have n5_ := Aside0.mk (below_drew1 HB.out)
                                                      clear HO_7
                                                      clear HO_9
                                                      clear HO_11
                                                      clear HO_66
                                                      clear BK252
                                                      clear HB
                                                      have HO_7 := n0_
                                                      have HO_9 := n1_
                                                      have HO_11 := n2_
                                                      have HO_66 := n3_
                                                      have BK252 := n4_
                                                      have HB := n5_
                                                      clear n0_ n1_ n2_ n3_ n4_ n5_
                                                      obtain ⟨Ao62, co62, eo62⟩ := Kd.R_slice HO_11.out
                                                      (first | subst eo62 | (injection eo62 with f1_ f2_ f3_; have f4_ := f1_.symm; have f5_ := f3_.symm; clear f1_ f2_ f3_; subst f4_; subst f5_))
                                                      have p255 : 0 ≤ (((rd_T45 t239 x68_3).f0) : Int) := of_decide_eq_true (by first | (with_reducible assumption) | assumption)
                                                      have q255 : ((rd_T45 t239 x68_3).f0) < (x11_3.length : Int) := of_decide_eq_true (by first | (with_reducible assumption) | assumption)
                                                      obtain ⟨ad255, e255, hx255_0⟩ := Kd.at_int (Kd.R_reads' HO_11.out).2.2 ((rd_T45 t239 x68_3).f0) p255 q255
                                                      cases e255
                                                      replace p255 := eq_true p255
                                                      replace q255 := eq_true q255
                                                      have p55 : 0 ≤ (((rd_T45 t239 x68_3).f0) : Int) := of_decide_eq_true (by first | (with_reducible assumption) | assumption)
                                                      have q55 : (((rd_T45 t239 x68_3).f0) : Int) < ((x11_3.length : Int) : Int) := of_decide_eq_true (by first | (with_reducible assumption) | assumption)
                                                      obtain ⟨go55, co55, eo55, gb55, gl55, cl55, HG55⟩ := Kd.R_form HO_11.out (by omega)
                                                      (first | cases eo55 | (injection eo55 with ea_ en_ ec_; (first | subst ea_ | (injection ea_ with ea_; subst ea_)); subst ec_; clear en_))
                                                      have GB55 := Aside0.mk gb55
                                                      have GG55 := Aside0.mk HG55
                                                      clear gb55 gl55 HG55
                                                      (first | simp only [add_plain] at hx255_0 | skip)
                                                      obtain ⟨hx55_0, hf55_0⟩ := Kd.R_celln 0 HO_11.out (((rd_T45 t239 x68_3).f0) : Int) p55 q55
                                                      replace p55 := eq_true p55
                                                      replace q55 := eq_true q55
                                                      have HP63 := Kd.R_putn HO_11.out (((rd_T45 t239 x68_3).f0) : Int) (wrap64 ((rd x11_3 ((rd_T45 t239 x68_3).f0)) + ((rd_T45 t239 x68_3).f2)))
                                                      rw [← Ny256.out] at HP63
                                                      have HQ63 := Aside0.mk HP63
                                                      clear HP63
                                                      refine start_ (n := 10) (S := fun w' => w'.cell? ⟨gb252, 0, none⟩ = some (.int .i64 ((rd_T45 t239 x68_3).f0)) ∧ w'.cell? ⟨gb252, 1, none⟩ = some (.int .i64 ((rd_T45 t239 x68_3).f1)) ∧ w'.cell? ⟨gb252, 2, none⟩ = some (.int .i64 ((rd_T45 t239 x68_3).f2)) ∧ w'.cell? ⟨go55, (((rd_T45 t239 x68_3).f0)).toNat, none⟩ = some (.int .i64 (rd x11_3 ((rd_T45 t239 x68_3).f0)))) (ds := [9]) #[false, false, false, false, false, false, false, false, false, false] (by kernel_rfl) rfl rfl ⟨(blk_cell BK252.out 0).trans rfl, (blk_cell BK252.out 1).trans rfl, (blk_cell BK252.out 2).trans rfl, hx255_0⟩ (fun hHeld => ?_); refine with_tabW cashbooklaw30_NettingSettles.tab21 cashbooklaw30_NettingSettles.bits21 (fun HT_ HW_ => ?_)
                                                      generalize w60.drew = w61 at HO_7 HO_9 HO_11 HO_66 BK252 HB GG55 HQ63 hf55_0 hx255_0 hx55_0 hHeld ⊢
                                                      refine pure_ (i := 0) (N := some 111) (v := ?_) (a' := ?_) #[true, false, false, false, false, false, false, false, false, false] rfl rfl (any_of HT_.out (by kernel_rfl)) (fun _ _ _ h => h) (Or.inl ⟨by rfl, ?_⟩) ?_ ?_
                                                      rotate_left
                                                      · intro w'
                                                        go_simp
                                                        with_reducible rfl
                                                      rotate_left
                                                      · simp only [Act.put, List.setIfInBounds_toArray, List.set_cons_zero, List.set_cons_succ, i64_w, i32_w]
                                                        rfl
                                                      refine pure_ (i := 1) (N := some 112) (v := ?_) (a' := ?_) #[true, true, false, false, false, false, false, false, false, false] rfl rfl (any_of HT_.out (by kernel_rfl)) (fun _ _ _ h => h) (Or.inl ⟨by rfl, ?_⟩) ?_ ?_
                                                      rotate_left
                                                      · intro w'
                                                        go_simp
                                                        with_reducible rfl
                                                      rotate_left
                                                      · simp only [Act.put, List.setIfInBounds_toArray, List.set_cons_zero, List.set_cons_succ, i64_w, i32_w]
                                                        rfl
                                                      refine pure_ (i := 5) (N := some 116) (v := ?_) (a' := ?_) #[true, true, false, false, false, true, false, false, false, false] rfl rfl (any_of HT_.out (by kernel_rfl)) (fun _ _ _ h => h) (Or.inl ⟨by rfl, ?_⟩) ?_ ?_
                                                      rotate_left
                                                      · intro w'
                                                        go_simp
                                                        with_reducible rfl
                                                      rotate_left
                                                      · simp only [Act.put, List.setIfInBounds_toArray, List.set_cons_zero, List.set_cons_succ, i64_w, i32_w]
                                                        rfl
                                                      refine take_ (i := 2) (N := some 113) (v := ?_) (a' := ?_) #[true, true, true, false, false, true, false, false, false, false] rfl rfl (take_ofW HT_.out HW_.out (by kernel_rfl)) (fun _ _ _ h => h) (Or.inl ⟨by rfl, ?_⟩) hHeld ?_ ?_
                                                      rotate_left
                                                      · rintro w' ⟨s0, s1, s2, s3⟩
                                                        go_simp
                                                        with_reducible rfl
                                                      rotate_left
                                                      · simp only [Act.put, List.setIfInBounds_toArray, List.set_cons_zero, List.set_cons_succ, i64_w, i32_w]
                                                        rfl
                                                      refine pure_ (i := 3) (N := some 114) (v := ?_) (a' := ?_) #[true, true, true, true, false, true, false, false, false, false] rfl rfl (any_of HT_.out (by kernel_rfl)) (fun _ _ _ h => h) (Or.inl ⟨by rfl, ?_⟩) ?_ ?_
                                                      rotate_left
                                                      · intro w'
                                                        go_simp
                                                        with_reducible rfl
                                                      rotate_left
                                                      · simp only [Act.put, List.setIfInBounds_toArray, List.set_cons_zero, List.set_cons_succ, i64_w, i32_w]
                                                        rfl
                                                      refine take_ (i := 4) (N := some 115) (v := ?_) (a' := ?_) #[true, true, true, true, true, true, false, false, false, false] rfl rfl (take_ofW HT_.out HW_.out (by kernel_rfl)) (fun _ _ _ h => h) (Or.inl ⟨by rfl, ?_⟩) hHeld ?_ ?_
                                                      rotate_left
                                                      · rintro w' ⟨s0, s1, s2, s3⟩
                                                        go_simp
                                                        with_reducible rfl
                                                      rotate_left
                                                      · simp only [Act.put, List.setIfInBounds_toArray, List.set_cons_zero, List.set_cons_succ, i64_w, i32_w]
                                                        rfl
                                                      refine take_ (i := 6) (N := some 117) (v := ?_) (a' := ?_) #[true, true, true, true, true, true, true, false, false, false] rfl rfl (take_ofW HT_.out HW_.out (by kernel_rfl)) (fun _ _ _ h => h) (Or.inl ⟨by rfl, ?_⟩) hHeld ?_ ?_
                                                      rotate_left
                                                      · rintro w' ⟨s0, s1, s2, s3⟩
                                                        go_simp
                                                        with_reducible rfl
                                                      rotate_left
                                                      · simp only [Act.put, List.setIfInBounds_toArray, List.set_cons_zero, List.set_cons_succ, i64_w, i32_w]
                                                        rfl
                                                      refine pure_ (i := 7) (N := some 118) (v := ?_) (a' := ?_) #[true, true, true, true, true, true, true, true, false, false] rfl rfl (any_of HT_.out (by kernel_rfl)) (fun _ _ _ h => h) (Or.inl ⟨by rfl, ?_⟩) ?_ ?_
                                                      rotate_left
                                                      · intro w'
                                                        go_simp
                                                        with_reducible rfl
                                                      rotate_left
                                                      · simp only [Act.put, List.setIfInBounds_toArray, List.set_cons_zero, List.set_cons_succ, i64_w, i32_w]
                                                        rfl
                                                      refine pure_ (i := 8) (N := some 119) (v := ?_) (a' := ?_) #[true, true, true, true, true, true, true, true, true, false] rfl rfl (any_of HT_.out (by kernel_rfl)) (fun _ _ _ h => h) (Or.inl ⟨by rfl, ?_⟩) ?_ ?_
                                                      rotate_left
                                                      · intro w'
                                                        go_simp
                                                        with_reducible rfl
                                                      rotate_left
                                                      · simp only [Act.put, List.setIfInBounds_toArray, List.set_cons_zero, List.set_cons_succ, i64_w, i32_w]
                                                        rfl
                                                      refine last_ (i := 9) (N := none) #[true, true, true, true, true, true, true, true, true, true] rfl rfl (one_of HT_.out (by kernel_rfl)) (by decide) (fun K hK => ?_)
                                                      refine skip_ (w1 := ?_) (by rfl) rfl ?_ ?_
                                                      rotate_left
                                                      · go_simp
                                                        rfl
                                                      refine hK.out _ _ ?_
                                                      clear hK K
                                                      refine done_ (done_of HT_.out (by kernel_rfl)) ?_
                                                      try go_wp2
                                                      have n0_ : Aside0 (Kd.R (Kd.int .i64) 2 (w61.setCell ⟨go55, (((rd_T45 t239 x68_3).f0) : Int).toNat, none⟩ (.int .i64 (wrap64 ((rd x11_3 ((rd_T45 t239 x68_3).f0)) + ((rd_T45 t239 x68_3).f2))))) w.heap.size (fun k_ => some k_ ≠ (.slice (some ⟨go55, 0, none⟩) x11_3.length co62 : Value).ownBlock) (.slice (some ad253) t234.length co10) t234) := ⟨by (with_reducible repeat (first | apply Kd.R_alloc | apply Kd.R_drewN | apply Kd.R_drew)); exact Kd.R_mono (Kd.R_far (p := ⟨go55, (((rd_T45 t239 x68_3).f0) : Int).toNat, none⟩) (Kd.R_mono HO_7.out (fun k_ hk => (⟨hk, fun e_ => hk (by rw [e_]; rfl)⟩ : _ ∧ k_ ≠ go55))) (fun _ hk => hk.2) (.int .i64 (wrap64 ((rd x11_3 ((rd_T45 t239 x68_3).f0)) + ((rd_T45 t239 x68_3).f2))))) (fun _ hk => hk.1)⟩
                                                      have n1_ : Aside0 (Kd.R k45 45 (w61.setCell ⟨go55, (((rd_T45 t239 x68_3).f0) : Int).toNat, none⟩ (.int .i64 (wrap64 ((rd x11_3 ((rd_T45 t239 x68_3).f0)) + ((rd_T45 t239 x68_3).f2))))) w.heap.size (fun k_ => k_ ≠ gb252) (.slice (some ad251) t239.length co25) t239) := ⟨by (with_reducible repeat (first | apply Kd.R_alloc | apply Kd.R_drewN | apply Kd.R_drew)); exact Kd.R_mono (Kd.R_far (p := ⟨go55, (((rd_T45 t239 x68_3).f0) : Int).toNat, none⟩) (Kd.R_types HO_9.out GG55.out (by decide)) (fun _ hk => hk.2) (.int .i64 (wrap64 ((rd x11_3 ((rd_T45 t239 x68_3).f0)) + ((rd_T45 t239 x68_3).f2))))) (fun _ hk => hk.1)⟩
                                                      have n2_ : Aside0 (Kd.R (Kd.int .i64) 2 (w61.setCell ⟨go55, (((rd_T45 t239 x68_3).f0) : Int).toNat, none⟩ (.int .i64 (wrap64 ((rd x11_3 ((rd_T45 t239 x68_3).f0)) + ((rd_T45 t239 x68_3).f2))))) w.heap.size (fun k_ => some k_ ≠ (.slice (some ad253) t234.length co10 : Value).ownBlock) (.slice (some ⟨go55, 0, none⟩) x11_3.length co62) y256) := ⟨by (with_reducible repeat (first | apply Kd.R_alloc | apply Kd.R_drewN | apply Kd.R_drew)); exact HQ63.out⟩
                                                      have n3_ : Aside0 (Kd.R k45 45 (w61.setCell ⟨go55, (((rd_T45 t239 x68_3).f0) : Int).toNat, none⟩ (.int .i64 (wrap64 ((rd x11_3 ((rd_T45 t239 x68_3).f0)) + ((rd_T45 t239 x68_3).f2))))) w.heap.size (fun k_ => k_ ≠ gb252) (.slice (some ad251) t239.length co25) t239) := ⟨by (with_reducible repeat (first | apply Kd.R_alloc | apply Kd.R_drewN | apply Kd.R_drew)); exact Kd.R_mono (Kd.R_far (p := ⟨go55, (((rd_T45 t239 x68_3).f0) : Int).toNat, none⟩) (Kd.R_types HO_66.out GG55.out (by decide)) (fun _ hk => hk.2) (.int .i64 (wrap64 ((rd x11_3 ((rd_T45 t239 x68_3).f0)) + ((rd_T45 t239 x68_3).f2))))) (fun _ hk => hk.1)⟩
                                                      have n4_ : Aside0 ((w61.setCell ⟨go55, (((rd_T45 t239 x68_3).f0) : Int).toNat, none⟩ (.int .i64 (wrap64 ((rd x11_3 ((rd_T45 t239 x68_3).f0)) + ((rd_T45 t239 x68_3).f2))))).heap[gb252]? = some (.cells #[.int .i64 ((rd_T45 t239 x68_3).f0), .int .i64 ((rd_T45 t239 x68_3).f1), .int .i64 ((rd_T45 t239 x68_3).f2)] 45 (0, 0))) := ⟨by (with_reducible repeat (first | refine blk_drewN ?_ _ | refine blk_drew ?_ | refine blk_alloc ?_ _)); refine blk_far ?_ (by have h_ := Kd.R_ne HO_11.out BK252.out (by decide); intro e_; exact h_ (by rw [e_]; rfl)) _; (with_reducible repeat (first | refine blk_drewN ?_ _ | refine blk_drew ?_ | refine blk_alloc ?_ _)); exact BK252.out⟩
                                                      have n5_ : Aside0 (Below w.heap.size w (w61.setCell ⟨go55, (((rd_T45 t239 x68_3).f0) : Int).toNat, none⟩ (.int .i64 (wrap64 ((rd x11_3 ((rd_T45 t239 x68_3).f0)) + ((rd_T45 t239 x68_3).f2)))))) := ⟨by repeat (first | (with_reducible first | exact HB.out | apply below_alloc | apply pw_below_drewN | apply below_drew1 | refine below_set ?_ GB55.out | refine below_set ?_ GE252.out) | exact HB.out)⟩
                                                      (try clear HO_7)
                                                      (try clear HO_9)
                                                      (try clear HO_11)
                                                      (try clear HO_66)
                                                      (try clear BK252)
                                                      (try clear HB)
                                                      generalize (w61.setCell ⟨go55, (((rd_T45 t239 x68_3).f0) : Int).toNat, none⟩ (.int .i64 (wrap64 ((rd x11_3 ((rd_T45 t239 x68_3).f0)) + ((rd_T45 t239 x68_3).f2))))) = w64 at n0_ n1_ n2_ n3_ n4_ n5_ ⊢
                                                      have HO_7 := n0_
                                                      have HO_9 := n1_
                                                      have HO_11 := n2_
                                                      have HO_66 := n3_
                                                      have BK252 := n4_
                                                      have HB := n5_
                                                      clear n0_ n1_ n2_ n3_ n4_ n5_
                                                      have n0_ := Aside0.mk (Kd.R_drew HO_7.out)
                                                      have n1_ := Aside0.mk (Kd.R_drew HO_9.out)
                                                      have n2_ := Aside0.mk (Kd.R_drew HO_11.out)
                                                      have n3_ := Aside0.mk (Kd.R_drew HO_66.out)
                                                      have n4_ := Aside0.mk (blk_drew BK252.out)
                                                      have n5_ := Aside0.mk (below_drew1 HB.out)
                                                      clear HO_7
                                                      clear HO_9
                                                      clear HO_11
                                                      clear HO_66
                                                      clear BK252
                                                      clear HB
                                                      have HO_7 := n0_
                                                      have HO_9 := n1_
                                                      have HO_11 := n2_
                                                      have HO_66 := n3_
                                                      have BK252 := n4_
                                                      have HB := n5_
                                                      clear n0_ n1_ n2_ n3_ n4_ n5_
                                                      have p257 : 0 ≤ (((rd_T45 t239 x68_3).f1) : Int) := of_decide_eq_true (by first | (with_reducible assumption) | assumption)
                                                      have q257 : ((rd_T45 t239 x68_3).f1) < (y256.length : Int) := (by have h_ : (((rd_T45 t239 x68_3).f1) : Int) < ((x11_3.length : Int) : Int) := of_decide_eq_true (by first | (with_reducible assumption) | assumption); first | (have e_ := (Kd.R_reads' HO_11.out).1; omega) | simpa only [Ny256.out, List.length_set] using h_)
                                                      have ql257 : ((((rd_T45 t239 x68_3).f1) : Int) < ((x11_3.length : Int) : Int)) = True := eq_true (of_decide_eq_true (by first | (with_reducible assumption) | assumption))
                                                      obtain ⟨ad257, e257, hx257_0⟩ := Kd.at_int (Kd.R_reads' HO_11.out).2.2 ((rd_T45 t239 x68_3).f1) p257 q257
                                                      obtain rfl : (⟨go55, 0, none⟩ : Addr) = ad257 := (by injection e257)
                                                      (first | simp only [add_plain] at hx257_0 | simp only [add_at] at hx257_0 | simp only [Addr.add, Nat.zero_add] at hx257_0 | skip)
                                                      replace p257 := eq_true p257
                                                      replace q257 := eq_true q257
                                                      have p57 : 0 ≤ (((rd_T45 t239 x68_3).f1) : Int) := of_decide_eq_true (by first | (with_reducible assumption) | assumption)
                                                      have q57 : (((rd_T45 t239 x68_3).f1) : Int) < ((x11_3.length : Int) : Int) := of_decide_eq_true (by first | (with_reducible assumption) | assumption)
                                                      obtain ⟨hx57_0, hf57_0⟩ := Kd.R_celln 0 HO_11.out (((rd_T45 t239 x68_3).f1) : Int) p57 q57
                                                      replace p57 := eq_true p57
                                                      replace q57 := eq_true q57
                                                      have HP66 := Kd.R_putn HO_11.out (((rd_T45 t239 x68_3).f1) : Int) (wrap64 ((rd y256 ((rd_T45 t239 x68_3).f1)) - ((rd_T45 t239 x68_3).f2)))
                                                      rw [← Ny258.out] at HP66
                                                      have HQ66 := Aside0.mk HP66
                                                      clear HP66
                                                      refine start_ (n := 10) (S := fun w' => w'.cell? ⟨gb252, 0, none⟩ = some (.int .i64 ((rd_T45 t239 x68_3).f0)) ∧ w'.cell? ⟨gb252, 1, none⟩ = some (.int .i64 ((rd_T45 t239 x68_3).f1)) ∧ w'.cell? ⟨gb252, 2, none⟩ = some (.int .i64 ((rd_T45 t239 x68_3).f2)) ∧ w'.cell? ⟨go55, (((rd_T45 t239 x68_3).f1)).toNat, none⟩ = some (.int .i64 (rd y256 ((rd_T45 t239 x68_3).f1)))) (ds := [9]) #[false, false, false, false, false, false, false, false, false, false] (by kernel_rfl) rfl rfl ⟨(blk_cell BK252.out 0).trans rfl, (blk_cell BK252.out 1).trans rfl, (blk_cell BK252.out 2).trans rfl, hx257_0⟩ (fun hHeld => ?_); refine with_tabW cashbooklaw30_NettingSettles.tab22 cashbooklaw30_NettingSettles.bits22 (fun HT_ HW_ => ?_)
                                                      generalize w64.drew = w65 at HO_7 HO_9 HO_11 HO_66 BK252 HB HQ63 HQ66 hf57_0 hx257_0 hx57_0 hHeld ⊢
                                                      (try (obtain ⟨cl55, HG55⟩ := typed_again HO_11.out; have GG55 := Aside0.mk HG55; clear HG55))
                                                      refine pure_ (i := 0) (N := some 120) (v := ?_) (a' := ?_) #[true, false, false, false, false, false, false, false, false, false] rfl rfl (any_of HT_.out (by kernel_rfl)) (fun _ _ _ h => h) (Or.inl ⟨by rfl, ?_⟩) ?_ ?_
                                                      rotate_left
                                                      · intro w'
                                                        go_simp
                                                        with_reducible rfl
                                                      rotate_left
                                                      · simp only [Act.put, List.setIfInBounds_toArray, List.set_cons_zero, List.set_cons_succ, i64_w, i32_w]
                                                        rfl
                                                      refine pure_ (i := 1) (N := some 121) (v := ?_) (a' := ?_) #[true, true, false, false, false, false, false, false, false, false] rfl rfl (any_of HT_.out (by kernel_rfl)) (fun _ _ _ h => h) (Or.inl ⟨by rfl, ?_⟩) ?_ ?_
                                                      rotate_left
                                                      · intro w'
                                                        go_simp
                                                        with_reducible rfl
                                                      rotate_left
                                                      · simp only [Act.put, List.setIfInBounds_toArray, List.set_cons_zero, List.set_cons_succ, i64_w, i32_w]
                                                        rfl
                                                      refine pure_ (i := 5) (N := some 125) (v := ?_) (a' := ?_) #[true, true, false, false, false, true, false, false, false, false] rfl rfl (any_of HT_.out (by kernel_rfl)) (fun _ _ _ h => h) (Or.inl ⟨by rfl, ?_⟩) ?_ ?_
                                                      rotate_left
                                                      · intro w'
                                                        go_simp
                                                        with_reducible rfl
                                                      rotate_left
                                                      · simp only [Act.put, List.setIfInBounds_toArray, List.set_cons_zero, List.set_cons_succ, i64_w, i32_w]
                                                        rfl
                                                      refine take_ (i := 2) (N := some 122) (v := ?_) (a' := ?_) #[true, true, true, false, false, true, false, false, false, false] rfl rfl (take_ofW HT_.out HW_.out (by kernel_rfl)) (fun _ _ _ h => h) (Or.inl ⟨by rfl, ?_⟩) hHeld ?_ ?_
                                                      rotate_left
                                                      · rintro w' ⟨s0, s1, s2, s3⟩
                                                        go_simp
                                                        with_reducible rfl
                                                      rotate_left
                                                      · simp only [Act.put, List.setIfInBounds_toArray, List.set_cons_zero, List.set_cons_succ, i64_w, i32_w]
                                                        rfl
                                                      refine pure_ (i := 3) (N := some 123) (v := ?_) (a' := ?_) #[true, true, true, true, false, true, false, false, false, false] rfl rfl (any_of HT_.out (by kernel_rfl)) (fun _ _ _ h => h) (Or.inl ⟨by rfl, ?_⟩) ?_ ?_
                                                      rotate_left
                                                      · intro w'
                                                        go_simp
                                                        with_reducible rfl
                                                      rotate_left
                                                      · simp only [Act.put, List.setIfInBounds_toArray, List.set_cons_zero, List.set_cons_succ, i64_w, i32_w]
                                                        rfl
                                                      refine take_ (i := 4) (N := some 124) (v := ?_) (a' := ?_) #[true, true, true, true, true, true, false, false, false, false] rfl rfl (take_ofW HT_.out HW_.out (by kernel_rfl)) (fun _ _ _ h => h) (Or.inl ⟨by rfl, ?_⟩) hHeld ?_ ?_
                                                      rotate_left
                                                      · rintro w' ⟨s0, s1, s2, s3⟩
                                                        go_simp
                                                        with_reducible rfl
                                                      rotate_left
                                                      · simp only [Act.put, List.setIfInBounds_toArray, List.set_cons_zero, List.set_cons_succ, i64_w, i32_w]
                                                        rfl
                                                      refine take_ (i := 6) (N := some 126) (v := ?_) (a' := ?_) #[true, true, true, true, true, true, true, false, false, false] rfl rfl (take_ofW HT_.out HW_.out (by kernel_rfl)) (fun _ _ _ h => h) (Or.inl ⟨by rfl, ?_⟩) hHeld ?_ ?_
                                                      rotate_left
                                                      · rintro w' ⟨s0, s1, s2, s3⟩
                                                        go_simp
                                                        with_reducible rfl
                                                      rotate_left
                                                      · simp only [Act.put, List.setIfInBounds_toArray, List.set_cons_zero, List.set_cons_succ, i64_w, i32_w]
                                                        rfl
                                                      refine pure_ (i := 7) (N := some 127) (v := ?_) (a' := ?_) #[true, true, true, true, true, true, true, true, false, false] rfl rfl (any_of HT_.out (by kernel_rfl)) (fun _ _ _ h => h) (Or.inl ⟨by rfl, ?_⟩) ?_ ?_
                                                      rotate_left
                                                      · intro w'
                                                        go_simp
                                                        with_reducible rfl
                                                      rotate_left
                                                      · simp only [Act.put, List.setIfInBounds_toArray, List.set_cons_zero, List.set_cons_succ, i64_w, i32_w]
                                                        rfl
                                                      refine pure_ (i := 8) (N := some 128) (v := ?_) (a' := ?_) #[true, true, true, true, true, true, true, true, true, false] rfl rfl (any_of HT_.out (by kernel_rfl)) (fun _ _ _ h => h) (Or.inl ⟨by rfl, ?_⟩) ?_ ?_
                                                      rotate_left
                                                      · intro w'
                                                        go_simp
                                                        with_reducible rfl
                                                      rotate_left
                                                      · simp only [Act.put, List.setIfInBounds_toArray, List.set_cons_zero, List.set_cons_succ, i64_w, i32_w]
                                                        rfl
                                                      refine last_ (i := 9) (N := none) #[true, true, true, true, true, true, true, true, true, true] rfl rfl (one_of HT_.out (by kernel_rfl)) (by decide) (fun K hK => ?_)
                                                      refine skip_ (w1 := ?_) (by rfl) rfl ?_ ?_
                                                      rotate_left
                                                      · go_simp
                                                        rfl
                                                      refine hK.out _ _ ?_
                                                      clear hK K
                                                      refine done_ (done_of HT_.out (by kernel_rfl)) ?_
                                                      try go_wp2
                                                      go_roundg k3
                                                      case measure => have := HJ7.out; have := HK2.out; have := HK3.out; omega
                                                      case rel => exact ⟨(y258), (wrap64 (x68_3 + 1)), (by first | rfl | (simp; done) | (simp [*]; done)), H', ⟨by have := HJ7.out; have := HK2.out; have := HK3.out; omega⟩, ⟨by (with_reducible repeat (first | apply Kd.R_alloc | apply Kd.R_drewN | apply Kd.R_drew)); exact Kd.R_mono (Kd.R_far (p := ⟨go55, (((rd_T45 t239 x68_3).f1) : Int).toNat, none⟩) (Kd.R_mono HO_7.out (fun k_ hk => (⟨hk, fun e_ => hk (by rw [e_]; rfl)⟩ : _ ∧ k_ ≠ go55))) (fun _ hk => hk.2) (.int .i64 (wrap64 ((rd y256 ((rd_T45 t239 x68_3).f1)) - ((rd_T45 t239 x68_3).f2))))) (fun _ hk => hk.1)⟩, ⟨by (with_reducible repeat (first | apply Kd.R_alloc | apply Kd.R_drewN | apply Kd.R_drew)); exact Kd.R_mono (Kd.R_far (p := ⟨go55, (((rd_T45 t239 x68_3).f1) : Int).toNat, none⟩) (Kd.R_types HO_9.out GG55.out (by decide)) (fun _ hk => hk.2) (.int .i64 (wrap64 ((rd y256 ((rd_T45 t239 x68_3).f1)) - ((rd_T45 t239 x68_3).f2))))) (fun _ hk => trivial)⟩, ⟨by (with_reducible repeat (first | apply Kd.R_alloc | apply Kd.R_drewN | apply Kd.R_drew)); exact HQ66.out⟩, ⟨by (with_reducible repeat (first | apply Kd.R_alloc | apply Kd.R_drewN | apply Kd.R_drew)); exact Kd.R_mono (Kd.R_far (p := ⟨go55, (((rd_T45 t239 x68_3).f1) : Int).toNat, none⟩) (Kd.R_types HO_66.out GG55.out (by decide)) (fun _ hk => hk.2) (.int .i64 (wrap64 ((rd y256 ((rd_T45 t239 x68_3).f1)) - ((rd_T45 t239 x68_3).f2))))) (fun _ hk => trivial)⟩, ⟨by repeat (first | (with_reducible first | exact HB.out | apply below_alloc | apply pw_below_drewN | apply below_drew1 | refine below_set ?_ GB55.out | refine below_set ?_ GE252.out) | exact HB.out)⟩⟩
                                                    · rw [if_neg c56] at H
                                                      exact absurd H (by simp)
                                                  · rw [if_neg c54] at H
                                                    exact absurd H (by simp)
                                              · rw [if_neg c50] at H
                                                exact absurd H (by simp)
                                            · rw [if_neg c49] at H
                                              exact absurd H (by simp)
                                        · rw [if_neg c45] at H
                                          exact absurd H (by simp)
                                      · rw [if_neg c44] at H
                                        exact absurd H (by simp)
                          · rw [if_neg c28] at H
                            exact absurd H (by simp)
                        · rw [if_neg c27] at H
                          exact absurd H (by simp)
                      · rw [if_neg c26] at H
                        have c26b0 : decide (x68_3 < (t239.length : Int)) = false := decide_eq_false c26
                        clear c26
                        have H' := Aside0.mk H
                        clear H
                        obtain ⟨Ao67, co67, eo67⟩ := Kd.R_slice HO_11.out
                        subst eo67
                        go_wp2
                        go_loopg [132] k3 (fun kq v132 w' => ∃ (x132_4 : Int), v132 = .int .i64 x132_4 ∧ Aside0 (cashbooklaw30_NettingSettles.l2 kq t239 x12_2 x11_3 (x11_3.length : Int) x132_4 = some r) ∧ Aside0 (kq ≤ k3) ∧ Aside0 (Kd.R k45 45 w' w.heap.size (fun _ => True) (.slice Ao25 t239.length co25) t239) ∧ Aside0 (Kd.R (Kd.int .i64) 2 w' w.heap.size (fun _ => True) (.slice Ao67 x11_3.length co67) x11_3) ∧ Aside0 (Below w.heap.size w w'))
                        case atStart => exact ⟨(0), (by first | rfl | (simp; done) | (simp [*]; done)), H', ⟨Nat.le_refl _⟩, ⟨by (with_reducible repeat (first | apply Kd.R_alloc | apply Kd.R_drewN | apply Kd.R_drew)); exact HO_9.out⟩, ⟨by (with_reducible repeat (first | apply Kd.R_alloc | apply Kd.R_drewN | apply Kd.R_drew)); exact Kd.R_mono HO_11.out (fun _ hk => trivial)⟩, ⟨by repeat (first | (with_reducible first | exact HB.out | apply below_alloc | apply pw_below_drewN | apply below_drew1) | exact HB.out)⟩⟩
                        case round =>
                          clear H'
                          try clear c1
                          try clear c2
                          try clear p2
                          try clear q2
                          try clear hx2
                          try clear c3
                          try clear c4
                          try clear c5
                          try clear p5
                          try clear q5
                          try clear hx5
                          try clear hf5
                          try clear c6
                          try clear c6b0
                          try clear c6b1
                          try clear p6
                          try clear c7
                          try clear c9
                          try clear c10
                          try clear c12
                          try clear c12b0
                          try clear c12b1
                          try clear c13
                          try clear c13b0
                          try clear c13b1
                          try clear c16
                          try clear c17
                          try clear c21
                          try clear c21b0
                          try clear c22
                          try clear c22b0
                          try clear c23
                          try clear c23b0
                          try clear c24
                          try clear c24b0
                          try clear c24b1
                          try clear p25
                          try clear q25
                          try clear hx25
                          try clear c26
                          try clear c26b0
                          try clear c27
                          try clear c27b0
                          try clear c28
                          try clear c28b0
                          try clear c29
                          try clear c29b0
                          try clear c32
                          try clear c32b0
                          try clear c35
                          try clear c35b0
                          try clear c38
                          try clear c38b0
                          try clear c41
                          try clear c41b0
                          try clear c44
                          try clear c44b0
                          try clear c45
                          try clear c45b0
                          try clear c46
                          try clear c46b0
                          try clear c49
                          try clear c49b0
                          try clear c50
                          try clear c50b0
                          try clear c51
                          try clear c51b0
                          try clear c54
                          try clear c54b0
                          try clear p55
                          try clear q55
                          try clear hx55
                          try clear hf55
                          try clear c56
                          try clear c56b0
                          try clear p57
                          try clear q57
                          try clear hx57
                          try clear hf57
                          try clear p64
                          try clear hcz31_0
                          try clear hcz31_1
                          try clear hcz31_2
                          try clear hcz34_0
                          try clear hcz34_1
                          try clear hcz34_2
                          try clear hcz37_0
                          try clear hcz37_1
                          try clear hcz37_2
                          try clear hcz40_0
                          try clear hcz40_1
                          try clear hcz40_2
                          try clear hcz43_0
                          try clear hcz43_1
                          try clear hcz43_2
                          try clear hcz48_0
                          try clear hcz48_1
                          try clear hcz48_2
                          try clear hcz53_0
                          try clear hcz53_1
                          try clear hcz53_2
                          try clear hcz59_0
                          try clear hcz59_1
                          try clear hcz59_2
                          try clear hfz31_0
                          try clear hfz31_1
                          try clear hfz31_2
                          try clear hfz34_0
                          try clear hfz34_1
                          try clear hfz34_2
                          try clear hfz37_0
                          try clear hfz37_1
                          try clear hfz37_2
                          try clear hfz40_0
                          try clear hfz40_1
                          try clear hfz40_2
                          try clear hfz43_0
                          try clear hfz43_1
                          try clear hfz43_2
                          try clear hfz48_0
                          try clear hfz48_1
                          try clear hfz48_2
                          try clear hfz53_0
                          try clear hfz53_1
                          try clear hfz53_2
                          try clear hfz59_0
                          try clear hfz59_1
                          try clear hfz59_2
                          try clear hx250_0
                          try clear hx251_0
                          try clear hx251_1
                          try clear hx251_2
                          try clear hx253_0
                          try clear hx254_0
                          try clear hx255_0
                          try clear hx257_0
                          try clear hx55_0
                          try clear hx57_0
                          try clear p2
                          try clear p25
                          try clear p250
                          try clear p251
                          try clear p253
                          try clear p254
                          try clear p255
                          try clear p257
                          try clear p55
                          try clear p57
                          try clear p6
                          try clear q2
                          try clear q25
                          try clear q250
                          try clear q251
                          try clear q253
                          try clear q254
                          try clear q255
                          try clear q257
                          try clear q55
                          try clear q57
                          obtain ⟨x132_4, rfl, HA, HK4, HO_9, HO_130, HB⟩ := hrel
                          cases gk with
                          | zero => exact absurd HA.out (by simp [cashbooklaw30_NettingSettles.l2])
                          | succ k4 =>
                            have H := HA.out
                            clear HA
                            simp only [cashbooklaw30_NettingSettles.l2] at H
                            by_cases c68 : x132_4 < (x11_3.length : Int)
                            · rw [if_pos c68] at H
                              have c68b0 : decide (x132_4 < (x11_3.length : Int)) = true := decide_eq_true c68
                              clear c68
                              by_cases c69 : 0 ≤ x132_4
                              · rw [if_pos c69] at H
                                have c69b0 : decide (0 ≤ x132_4) = true := decide_eq_true c69
                                clear c69
                                by_cases c70 : x132_4 < (x11_3.length : Int)
                                · rw [if_pos c70] at H
                                  have c70b0 : decide (x132_4 < (x11_3.length : Int)) = true := decide_eq_true c70
                                  clear c70
                                  by_cases c71 : (rd x11_3 x132_4) = 0
                                  · rw [if_pos c71] at H
                                    have c71b0 : ((rd x11_3 x132_4) == 0) = true := beq_iff_eq.mpr c71
                                    have c71b1 : ((rd x11_3 x132_4) != 0) = false := bne_eq_false_iff_eq.mpr c71
                                    clear c71
                                    have H' := Aside0.mk H
                                    clear H
                                    have p259 : 0 ≤ (x132_4 : Int) := of_decide_eq_true (by first | (with_reducible assumption) | assumption)
                                    have q259 : x132_4 < (x11_3.length : Int) := of_decide_eq_true (by first | (with_reducible assumption) | assumption)
                                    obtain ⟨ad259, e259, hx259_0⟩ := Kd.at_int (Kd.R_reads' HO_130.out).2.2 x132_4 p259 q259
                                    cases e259
                                    replace p259 := eq_true p259
                                    replace q259 := eq_true q259
                                    go_wp2
                                    go_roundg k4
                                    case measure => have := HJ7.out; have := HK2.out; have := HK3.out; have := HK4.out; omega
                                    case rel => exact ⟨(wrap64 (x132_4 + 1)), (by first | rfl | (simp; done) | (simp [*]; done)), H', ⟨by have := HJ7.out; have := HK2.out; have := HK3.out; have := HK4.out; omega⟩, ⟨by (with_reducible repeat (first | apply Kd.R_alloc | apply Kd.R_drewN | apply Kd.R_drew)); exact HO_9.out⟩, ⟨by (with_reducible repeat (first | apply Kd.R_alloc | apply Kd.R_drewN | apply Kd.R_drew)); exact HO_130.out⟩, ⟨by repeat (first | (with_reducible first | exact HB.out | apply below_alloc | apply pw_below_drewN | apply below_drew1) | exact HB.out)⟩⟩
                                  · rw [if_neg c71] at H
                                    have c71b0 : ((rd x11_3 x132_4) == 0) = false := beq_eq_false_iff_ne.mpr c71
                                    have c71b1 : ((rd x11_3 x132_4) != 0) = true := bne_iff_ne.mpr c71
                                    obtain rfl := Option.some.inj H
                                    have p259 : 0 ≤ (x132_4 : Int) := of_decide_eq_true (by first | (with_reducible assumption) | assumption)
                                    have q259 : x132_4 < (x11_3.length : Int) := of_decide_eq_true (by first | (with_reducible assumption) | assumption)
                                    obtain ⟨ad259, e259, hx259_0⟩ := Kd.at_int (Kd.R_reads' HO_130.out).2.2 x132_4 p259 q259
                                    cases e259
                                    replace p259 := eq_true p259
                                    replace q259 := eq_true q259
                                    go_wp2
                                    go_ret
                                    exact ⟨by first | rfl | (simp [errW_none, errW_some] <;> rfl) | (simp [*, errW_none, errW_some] <;> rfl), by repeat (first | (with_reducible first | exact HB.out | apply below_alloc | apply pw_below_drewN | apply below_drew1) | exact HB.out)⟩
                                · rw [if_neg c70] at H
                                  exact absurd H (by simp)
                              · rw [if_neg c69] at H
                                exact absurd H (by simp)
                            · rw [if_neg c68] at H
                              have c68b0 : decide (x132_4 < (x11_3.length : Int)) = false := decide_eq_false c68
                              clear c68
                              by_cases c72 : (t239.length : Int) = 0
                              · rw [if_pos c72] at H
                                have c72b0 : ((t239.length : Int) == 0) = true := beq_iff_eq.mpr c72
                                have c72b1 : ((t239.length : Int) != 0) = false := bne_eq_false_iff_eq.mpr c72
                                clear c72
                                by_cases c73 : x12_2 = 0
                                · rw [if_pos c73] at H
                                  have c73b0 : (x12_2 == 0) = true := beq_iff_eq.mpr c73
                                  have c73b1 : (x12_2 != 0) = false := bne_eq_false_iff_eq.mpr c73
                                  clear c73
                                  obtain rfl := Option.some.inj H
                                  go_wp2
                                  go_ret
                                  exact ⟨by first | rfl | (simp [errW_none, errW_some] <;> rfl) | (simp [*, errW_none, errW_some] <;> rfl), by repeat (first | (with_reducible first | exact HB.out | apply below_alloc | apply pw_below_drewN | apply below_drew1) | exact HB.out)⟩
                                · rw [if_neg c73] at H
                                  have c73b0 : (x12_2 == 0) = false := beq_eq_false_iff_ne.mpr c73
                                  have c73b1 : (x12_2 != 0) = true := bne_iff_ne.mpr c73
                                  obtain rfl := Option.some.inj H
                                  go_wp2
                                  go_ret
                                  exact ⟨by first | rfl | (simp [errW_none, errW_some] <;> rfl) | (simp [*, errW_none, errW_some] <;> rfl), by repeat (first | (with_reducible first | exact HB.out | apply below_alloc | apply pw_below_drewN | apply below_drew1) | exact HB.out)⟩
                              · rw [if_neg c72] at H
                                have c72b0 : ((t239.length : Int) == 0) = false := beq_eq_false_iff_ne.mpr c72
                                have c72b1 : ((t239.length : Int) != 0) = true := bne_iff_ne.mpr c72
                                have c72b2 : ¬ (t239 = []) := fun h_ => c72 (by rw [h_]; rfl)
                                obtain rfl := Option.some.inj H
                                go_wp2
                                go_ret
                                exact ⟨by first | rfl | (simp [errW_none, errW_some] <;> rfl) | (simp [*, errW_none, errW_some] <;> rfl), by repeat (first | (with_reducible first | exact HB.out | apply below_alloc | apply pw_below_drewN | apply below_drew1) | exact HB.out)⟩
          · rw [if_neg c17] at H
            exact absurd H (by simp)
  · rw [if_neg c6] at H
    have c6b0 : (t235 == 0) = false := beq_eq_false_iff_ne.mpr c6
    have c6b1 : (t235 != 0) = true := bne_iff_ne.mpr c6
    replace H := Option.bind_eq_some_iff.mp H
    obtain ⟨t238, A740, H⟩ := H
    replace H : (if t238 = true then (some ((t234.length : Int) == 0)) else (some false)) = some r := H
    have A74 := Aside0.mk A740
    clear A740
    by_cases c75 : t238 = true
    · subst c75
      have H1 : (some ((t234.length : Int) == 0)) = some r := by rw [if_pos rfl] at H; exact H
      clear H
      have H := H1
      clear H1
      obtain rfl := Option.some.inj H
      have HR233 := Aside0.mk (cashbooklaw30_few.reads HR0.out A4.out)
      have HC233 := Aside0.mk (cashbooklaw30_few.room HC0.out A4.out)
      go_enter Try.func4, Try.ntmps4
      go_wp2_with (first | ((with_reducible refine gate_callee (f := 7) rfl ?_); refine goesL_ (some 20) rfl rfl Try.func7 (by kernel_rfl) rfl #[.slice A0 l0.length c0] rfl (by (try simp only [List.map_toArray, List.map_cons, List.map_nil]); first | done | rfl | (simp only [List.length_drop, List.length_take]; rfl)) ?_; (with_reducible refine (cashbooklaw30_few.calls _ _ l0 t232 _ ?side1 ?side2 A4.out).mono ?_); (case side1 => repeat (first | exact HR0.out | (with_reducible refine Kd.C_alloc ?_ _) | (with_reducible refine Kd.C_drewN ?_ _) | (with_reducible refine Kd.C_drew ?_))); (case side2 => exact HC0.out); rintro e w' ⟨rfl, ⟨nd, rfl⟩⟩; refine ⟨_, rfl, ?_⟩) | ((with_reducible refine gate_callee (f := 9) rfl ?_); refine goesL_ (some 25) rfl rfl Try.func9 (by kernel_rfl) rfl #[.slice A0 t232.length c0, .int .i64 a1, .int .i32 a2] rfl (by (try simp only [List.map_toArray, List.map_cons, List.map_nil]); first | done | rfl | (simp only [List.length_drop, List.length_take]; rfl)) ?_; (with_reducible refine (netting_Net.calls k _ _ t232 a1 a2 t234 t235 _ ?side1 ?side2 A5.out).mono ?_); (case side1 => repeat (first | exact HR233.out | (with_reducible refine Kd.C_alloc ?_ _) | (with_reducible refine Kd.C_drewN ?_ _) | (with_reducible refine Kd.C_drew ?_))); (case side2 => exact HC233.out); rintro e w76 ⟨v236, rfl, ho0, hb⟩; refine ⟨_, rfl, ?_⟩; have n0_ := Aside0.mk (Kd.R_lower ho0 (below_size (by repeat (first | (with_reducible first | exact HB.out | apply below_alloc | apply pw_below_drewN | apply below_drew1) | exact HB.out)))); have n1_ := Aside0.mk (below_step (by repeat (first | (with_reducible first | exact HB.out | apply below_alloc | apply pw_below_drewN | apply below_drew1) | exact HB.out)) hb); clear HB; have HO237 := n0_; have HB := n1_; clear n0_ n1_; (try clear hb); (try clear hb2); (try clear hk); (try clear hi); (try clear ho0)) | ((with_reducible refine gate_callee (f := 13) rfl ?_); refine goesL_ (some 30) rfl rfl Try.func13 (by kernel_rfl) rfl #[] rfl (by (try simp only [List.map_toArray, List.map_cons, List.map_nil]); first | done | rfl | (simp only [List.length_drop, List.length_take]; rfl)) ?_; (with_reducible refine (cashbooklaw30_alive.calls k  true _ A74.out).mono ?_); rintro e w77 ⟨rfl, hb⟩; refine ⟨_, rfl, ?_⟩; have n0_ := Aside0.mk (Kd.R_below (by (with_reducible repeat (first | apply Kd.R_alloc | apply Kd.R_drewN | apply Kd.R_drew)); exact HO237.out) hb); have n1_ := Aside0.mk (below_step (by repeat (first | (with_reducible first | exact HB.out | apply below_alloc | apply pw_below_drewN | apply below_drew1) | exact HB.out)) hb); clear HO237; clear HB; have HO237 := n0_; have HB := n1_; clear n0_ n1_; (try clear hb); (try clear hb2); (try clear hk); (try clear hi); obtain ⟨Ao78, co78, eo78⟩ := Kd.R_slice HO237.out; subst eo78))
      go_ret
      exact ⟨by first | rfl | (simp [errW_none, errW_some] <;> rfl) | (simp [*, errW_none, errW_some] <;> rfl), by repeat (first | (with_reducible first | exact HB.out | apply below_alloc | apply pw_below_drewN | apply below_drew1) | exact HB.out)⟩
    · replace c75 := Bool.eq_false_iff.mpr c75
      subst c75
      have H1 : (some false) = some r := by rw [if_neg (show ¬ (false = true) by decide)] at H; exact H
      clear H
      have H := H1
      clear H1
      obtain rfl := Option.some.inj H
      have HR233 := Aside0.mk (cashbooklaw30_few.reads HR0.out A4.out)
      have HC233 := Aside0.mk (cashbooklaw30_few.room HC0.out A4.out)
      go_enter Try.func4, Try.ntmps4
      go_wp2_with (first | ((with_reducible refine gate_callee (f := 7) rfl ?_); refine goesL_ (some 20) rfl rfl Try.func7 (by kernel_rfl) rfl #[.slice A0 l0.length c0] rfl (by (try simp only [List.map_toArray, List.map_cons, List.map_nil]); first | done | rfl | (simp only [List.length_drop, List.length_take]; rfl)) ?_; (with_reducible refine (cashbooklaw30_few.calls _ _ l0 t232 _ ?side1 ?side2 A4.out).mono ?_); (case side1 => repeat (first | exact HR0.out | (with_reducible refine Kd.C_alloc ?_ _) | (with_reducible refine Kd.C_drewN ?_ _) | (with_reducible refine Kd.C_drew ?_))); (case side2 => exact HC0.out); rintro e w' ⟨rfl, ⟨nd, rfl⟩⟩; refine ⟨_, rfl, ?_⟩) | ((with_reducible refine gate_callee (f := 9) rfl ?_); refine goesL_ (some 25) rfl rfl Try.func9 (by kernel_rfl) rfl #[.slice A0 t232.length c0, .int .i64 a1, .int .i32 a2] rfl (by (try simp only [List.map_toArray, List.map_cons, List.map_nil]); first | done | rfl | (simp only [List.length_drop, List.length_take]; rfl)) ?_; (with_reducible refine (netting_Net.calls k _ _ t232 a1 a2 t234 t235 _ ?side1 ?side2 A5.out).mono ?_); (case side1 => repeat (first | exact HR233.out | (with_reducible refine Kd.C_alloc ?_ _) | (with_reducible refine Kd.C_drewN ?_ _) | (with_reducible refine Kd.C_drew ?_))); (case side2 => exact HC233.out); rintro e w79 ⟨v236, rfl, ho0, hb⟩; refine ⟨_, rfl, ?_⟩; have n0_ := Aside0.mk (Kd.R_lower ho0 (below_size (by repeat (first | (with_reducible first | exact HB.out | apply below_alloc | apply pw_below_drewN | apply below_drew1) | exact HB.out)))); have n1_ := Aside0.mk (below_step (by repeat (first | (with_reducible first | exact HB.out | apply below_alloc | apply pw_below_drewN | apply below_drew1) | exact HB.out)) hb); clear HB; have HO237 := n0_; have HB := n1_; clear n0_ n1_; (try clear hb); (try clear hb2); (try clear hk); (try clear hi); (try clear ho0)) | ((with_reducible refine gate_callee (f := 13) rfl ?_); refine goesL_ (some 30) rfl rfl Try.func13 (by kernel_rfl) rfl #[] rfl (by (try simp only [List.map_toArray, List.map_cons, List.map_nil]); first | done | rfl | (simp only [List.length_drop, List.length_take]; rfl)) ?_; (with_reducible refine (cashbooklaw30_alive.calls k  false _ A74.out).mono ?_); rintro e w80 ⟨rfl, hb⟩; refine ⟨_, rfl, ?_⟩; have n0_ := Aside0.mk (Kd.R_below (by (with_reducible repeat (first | apply Kd.R_alloc | apply Kd.R_drewN | apply Kd.R_drew)); exact HO237.out) hb); have n1_ := Aside0.mk (below_step (by repeat (first | (with_reducible first | exact HB.out | apply below_alloc | apply pw_below_drewN | apply below_drew1) | exact HB.out)) hb); clear HO237; clear HB; have HO237 := n0_; have HB := n1_; clear n0_ n1_; (try clear hb); (try clear hb2); (try clear hk); (try clear hi)))
      go_ret
      exact ⟨by first | rfl | (simp [errW_none, errW_some] <;> rfl) | (simp [*, errW_none, errW_some] <;> rfl), by repeat (first | (with_reducible first | exact HB.out | apply below_alloc | apply pw_below_drewN | apply below_drew1) | exact HB.out)⟩

end Go.Proofs.Ytcmaohhcbiienaa.S
