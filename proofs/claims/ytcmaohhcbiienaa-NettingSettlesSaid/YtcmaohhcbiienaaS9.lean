-- Printed by pp.py (wip/pp), a program of this session's, over the kit's print; Lean checks it.
import Derived.Test.YtcmaohhcbiienaaS0
import Derived.Test.YtcmaohhcbiienaaS2
import Derived.Test.YtcmaohhcbiienaaS3
import Derived.Test.YtcmaohhcbiienaaS4
import Derived.Test.YtcmaohhcbiienaaS5
import Derived.Test.YtcmaohhcbiienaaS6
import Derived.Test.YtcmaohhcbiienaaS7
import Derived.Test.YtcmaohhcbiienaaS8
namespace Go.Proofs.Ytcmaohhcbiienaa.S
open Go.RowKit Go.Proofs.YtcmaohhcbiienaaW.PrintWords Go.Proofs.YtcmaohhcbiienaaW.PrintLast Go.Proofs.YtcmaohhcbiienaaW.PrintMore
attribute [local go_sem] max2_int min2_int max_two min_two max_three min_three max_four min_four   -- for this text's walks alone
set_option linter.unusedVariables false
set_option linter.unusedSimpArgs false

/-! ### cashbooklaw30_NettingNets: function 3 -/
mutual
def cashbooklaw30_NettingNets.j0 : Nat → List (S58) → Int → Int → List Int → List Int → Int → List (S45) → Int → Bool → Option (Bool)
  | 0, _, _, _, _, _, _, _, _, _ => none
  | k + 1, x0, x1, x2, x3, x9, x10, x11, x12, x37 => if x37 = true then (some false) else ((cashbookref30_May.f k x3).bind fun t220 => (if t220 = true then ((cashbookref30_Sum.f k x3).bind fun t221 => (if t221 = 0 then (if x12 = 0 then ((cashbookref30_Settle.f k x3).bind fun t222 => ((cashbookref30_Rows.f k x11 t222).bind fun t225 => (if t225 = true then (cashbooklaw30_NettingNets.j1 k x0 x1 x2 x9 x10) else (some false)))) else (some false)) else (if x12 = 15 then (if (x11.length : Int) = 0 then (cashbooklaw30_NettingNets.j1 k x0 x1 x2 x9 x10) else (some false)) else (some false)))) else (if x12 = 1 then (if (x11.length : Int) = 0 then (cashbooklaw30_NettingNets.j1 k x0 x1 x2 x9 x10) else (some false)) else (some false))))
def cashbooklaw30_NettingNets.j1 : Nat → List (S58) → Int → Int → List Int → Int → Option (Bool)
  | 0, _, _, _, _, _ => none
  | k + 1, x0, x1, x2, x9, x10 => (cashbookref30_Right.f k x0).bind fun t226 => (if t226 = true then (if x1 < 0 then (cashbooklaw30_NettingNets.j2 k x0 x1 x2 x9 x10 true) else (cashbooklaw30_NettingNets.j2 k x0 x1 x2 x9 x10 (decide (x1 > 3)))) else (if x10 = 1 then (some ((x9.length : Int) == 0)) else (some false)))
def cashbooklaw30_NettingNets.j2 : Nat → List (S58) → Int → Int → List Int → Int → Bool → Option (Bool)
  | 0, _, _, _, _, _, _ => none
  | k + 1, x0, x1, x2, x9, x10, x81 => if x81 = true then (if x10 = 12 then (some ((x9.length : Int) == 0)) else (some false)) else ((cashbookref04_Right.f x2).bind fun t227 => (if t227 = true then (if x10 = 0 then ((cashbookref30_Net.f k x0 x1 x2).bind fun t228 => ((cashbookref30_Nets.f k x9 t228).bind fun t231 => (some t231))) else (some false)) else (if x10 = 11 then (some ((x9.length : Int) == 0)) else (some false))))
end
def cashbooklaw30_NettingNets.f (k : Nat) (l0 : List (S58)) (a1 : Int) (a2 : Int) (l3 : List Int) : Option (Bool) := (cashbooklaw30_few.f l0).bind fun t205 => ((cashbooklaw30_cut.f l3).bind fun t207 => ((netting_Net.f k t205 a1 a2).bind fun bt209 => ((netting_Settle.f k t207).bind fun bt213 => ((netting_Right.f k t205).bind fun t217 => ((cashbookref30_Right.f k t205).bind fun t218 => (if (t217 != t218) = true then (cashbooklaw30_NettingNets.j0 k t205 a1 a2 t207 bt209.1 bt209.2 bt213.1 bt213.2 true) else ((cashbooklaw30_alive.f k).bind fun t219 => (cashbooklaw30_NettingNets.j0 k t205 a1 a2 t207 bt209.1 bt209.2 bt213.1 bt213.2 (!t219)))))))))
theorem cashbooklaw30_NettingNets.mono_l : ∀ k, (∀ y0 y1 y2 y3 y4 y5 y6 y7 y8, LeO (cashbooklaw30_NettingNets.j0 k y0 y1 y2 y3 y4 y5 y6 y7 y8) (cashbooklaw30_NettingNets.j0 (k + 1) y0 y1 y2 y3 y4 y5 y6 y7 y8)) ∧ (∀ y0 y1 y2 y3 y4, LeO (cashbooklaw30_NettingNets.j1 k y0 y1 y2 y3 y4) (cashbooklaw30_NettingNets.j1 (k + 1) y0 y1 y2 y3 y4)) ∧ (∀ y0 y1 y2 y3 y4 y5, LeO (cashbooklaw30_NettingNets.j2 k y0 y1 y2 y3 y4 y5) (cashbooklaw30_NettingNets.j2 (k + 1) y0 y1 y2 y3 y4 y5))
  | 0 => ⟨fun _ _ _ _ _ _ _ _ _ r h => by simp [cashbooklaw30_NettingNets.j0] at h, fun _ _ _ _ _ r h => by simp [cashbooklaw30_NettingNets.j1] at h, fun _ _ _ _ _ _ r h => by simp [cashbooklaw30_NettingNets.j2] at h⟩
  | k + 1 => by
    obtain ⟨ih0, ih1, ih2⟩ := cashbooklaw30_NettingNets.mono_l k
    refine ⟨?_, ?_, ?_⟩
    · intro y0 y1 y2 y3 y4 y5 y6 y7 y8
      unfold cashbooklaw30_NettingNets.j0
      repeat' first
      | (with_reducible exact ih0 _ _ _ _ _ _ _ _ _)
      | (with_reducible exact ih1 _ _ _ _ _)
      | (with_reducible exact ih2 _ _ _ _ _ _)
      | (with_reducible exact cashbooklaw30_alive.mono _)
      | (with_reducible exact cashbookref30_May.mono _ _)
      | (with_reducible exact cashbookref30_Net.mono _ _ _ _)
      | (with_reducible exact cashbookref30_Nets.mono _ _ _)
      | (with_reducible exact cashbookref30_Right.mono _ _)
      | (with_reducible exact cashbookref30_Rows.mono _ _ _)
      | (with_reducible exact cashbookref30_Settle.mono _ _)
      | (with_reducible exact cashbookref30_Sum.mono _ _)
      | (with_reducible exact netting_Net.mono _ _ _ _)
      | (with_reducible exact netting_Right.mono _ _)
      | (with_reducible exact netting_Settle.mono _ _)
      | (with_reducible exact LeO.refl _)
      | (with_reducible exact LeO.none _)
      | (with_reducible refine LeO.ite ?_ ?_)
      | (with_reducible refine LeO.bind ?_ (fun _ => ?_))
      | exact ih0 _ _ _ _ _ _ _ _ _
      | exact ih1 _ _ _ _ _
      | exact ih2 _ _ _ _ _ _
      | exact cashbooklaw30_alive.mono _
      | exact cashbookref30_May.mono _ _
      | exact cashbookref30_Net.mono _ _ _ _
      | exact cashbookref30_Nets.mono _ _ _
      | exact cashbookref30_Right.mono _ _
      | exact cashbookref30_Rows.mono _ _ _
      | exact cashbookref30_Settle.mono _ _
      | exact cashbookref30_Sum.mono _ _
      | exact netting_Net.mono _ _ _ _
      | exact netting_Right.mono _ _
      | exact netting_Settle.mono _ _
      | exact LeO.none _
      | refine LeO.ite ?_ ?_
      | refine LeO.bind ?_ (fun _ => ?_)
    · intro y0 y1 y2 y3 y4
      unfold cashbooklaw30_NettingNets.j1
      repeat' first
      | (with_reducible exact ih0 _ _ _ _ _ _ _ _ _)
      | (with_reducible exact ih1 _ _ _ _ _)
      | (with_reducible exact ih2 _ _ _ _ _ _)
      | (with_reducible exact cashbooklaw30_alive.mono _)
      | (with_reducible exact cashbookref30_May.mono _ _)
      | (with_reducible exact cashbookref30_Net.mono _ _ _ _)
      | (with_reducible exact cashbookref30_Nets.mono _ _ _)
      | (with_reducible exact cashbookref30_Right.mono _ _)
      | (with_reducible exact cashbookref30_Rows.mono _ _ _)
      | (with_reducible exact cashbookref30_Settle.mono _ _)
      | (with_reducible exact cashbookref30_Sum.mono _ _)
      | (with_reducible exact netting_Net.mono _ _ _ _)
      | (with_reducible exact netting_Right.mono _ _)
      | (with_reducible exact netting_Settle.mono _ _)
      | (with_reducible exact LeO.refl _)
      | (with_reducible exact LeO.none _)
      | (with_reducible refine LeO.ite ?_ ?_)
      | (with_reducible refine LeO.bind ?_ (fun _ => ?_))
      | exact ih0 _ _ _ _ _ _ _ _ _
      | exact ih1 _ _ _ _ _
      | exact ih2 _ _ _ _ _ _
      | exact cashbooklaw30_alive.mono _
      | exact cashbookref30_May.mono _ _
      | exact cashbookref30_Net.mono _ _ _ _
      | exact cashbookref30_Nets.mono _ _ _
      | exact cashbookref30_Right.mono _ _
      | exact cashbookref30_Rows.mono _ _ _
      | exact cashbookref30_Settle.mono _ _
      | exact cashbookref30_Sum.mono _ _
      | exact netting_Net.mono _ _ _ _
      | exact netting_Right.mono _ _
      | exact netting_Settle.mono _ _
      | exact LeO.none _
      | refine LeO.ite ?_ ?_
      | refine LeO.bind ?_ (fun _ => ?_)
    · intro y0 y1 y2 y3 y4 y5
      unfold cashbooklaw30_NettingNets.j2
      repeat' first
      | (with_reducible exact ih0 _ _ _ _ _ _ _ _ _)
      | (with_reducible exact ih1 _ _ _ _ _)
      | (with_reducible exact ih2 _ _ _ _ _ _)
      | (with_reducible exact cashbooklaw30_alive.mono _)
      | (with_reducible exact cashbookref30_May.mono _ _)
      | (with_reducible exact cashbookref30_Net.mono _ _ _ _)
      | (with_reducible exact cashbookref30_Nets.mono _ _ _)
      | (with_reducible exact cashbookref30_Right.mono _ _)
      | (with_reducible exact cashbookref30_Rows.mono _ _ _)
      | (with_reducible exact cashbookref30_Settle.mono _ _)
      | (with_reducible exact cashbookref30_Sum.mono _ _)
      | (with_reducible exact netting_Net.mono _ _ _ _)
      | (with_reducible exact netting_Right.mono _ _)
      | (with_reducible exact netting_Settle.mono _ _)
      | (with_reducible exact LeO.refl _)
      | (with_reducible exact LeO.none _)
      | (with_reducible refine LeO.ite ?_ ?_)
      | (with_reducible refine LeO.bind ?_ (fun _ => ?_))
      | exact ih0 _ _ _ _ _ _ _ _ _
      | exact ih1 _ _ _ _ _
      | exact ih2 _ _ _ _ _ _
      | exact cashbooklaw30_alive.mono _
      | exact cashbookref30_May.mono _ _
      | exact cashbookref30_Net.mono _ _ _ _
      | exact cashbookref30_Nets.mono _ _ _
      | exact cashbookref30_Right.mono _ _
      | exact cashbookref30_Rows.mono _ _ _
      | exact cashbookref30_Settle.mono _ _
      | exact cashbookref30_Sum.mono _ _
      | exact netting_Net.mono _ _ _ _
      | exact netting_Right.mono _ _
      | exact netting_Settle.mono _ _
      | exact LeO.none _
      | refine LeO.ite ?_ ?_
      | refine LeO.bind ?_ (fun _ => ?_)
theorem cashbooklaw30_NettingNets.mono : ∀ a0 a1 a2 a3 k, LeO (cashbooklaw30_NettingNets.f k a0 a1 a2 a3) (cashbooklaw30_NettingNets.f (k + 1) a0 a1 a2 a3) := by
  intro a0 a1 a2 a3 k
  obtain ⟨ih0, ih1, ih2⟩ := cashbooklaw30_NettingNets.mono_l k
  unfold cashbooklaw30_NettingNets.f
  repeat' first
      | (with_reducible exact ih0 _ _ _ _ _ _ _ _ _)
      | (with_reducible exact ih1 _ _ _ _ _)
      | (with_reducible exact ih2 _ _ _ _ _ _)
      | (with_reducible exact cashbooklaw30_alive.mono _)
      | (with_reducible exact cashbookref30_May.mono _ _)
      | (with_reducible exact cashbookref30_Net.mono _ _ _ _)
      | (with_reducible exact cashbookref30_Nets.mono _ _ _)
      | (with_reducible exact cashbookref30_Right.mono _ _)
      | (with_reducible exact cashbookref30_Rows.mono _ _ _)
      | (with_reducible exact cashbookref30_Settle.mono _ _)
      | (with_reducible exact cashbookref30_Sum.mono _ _)
      | (with_reducible exact netting_Net.mono _ _ _ _)
      | (with_reducible exact netting_Right.mono _ _)
      | (with_reducible exact netting_Settle.mono _ _)
      | (with_reducible exact LeO.refl _)
      | (with_reducible exact LeO.none _)
      | (with_reducible refine LeO.ite ?_ ?_)
      | (with_reducible refine LeO.bind ?_ (fun _ => ?_))
      | exact ih0 _ _ _ _ _ _ _ _ _
      | exact ih1 _ _ _ _ _
      | exact ih2 _ _ _ _ _ _
      | exact cashbooklaw30_alive.mono _
      | exact cashbookref30_May.mono _ _
      | exact cashbookref30_Net.mono _ _ _ _
      | exact cashbookref30_Nets.mono _ _ _
      | exact cashbookref30_Right.mono _ _
      | exact cashbookref30_Rows.mono _ _ _
      | exact cashbookref30_Settle.mono _ _
      | exact cashbookref30_Sum.mono _ _
      | exact netting_Net.mono _ _ _ _
      | exact netting_Right.mono _ _
      | exact netting_Settle.mono _ _
      | exact LeO.none _
      | refine LeO.ite ?_ ?_
      | refine LeO.bind ?_ (fun _ => ?_)
set_option maxHeartbeats 8000000 in
set_option maxRecDepth 100000 in
theorem cashbooklaw30_NettingNets.calls (k : Nat) (A0 : Option Addr) (c0 : Nat) (l0 : List (S58)) (a1 : Int) (a2 : Int) (A3 : Option Addr) (c3 : Nat) (l3 : List Int) (r : Bool) (w : World) (hr0 : Kd.C k58 w A0 l0.length l0) (hc0 : l0.length ≤ c0) (hr3 : Kd.C (Kd.int .i64) w A3 l3.length l3) (hc3 : l3.length ≤ c3) (h : cashbooklaw30_NettingNets.f k l0 a1 a2 l3 = some r) :
    Calls Try.prog 3 #[.slice A0 l0.length c0, .int .i64 a1, .int .i32 a2, .slice A3 l3.length c3] w fun e w' => e = .returned (.bool r) ∧ Below w.heap.size w w' := by
  have HR0 := Aside0.mk hr0
  have HC0 := Aside0.mk hc0
  clear hr0 hc0
  have HR3 := Aside0.mk hr3
  have HC3 := Aside0.mk hc3
  clear hr3 hc3
  have HB := Aside0.mk (Below.refl w.heap.size w)
  have H : ((cashbooklaw30_few.f l0).bind fun t205 => ((cashbooklaw30_cut.f l3).bind fun t207 => ((netting_Net.f k t205 a1 a2).bind fun bt209 => ((netting_Settle.f k t207).bind fun bt213 => ((netting_Right.f k t205).bind fun t217 => ((cashbookref30_Right.f k t205).bind fun t218 => (if (t217 != t218) = true then (cashbooklaw30_NettingNets.j0 k t205 a1 a2 t207 bt209.1 bt209.2 bt213.1 bt213.2 true) else ((cashbooklaw30_alive.f k).bind fun t219 => (cashbooklaw30_NettingNets.j0 k t205 a1 a2 t207 bt209.1 bt209.2 bt213.1 bt213.2 (!t219)))))))))) = some r := h
  clear h
  replace H := Option.bind_eq_some_iff.mp H
  obtain ⟨t205, A50, H⟩ := H
  replace H : ((cashbooklaw30_cut.f l3).bind fun t207 => ((netting_Net.f k t205 a1 a2).bind fun bt209 => ((netting_Settle.f k t207).bind fun bt213 => ((netting_Right.f k t205).bind fun t217 => ((cashbookref30_Right.f k t205).bind fun t218 => (if (t217 != t218) = true then (cashbooklaw30_NettingNets.j0 k t205 a1 a2 t207 bt209.1 bt209.2 bt213.1 bt213.2 true) else ((cashbooklaw30_alive.f k).bind fun t219 => (cashbooklaw30_NettingNets.j0 k t205 a1 a2 t207 bt209.1 bt209.2 bt213.1 bt213.2 (!t219))))))))) = some r := H
  have A5 := Aside0.mk A50
  clear A50
  replace H := Option.bind_eq_some_iff.mp H
  obtain ⟨t207, A60, H⟩ := H
  replace H : ((netting_Net.f k t205 a1 a2).bind fun bt209 => ((netting_Settle.f k t207).bind fun bt213 => ((netting_Right.f k t205).bind fun t217 => ((cashbookref30_Right.f k t205).bind fun t218 => (if (t217 != t218) = true then (cashbooklaw30_NettingNets.j0 k t205 a1 a2 t207 bt209.1 bt209.2 bt213.1 bt213.2 true) else ((cashbooklaw30_alive.f k).bind fun t219 => (cashbooklaw30_NettingNets.j0 k t205 a1 a2 t207 bt209.1 bt209.2 bt213.1 bt213.2 (!t219)))))))) = some r := H
  have A6 := Aside0.mk A60
  clear A60
  replace H := Option.bind_eq_some_iff.mp H
  obtain ⟨⟨t209, t210⟩, A70, H⟩ := H
  replace H : ((netting_Settle.f k t207).bind fun bt213 => ((netting_Right.f k t205).bind fun t217 => ((cashbookref30_Right.f k t205).bind fun t218 => (if (t217 != t218) = true then (cashbooklaw30_NettingNets.j0 k t205 a1 a2 t207 t209 t210 bt213.1 bt213.2 true) else ((cashbooklaw30_alive.f k).bind fun t219 => (cashbooklaw30_NettingNets.j0 k t205 a1 a2 t207 t209 t210 bt213.1 bt213.2 (!t219))))))) = some r := H
  have A7 := Aside0.mk A70
  clear A70
  replace H := Option.bind_eq_some_iff.mp H
  obtain ⟨⟨t213, t214⟩, A80, H⟩ := H
  replace H : ((netting_Right.f k t205).bind fun t217 => ((cashbookref30_Right.f k t205).bind fun t218 => (if (t217 != t218) = true then (cashbooklaw30_NettingNets.j0 k t205 a1 a2 t207 t209 t210 t213 t214 true) else ((cashbooklaw30_alive.f k).bind fun t219 => (cashbooklaw30_NettingNets.j0 k t205 a1 a2 t207 t209 t210 t213 t214 (!t219)))))) = some r := H
  have A8 := Aside0.mk A80
  clear A80
  have HC9 := Aside0.mk H
  clear H
  have HR206 := Aside0.mk (cashbooklaw30_few.reads HR0.out A5.out)
  have HC206 := Aside0.mk (cashbooklaw30_few.room HC0.out A5.out)
  go_enter Try.func3, Try.ntmps3
  go_upto_region 4 with (first | ((with_reducible refine gate_callee (f := 7) rfl ?_); refine goesL_ (some 14) rfl rfl Try.func7 (by kernel_rfl) rfl #[.slice A0 l0.length c0] rfl (by (try simp only [List.map_toArray, List.map_cons, List.map_nil]); first | done | rfl | (simp only [List.length_drop, List.length_take]; rfl)) ?_; (with_reducible refine (cashbooklaw30_few.calls _ _ l0 t205 _ ?side1 ?side2 A5.out).mono ?_); (case side1 => repeat (first | exact HR0.out | (with_reducible refine Kd.C_alloc ?_ _) | (with_reducible refine Kd.C_drewN ?_ _) | (with_reducible refine Kd.C_drew ?_))); (case side2 => exact HC0.out); rintro e w' ⟨rfl, ⟨nd, rfl⟩⟩; refine ⟨_, rfl, ?_⟩; have HR208 := Aside0.mk (cashbooklaw30_cut.reads HR3.out A6.out); have HC208 := Aside0.mk (cashbooklaw30_cut.room HC3.out A6.out)) | ((with_reducible refine gate_callee (f := 8) rfl ?_); refine goesL_ (some 16) rfl rfl Try.func8 (by kernel_rfl) rfl #[.slice A3 l3.length c3] rfl (by (try simp only [List.map_toArray, List.map_cons, List.map_nil]); first | done | rfl | (simp only [List.length_drop, List.length_take]; rfl)) ?_; (with_reducible refine (cashbooklaw30_cut.calls _ _ l3 t207 _ ?side1 ?side2 A6.out).mono ?_); (case side1 => repeat (first | exact HR3.out | (with_reducible refine Kd.C_alloc ?_ _) | (with_reducible refine Kd.C_drewN ?_ _) | (with_reducible refine Kd.C_drew ?_))); (case side2 => exact HC3.out); rintro e w' ⟨rfl, ⟨nd, rfl⟩⟩; refine ⟨_, rfl, ?_⟩) | ((with_reducible refine gate_callee (f := 9) rfl ?_); refine goesL_ (some 21) rfl rfl Try.func9 (by kernel_rfl) rfl #[.slice A0 t205.length c0, .int .i64 a1, .int .i32 a2] rfl (by (try simp only [List.map_toArray, List.map_cons, List.map_nil]); first | done | rfl | (simp only [List.length_drop, List.length_take]; rfl)) ?_; (with_reducible refine (netting_Net.calls k _ _ t205 a1 a2 t209 t210 _ ?side1 ?side2 A7.out).mono ?_); (case side1 => repeat (first | exact HR206.out | (with_reducible refine Kd.C_alloc ?_ _) | (with_reducible refine Kd.C_drewN ?_ _) | (with_reducible refine Kd.C_drew ?_))); (case side2 => exact HC206.out); rintro e w10 ⟨v211, rfl, ho0, hb⟩; refine ⟨_, rfl, ?_⟩; have n0_ := Aside0.mk (Kd.R_lower ho0 (below_size (by repeat (first | (with_reducible first | exact HB.out | apply below_alloc | apply pw_below_drewN | apply below_drew1) | exact HB.out)))); have n1_ := Aside0.mk (below_step (by repeat (first | (with_reducible first | exact HB.out | apply below_alloc | apply pw_below_drewN | apply below_drew1) | exact HB.out)) hb); clear HB; have HO212 := n0_; have HB := n1_; clear n0_ n1_; (try clear hb); (try clear hb2); (try clear hk); (try clear hi); (try clear ho0)) | ((with_reducible refine gate_callee (f := 10) rfl ?_); refine goesL_ (some 26) rfl rfl Try.func10 (by kernel_rfl) rfl #[.slice A3 t207.length c3] rfl (by (try simp only [List.map_toArray, List.map_cons, List.map_nil]); first | done | rfl | (simp only [List.length_drop, List.length_take]; rfl)) ?_; (with_reducible refine (netting_Settle.calls k _ _ t207 t213 t214 _ ?side1 ?side2 A8.out).mono ?_); (case side1 => repeat (first | exact (Kd.C_below HR208.out HB.out) | (with_reducible refine Kd.C_alloc ?_ _) | (with_reducible refine Kd.C_drewN ?_ _) | (with_reducible refine Kd.C_drew ?_))); (case side2 => exact HC208.out); rintro e w11 ⟨v215, rfl, ho0, hb⟩; refine ⟨_, rfl, ?_⟩; have n0_ := Aside0.mk (Kd.R_below (by (with_reducible repeat (first | apply Kd.R_alloc | apply Kd.R_drewN | apply Kd.R_drew)); exact HO212.out) hb); have n1_ := Aside0.mk (Kd.R_lower ho0 (below_size (by repeat (first | (with_reducible first | exact HB.out | apply below_alloc | apply pw_below_drewN | apply below_drew1) | exact HB.out)))); have n2_ := Aside0.mk (below_step (by repeat (first | (with_reducible first | exact HB.out | apply below_alloc | apply pw_below_drewN | apply below_drew1) | exact HB.out)) hb); clear HO212; clear HB; have HO212 := n0_; have HO216 := n1_; have HB := n2_; clear n0_ n1_ n2_; (try clear hb); (try clear hb2); (try clear hk); (try clear hi); (try clear ho0)))
  (try simp only [Act.put, List.setIfInBounds_toArray, List.set_cons_zero, List.set_cons_succ])
  go_cut [37] (fun v37 wc => ∃ (kq : Nat) (x37_8 : Bool), v37 = .bool x37_8 ∧ Aside0 (cashbooklaw30_NettingNets.j0 kq t205 a1 a2 t207 t209 t210 t213 t214 x37_8 = some r) ∧ Aside0 (kq ≤ k) ∧ Aside0 (Kd.R (Kd.int .i64) 2 wc w.heap.size (fun _ => True) v211 t209) ∧ Aside0 (Kd.R k45 45 wc w.heap.size (fun _ => True) v215 t213) ∧ Aside0 (Below w.heap.size w wc))
  case first =>
    have H := HC9.out
    clear HC9
    replace H := Option.bind_eq_some_iff.mp H
    obtain ⟨t217, A120, H⟩ := H
    replace H : ((cashbookref30_Right.f k t205).bind fun t218 => (if (t217 != t218) = true then (cashbooklaw30_NettingNets.j0 k t205 a1 a2 t207 t209 t210 t213 t214 true) else ((cashbooklaw30_alive.f k).bind fun t219 => (cashbooklaw30_NettingNets.j0 k t205 a1 a2 t207 t209 t210 t213 t214 (!t219))))) = some r := H
    have A12 := Aside0.mk A120
    clear A120
    replace H := Option.bind_eq_some_iff.mp H
    obtain ⟨t218, A130, H⟩ := H
    replace H : (if (t217 != t218) = true then (cashbooklaw30_NettingNets.j0 k t205 a1 a2 t207 t209 t210 t213 t214 true) else ((cashbooklaw30_alive.f k).bind fun t219 => (cashbooklaw30_NettingNets.j0 k t205 a1 a2 t207 t209 t210 t213 t214 (!t219)))) = some r := H
    have A13 := Aside0.mk A130
    clear A130
    by_cases c14 : (t217 != t218) = true
    · rw [if_pos c14] at H
      have c14b0 : (t217 != t218) = true := c14
      (try (have c14b1 : decide (t217 = t218) = false := by simpa using c14))
      (try (have c14b2 : (t217 == t218) = false := by simpa using c14))
      (try (have c14b3 : ¬ (t217 = t218) := by simpa using c14))
      clear c14
      (first | rw [c14b0] | (simp only [i64_w, i32_w]; rw [c14b0]) | skip)
      have H' := Aside0.mk H
      clear H
      go_wp2_with (first | ((with_reducible refine gate_callee (f := 11) rfl ?_); refine goesL_ (some 30) rfl rfl Try.func11 (by kernel_rfl) rfl #[.slice A0 t205.length c0] rfl (by (try simp only [List.map_toArray, List.map_cons, List.map_nil]); first | done | rfl | (simp only [List.length_drop, List.length_take]; rfl)) ?_; (with_reducible refine (netting_Right.calls k _ _ t205 t217 _ ?side1 ?side2 A12.out).mono ?_); (case side1 => repeat (first | exact (Kd.C_below HR206.out HB.out) | (with_reducible refine Kd.C_alloc ?_ _) | (with_reducible refine Kd.C_drewN ?_ _) | (with_reducible refine Kd.C_drew ?_))); (case side2 => exact HC206.out); rintro e w15 ⟨rfl, hb⟩; refine ⟨_, rfl, ?_⟩; have n0_ := Aside0.mk (Kd.R_below (by (with_reducible repeat (first | apply Kd.R_alloc | apply Kd.R_drewN | apply Kd.R_drew)); exact HO212.out) hb); have n1_ := Aside0.mk (Kd.R_below (by (with_reducible repeat (first | apply Kd.R_alloc | apply Kd.R_drewN | apply Kd.R_drew)); exact HO216.out) hb); have n2_ := Aside0.mk (below_step (by repeat (first | (with_reducible first | exact HB.out | apply below_alloc | apply pw_below_drewN | apply below_drew1) | exact HB.out)) hb); clear HO212; clear HO216; clear HB; have HO212 := n0_; have HO216 := n1_; have HB := n2_; clear n0_ n1_ n2_; (try clear hb); (try clear hb2); (try clear hk); (try clear hi)) | ((with_reducible refine gate_callee (f := 12) rfl ?_); refine goesL_ (some 32) rfl rfl Try.func12 (by kernel_rfl) rfl #[.slice A0 t205.length c0] rfl (by (try simp only [List.map_toArray, List.map_cons, List.map_nil]); first | done | rfl | (simp only [List.length_drop, List.length_take]; rfl)) ?_; (with_reducible refine (cashbookref30_Right.calls k _ _ t205 t218 _ ?side1 ?side2 A13.out).mono ?_); (case side1 => repeat (first | exact (Kd.C_below HR206.out HB.out) | (with_reducible refine Kd.C_alloc ?_ _) | (with_reducible refine Kd.C_drewN ?_ _) | (with_reducible refine Kd.C_drew ?_))); (case side2 => exact HC206.out); rintro e w16 ⟨rfl, hb⟩; refine ⟨_, rfl, ?_⟩; have n0_ := Aside0.mk (Kd.R_below (by (with_reducible repeat (first | apply Kd.R_alloc | apply Kd.R_drewN | apply Kd.R_drew)); exact HO212.out) hb); have n1_ := Aside0.mk (Kd.R_below (by (with_reducible repeat (first | apply Kd.R_alloc | apply Kd.R_drewN | apply Kd.R_drew)); exact HO216.out) hb); have n2_ := Aside0.mk (below_step (by repeat (first | (with_reducible first | exact HB.out | apply below_alloc | apply pw_below_drewN | apply below_drew1) | exact HB.out)) hb); clear HO212; clear HO216; clear HB; have HO212 := n0_; have HO216 := n1_; have HB := n2_; clear n0_ n1_ n2_; (try clear hb); (try clear hb2); (try clear hk); (try clear hi)))
      go_meet
      case rel => exact ⟨_, (true), (by first | rfl | (simp; done) | (simp [*]; done)), H', ⟨by first | omega | exact Nat.le_refl _⟩, ⟨by (with_reducible repeat (first | apply Kd.R_alloc | apply Kd.R_drewN | apply Kd.R_drew)); exact HO212.out⟩, ⟨by (with_reducible repeat (first | apply Kd.R_alloc | apply Kd.R_drewN | apply Kd.R_drew)); exact HO216.out⟩, ⟨by repeat (first | (with_reducible first | exact HB.out | apply below_alloc | apply pw_below_drewN | apply below_drew1) | exact HB.out)⟩⟩
    · rw [if_neg c14] at H
      have c14b0 : (t217 != t218) = false := by simpa using c14
      (try (have c14b1 : decide (t217 = t218) = true := by simpa using c14))
      (try (have c14b2 : (t217 == t218) = true := by simpa using c14))
      clear c14
      (first | rw [c14b0] | (simp only [i64_w, i32_w]; rw [c14b0]) | skip)
      replace H := Option.bind_eq_some_iff.mp H
      obtain ⟨t219, A170, H⟩ := H
      replace H : (cashbooklaw30_NettingNets.j0 k t205 a1 a2 t207 t209 t210 t213 t214 (!t219)) = some r := H
      have A17 := Aside0.mk A170
      clear A170
      have H' := Aside0.mk H
      clear H
      go_wp2_with (first | ((with_reducible refine gate_callee (f := 11) rfl ?_); refine goesL_ (some 30) rfl rfl Try.func11 (by kernel_rfl) rfl #[.slice A0 t205.length c0] rfl (by (try simp only [List.map_toArray, List.map_cons, List.map_nil]); first | done | rfl | (simp only [List.length_drop, List.length_take]; rfl)) ?_; (with_reducible refine (netting_Right.calls k _ _ t205 t217 _ ?side1 ?side2 A12.out).mono ?_); (case side1 => repeat (first | exact (Kd.C_below HR206.out HB.out) | (with_reducible refine Kd.C_alloc ?_ _) | (with_reducible refine Kd.C_drewN ?_ _) | (with_reducible refine Kd.C_drew ?_))); (case side2 => exact HC206.out); rintro e w18 ⟨rfl, hb⟩; refine ⟨_, rfl, ?_⟩; have n0_ := Aside0.mk (Kd.R_below (by (with_reducible repeat (first | apply Kd.R_alloc | apply Kd.R_drewN | apply Kd.R_drew)); exact HO212.out) hb); have n1_ := Aside0.mk (Kd.R_below (by (with_reducible repeat (first | apply Kd.R_alloc | apply Kd.R_drewN | apply Kd.R_drew)); exact HO216.out) hb); have n2_ := Aside0.mk (below_step (by repeat (first | (with_reducible first | exact HB.out | apply below_alloc | apply pw_below_drewN | apply below_drew1) | exact HB.out)) hb); clear HO212; clear HO216; clear HB; have HO212 := n0_; have HO216 := n1_; have HB := n2_; clear n0_ n1_ n2_; (try clear hb); (try clear hb2); (try clear hk); (try clear hi)) | ((with_reducible refine gate_callee (f := 12) rfl ?_); refine goesL_ (some 32) rfl rfl Try.func12 (by kernel_rfl) rfl #[.slice A0 t205.length c0] rfl (by (try simp only [List.map_toArray, List.map_cons, List.map_nil]); first | done | rfl | (simp only [List.length_drop, List.length_take]; rfl)) ?_; (with_reducible refine (cashbookref30_Right.calls k _ _ t205 t218 _ ?side1 ?side2 A13.out).mono ?_); (case side1 => repeat (first | exact (Kd.C_below HR206.out HB.out) | (with_reducible refine Kd.C_alloc ?_ _) | (with_reducible refine Kd.C_drewN ?_ _) | (with_reducible refine Kd.C_drew ?_))); (case side2 => exact HC206.out); rintro e w19 ⟨rfl, hb⟩; refine ⟨_, rfl, ?_⟩; have n0_ := Aside0.mk (Kd.R_below (by (with_reducible repeat (first | apply Kd.R_alloc | apply Kd.R_drewN | apply Kd.R_drew)); exact HO212.out) hb); have n1_ := Aside0.mk (Kd.R_below (by (with_reducible repeat (first | apply Kd.R_alloc | apply Kd.R_drewN | apply Kd.R_drew)); exact HO216.out) hb); have n2_ := Aside0.mk (below_step (by repeat (first | (with_reducible first | exact HB.out | apply below_alloc | apply pw_below_drewN | apply below_drew1) | exact HB.out)) hb); clear HO212; clear HO216; clear HB; have HO212 := n0_; have HO216 := n1_; have HB := n2_; clear n0_ n1_ n2_; (try clear hb); (try clear hb2); (try clear hk); (try clear hi)) | (go_at_call 13; (with_reducible refine (cashbooklaw30_alive.calls k  t219 _ A17.out).mono ?_); rintro e w20 ⟨rfl, hb⟩; have n0_ := Aside0.mk (Kd.R_below (by (with_reducible repeat (first | apply Kd.R_alloc | apply Kd.R_drewN | apply Kd.R_drew)); exact HO212.out) hb); have n1_ := Aside0.mk (Kd.R_below (by (with_reducible repeat (first | apply Kd.R_alloc | apply Kd.R_drewN | apply Kd.R_drew)); exact HO216.out) hb); have n2_ := Aside0.mk (below_step (by repeat (first | (with_reducible first | exact HB.out | apply below_alloc | apply pw_below_drewN | apply below_drew1) | exact HB.out)) hb); clear HO212; clear HO216; clear HB; have HO212 := n0_; have HO216 := n1_; have HB := n2_; clear n0_ n1_ n2_; (try clear hb); (try clear hb2); (try clear hk); (try clear hi)))
      go_meet
      case rel => exact ⟨_, (!t219), (by first | rfl | (simp; done) | (simp [*]; done)), H', ⟨by first | omega | exact Nat.le_refl _⟩, ⟨by (with_reducible repeat (first | apply Kd.R_alloc | apply Kd.R_drewN | apply Kd.R_drew)); exact HO212.out⟩, ⟨by (with_reducible repeat (first | apply Kd.R_alloc | apply Kd.R_drewN | apply Kd.R_drew)); exact HO216.out⟩, ⟨by repeat (first | (with_reducible first | exact HB.out | apply below_alloc | apply pw_below_drewN | apply below_drew1) | exact HB.out)⟩⟩
  case rest =>
    clear HC9
    try clear c1
    try clear p2
    try clear c3
    try clear c7
    try clear c8
    try clear c9
    try clear c10
    try clear c11
    try clear c12
    try clear c14
    try clear c14b0
    try clear c14b1
    try clear c14b2
    obtain ⟨kq, x37_8, rfl, HA, HJ8, HO_9, HO_11, HB⟩ := hcut
    cases kq with
    | zero => exact absurd HA.out (by simp [cashbooklaw30_NettingNets.j0])
    | succ kj8 =>
      have H := HA.out
      clear HA
      simp only [cashbooklaw30_NettingNets.j0] at H
      by_cases c21 : x37_8 = true
      · subst c21
        have H1 : (some false) = some r := by rw [if_pos rfl] at H; exact H
        clear H
        have H := H1
        clear H1
        obtain rfl := Option.some.inj H
        go_wp2
        go_ret
        exact ⟨by first | rfl | (simp [errW_none, errW_some] <;> rfl) | (simp [*, errW_none, errW_some] <;> rfl), by repeat (first | (with_reducible first | exact HB.out | apply below_alloc | apply pw_below_drewN | apply below_drew1) | exact HB.out)⟩
      · replace c21 := Bool.eq_false_iff.mpr c21
        subst c21
        have H1 : ((cashbookref30_May.f kj8 t207).bind fun t220 => (if t220 = true then ((cashbookref30_Sum.f kj8 t207).bind fun t221 => (if t221 = 0 then (if t214 = 0 then ((cashbookref30_Settle.f kj8 t207).bind fun t222 => ((cashbookref30_Rows.f kj8 t213 t222).bind fun t225 => (if t225 = true then (cashbooklaw30_NettingNets.j1 kj8 t205 a1 a2 t209 t210) else (some false)))) else (some false)) else (if t214 = 15 then (if (t213.length : Int) = 0 then (cashbooklaw30_NettingNets.j1 kj8 t205 a1 a2 t209 t210) else (some false)) else (some false)))) else (if t214 = 1 then (if (t213.length : Int) = 0 then (cashbooklaw30_NettingNets.j1 kj8 t205 a1 a2 t209 t210) else (some false)) else (some false)))) = some r := by rw [if_neg (show ¬ (false = true) by decide)] at H; exact H
        clear H
        have H := H1
        clear H1
        have HC22 := Aside0.mk H
        clear H
        go_upto_block 0 with (fail)
        go_cut [] (fun wc => ∃ (kq : Nat), Aside0 (cashbooklaw30_NettingNets.j1 kq t205 a1 a2 t209 t210 = some r) ∧ Aside0 (kq ≤ kj8) ∧ Aside0 (Kd.R (Kd.int .i64) 2 wc w.heap.size (fun _ => True) v211 t209) ∧ Aside0 (Below w.heap.size w wc))
        case first =>
          have H := HC22.out
          clear HC22
          replace H := Option.bind_eq_some_iff.mp H
          obtain ⟨t220, A230, H⟩ := H
          replace H : (if t220 = true then ((cashbookref30_Sum.f kj8 t207).bind fun t221 => (if t221 = 0 then (if t214 = 0 then ((cashbookref30_Settle.f kj8 t207).bind fun t222 => ((cashbookref30_Rows.f kj8 t213 t222).bind fun t225 => (if t225 = true then (cashbooklaw30_NettingNets.j1 kj8 t205 a1 a2 t209 t210) else (some false)))) else (some false)) else (if t214 = 15 then (if (t213.length : Int) = 0 then (cashbooklaw30_NettingNets.j1 kj8 t205 a1 a2 t209 t210) else (some false)) else (some false)))) else (if t214 = 1 then (if (t213.length : Int) = 0 then (cashbooklaw30_NettingNets.j1 kj8 t205 a1 a2 t209 t210) else (some false)) else (some false))) = some r := H
          have A23 := Aside0.mk A230
          clear A230
          by_cases c24 : t220 = true
          · subst c24
            have H1 : ((cashbookref30_Sum.f kj8 t207).bind fun t221 => (if t221 = 0 then (if t214 = 0 then ((cashbookref30_Settle.f kj8 t207).bind fun t222 => ((cashbookref30_Rows.f kj8 t213 t222).bind fun t225 => (if t225 = true then (cashbooklaw30_NettingNets.j1 kj8 t205 a1 a2 t209 t210) else (some false)))) else (some false)) else (if t214 = 15 then (if (t213.length : Int) = 0 then (cashbooklaw30_NettingNets.j1 kj8 t205 a1 a2 t209 t210) else (some false)) else (some false)))) = some r := by rw [if_pos rfl] at H; exact H
            clear H
            have H := H1
            clear H1
            replace H := Option.bind_eq_some_iff.mp H
            obtain ⟨t221, A250, H⟩ := H
            replace H : (if t221 = 0 then (if t214 = 0 then ((cashbookref30_Settle.f kj8 t207).bind fun t222 => ((cashbookref30_Rows.f kj8 t213 t222).bind fun t225 => (if t225 = true then (cashbooklaw30_NettingNets.j1 kj8 t205 a1 a2 t209 t210) else (some false)))) else (some false)) else (if t214 = 15 then (if (t213.length : Int) = 0 then (cashbooklaw30_NettingNets.j1 kj8 t205 a1 a2 t209 t210) else (some false)) else (some false))) = some r := H
            have A25 := Aside0.mk A250
            clear A250
            by_cases c26 : t221 = 0
            · rw [if_pos c26] at H
              have c26b0 : (t221 == 0) = true := beq_iff_eq.mpr c26
              have c26b1 : (t221 != 0) = false := bne_eq_false_iff_eq.mpr c26
              clear c26
              (first | rw [c26b0] | (simp only [i64_w, i32_w]; rw [c26b0]) | skip)
              by_cases c27 : t214 = 0
              · rw [if_pos c27] at H
                have c27b0 : (t214 == 0) = true := beq_iff_eq.mpr c27
                have c27b1 : (t214 != 0) = false := bne_eq_false_iff_eq.mpr c27
                clear c27
                replace H := Option.bind_eq_some_iff.mp H
                obtain ⟨t222, A280, H⟩ := H
                replace H : ((cashbookref30_Rows.f kj8 t213 t222).bind fun t225 => (if t225 = true then (cashbooklaw30_NettingNets.j1 kj8 t205 a1 a2 t209 t210) else (some false))) = some r := H
                have A28 := Aside0.mk A280
                clear A280
                replace H := Option.bind_eq_some_iff.mp H
                obtain ⟨t225, A290, H⟩ := H
                replace H : (if t225 = true then (cashbooklaw30_NettingNets.j1 kj8 t205 a1 a2 t209 t210) else (some false)) = some r := H
                have A29 := Aside0.mk A290
                clear A290
                by_cases c30 : t225 = true
                · subst c30
                  have H1 : (cashbooklaw30_NettingNets.j1 kj8 t205 a1 a2 t209 t210) = some r := by rw [if_pos rfl] at H; exact H
                  clear H
                  have H := H1
                  clear H1
                  have H' := Aside0.mk H
                  clear H
                  go_wp2_with (first | ((with_reducible refine gate_callee (f := 14) rfl ?_); refine goesL_ (some 40) rfl rfl Try.func14 (by kernel_rfl) rfl #[.slice A3 t207.length c3] rfl (by (try simp only [List.map_toArray, List.map_cons, List.map_nil]); first | done | rfl | (simp only [List.length_drop, List.length_take]; rfl)) ?_; (with_reducible refine (cashbookref30_May.calls kj8 _ _ t207 true _ ?side1 ?side2 A23.out).mono ?_); (case side1 => repeat (first | exact (Kd.C_below HR208.out HB.out) | (with_reducible refine Kd.C_alloc ?_ _) | (with_reducible refine Kd.C_drewN ?_ _) | (with_reducible refine Kd.C_drew ?_))); (case side2 => exact HC208.out); rintro e w' ⟨rfl, ⟨nd, rfl⟩⟩; refine ⟨_, rfl, ?_⟩) | ((with_reducible refine gate_callee (f := 15) rfl ?_); refine goesL_ (some 51) rfl rfl Try.func15 (by kernel_rfl) rfl #[.slice A3 t207.length c3] rfl (by (try simp only [List.map_toArray, List.map_cons, List.map_nil]); first | done | rfl | (simp only [List.length_drop, List.length_take]; rfl)) ?_; (with_reducible refine (cashbookref30_Sum.calls kj8 _ _ t207 t221 _ ?side1 ?side2 A25.out).mono ?_); (case side1 => repeat (first | exact (Kd.C_below HR208.out (by repeat (first | (with_reducible first | exact HB.out | apply below_alloc | apply pw_below_drewN | apply below_drew1) | exact HB.out))) | (with_reducible refine Kd.C_alloc ?_ _) | (with_reducible refine Kd.C_drewN ?_ _) | (with_reducible refine Kd.C_drew ?_))); (case side2 => exact HC208.out); rintro e w' ⟨rfl, ⟨nd, rfl⟩⟩; refine ⟨_, rfl, ?_⟩) | (go_at_call 17; (with_reducible refine (cashbookref30_Settle.calls kj8 _ _ t207 t222 _ ?side1 ?side2 A28.out).mono ?_); (case side1 => repeat (first | exact (Kd.C_below HR208.out (by repeat (first | (with_reducible first | exact HB.out | apply below_alloc | apply pw_below_drewN | apply below_drew1) | exact HB.out))) | (with_reducible refine Kd.C_alloc ?_ _) | (with_reducible refine Kd.C_drewN ?_ _) | (with_reducible refine Kd.C_drew ?_))); (case side2 => exact HC208.out); rintro e w31 ⟨v223, rfl, ho0, hb⟩; have n0_ := Aside0.mk (Kd.R_below (by (with_reducible repeat (first | apply Kd.R_alloc | apply Kd.R_drewN | apply Kd.R_drew)); exact HO_9.out) hb); have n1_ := Aside0.mk (Kd.R_elder' (by (with_reducible repeat (first | apply Kd.R_alloc | apply Kd.R_drewN | apply Kd.R_drew)); exact HO_11.out) (Kd.R_base ho0) hb); have n2_ := Aside0.mk (Kd.R_lower (Kd.R_new' ho0 (Kd.R_lt (by (with_reducible repeat (first | apply Kd.R_alloc | apply Kd.R_drewN | apply Kd.R_drew)); exact HO_11.out))) (below_size (by repeat (first | (with_reducible first | exact HB.out | apply below_alloc | apply pw_below_drewN | apply below_drew1) | exact HB.out)))); have n3_ := Aside0.mk (below_step (by repeat (first | (with_reducible first | exact HB.out | apply below_alloc | apply pw_below_drewN | apply below_drew1) | exact HB.out)) hb); clear HO_9; clear HO_11; clear HB; have HO_9 := n0_; have HO_11 := n1_; have HO224 := n2_; have HB := n3_; clear n0_ n1_ n2_ n3_; (try clear hb); (try clear hb2); (try clear hk); (try clear hi); (try clear ho0); obtain ⟨Ao32, co32, eo32⟩ := Kd.R_slice HO_11.out; subst eo32; obtain ⟨Ao33, co33, eo33⟩ := Kd.R_slice HO224.out; subst eo33) | (go_at_call 16; (with_reducible refine (cashbookref30_Rows.calls kj8 _ _ t213 _ _ t222 true _ ?side1 ?side2 ?side3 ?side4 A29.out).mono ?_); (case side1 => repeat (first | exact (Kd.R_reads' HO_11.out).2.2 | (with_reducible refine Kd.C_alloc ?_ _) | (with_reducible refine Kd.C_drewN ?_ _) | (with_reducible refine Kd.C_drew ?_))); (case side2 => exact (Kd.R_reads' HO_11.out).2.1); (case side3 => repeat (first | exact (Kd.R_reads' HO224.out).2.2 | (with_reducible refine Kd.C_alloc ?_ _) | (with_reducible refine Kd.C_drewN ?_ _) | (with_reducible refine Kd.C_drew ?_))); (case side4 => exact (Kd.R_reads' HO224.out).2.1); rintro e w' ⟨rfl, ⟨nd, rfl⟩⟩))
                  go_meet
                  case rel => exact ⟨_, H', ⟨by have := HJ8.out; first | omega | exact Nat.le_refl _⟩, ⟨by (with_reducible repeat (first | apply Kd.R_alloc | apply Kd.R_drewN | apply Kd.R_drew)); exact HO_9.out⟩, ⟨by repeat (first | (with_reducible first | exact HB.out | apply below_alloc | apply pw_below_drewN | apply below_drew1) | exact HB.out)⟩⟩
                · replace c30 := Bool.eq_false_iff.mpr c30
                  subst c30
                  have H1 : (some false) = some r := by rw [if_neg (show ¬ (false = true) by decide)] at H; exact H
                  clear H
                  have H := H1
                  clear H1
                  obtain rfl := Option.some.inj H
                  go_wp2_with (first | ((with_reducible refine gate_callee (f := 14) rfl ?_); refine goesL_ (some 40) rfl rfl Try.func14 (by kernel_rfl) rfl #[.slice A3 t207.length c3] rfl (by (try simp only [List.map_toArray, List.map_cons, List.map_nil]); first | done | rfl | (simp only [List.length_drop, List.length_take]; rfl)) ?_; (with_reducible refine (cashbookref30_May.calls kj8 _ _ t207 true _ ?side1 ?side2 A23.out).mono ?_); (case side1 => repeat (first | exact (Kd.C_below HR208.out HB.out) | (with_reducible refine Kd.C_alloc ?_ _) | (with_reducible refine Kd.C_drewN ?_ _) | (with_reducible refine Kd.C_drew ?_))); (case side2 => exact HC208.out); rintro e w' ⟨rfl, ⟨nd, rfl⟩⟩; refine ⟨_, rfl, ?_⟩) | ((with_reducible refine gate_callee (f := 15) rfl ?_); refine goesL_ (some 51) rfl rfl Try.func15 (by kernel_rfl) rfl #[.slice A3 t207.length c3] rfl (by (try simp only [List.map_toArray, List.map_cons, List.map_nil]); first | done | rfl | (simp only [List.length_drop, List.length_take]; rfl)) ?_; (with_reducible refine (cashbookref30_Sum.calls kj8 _ _ t207 t221 _ ?side1 ?side2 A25.out).mono ?_); (case side1 => repeat (first | exact (Kd.C_below HR208.out (by repeat (first | (with_reducible first | exact HB.out | apply below_alloc | apply pw_below_drewN | apply below_drew1) | exact HB.out))) | (with_reducible refine Kd.C_alloc ?_ _) | (with_reducible refine Kd.C_drewN ?_ _) | (with_reducible refine Kd.C_drew ?_))); (case side2 => exact HC208.out); rintro e w' ⟨rfl, ⟨nd, rfl⟩⟩; refine ⟨_, rfl, ?_⟩) | (go_at_call 17; (with_reducible refine (cashbookref30_Settle.calls kj8 _ _ t207 t222 _ ?side1 ?side2 A28.out).mono ?_); (case side1 => repeat (first | exact (Kd.C_below HR208.out (by repeat (first | (with_reducible first | exact HB.out | apply below_alloc | apply pw_below_drewN | apply below_drew1) | exact HB.out))) | (with_reducible refine Kd.C_alloc ?_ _) | (with_reducible refine Kd.C_drewN ?_ _) | (with_reducible refine Kd.C_drew ?_))); (case side2 => exact HC208.out); rintro e w34 ⟨v223, rfl, ho0, hb⟩; have n0_ := Aside0.mk (Kd.R_below (by (with_reducible repeat (first | apply Kd.R_alloc | apply Kd.R_drewN | apply Kd.R_drew)); exact HO_9.out) hb); have n1_ := Aside0.mk (Kd.R_elder' (by (with_reducible repeat (first | apply Kd.R_alloc | apply Kd.R_drewN | apply Kd.R_drew)); exact HO_11.out) (Kd.R_base ho0) hb); have n2_ := Aside0.mk (Kd.R_lower (Kd.R_new' ho0 (Kd.R_lt (by (with_reducible repeat (first | apply Kd.R_alloc | apply Kd.R_drewN | apply Kd.R_drew)); exact HO_11.out))) (below_size (by repeat (first | (with_reducible first | exact HB.out | apply below_alloc | apply pw_below_drewN | apply below_drew1) | exact HB.out)))); have n3_ := Aside0.mk (below_step (by repeat (first | (with_reducible first | exact HB.out | apply below_alloc | apply pw_below_drewN | apply below_drew1) | exact HB.out)) hb); clear HO_9; clear HO_11; clear HB; have HO_9 := n0_; have HO_11 := n1_; have HO224 := n2_; have HB := n3_; clear n0_ n1_ n2_ n3_; (try clear hb); (try clear hb2); (try clear hk); (try clear hi); (try clear ho0); obtain ⟨Ao35, co35, eo35⟩ := Kd.R_slice HO_11.out; subst eo35; obtain ⟨Ao36, co36, eo36⟩ := Kd.R_slice HO224.out; subst eo36) | (go_at_call 16; (with_reducible refine (cashbookref30_Rows.calls kj8 _ _ t213 _ _ t222 false _ ?side1 ?side2 ?side3 ?side4 A29.out).mono ?_); (case side1 => repeat (first | exact (Kd.R_reads' HO_11.out).2.2 | (with_reducible refine Kd.C_alloc ?_ _) | (with_reducible refine Kd.C_drewN ?_ _) | (with_reducible refine Kd.C_drew ?_))); (case side2 => exact (Kd.R_reads' HO_11.out).2.1); (case side3 => repeat (first | exact (Kd.R_reads' HO224.out).2.2 | (with_reducible refine Kd.C_alloc ?_ _) | (with_reducible refine Kd.C_drewN ?_ _) | (with_reducible refine Kd.C_drew ?_))); (case side4 => exact (Kd.R_reads' HO224.out).2.1); rintro e w' ⟨rfl, ⟨nd, rfl⟩⟩))
                  go_ret
                  exact ⟨by first | rfl | (simp [errW_none, errW_some] <;> rfl) | (simp [*, errW_none, errW_some] <;> rfl), by repeat (first | (with_reducible first | exact HB.out | apply below_alloc | apply pw_below_drewN | apply below_drew1) | exact HB.out)⟩
              · rw [if_neg c27] at H
                have c27b0 : (t214 == 0) = false := beq_eq_false_iff_ne.mpr c27
                have c27b1 : (t214 != 0) = true := bne_iff_ne.mpr c27
                obtain rfl := Option.some.inj H
                go_wp2_with (first | ((with_reducible refine gate_callee (f := 14) rfl ?_); refine goesL_ (some 40) rfl rfl Try.func14 (by kernel_rfl) rfl #[.slice A3 t207.length c3] rfl (by (try simp only [List.map_toArray, List.map_cons, List.map_nil]); first | done | rfl | (simp only [List.length_drop, List.length_take]; rfl)) ?_; (with_reducible refine (cashbookref30_May.calls kj8 _ _ t207 true _ ?side1 ?side2 A23.out).mono ?_); (case side1 => repeat (first | exact (Kd.C_below HR208.out HB.out) | (with_reducible refine Kd.C_alloc ?_ _) | (with_reducible refine Kd.C_drewN ?_ _) | (with_reducible refine Kd.C_drew ?_))); (case side2 => exact HC208.out); rintro e w' ⟨rfl, ⟨nd, rfl⟩⟩; refine ⟨_, rfl, ?_⟩) | ((with_reducible refine gate_callee (f := 15) rfl ?_); refine goesL_ (some 51) rfl rfl Try.func15 (by kernel_rfl) rfl #[.slice A3 t207.length c3] rfl (by (try simp only [List.map_toArray, List.map_cons, List.map_nil]); first | done | rfl | (simp only [List.length_drop, List.length_take]; rfl)) ?_; (with_reducible refine (cashbookref30_Sum.calls kj8 _ _ t207 t221 _ ?side1 ?side2 A25.out).mono ?_); (case side1 => repeat (first | exact (Kd.C_below HR208.out (by repeat (first | (with_reducible first | exact HB.out | apply below_alloc | apply pw_below_drewN | apply below_drew1) | exact HB.out))) | (with_reducible refine Kd.C_alloc ?_ _) | (with_reducible refine Kd.C_drewN ?_ _) | (with_reducible refine Kd.C_drew ?_))); (case side2 => exact HC208.out); rintro e w' ⟨rfl, ⟨nd, rfl⟩⟩; refine ⟨_, rfl, ?_⟩))
                go_ret
                exact ⟨by first | rfl | (simp [errW_none, errW_some] <;> rfl) | (simp [*, errW_none, errW_some] <;> rfl), by repeat (first | (with_reducible first | exact HB.out | apply below_alloc | apply pw_below_drewN | apply below_drew1) | exact HB.out)⟩
            · rw [if_neg c26] at H
              have c26b0 : (t221 == 0) = false := beq_eq_false_iff_ne.mpr c26
              have c26b1 : (t221 != 0) = true := bne_iff_ne.mpr c26
              (first | rw [c26b0] | (simp only [i64_w, i32_w]; rw [c26b0]) | skip)
              by_cases c37 : t214 = 15
              · rw [if_pos c37] at H
                have c37b0 : (t214 == 15) = true := beq_iff_eq.mpr c37
                have c37b1 : (t214 != 15) = false := bne_eq_false_iff_eq.mpr c37
                clear c37
                by_cases c38 : (t213.length : Int) = 0
                · rw [if_pos c38] at H
                  have c38b0 : ((t213.length : Int) == 0) = true := beq_iff_eq.mpr c38
                  have c38b1 : ((t213.length : Int) != 0) = false := bne_eq_false_iff_eq.mpr c38
                  clear c38
                  have H' := Aside0.mk H
                  clear H
                  go_wp2_with (first | ((with_reducible refine gate_callee (f := 14) rfl ?_); refine goesL_ (some 40) rfl rfl Try.func14 (by kernel_rfl) rfl #[.slice A3 t207.length c3] rfl (by (try simp only [List.map_toArray, List.map_cons, List.map_nil]); first | done | rfl | (simp only [List.length_drop, List.length_take]; rfl)) ?_; (with_reducible refine (cashbookref30_May.calls kj8 _ _ t207 true _ ?side1 ?side2 A23.out).mono ?_); (case side1 => repeat (first | exact (Kd.C_below HR208.out HB.out) | (with_reducible refine Kd.C_alloc ?_ _) | (with_reducible refine Kd.C_drewN ?_ _) | (with_reducible refine Kd.C_drew ?_))); (case side2 => exact HC208.out); rintro e w' ⟨rfl, ⟨nd, rfl⟩⟩; refine ⟨_, rfl, ?_⟩) | ((with_reducible refine gate_callee (f := 15) rfl ?_); refine goesL_ (some 51) rfl rfl Try.func15 (by kernel_rfl) rfl #[.slice A3 t207.length c3] rfl (by (try simp only [List.map_toArray, List.map_cons, List.map_nil]); first | done | rfl | (simp only [List.length_drop, List.length_take]; rfl)) ?_; (with_reducible refine (cashbookref30_Sum.calls kj8 _ _ t207 t221 _ ?side1 ?side2 A25.out).mono ?_); (case side1 => repeat (first | exact (Kd.C_below HR208.out (by repeat (first | (with_reducible first | exact HB.out | apply below_alloc | apply pw_below_drewN | apply below_drew1) | exact HB.out))) | (with_reducible refine Kd.C_alloc ?_ _) | (with_reducible refine Kd.C_drewN ?_ _) | (with_reducible refine Kd.C_drew ?_))); (case side2 => exact HC208.out); rintro e w' ⟨rfl, ⟨nd, rfl⟩⟩; refine ⟨_, rfl, ?_⟩; obtain ⟨Ao39, co39, eo39⟩ := Kd.R_slice HO_11.out; subst eo39))
                  go_meet
                  case rel => exact ⟨_, H', ⟨by have := HJ8.out; first | omega | exact Nat.le_refl _⟩, ⟨by (with_reducible repeat (first | apply Kd.R_alloc | apply Kd.R_drewN | apply Kd.R_drew)); exact HO_9.out⟩, ⟨by repeat (first | (with_reducible first | exact HB.out | apply below_alloc | apply pw_below_drewN | apply below_drew1) | exact HB.out)⟩⟩
                · rw [if_neg c38] at H
                  have c38b0 : ((t213.length : Int) == 0) = false := beq_eq_false_iff_ne.mpr c38
                  have c38b1 : ((t213.length : Int) != 0) = true := bne_iff_ne.mpr c38
                  have c38b2 : ¬ (t213 = []) := fun h_ => c38 (by rw [h_]; rfl)
                  obtain rfl := Option.some.inj H
                  go_wp2_with (first | ((with_reducible refine gate_callee (f := 14) rfl ?_); refine goesL_ (some 40) rfl rfl Try.func14 (by kernel_rfl) rfl #[.slice A3 t207.length c3] rfl (by (try simp only [List.map_toArray, List.map_cons, List.map_nil]); first | done | rfl | (simp only [List.length_drop, List.length_take]; rfl)) ?_; (with_reducible refine (cashbookref30_May.calls kj8 _ _ t207 true _ ?side1 ?side2 A23.out).mono ?_); (case side1 => repeat (first | exact (Kd.C_below HR208.out HB.out) | (with_reducible refine Kd.C_alloc ?_ _) | (with_reducible refine Kd.C_drewN ?_ _) | (with_reducible refine Kd.C_drew ?_))); (case side2 => exact HC208.out); rintro e w' ⟨rfl, ⟨nd, rfl⟩⟩; refine ⟨_, rfl, ?_⟩) | ((with_reducible refine gate_callee (f := 15) rfl ?_); refine goesL_ (some 51) rfl rfl Try.func15 (by kernel_rfl) rfl #[.slice A3 t207.length c3] rfl (by (try simp only [List.map_toArray, List.map_cons, List.map_nil]); first | done | rfl | (simp only [List.length_drop, List.length_take]; rfl)) ?_; (with_reducible refine (cashbookref30_Sum.calls kj8 _ _ t207 t221 _ ?side1 ?side2 A25.out).mono ?_); (case side1 => repeat (first | exact (Kd.C_below HR208.out (by repeat (first | (with_reducible first | exact HB.out | apply below_alloc | apply pw_below_drewN | apply below_drew1) | exact HB.out))) | (with_reducible refine Kd.C_alloc ?_ _) | (with_reducible refine Kd.C_drewN ?_ _) | (with_reducible refine Kd.C_drew ?_))); (case side2 => exact HC208.out); rintro e w' ⟨rfl, ⟨nd, rfl⟩⟩; refine ⟨_, rfl, ?_⟩; obtain ⟨Ao40, co40, eo40⟩ := Kd.R_slice HO_11.out; subst eo40))
                  go_ret
                  exact ⟨by first | rfl | (simp [errW_none, errW_some] <;> rfl) | (simp [*, errW_none, errW_some] <;> rfl), by repeat (first | (with_reducible first | exact HB.out | apply below_alloc | apply pw_below_drewN | apply below_drew1) | exact HB.out)⟩
              · rw [if_neg c37] at H
                have c37b0 : (t214 == 15) = false := beq_eq_false_iff_ne.mpr c37
                have c37b1 : (t214 != 15) = true := bne_iff_ne.mpr c37
                obtain rfl := Option.some.inj H
                go_wp2_with (first | ((with_reducible refine gate_callee (f := 14) rfl ?_); refine goesL_ (some 40) rfl rfl Try.func14 (by kernel_rfl) rfl #[.slice A3 t207.length c3] rfl (by (try simp only [List.map_toArray, List.map_cons, List.map_nil]); first | done | rfl | (simp only [List.length_drop, List.length_take]; rfl)) ?_; (with_reducible refine (cashbookref30_May.calls kj8 _ _ t207 true _ ?side1 ?side2 A23.out).mono ?_); (case side1 => repeat (first | exact (Kd.C_below HR208.out HB.out) | (with_reducible refine Kd.C_alloc ?_ _) | (with_reducible refine Kd.C_drewN ?_ _) | (with_reducible refine Kd.C_drew ?_))); (case side2 => exact HC208.out); rintro e w' ⟨rfl, ⟨nd, rfl⟩⟩; refine ⟨_, rfl, ?_⟩) | ((with_reducible refine gate_callee (f := 15) rfl ?_); refine goesL_ (some 51) rfl rfl Try.func15 (by kernel_rfl) rfl #[.slice A3 t207.length c3] rfl (by (try simp only [List.map_toArray, List.map_cons, List.map_nil]); first | done | rfl | (simp only [List.length_drop, List.length_take]; rfl)) ?_; (with_reducible refine (cashbookref30_Sum.calls kj8 _ _ t207 t221 _ ?side1 ?side2 A25.out).mono ?_); (case side1 => repeat (first | exact (Kd.C_below HR208.out (by repeat (first | (with_reducible first | exact HB.out | apply below_alloc | apply pw_below_drewN | apply below_drew1) | exact HB.out))) | (with_reducible refine Kd.C_alloc ?_ _) | (with_reducible refine Kd.C_drewN ?_ _) | (with_reducible refine Kd.C_drew ?_))); (case side2 => exact HC208.out); rintro e w' ⟨rfl, ⟨nd, rfl⟩⟩; refine ⟨_, rfl, ?_⟩))
                go_ret
                exact ⟨by first | rfl | (simp [errW_none, errW_some] <;> rfl) | (simp [*, errW_none, errW_some] <;> rfl), by repeat (first | (with_reducible first | exact HB.out | apply below_alloc | apply pw_below_drewN | apply below_drew1) | exact HB.out)⟩
          · replace c24 := Bool.eq_false_iff.mpr c24
            subst c24
            have H1 : (if t214 = 1 then (if (t213.length : Int) = 0 then (cashbooklaw30_NettingNets.j1 kj8 t205 a1 a2 t209 t210) else (some false)) else (some false)) = some r := by rw [if_neg (show ¬ (false = true) by decide)] at H; exact H
            clear H
            have H := H1
            clear H1
            by_cases c41 : t214 = 1
            · rw [if_pos c41] at H
              have c41b0 : (t214 == 1) = true := beq_iff_eq.mpr c41
              have c41b1 : (t214 != 1) = false := bne_eq_false_iff_eq.mpr c41
              clear c41
              by_cases c42 : (t213.length : Int) = 0
              · rw [if_pos c42] at H
                have c42b0 : ((t213.length : Int) == 0) = true := beq_iff_eq.mpr c42
                have c42b1 : ((t213.length : Int) != 0) = false := bne_eq_false_iff_eq.mpr c42
                clear c42
                have H' := Aside0.mk H
                clear H
                go_wp2_with (first | ((with_reducible refine gate_callee (f := 14) rfl ?_); refine goesL_ (some 40) rfl rfl Try.func14 (by kernel_rfl) rfl #[.slice A3 t207.length c3] rfl (by (try simp only [List.map_toArray, List.map_cons, List.map_nil]); first | done | rfl | (simp only [List.length_drop, List.length_take]; rfl)) ?_; (with_reducible refine (cashbookref30_May.calls kj8 _ _ t207 false _ ?side1 ?side2 A23.out).mono ?_); (case side1 => repeat (first | exact (Kd.C_below HR208.out HB.out) | (with_reducible refine Kd.C_alloc ?_ _) | (with_reducible refine Kd.C_drewN ?_ _) | (with_reducible refine Kd.C_drew ?_))); (case side2 => exact HC208.out); rintro e w' ⟨rfl, ⟨nd, rfl⟩⟩; refine ⟨_, rfl, ?_⟩; obtain ⟨Ao43, co43, eo43⟩ := Kd.R_slice HO_11.out; subst eo43))
                go_meet
                case rel => exact ⟨_, H', ⟨by have := HJ8.out; first | omega | exact Nat.le_refl _⟩, ⟨by (with_reducible repeat (first | apply Kd.R_alloc | apply Kd.R_drewN | apply Kd.R_drew)); exact HO_9.out⟩, ⟨by repeat (first | (with_reducible first | exact HB.out | apply below_alloc | apply pw_below_drewN | apply below_drew1) | exact HB.out)⟩⟩
              · rw [if_neg c42] at H
                have c42b0 : ((t213.length : Int) == 0) = false := beq_eq_false_iff_ne.mpr c42
                have c42b1 : ((t213.length : Int) != 0) = true := bne_iff_ne.mpr c42
                have c42b2 : ¬ (t213 = []) := fun h_ => c42 (by rw [h_]; rfl)
                obtain rfl := Option.some.inj H
                go_wp2_with (first | ((with_reducible refine gate_callee (f := 14) rfl ?_); refine goesL_ (some 40) rfl rfl Try.func14 (by kernel_rfl) rfl #[.slice A3 t207.length c3] rfl (by (try simp only [List.map_toArray, List.map_cons, List.map_nil]); first | done | rfl | (simp only [List.length_drop, List.length_take]; rfl)) ?_; (with_reducible refine (cashbookref30_May.calls kj8 _ _ t207 false _ ?side1 ?side2 A23.out).mono ?_); (case side1 => repeat (first | exact (Kd.C_below HR208.out HB.out) | (with_reducible refine Kd.C_alloc ?_ _) | (with_reducible refine Kd.C_drewN ?_ _) | (with_reducible refine Kd.C_drew ?_))); (case side2 => exact HC208.out); rintro e w' ⟨rfl, ⟨nd, rfl⟩⟩; refine ⟨_, rfl, ?_⟩; obtain ⟨Ao44, co44, eo44⟩ := Kd.R_slice HO_11.out; subst eo44))
                go_ret
                exact ⟨by first | rfl | (simp [errW_none, errW_some] <;> rfl) | (simp [*, errW_none, errW_some] <;> rfl), by repeat (first | (with_reducible first | exact HB.out | apply below_alloc | apply pw_below_drewN | apply below_drew1) | exact HB.out)⟩
            · rw [if_neg c41] at H
              have c41b0 : (t214 == 1) = false := beq_eq_false_iff_ne.mpr c41
              have c41b1 : (t214 != 1) = true := bne_iff_ne.mpr c41
              obtain rfl := Option.some.inj H
              go_wp2_with (first | ((with_reducible refine gate_callee (f := 14) rfl ?_); refine goesL_ (some 40) rfl rfl Try.func14 (by kernel_rfl) rfl #[.slice A3 t207.length c3] rfl (by (try simp only [List.map_toArray, List.map_cons, List.map_nil]); first | done | rfl | (simp only [List.length_drop, List.length_take]; rfl)) ?_; (with_reducible refine (cashbookref30_May.calls kj8 _ _ t207 false _ ?side1 ?side2 A23.out).mono ?_); (case side1 => repeat (first | exact (Kd.C_below HR208.out HB.out) | (with_reducible refine Kd.C_alloc ?_ _) | (with_reducible refine Kd.C_drewN ?_ _) | (with_reducible refine Kd.C_drew ?_))); (case side2 => exact HC208.out); rintro e w' ⟨rfl, ⟨nd, rfl⟩⟩; refine ⟨_, rfl, ?_⟩))
              go_ret
              exact ⟨by first | rfl | (simp [errW_none, errW_some] <;> rfl) | (simp [*, errW_none, errW_some] <;> rfl), by repeat (first | (with_reducible first | exact HB.out | apply below_alloc | apply pw_below_drewN | apply below_drew1) | exact HB.out)⟩
        case rest =>
          clear HC22
          try clear c1
          try clear c2
          try clear p2
          try clear c3
          try clear c4
          try clear c7
          try clear c8
          try clear c9
          try clear c10
          try clear c11
          try clear c12
          try clear c14
          try clear c14b0
          try clear c14b1
          try clear c14b2
          try clear c15
          try clear c21
          try clear c24
          try clear c26
          try clear c26b0
          try clear c26b1
          try clear c27
          try clear c27b0
          try clear c27b1
          try clear c30
          try clear c37
          try clear c37b0
          try clear c37b1
          try clear c38
          try clear c38b0
          try clear c38b1
          try clear c38b2
          try clear c41
          try clear c41b0
          try clear c41b1
          try clear c42
          try clear c42b0
          try clear c42b1
          try clear c42b2
          try clear p2
          obtain ⟨kq, HA, HJ21, HO_9, HB⟩ := hcut
          cases kq with
          | zero => exact absurd HA.out (by simp [cashbooklaw30_NettingNets.j1])
          | succ kj21 =>
            have H := HA.out
            clear HA
            simp only [cashbooklaw30_NettingNets.j1] at H
            replace H := Option.bind_eq_some_iff.mp H
            obtain ⟨t226, A450, H⟩ := H
            replace H : (if t226 = true then (if a1 < 0 then (cashbooklaw30_NettingNets.j2 kj21 t205 a1 a2 t209 t210 true) else (cashbooklaw30_NettingNets.j2 kj21 t205 a1 a2 t209 t210 (decide (a1 > 3)))) else (if t210 = 1 then (some ((t209.length : Int) == 0)) else (some false))) = some r := H
            have A45 := Aside0.mk A450
            clear A450
            by_cases c46 : t226 = true
            · subst c46
              have H1 : (if a1 < 0 then (cashbooklaw30_NettingNets.j2 kj21 t205 a1 a2 t209 t210 true) else (cashbooklaw30_NettingNets.j2 kj21 t205 a1 a2 t209 t210 (decide (a1 > 3)))) = some r := by rw [if_pos rfl] at H; exact H
              clear H
              have H := H1
              clear H1
              have HC47 := Aside0.mk H
              clear H
              go_upto_region 16 with (first | ((with_reducible refine gate_callee (f := 12) rfl ?_); refine goesL_ (some 72) rfl rfl Try.func12 (by kernel_rfl) rfl #[.slice A0 t205.length c0] rfl (by (try simp only [List.map_toArray, List.map_cons, List.map_nil]); first | done | rfl | (simp only [List.length_drop, List.length_take]; rfl)) ?_; (with_reducible refine (cashbookref30_Right.calls kj21 _ _ t205 true _ ?side1 ?side2 A45.out).mono ?_); (case side1 => repeat (first | exact (Kd.C_below HR206.out HB.out) | (with_reducible refine Kd.C_alloc ?_ _) | (with_reducible refine Kd.C_drewN ?_ _) | (with_reducible refine Kd.C_drew ?_))); (case side2 => exact HC206.out); rintro e w48 ⟨rfl, hb⟩; refine ⟨_, rfl, ?_⟩; have n0_ := Aside0.mk (Kd.R_below (by (with_reducible repeat (first | apply Kd.R_alloc | apply Kd.R_drewN | apply Kd.R_drew)); exact HO_9.out) hb); have n1_ := Aside0.mk (below_step (by repeat (first | (with_reducible first | exact HB.out | apply below_alloc | apply pw_below_drewN | apply below_drew1) | exact HB.out)) hb); clear HO_9; clear HB; have HO_9 := n0_; have HB := n1_; clear n0_ n1_; (try clear hb); (try clear hb2); (try clear hk); (try clear hi)))
              (try simp only [Act.put, List.setIfInBounds_toArray, List.set_cons_zero, List.set_cons_succ])
              go_cut [81] (fun v81 wc => ∃ (kq : Nat) (x81_46 : Bool), v81 = .bool x81_46 ∧ Aside0 (cashbooklaw30_NettingNets.j2 kq t205 a1 a2 t209 t210 x81_46 = some r) ∧ Aside0 (kq ≤ kj21) ∧ Aside0 (Kd.R (Kd.int .i64) 2 wc w.heap.size (fun _ => True) v211 t209) ∧ Aside0 (Below w.heap.size w wc))
              case first =>
                have H := HC47.out
                clear HC47
                by_cases c49 : a1 < 0
                · rw [if_pos c49] at H
                  have c49b0 : decide (a1 < 0) = true := decide_eq_true c49
                  clear c49
                  (first | rw [c49b0] | (simp only [i64_w, i32_w]; rw [c49b0]) | skip)
                  have H' := Aside0.mk H
                  clear H
                  go_wp2
                  go_meet
                  case rel => exact ⟨_, (true), (by first | rfl | (simp; done) | (simp [*]; done)), H', ⟨by have := HJ8.out; have := HJ21.out; first | omega | exact Nat.le_refl _⟩, ⟨by (with_reducible repeat (first | apply Kd.R_alloc | apply Kd.R_drewN | apply Kd.R_drew)); exact HO_9.out⟩, ⟨by repeat (first | (with_reducible first | exact HB.out | apply below_alloc | apply pw_below_drewN | apply below_drew1) | exact HB.out)⟩⟩
                · rw [if_neg c49] at H
                  have c49b0 : decide (a1 < 0) = false := decide_eq_false c49
                  clear c49
                  (first | rw [c49b0] | (simp only [i64_w, i32_w]; rw [c49b0]) | skip)
                  have H' := Aside0.mk H
                  clear H
                  go_wp2
                  go_meet
                  case rel => exact ⟨_, (decide (a1 > 3)), (by first | rfl | (simp; done) | (simp [*]; done)), H', ⟨by have := HJ8.out; have := HJ21.out; first | omega | exact Nat.le_refl _⟩, ⟨by (with_reducible repeat (first | apply Kd.R_alloc | apply Kd.R_drewN | apply Kd.R_drew)); exact HO_9.out⟩, ⟨by repeat (first | (with_reducible first | exact HB.out | apply below_alloc | apply pw_below_drewN | apply below_drew1) | exact HB.out)⟩⟩
              case rest =>
                clear HC47
                try clear c1
                try clear c2
                try clear p2
                try clear c3
                try clear c4
                try clear c7
                try clear c8
                try clear c9
                try clear c10
                try clear c11
                try clear c12
                try clear c14
                try clear c14b0
                try clear c14b1
                try clear c14b2
                try clear c15
                try clear c21
                try clear c24
                try clear c26
                try clear c26b0
                try clear c26b1
                try clear c27
                try clear c27b0
                try clear c27b1
                try clear c30
                try clear c37
                try clear c37b0
                try clear c37b1
                try clear c38
                try clear c38b0
                try clear c38b1
                try clear c38b2
                try clear c41
                try clear c41b0
                try clear c41b1
                try clear c42
                try clear c42b0
                try clear c42b1
                try clear c42b2
                try clear c46
                try clear c49
                try clear c49b0
                try clear p2
                obtain ⟨kq, x81_46, rfl, HA, HJ46, HO_9, HB⟩ := hcut
                cases kq with
                | zero => exact absurd HA.out (by simp [cashbooklaw30_NettingNets.j2])
                | succ kj46 =>
                  have H := HA.out
                  clear HA
                  simp only [cashbooklaw30_NettingNets.j2] at H
                  by_cases c50 : x81_46 = true
                  · subst c50
                    have H1 : (if t210 = 12 then (some ((t209.length : Int) == 0)) else (some false)) = some r := by rw [if_pos rfl] at H; exact H
                    clear H
                    have H := H1
                    clear H1
                    by_cases c51 : t210 = 12
                    · rw [if_pos c51] at H
                      have c51b0 : (t210 == 12) = true := beq_iff_eq.mpr c51
                      have c51b1 : (t210 != 12) = false := bne_eq_false_iff_eq.mpr c51
                      clear c51
                      obtain rfl := Option.some.inj H
                      obtain ⟨Ao52, co52, eo52⟩ := Kd.R_slice HO_9.out
                      subst eo52
                      go_wp2
                      go_ret
                      exact ⟨by first | rfl | (simp [errW_none, errW_some] <;> rfl) | (simp [*, errW_none, errW_some] <;> rfl), by repeat (first | (with_reducible first | exact HB.out | apply below_alloc | apply pw_below_drewN | apply below_drew1) | exact HB.out)⟩
                    · rw [if_neg c51] at H
                      have c51b0 : (t210 == 12) = false := beq_eq_false_iff_ne.mpr c51
                      have c51b1 : (t210 != 12) = true := bne_iff_ne.mpr c51
                      obtain rfl := Option.some.inj H
                      go_wp2
                      go_ret
                      exact ⟨by first | rfl | (simp [errW_none, errW_some] <;> rfl) | (simp [*, errW_none, errW_some] <;> rfl), by repeat (first | (with_reducible first | exact HB.out | apply below_alloc | apply pw_below_drewN | apply below_drew1) | exact HB.out)⟩
                  · replace c50 := Bool.eq_false_iff.mpr c50
                    subst c50
                    have H1 : ((cashbookref04_Right.f a2).bind fun t227 => (if t227 = true then (if t210 = 0 then ((cashbookref30_Net.f kj46 t205 a1 a2).bind fun t228 => ((cashbookref30_Nets.f kj46 t209 t228).bind fun t231 => (some t231))) else (some false)) else (if t210 = 11 then (some ((t209.length : Int) == 0)) else (some false)))) = some r := by rw [if_neg (show ¬ (false = true) by decide)] at H; exact H
                    clear H
                    have H := H1
                    clear H1
                    replace H := Option.bind_eq_some_iff.mp H
                    obtain ⟨t227, A530, H⟩ := H
                    replace H : (if t227 = true then (if t210 = 0 then ((cashbookref30_Net.f kj46 t205 a1 a2).bind fun t228 => ((cashbookref30_Nets.f kj46 t209 t228).bind fun t231 => (some t231))) else (some false)) else (if t210 = 11 then (some ((t209.length : Int) == 0)) else (some false))) = some r := H
                    have A53 := Aside0.mk A530
                    clear A530
                    by_cases c54 : t227 = true
                    · subst c54
                      have H1 : (if t210 = 0 then ((cashbookref30_Net.f kj46 t205 a1 a2).bind fun t228 => ((cashbookref30_Nets.f kj46 t209 t228).bind fun t231 => (some t231))) else (some false)) = some r := by rw [if_pos rfl] at H; exact H
                      clear H
                      have H := H1
                      clear H1
                      by_cases c55 : t210 = 0
                      · rw [if_pos c55] at H
                        have c55b0 : (t210 == 0) = true := beq_iff_eq.mpr c55
                        have c55b1 : (t210 != 0) = false := bne_eq_false_iff_eq.mpr c55
                        clear c55
                        replace H := Option.bind_eq_some_iff.mp H
                        obtain ⟨t228, A560, H⟩ := H
                        replace H : ((cashbookref30_Nets.f kj46 t209 t228).bind fun t231 => (some t231)) = some r := H
                        have A56 := Aside0.mk A560
                        clear A560
                        replace H := Option.bind_eq_some_iff.mp H
                        obtain ⟨t231, A570, H⟩ := H
                        replace H : (some t231) = some r := H
                        have A57 := Aside0.mk A570
                        clear A570
                        obtain rfl := Option.some.inj H
                        go_wp2_with (first | ((with_reducible refine gate_callee (f := 18) rfl ?_); refine goesL_ (some 97) rfl rfl Try.func18 (by kernel_rfl) rfl #[.int .i32 a2] rfl (by (try simp only [List.map_toArray, List.map_cons, List.map_nil]); first | done | rfl | (simp only [List.length_drop, List.length_take]; rfl)) ?_; (with_reducible refine (cashbookref04_Right.calls a2 true _ A53.out).mono ?_); rintro e w' ⟨rfl, ⟨nd, rfl⟩⟩; refine ⟨_, rfl, ?_⟩) | (go_at_call 20; (with_reducible refine (cashbookref30_Net.calls kj46 _ _ t205 a1 a2 t228 _ ?side1 ?side2 A56.out).mono ?_); (case side1 => repeat (first | exact (Kd.C_below HR206.out (by repeat (first | (with_reducible first | exact HB.out | apply below_alloc | apply pw_below_drewN | apply below_drew1) | exact HB.out))) | (with_reducible refine Kd.C_alloc ?_ _) | (with_reducible refine Kd.C_drewN ?_ _) | (with_reducible refine Kd.C_drew ?_))); (case side2 => exact HC206.out); rintro e w58 ⟨v229, rfl, ho0, hb⟩; have n0_ := Aside0.mk (Kd.R_elder' (by (with_reducible repeat (first | apply Kd.R_alloc | apply Kd.R_drewN | apply Kd.R_drew)); exact HO_9.out) (Kd.R_base ho0) hb); have n1_ := Aside0.mk (Kd.R_lower (Kd.R_new' ho0 (Kd.R_lt (by (with_reducible repeat (first | apply Kd.R_alloc | apply Kd.R_drewN | apply Kd.R_drew)); exact HO_9.out))) (below_size (by repeat (first | (with_reducible first | exact HB.out | apply below_alloc | apply pw_below_drewN | apply below_drew1) | exact HB.out)))); have n2_ := Aside0.mk (below_step (by repeat (first | (with_reducible first | exact HB.out | apply below_alloc | apply pw_below_drewN | apply below_drew1) | exact HB.out)) hb); clear HO_9; clear HB; have HO_9 := n0_; have HO230 := n1_; have HB := n2_; clear n0_ n1_ n2_; (try clear hb); (try clear hb2); (try clear hk); (try clear hi); (try clear ho0); obtain ⟨Ao59, co59, eo59⟩ := Kd.R_slice HO_9.out; subst eo59; obtain ⟨Ao60, co60, eo60⟩ := Kd.R_slice HO230.out; subst eo60) | (go_at_call 19; (with_reducible refine (cashbookref30_Nets.calls kj46 _ _ t209 _ _ t228 t231 _ ?side1 ?side2 ?side3 ?side4 A57.out).mono ?_); (case side1 => repeat (first | exact (Kd.R_reads' HO_9.out).2.2 | (with_reducible refine Kd.C_alloc ?_ _) | (with_reducible refine Kd.C_drewN ?_ _) | (with_reducible refine Kd.C_drew ?_))); (case side2 => exact (Kd.R_reads' HO_9.out).2.1); (case side3 => repeat (first | exact (Kd.R_reads' HO230.out).2.2 | (with_reducible refine Kd.C_alloc ?_ _) | (with_reducible refine Kd.C_drewN ?_ _) | (with_reducible refine Kd.C_drew ?_))); (case side4 => exact (Kd.R_reads' HO230.out).2.1); rintro e w' ⟨rfl, ⟨nd, rfl⟩⟩))
                        go_ret
                        exact ⟨by first | rfl | (simp [errW_none, errW_some] <;> rfl) | (simp [*, errW_none, errW_some] <;> rfl), by repeat (first | (with_reducible first | exact HB.out | apply below_alloc | apply pw_below_drewN | apply below_drew1) | exact HB.out)⟩
                      · rw [if_neg c55] at H
                        have c55b0 : (t210 == 0) = false := beq_eq_false_iff_ne.mpr c55
                        have c55b1 : (t210 != 0) = true := bne_iff_ne.mpr c55
                        obtain rfl := Option.some.inj H
                        go_wp2_with (first | ((with_reducible refine gate_callee (f := 18) rfl ?_); refine goesL_ (some 97) rfl rfl Try.func18 (by kernel_rfl) rfl #[.int .i32 a2] rfl (by (try simp only [List.map_toArray, List.map_cons, List.map_nil]); first | done | rfl | (simp only [List.length_drop, List.length_take]; rfl)) ?_; (with_reducible refine (cashbookref04_Right.calls a2 true _ A53.out).mono ?_); rintro e w' ⟨rfl, ⟨nd, rfl⟩⟩; refine ⟨_, rfl, ?_⟩))
                        go_ret
                        exact ⟨by first | rfl | (simp [errW_none, errW_some] <;> rfl) | (simp [*, errW_none, errW_some] <;> rfl), by repeat (first | (with_reducible first | exact HB.out | apply below_alloc | apply pw_below_drewN | apply below_drew1) | exact HB.out)⟩
                    · replace c54 := Bool.eq_false_iff.mpr c54
                      subst c54
                      have H1 : (if t210 = 11 then (some ((t209.length : Int) == 0)) else (some false)) = some r := by rw [if_neg (show ¬ (false = true) by decide)] at H; exact H
                      clear H
                      have H := H1
                      clear H1
                      by_cases c61 : t210 = 11
                      · rw [if_pos c61] at H
                        have c61b0 : (t210 == 11) = true := beq_iff_eq.mpr c61
                        have c61b1 : (t210 != 11) = false := bne_eq_false_iff_eq.mpr c61
                        clear c61
                        obtain rfl := Option.some.inj H
                        go_wp2_with (first | ((with_reducible refine gate_callee (f := 18) rfl ?_); refine goesL_ (some 97) rfl rfl Try.func18 (by kernel_rfl) rfl #[.int .i32 a2] rfl (by (try simp only [List.map_toArray, List.map_cons, List.map_nil]); first | done | rfl | (simp only [List.length_drop, List.length_take]; rfl)) ?_; (with_reducible refine (cashbookref04_Right.calls a2 false _ A53.out).mono ?_); rintro e w' ⟨rfl, ⟨nd, rfl⟩⟩; refine ⟨_, rfl, ?_⟩; obtain ⟨Ao62, co62, eo62⟩ := Kd.R_slice HO_9.out; subst eo62))
                        go_ret
                        exact ⟨by first | rfl | (simp [errW_none, errW_some] <;> rfl) | (simp [*, errW_none, errW_some] <;> rfl), by repeat (first | (with_reducible first | exact HB.out | apply below_alloc | apply pw_below_drewN | apply below_drew1) | exact HB.out)⟩
                      · rw [if_neg c61] at H
                        have c61b0 : (t210 == 11) = false := beq_eq_false_iff_ne.mpr c61
                        have c61b1 : (t210 != 11) = true := bne_iff_ne.mpr c61
                        obtain rfl := Option.some.inj H
                        go_wp2_with (first | ((with_reducible refine gate_callee (f := 18) rfl ?_); refine goesL_ (some 97) rfl rfl Try.func18 (by kernel_rfl) rfl #[.int .i32 a2] rfl (by (try simp only [List.map_toArray, List.map_cons, List.map_nil]); first | done | rfl | (simp only [List.length_drop, List.length_take]; rfl)) ?_; (with_reducible refine (cashbookref04_Right.calls a2 false _ A53.out).mono ?_); rintro e w' ⟨rfl, ⟨nd, rfl⟩⟩; refine ⟨_, rfl, ?_⟩))
                        go_ret
                        exact ⟨by first | rfl | (simp [errW_none, errW_some] <;> rfl) | (simp [*, errW_none, errW_some] <;> rfl), by repeat (first | (with_reducible first | exact HB.out | apply below_alloc | apply pw_below_drewN | apply below_drew1) | exact HB.out)⟩
            · replace c46 := Bool.eq_false_iff.mpr c46
              subst c46
              have H1 : (if t210 = 1 then (some ((t209.length : Int) == 0)) else (some false)) = some r := by rw [if_neg (show ¬ (false = true) by decide)] at H; exact H
              clear H
              have H := H1
              clear H1
              by_cases c63 : t210 = 1
              · rw [if_pos c63] at H
                have c63b0 : (t210 == 1) = true := beq_iff_eq.mpr c63
                have c63b1 : (t210 != 1) = false := bne_eq_false_iff_eq.mpr c63
                clear c63
                obtain rfl := Option.some.inj H
                go_wp2_with (first | ((with_reducible refine gate_callee (f := 12) rfl ?_); refine goesL_ (some 72) rfl rfl Try.func12 (by kernel_rfl) rfl #[.slice A0 t205.length c0] rfl (by (try simp only [List.map_toArray, List.map_cons, List.map_nil]); first | done | rfl | (simp only [List.length_drop, List.length_take]; rfl)) ?_; (with_reducible refine (cashbookref30_Right.calls kj21 _ _ t205 false _ ?side1 ?side2 A45.out).mono ?_); (case side1 => repeat (first | exact (Kd.C_below HR206.out HB.out) | (with_reducible refine Kd.C_alloc ?_ _) | (with_reducible refine Kd.C_drewN ?_ _) | (with_reducible refine Kd.C_drew ?_))); (case side2 => exact HC206.out); rintro e w64 ⟨rfl, hb⟩; refine ⟨_, rfl, ?_⟩; have n0_ := Aside0.mk (Kd.R_below (by (with_reducible repeat (first | apply Kd.R_alloc | apply Kd.R_drewN | apply Kd.R_drew)); exact HO_9.out) hb); have n1_ := Aside0.mk (below_step (by repeat (first | (with_reducible first | exact HB.out | apply below_alloc | apply pw_below_drewN | apply below_drew1) | exact HB.out)) hb); clear HO_9; clear HB; have HO_9 := n0_; have HB := n1_; clear n0_ n1_; (try clear hb); (try clear hb2); (try clear hk); (try clear hi); obtain ⟨Ao65, co65, eo65⟩ := Kd.R_slice HO_9.out; subst eo65))
                go_ret
                exact ⟨by first | rfl | (simp [errW_none, errW_some] <;> rfl) | (simp [*, errW_none, errW_some] <;> rfl), by repeat (first | (with_reducible first | exact HB.out | apply below_alloc | apply pw_below_drewN | apply below_drew1) | exact HB.out)⟩
              · rw [if_neg c63] at H
                have c63b0 : (t210 == 1) = false := beq_eq_false_iff_ne.mpr c63
                have c63b1 : (t210 != 1) = true := bne_iff_ne.mpr c63
                obtain rfl := Option.some.inj H
                go_wp2_with (first | ((with_reducible refine gate_callee (f := 12) rfl ?_); refine goesL_ (some 72) rfl rfl Try.func12 (by kernel_rfl) rfl #[.slice A0 t205.length c0] rfl (by (try simp only [List.map_toArray, List.map_cons, List.map_nil]); first | done | rfl | (simp only [List.length_drop, List.length_take]; rfl)) ?_; (with_reducible refine (cashbookref30_Right.calls kj21 _ _ t205 false _ ?side1 ?side2 A45.out).mono ?_); (case side1 => repeat (first | exact (Kd.C_below HR206.out HB.out) | (with_reducible refine Kd.C_alloc ?_ _) | (with_reducible refine Kd.C_drewN ?_ _) | (with_reducible refine Kd.C_drew ?_))); (case side2 => exact HC206.out); rintro e w66 ⟨rfl, hb⟩; refine ⟨_, rfl, ?_⟩; have n0_ := Aside0.mk (Kd.R_below (by (with_reducible repeat (first | apply Kd.R_alloc | apply Kd.R_drewN | apply Kd.R_drew)); exact HO_9.out) hb); have n1_ := Aside0.mk (below_step (by repeat (first | (with_reducible first | exact HB.out | apply below_alloc | apply pw_below_drewN | apply below_drew1) | exact HB.out)) hb); clear HO_9; clear HB; have HO_9 := n0_; have HB := n1_; clear n0_ n1_; (try clear hb); (try clear hb2); (try clear hk); (try clear hi)))
                go_ret
                exact ⟨by first | rfl | (simp [errW_none, errW_some] <;> rfl) | (simp [*, errW_none, errW_some] <;> rfl), by repeat (first | (with_reducible first | exact HB.out | apply below_alloc | apply pw_below_drewN | apply below_drew1) | exact HB.out)⟩

end Go.Proofs.Ytcmaohhcbiienaa.S
