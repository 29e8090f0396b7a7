-- Printed by pp.py (wip/pp), a program of this session's, over the kit's print; Lean checks it.
import Derived.Test.YtcidmdjhmhkmgaaDoorS0
import Derived.Test.YtcidmdjhmhkmgaaDoorS1
import Derived.Test.YtcidmdjhmhkmgaaDoorS2
import Derived.Test.YtcidmdjhmhkmgaaDoorS6
import Derived.Test.YtcidmdjhmhkmgaaDoorS7
namespace Go.Proofs.YtcidmdjhmhkmgaaDoor.S
open Go.RowKit Go.Proofs.YtcidmdjhmhkmgaaDoorW.PrintWords Go.Proofs.YtcidmdjhmhkmgaaDoorW.PrintLast Go.Proofs.YtcidmdjhmhkmgaaDoorW.PrintMore
attribute [local go_sem] max2_int min2_int max_two min_two max_three min_three max_four min_four   -- for this text's walks alone
set_option linter.unusedVariables false
set_option linter.unusedSimpArgs false

/-! ### cashbooklaw01_alive: function 14 -/
def cashbooklaw01_alive.f (k : Nat)  : Option (Bool) := (nat_Parse.f k (⟨#[51, 52, 48, 50, 56, 50, 51, 54, 54, 57, 50, 48, 57, 51, 56, 52, 54, 51, 52, 54, 51, 51, 55, 52, 54, 48, 55, 52, 51, 49, 55, 54, 56, 50, 49, 49, 52, 53, 53]⟩ : ByteArray)).bind fun bt277 => ((nat_Of.f k 18446744073709551615).bind fun t281 => ((nat_DivMod.f k bt277.1 t281).bind fun bt284 => ((nat_Of.f k 1).bind fun t291 => ((nat_Add.f k bt277.1 t291).bind fun bt294 => ((nat_Sub.f k t281 bt277.1).bind fun bt298 => ((nat_DivMod.f k bt277.1 ([] : List Int)).bind fun bt302 => ((nat_Of.f k 84).bind fun t309 => ((nat_Of.f k 36).bind fun t312 => ((nat_Gcd.f k t309 t312).bind fun bt315 => ((nat_Mul.f k t281 t281).bind fun bt319 => ((nat_Parse.f k (⟨#[48, 49]⟩ : ByteArray)).bind fun bt323 => ((nat_Add.f k (([0] : List Int)) ([] : List Int)).bind fun bt330 => (if bt277.2 = 0 then (if (bt277.1.length : Int) = 4 then (if bt284.2.2 = 0 then ((nat_Text.f k bt284.1).bind fun t334 => (if t334.toList = ([49, 56, 52, 52, 54, 55, 52, 52, 48, 55, 51, 55, 48, 57, 53, 53, 49, 54, 49, 55] : List UInt8) then (if (bt284.2.1.length : Int) = 0 then (if bt294.2 = 0 then (if (bt294.1.length : Int) = 5 then ((nat_Bits.f bt294.1).bind fun t335 => (if t335 = 129 then (if bt298.2 = 2 then (if bt302.2.2 = 10 then (if bt315.2 = 0 then ((nat_Text.f k bt315.1).bind fun t336 => (if t336.toList = ([49, 50] : List UInt8) then (if bt319.2 = 0 then ((nat_Text.f k bt319.1).bind fun t337 => (if t337.toList = ([51, 52, 48, 50, 56, 50, 51, 54, 54, 57, 50, 48, 57, 51, 56, 52, 54, 51, 52, 50, 54, 52, 56, 49, 49, 49, 57, 50, 56, 52, 51, 52, 57, 49, 48, 56, 50, 50, 53] : List UInt8) then ((nat_Compare.f k bt319.1 bt277.1).bind fun t338 => (if t338 = (-1) then (if bt323.2 = 3 then (if bt330.2 = 1 then ((nat_Right.f bt277.1).bind fun t339 => (if t339 = true then ((nat_Right.f (([0] : List Int))).bind fun t343 => (if t343 = true then (some false) else ((nat_Text.f k ([] : List Int)).bind fun t344 => (some (t344.toList == ([48] : List UInt8)))))) else (some false))) else (some false)) else (some false)) else (some false))) else (some false))) else (some false)) else (some false))) else (some false)) else (some false)) else (some false)) else (some false))) else (some false)) else (some false)) else (some false)) else (some false))) else (some false)) else (some false)) else (some false))))))))))))))
theorem cashbooklaw01_alive.mono : ∀ k, LeO (cashbooklaw01_alive.f k ) (cashbooklaw01_alive.f (k + 1) ) := by
  intro  k
  unfold cashbooklaw01_alive.f
  repeat' first
      | (with_reducible exact nat_Add.mono _ _ _)
      | (with_reducible exact nat_Compare.mono _ _ _)
      | (with_reducible exact nat_DivMod.mono _ _ _)
      | (with_reducible exact nat_Gcd.mono _ _ _)
      | (with_reducible exact nat_Mul.mono _ _ _)
      | (with_reducible exact nat_Of.mono _ _)
      | (with_reducible exact nat_Parse.mono _ _)
      | (with_reducible exact nat_Sub.mono _ _ _)
      | (with_reducible exact nat_Text.mono _ _)
      | (with_reducible exact LeO.refl _)
      | (with_reducible exact LeO.none _)
      | (with_reducible refine LeO.ite ?_ ?_)
      | (with_reducible refine LeO.bind ?_ (fun _ => ?_))
      | exact nat_Add.mono _ _ _
      | exact nat_Compare.mono _ _ _
      | exact nat_DivMod.mono _ _ _
      | exact nat_Gcd.mono _ _ _
      | exact nat_Mul.mono _ _ _
      | exact nat_Of.mono _ _
      | exact nat_Parse.mono _ _
      | exact nat_Sub.mono _ _ _
      | exact nat_Text.mono _ _
      | exact LeO.none _
      | refine LeO.ite ?_ ?_
      | refine LeO.bind ?_ (fun _ => ?_)
set_option maxHeartbeats 8000000 in
set_option maxRecDepth 100000 in
theorem cashbooklaw01_alive.calls_ (k : Nat)  (w : World) (hT : TabOK w) (h : cashbooklaw01_alive.f k  = some true) :
    Calls Tryd.prog 14 #[] w fun e w' => e = .returned (.bool true) ∧ Below w.heap.size w w' := by
  have HT := Aside0.mk hT
  clear hT
  have HB := Aside0.mk (Below.refl w.heap.size w)
  have H : ((nat_Parse.f k (⟨#[51, 52, 48, 50, 56, 50, 51, 54, 54, 57, 50, 48, 57, 51, 56, 52, 54, 51, 52, 54, 51, 51, 55, 52, 54, 48, 55, 52, 51, 49, 55, 54, 56, 50, 49, 49, 52, 53, 53]⟩ : ByteArray)).bind fun bt277 => ((nat_Of.f k 18446744073709551615).bind fun t281 => ((nat_DivMod.f k bt277.1 t281).bind fun bt284 => ((nat_Of.f k 1).bind fun t291 => ((nat_Add.f k bt277.1 t291).bind fun bt294 => ((nat_Sub.f k t281 bt277.1).bind fun bt298 => ((nat_DivMod.f k bt277.1 ([] : List Int)).bind fun bt302 => ((nat_Of.f k 84).bind fun t309 => ((nat_Of.f k 36).bind fun t312 => ((nat_Gcd.f k t309 t312).bind fun bt315 => ((nat_Mul.f k t281 t281).bind fun bt319 => ((nat_Parse.f k (⟨#[48, 49]⟩ : ByteArray)).bind fun bt323 => ((nat_Add.f k (([0] : List Int)) ([] : List Int)).bind fun bt330 => (if bt277.2 = 0 then (if (bt277.1.length : Int) = 4 then (if bt284.2.2 = 0 then ((nat_Text.f k bt284.1).bind fun t334 => (if t334.toList = ([49, 56, 52, 52, 54, 55, 52, 52, 48, 55, 51, 55, 48, 57, 53, 53, 49, 54, 49, 55] : List UInt8) then (if (bt284.2.1.length : Int) = 0 then (if bt294.2 = 0 then (if (bt294.1.length : Int) = 5 then ((nat_Bits.f bt294.1).bind fun t335 => (if t335 = 129 then (if bt298.2 = 2 then (if bt302.2.2 = 10 then (if bt315.2 = 0 then ((nat_Text.f k bt315.1).bind fun t336 => (if t336.toList = ([49, 50] : List UInt8) then (if bt319.2 = 0 then ((nat_Text.f k bt319.1).bind fun t337 => (if t337.toList = ([51, 52, 48, 50, 56, 50, 51, 54, 54, 57, 50, 48, 57, 51, 56, 52, 54, 51, 52, 50, 54, 52, 56, 49, 49, 49, 57, 50, 56, 52, 51, 52, 57, 49, 48, 56, 50, 50, 53] : List UInt8) then ((nat_Compare.f k bt319.1 bt277.1).bind fun t338 => (if t338 = (-1) then (if bt323.2 = 3 then (if bt330.2 = 1 then ((nat_Right.f bt277.1).bind fun t339 => (if t339 = true then ((nat_Right.f (([0] : List Int))).bind fun t343 => (if t343 = true then (some false) else ((nat_Text.f k ([] : List Int)).bind fun t344 => (some (t344.toList == ([48] : List UInt8)))))) else (some false))) else (some false)) else (some false)) else (some false))) else (some false))) else (some false)) else (some false))) else (some false)) else (some false)) else (some false)) else (some false))) else (some false)) else (some false)) else (some false)) else (some false))) else (some false)) else (some false)) else (some false))))))))))))))) = some true := h
  clear h
  replace H := Option.bind_eq_some_iff.mp H
  obtain ⟨⟨t277, t280⟩, A10, H⟩ := H
  replace H : ((nat_Of.f k 18446744073709551615).bind fun t281 => ((nat_DivMod.f k t277 t281).bind fun bt284 => ((nat_Of.f k 1).bind fun t291 => ((nat_Add.f k t277 t291).bind fun bt294 => ((nat_Sub.f k t281 t277).bind fun bt298 => ((nat_DivMod.f k t277 ([] : List Int)).bind fun bt302 => ((nat_Of.f k 84).bind fun t309 => ((nat_Of.f k 36).bind fun t312 => ((nat_Gcd.f k t309 t312).bind fun bt315 => ((nat_Mul.f k t281 t281).bind fun bt319 => ((nat_Parse.f k (⟨#[48, 49]⟩ : ByteArray)).bind fun bt323 => ((nat_Add.f k (([0] : List Int)) ([] : List Int)).bind fun bt330 => (if t280 = 0 then (if (t277.length : Int) = 4 then (if bt284.2.2 = 0 then ((nat_Text.f k bt284.1).bind fun t334 => (if t334.toList = ([49, 56, 52, 52, 54, 55, 52, 52, 48, 55, 51, 55, 48, 57, 53, 53, 49, 54, 49, 55] : List UInt8) then (if (bt284.2.1.length : Int) = 0 then (if bt294.2 = 0 then (if (bt294.1.length : Int) = 5 then ((nat_Bits.f bt294.1).bind fun t335 => (if t335 = 129 then (if bt298.2 = 2 then (if bt302.2.2 = 10 then (if bt315.2 = 0 then ((nat_Text.f k bt315.1).bind fun t336 => (if t336.toList = ([49, 50] : List UInt8) then (if bt319.2 = 0 then ((nat_Text.f k bt319.1).bind fun t337 => (if t337.toList = ([51, 52, 48, 50, 56, 50, 51, 54, 54, 57, 50, 48, 57, 51, 56, 52, 54, 51, 52, 50, 54, 52, 56, 49, 49, 49, 57, 50, 56, 52, 51, 52, 57, 49, 48, 56, 50, 50, 53] : List UInt8) then ((nat_Compare.f k bt319.1 t277).bind fun t338 => (if t338 = (-1) then (if bt323.2 = 3 then (if bt330.2 = 1 then ((nat_Right.f t277).bind fun t339 => (if t339 = true then ((nat_Right.f (([0] : List Int))).bind fun t343 => (if t343 = true then (some false) else ((nat_Text.f k ([] : List Int)).bind fun t344 => (some (t344.toList == ([48] : List UInt8)))))) else (some false))) else (some false)) else (some false)) else (some false))) else (some false))) else (some false)) else (some false))) else (some false)) else (some false)) else (some false)) else (some false))) else (some false)) else (some false)) else (some false)) else (some false))) else (some false)) else (some false)) else (some false)))))))))))))) = some true := H
  have A1 := Aside0.mk A10
  clear A10
  replace H := Option.bind_eq_some_iff.mp H
  obtain ⟨t281, A20, H⟩ := H
  replace H : ((nat_DivMod.f k t277 t281).bind fun bt284 => ((nat_Of.f k 1).bind fun t291 => ((nat_Add.f k t277 t291).bind fun bt294 => ((nat_Sub.f k t281 t277).bind fun bt298 => ((nat_DivMod.f k t277 ([] : List Int)).bind fun bt302 => ((nat_Of.f k 84).bind fun t309 => ((nat_Of.f k 36).bind fun t312 => ((nat_Gcd.f k t309 t312).bind fun bt315 => ((nat_Mul.f k t281 t281).bind fun bt319 => ((nat_Parse.f k (⟨#[48, 49]⟩ : ByteArray)).bind fun bt323 => ((nat_Add.f k (([0] : List Int)) ([] : List Int)).bind fun bt330 => (if t280 = 0 then (if (t277.length : Int) = 4 then (if bt284.2.2 = 0 then ((nat_Text.f k bt284.1).bind fun t334 => (if t334.toList = ([49, 56, 52, 52, 54, 55, 52, 52, 48, 55, 51, 55, 48, 57, 53, 53, 49, 54, 49, 55] : List UInt8) then (if (bt284.2.1.length : Int) = 0 then (if bt294.2 = 0 then (if (bt294.1.length : Int) = 5 then ((nat_Bits.f bt294.1).bind fun t335 => (if t335 = 129 then (if bt298.2 = 2 then (if bt302.2.2 = 10 then (if bt315.2 = 0 then ((nat_Text.f k bt315.1).bind fun t336 => (if t336.toList = ([49, 50] : List UInt8) then (if bt319.2 = 0 then ((nat_Text.f k bt319.1).bind fun t337 => (if t337.toList = ([51, 52, 48, 50, 56, 50, 51, 54, 54, 57, 50, 48, 57, 51, 56, 52, 54, 51, 52, 50, 54, 52, 56, 49, 49, 49, 57, 50, 56, 52, 51, 52, 57, 49, 48, 56, 50, 50, 53] : List UInt8) then ((nat_Compare.f k bt319.1 t277).bind fun t338 => (if t338 = (-1) then (if bt323.2 = 3 then (if bt330.2 = 1 then ((nat_Right.f t277).bind fun t339 => (if t339 = true then ((nat_Right.f (([0] : List Int))).bind fun t343 => (if t343 = true then (some false) else ((nat_Text.f k ([] : List Int)).bind fun t344 => (some (t344.toList == ([48] : List UInt8)))))) else (some false))) else (some false)) else (some false)) else (some false))) else (some false))) else (some false)) else (some false))) else (some false)) else (some false)) else (some false)) else (some false))) else (some false)) else (some false)) else (some false)) else (some false))) else (some false)) else (some false)) else (some false))))))))))))) = some true := H
  have A2 := Aside0.mk A20
  clear A20
  replace H := Option.bind_eq_some_iff.mp H
  obtain ⟨⟨t284, t287, t290⟩, A30, H⟩ := H
  replace H : ((nat_Of.f k 1).bind fun t291 => ((nat_Add.f k t277 t291).bind fun bt294 => ((nat_Sub.f k t281 t277).bind fun bt298 => ((nat_DivMod.f k t277 ([] : List Int)).bind fun bt302 => ((nat_Of.f k 84).bind fun t309 => ((nat_Of.f k 36).bind fun t312 => ((nat_Gcd.f k t309 t312).bind fun bt315 => ((nat_Mul.f k t281 t281).bind fun bt319 => ((nat_Parse.f k (⟨#[48, 49]⟩ : ByteArray)).bind fun bt323 => ((nat_Add.f k (([0] : List Int)) ([] : List Int)).bind fun bt330 => (if t280 = 0 then (if (t277.length : Int) = 4 then (if t290 = 0 then ((nat_Text.f k t284).bind fun t334 => (if t334.toList = ([49, 56, 52, 52, 54, 55, 52, 52, 48, 55, 51, 55, 48, 57, 53, 53, 49, 54, 49, 55] : List UInt8) then (if (t287.length : Int) = 0 then (if bt294.2 = 0 then (if (bt294.1.length : Int) = 5 then ((nat_Bits.f bt294.1).bind fun t335 => (if t335 = 129 then (if bt298.2 = 2 then (if bt302.2.2 = 10 then (if bt315.2 = 0 then ((nat_Text.f k bt315.1).bind fun t336 => (if t336.toList = ([49, 50] : List UInt8) then (if bt319.2 = 0 then ((nat_Text.f k bt319.1).bind fun t337 => (if t337.toList = ([51, 52, 48, 50, 56, 50, 51, 54, 54, 57, 50, 48, 57, 51, 56, 52, 54, 51, 52, 50, 54, 52, 56, 49, 49, 49, 57, 50, 56, 52, 51, 52, 57, 49, 48, 56, 50, 50, 53] : List UInt8) then ((nat_Compare.f k bt319.1 t277).bind fun t338 => (if t338 = (-1) then (if bt323.2 = 3 then (if bt330.2 = 1 then ((nat_Right.f t277).bind fun t339 => (if t339 = true then ((nat_Right.f (([0] : List Int))).bind fun t343 => (if t343 = true then (some false) else ((nat_Text.f k ([] : List Int)).bind fun t344 => (some (t344.toList == ([48] : List UInt8)))))) else (some false))) else (some false)) else (some false)) else (some false))) else (some false))) else (some false)) else (some false))) else (some false)) else (some false)) else (some false)) else (some false))) else (some false)) else (some false)) else (some false)) else (some false))) else (some false)) else (some false)) else (some false)))))))))))) = some true := H
  have A3 := Aside0.mk A30
  clear A30
  replace H := Option.bind_eq_some_iff.mp H
  obtain ⟨t291, A40, H⟩ := H
  replace H : ((nat_Add.f k t277 t291).bind fun bt294 => ((nat_Sub.f k t281 t277).bind fun bt298 => ((nat_DivMod.f k t277 ([] : List Int)).bind fun bt302 => ((nat_Of.f k 84).bind fun t309 => ((nat_Of.f k 36).bind fun t312 => ((nat_Gcd.f k t309 t312).bind fun bt315 => ((nat_Mul.f k t281 t281).bind fun bt319 => ((nat_Parse.f k (⟨#[48, 49]⟩ : ByteArray)).bind fun bt323 => ((nat_Add.f k (([0] : List Int)) ([] : List Int)).bind fun bt330 => (if t280 = 0 then (if (t277.length : Int) = 4 then (if t290 = 0 then ((nat_Text.f k t284).bind fun t334 => (if t334.toList = ([49, 56, 52, 52, 54, 55, 52, 52, 48, 55, 51, 55, 48, 57, 53, 53, 49, 54, 49, 55] : List UInt8) then (if (t287.length : Int) = 0 then (if bt294.2 = 0 then (if (bt294.1.length : Int) = 5 then ((nat_Bits.f bt294.1).bind fun t335 => (if t335 = 129 then (if bt298.2 = 2 then (if bt302.2.2 = 10 then (if bt315.2 = 0 then ((nat_Text.f k bt315.1).bind fun t336 => (if t336.toList = ([49, 50] : List UInt8) then (if bt319.2 = 0 then ((nat_Text.f k bt319.1).bind fun t337 => (if t337.toList = ([51, 52, 48, 50, 56, 50, 51, 54, 54, 57, 50, 48, 57, 51, 56, 52, 54, 51, 52, 50, 54, 52, 56, 49, 49, 49, 57, 50, 56, 52, 51, 52, 57, 49, 48, 56, 50, 50, 53] : List UInt8) then ((nat_Compare.f k bt319.1 t277).bind fun t338 => (if t338 = (-1) then (if bt323.2 = 3 then (if bt330.2 = 1 then ((nat_Right.f t277).bind fun t339 => (if t339 = true then ((nat_Right.f (([0] : List Int))).bind fun t343 => (if t343 = true then (some false) else ((nat_Text.f k ([] : List Int)).bind fun t344 => (some (t344.toList == ([48] : List UInt8)))))) else (some false))) else (some false)) else (some false)) else (some false))) else (some false))) else (some false)) else (some false))) else (some false)) else (some false)) else (some false)) else (some false))) else (some false)) else (some false)) else (some false)) else (some false))) else (some false)) else (some false)) else (some false))))))))))) = some true := H
  have A4 := Aside0.mk A40
  clear A40
  replace H := Option.bind_eq_some_iff.mp H
  obtain ⟨⟨t294, t297⟩, A50, H⟩ := H
  replace H : ((nat_Sub.f k t281 t277).bind fun bt298 => ((nat_DivMod.f k t277 ([] : List Int)).bind fun bt302 => ((nat_Of.f k 84).bind fun t309 => ((nat_Of.f k 36).bind fun t312 => ((nat_Gcd.f k t309 t312).bind fun bt315 => ((nat_Mul.f k t281 t281).bind fun bt319 => ((nat_Parse.f k (⟨#[48, 49]⟩ : ByteArray)).bind fun bt323 => ((nat_Add.f k (([0] : List Int)) ([] : List Int)).bind fun bt330 => (if t280 = 0 then (if (t277.length : Int) = 4 then (if t290 = 0 then ((nat_Text.f k t284).bind fun t334 => (if t334.toList = ([49, 56, 52, 52, 54, 55, 52, 52, 48, 55, 51, 55, 48, 57, 53, 53, 49, 54, 49, 55] : List UInt8) then (if (t287.length : Int) = 0 then (if t297 = 0 then (if (t294.length : Int) = 5 then ((nat_Bits.f t294).bind fun t335 => (if t335 = 129 then (if bt298.2 = 2 then (if bt302.2.2 = 10 then (if bt315.2 = 0 then ((nat_Text.f k bt315.1).bind fun t336 => (if t336.toList = ([49, 50] : List UInt8) then (if bt319.2 = 0 then ((nat_Text.f k bt319.1).bind fun t337 => (if t337.toList = ([51, 52, 48, 50, 56, 50, 51, 54, 54, 57, 50, 48, 57, 51, 56, 52, 54, 51, 52, 50, 54, 52, 56, 49, 49, 49, 57, 50, 56, 52, 51, 52, 57, 49, 48, 56, 50, 50, 53] : List UInt8) then ((nat_Compare.f k bt319.1 t277).bind fun t338 => (if t338 = (-1) then (if bt323.2 = 3 then (if bt330.2 = 1 then ((nat_Right.f t277).bind fun t339 => (if t339 = true then ((nat_Right.f (([0] : List Int))).bind fun t343 => (if t343 = true then (some false) else ((nat_Text.f k ([] : List Int)).bind fun t344 => (some (t344.toList == ([48] : List UInt8)))))) else (some false))) else (some false)) else (some false)) else (some false))) else (some false))) else (some false)) else (some false))) else (some false)) else (some false)) else (some false)) else (some false))) else (some false)) else (some false)) else (some false)) else (some false))) else (some false)) else (some false)) else (some false)))))))))) = some true := H
  have A5 := Aside0.mk A50
  clear A50
  replace H := Option.bind_eq_some_iff.mp H
  obtain ⟨⟨t298, t301⟩, A60, H⟩ := H
  replace H : ((nat_DivMod.f k t277 ([] : List Int)).bind fun bt302 => ((nat_Of.f k 84).bind fun t309 => ((nat_Of.f k 36).bind fun t312 => ((nat_Gcd.f k t309 t312).bind fun bt315 => ((nat_Mul.f k t281 t281).bind fun bt319 => ((nat_Parse.f k (⟨#[48, 49]⟩ : ByteArray)).bind fun bt323 => ((nat_Add.f k (([0] : List Int)) ([] : List Int)).bind fun bt330 => (if t280 = 0 then (if (t277.length : Int) = 4 then (if t290 = 0 then ((nat_Text.f k t284).bind fun t334 => (if t334.toList = ([49, 56, 52, 52, 54, 55, 52, 52, 48, 55, 51, 55, 48, 57, 53, 53, 49, 54, 49, 55] : List UInt8) then (if (t287.length : Int) = 0 then (if t297 = 0 then (if (t294.length : Int) = 5 then ((nat_Bits.f t294).bind fun t335 => (if t335 = 129 then (if t301 = 2 then (if bt302.2.2 = 10 then (if bt315.2 = 0 then ((nat_Text.f k bt315.1).bind fun t336 => (if t336.toList = ([49, 50] : List UInt8) then (if bt319.2 = 0 then ((nat_Text.f k bt319.1).bind fun t337 => (if t337.toList = ([51, 52, 48, 50, 56, 50, 51, 54, 54, 57, 50, 48, 57, 51, 56, 52, 54, 51, 52, 50, 54, 52, 56, 49, 49, 49, 57, 50, 56, 52, 51, 52, 57, 49, 48, 56, 50, 50, 53] : List UInt8) then ((nat_Compare.f k bt319.1 t277).bind fun t338 => (if t338 = (-1) then (if bt323.2 = 3 then (if bt330.2 = 1 then ((nat_Right.f t277).bind fun t339 => (if t339 = true then ((nat_Right.f (([0] : List Int))).bind fun t343 => (if t343 = true then (some false) else ((nat_Text.f k ([] : List Int)).bind fun t344 => (some (t344.toList == ([48] : List UInt8)))))) else (some false))) else (some false)) else (some false)) else (some false))) else (some false))) else (some false)) else (some false))) else (some false)) else (some false)) else (some false)) else (some false))) else (some false)) else (some false)) else (some false)) else (some false))) else (some false)) else (some false)) else (some false))))))))) = some true := H
  have A6 := Aside0.mk A60
  clear A60
  replace H := Option.bind_eq_some_iff.mp H
  obtain ⟨⟨t302, t305, t308⟩, A70, H⟩ := H
  replace H : ((nat_Of.f k 84).bind fun t309 => ((nat_Of.f k 36).bind fun t312 => ((nat_Gcd.f k t309 t312).bind fun bt315 => ((nat_Mul.f k t281 t281).bind fun bt319 => ((nat_Parse.f k (⟨#[48, 49]⟩ : ByteArray)).bind fun bt323 => ((nat_Add.f k (([0] : List Int)) ([] : List Int)).bind fun bt330 => (if t280 = 0 then (if (t277.length : Int) = 4 then (if t290 = 0 then ((nat_Text.f k t284).bind fun t334 => (if t334.toList = ([49, 56, 52, 52, 54, 55, 52, 52, 48, 55, 51, 55, 48, 57, 53, 53, 49, 54, 49, 55] : List UInt8) then (if (t287.length : Int) = 0 then (if t297 = 0 then (if (t294.length : Int) = 5 then ((nat_Bits.f t294).bind fun t335 => (if t335 = 129 then (if t301 = 2 then (if t308 = 10 then (if bt315.2 = 0 then ((nat_Text.f k bt315.1).bind fun t336 => (if t336.toList = ([49, 50] : List UInt8) then (if bt319.2 = 0 then ((nat_Text.f k bt319.1).bind fun t337 => (if t337.toList = ([51, 52, 48, 50, 56, 50, 51, 54, 54, 57, 50, 48, 57, 51, 56, 52, 54, 51, 52, 50, 54, 52, 56, 49, 49, 49, 57, 50, 56, 52, 51, 52, 57, 49, 48, 56, 50, 50, 53] : List UInt8) then ((nat_Compare.f k bt319.1 t277).bind fun t338 => (if t338 = (-1) then (if bt323.2 = 3 then (if bt330.2 = 1 then ((nat_Right.f t277).bind fun t339 => (if t339 = true then ((nat_Right.f (([0] : List Int))).bind fun t343 => (if t343 = true then (some false) else ((nat_Text.f k ([] : List Int)).bind fun t344 => (some (t344.toList == ([48] : List UInt8)))))) else (some false))) else (some false)) else (some false)) else (some false))) else (some false))) else (some false)) else (some false))) else (some false)) else (some false)) else (some false)) else (some false))) else (some false)) else (some false)) else (some false)) else (some false))) else (some false)) else (some false)) else (some false)))))))) = some true := H
  have A7 := Aside0.mk A70
  clear A70
  replace H := Option.bind_eq_some_iff.mp H
  obtain ⟨t309, A80, H⟩ := H
  replace H : ((nat_Of.f k 36).bind fun t312 => ((nat_Gcd.f k t309 t312).bind fun bt315 => ((nat_Mul.f k t281 t281).bind fun bt319 => ((nat_Parse.f k (⟨#[48, 49]⟩ : ByteArray)).bind fun bt323 => ((nat_Add.f k (([0] : List Int)) ([] : List Int)).bind fun bt330 => (if t280 = 0 then (if (t277.length : Int) = 4 then (if t290 = 0 then ((nat_Text.f k t284).bind fun t334 => (if t334.toList = ([49, 56, 52, 52, 54, 55, 52, 52, 48, 55, 51, 55, 48, 57, 53, 53, 49, 54, 49, 55] : List UInt8) then (if (t287.length : Int) = 0 then (if t297 = 0 then (if (t294.length : Int) = 5 then ((nat_Bits.f t294).bind fun t335 => (if t335 = 129 then (if t301 = 2 then (if t308 = 10 then (if bt315.2 = 0 then ((nat_Text.f k bt315.1).bind fun t336 => (if t336.toList = ([49, 50] : List UInt8) then (if bt319.2 = 0 then ((nat_Text.f k bt319.1).bind fun t337 => (if t337.toList = ([51, 52, 48, 50, 56, 50, 51, 54, 54, 57, 50, 48, 57, 51, 56, 52, 54, 51, 52, 50, 54, 52, 56, 49, 49, 49, 57, 50, 56, 52, 51, 52, 57, 49, 48, 56, 50, 50, 53] : List UInt8) then ((nat_Compare.f k bt319.1 t277).bind fun t338 => (if t338 = (-1) then (if bt323.2 = 3 then (if bt330.2 = 1 then ((nat_Right.f t277).bind fun t339 => (if t339 = true then ((nat_Right.f (([0] : List Int))).bind fun t343 => (if t343 = true then (some false) else ((nat_Text.f k ([] : List Int)).bind fun t344 => (some (t344.toList == ([48] : List UInt8)))))) else (some false))) else (some false)) else (some false)) else (some false))) else (some false))) else (some false)) else (some false))) else (some false)) else (some false)) else (some false)) else (some false))) else (some false)) else (some false)) else (some false)) else (some false))) else (some false)) else (some false)) else (some false))))))) = some true := H
  have A8 := Aside0.mk A80
  clear A80
  replace H := Option.bind_eq_some_iff.mp H
  obtain ⟨t312, A90, H⟩ := H
  replace H : ((nat_Gcd.f k t309 t312).bind fun bt315 => ((nat_Mul.f k t281 t281).bind fun bt319 => ((nat_Parse.f k (⟨#[48, 49]⟩ : ByteArray)).bind fun bt323 => ((nat_Add.f k (([0] : List Int)) ([] : List Int)).bind fun bt330 => (if t280 = 0 then (if (t277.length : Int) = 4 then (if t290 = 0 then ((nat_Text.f k t284).bind fun t334 => (if t334.toList = ([49, 56, 52, 52, 54, 55, 52, 52, 48, 55, 51, 55, 48, 57, 53, 53, 49, 54, 49, 55] : List UInt8) then (if (t287.length : Int) = 0 then (if t297 = 0 then (if (t294.length : Int) = 5 then ((nat_Bits.f t294).bind fun t335 => (if t335 = 129 then (if t301 = 2 then (if t308 = 10 then (if bt315.2 = 0 then ((nat_Text.f k bt315.1).bind fun t336 => (if t336.toList = ([49, 50] : List UInt8) then (if bt319.2 = 0 then ((nat_Text.f k bt319.1).bind fun t337 => (if t337.toList = ([51, 52, 48, 50, 56, 50, 51, 54, 54, 57, 50, 48, 57, 51, 56, 52, 54, 51, 52, 50, 54, 52, 56, 49, 49, 49, 57, 50, 56, 52, 51, 52, 57, 49, 48, 56, 50, 50, 53] : List UInt8) then ((nat_Compare.f k bt319.1 t277).bind fun t338 => (if t338 = (-1) then (if bt323.2 = 3 then (if bt330.2 = 1 then ((nat_Right.f t277).bind fun t339 => (if t339 = true then ((nat_Right.f (([0] : List Int))).bind fun t343 => (if t343 = true then (some false) else ((nat_Text.f k ([] : List Int)).bind fun t344 => (some (t344.toList == ([48] : List UInt8)))))) else (some false))) else (some false)) else (some false)) else (some false))) else (some false))) else (some false)) else (some false))) else (some false)) else (some false)) else (some false)) else (some false))) else (some false)) else (some false)) else (some false)) else (some false))) else (some false)) else (some false)) else (some false)))))) = some true := H
  have A9 := Aside0.mk A90
  clear A90
  replace H := Option.bind_eq_some_iff.mp H
  obtain ⟨⟨t315, t318⟩, A100, H⟩ := H
  replace H : ((nat_Mul.f k t281 t281).bind fun bt319 => ((nat_Parse.f k (⟨#[48, 49]⟩ : ByteArray)).bind fun bt323 => ((nat_Add.f k (([0] : List Int)) ([] : List Int)).bind fun bt330 => (if t280 = 0 then (if (t277.length : Int) = 4 then (if t290 = 0 then ((nat_Text.f k t284).bind fun t334 => (if t334.toList = ([49, 56, 52, 52, 54, 55, 52, 52, 48, 55, 51, 55, 48, 57, 53, 53, 49, 54, 49, 55] : List UInt8) then (if (t287.length : Int) = 0 then (if t297 = 0 then (if (t294.length : Int) = 5 then ((nat_Bits.f t294).bind fun t335 => (if t335 = 129 then (if t301 = 2 then (if t308 = 10 then (if t318 = 0 then ((nat_Text.f k t315).bind fun t336 => (if t336.toList = ([49, 50] : List UInt8) then (if bt319.2 = 0 then ((nat_Text.f k bt319.1).bind fun t337 => (if t337.toList = ([51, 52, 48, 50, 56, 50, 51, 54, 54, 57, 50, 48, 57, 51, 56, 52, 54, 51, 52, 50, 54, 52, 56, 49, 49, 49, 57, 50, 56, 52, 51, 52, 57, 49, 48, 56, 50, 50, 53] : List UInt8) then ((nat_Compare.f k bt319.1 t277).bind fun t338 => (if t338 = (-1) then (if bt323.2 = 3 then (if bt330.2 = 1 then ((nat_Right.f t277).bind fun t339 => (if t339 = true then ((nat_Right.f (([0] : List Int))).bind fun t343 => (if t343 = true then (some false) else ((nat_Text.f k ([] : List Int)).bind fun t344 => (some (t344.toList == ([48] : List UInt8)))))) else (some false))) else (some false)) else (some false)) else (some false))) else (some false))) else (some false)) else (some false))) else (some false)) else (some false)) else (some false)) else (some false))) else (some false)) else (some false)) else (some false)) else (some false))) else (some false)) else (some false)) else (some false))))) = some true := H
  have A10 := Aside0.mk A100
  clear A100
  replace H := Option.bind_eq_some_iff.mp H
  obtain ⟨⟨t319, t322⟩, A110, H⟩ := H
  replace H : ((nat_Parse.f k (⟨#[48, 49]⟩ : ByteArray)).bind fun bt323 => ((nat_Add.f k (([0] : List Int)) ([] : List Int)).bind fun bt330 => (if t280 = 0 then (if (t277.length : Int) = 4 then (if t290 = 0 then ((nat_Text.f k t284).bind fun t334 => (if t334.toList = ([49, 56, 52, 52, 54, 55, 52, 52, 48, 55, 51, 55, 48, 57, 53, 53, 49, 54, 49, 55] : List UInt8) then (if (t287.length : Int) = 0 then (if t297 = 0 then (if (t294.length : Int) = 5 then ((nat_Bits.f t294).bind fun t335 => (if t335 = 129 then (if t301 = 2 then (if t308 = 10 then (if t318 = 0 then ((nat_Text.f k t315).bind fun t336 => (if t336.toList = ([49, 50] : List UInt8) then (if t322 = 0 then ((nat_Text.f k t319).bind fun t337 => (if t337.toList = ([51, 52, 48, 50, 56, 50, 51, 54, 54, 57, 50, 48, 57, 51, 56, 52, 54, 51, 52, 50, 54, 52, 56, 49, 49, 49, 57, 50, 56, 52, 51, 52, 57, 49, 48, 56, 50, 50, 53] : List UInt8) then ((nat_Compare.f k t319 t277).bind fun t338 => (if t338 = (-1) then (if bt323.2 = 3 then (if bt330.2 = 1 then ((nat_Right.f t277).bind fun t339 => (if t339 = true then ((nat_Right.f (([0] : List Int))).bind fun t343 => (if t343 = true then (some false) else ((nat_Text.f k ([] : List Int)).bind fun t344 => (some (t344.toList == ([48] : List UInt8)))))) else (some false))) else (some false)) else (some false)) else (some false))) else (some false))) else (some false)) else (some false))) else (some false)) else (some false)) else (some false)) else (some false))) else (some false)) else (some false)) else (some false)) else (some false))) else (some false)) else (some false)) else (some false)))) = some true := H
  have A11 := Aside0.mk A110
  clear A110
  replace H := Option.bind_eq_some_iff.mp H
  obtain ⟨⟨t323, t326⟩, A120, H⟩ := H
  replace H : ((nat_Add.f k (([0] : List Int)) ([] : List Int)).bind fun bt330 => (if t280 = 0 then (if (t277.length : Int) = 4 then (if t290 = 0 then ((nat_Text.f k t284).bind fun t334 => (if t334.toList = ([49, 56, 52, 52, 54, 55, 52, 52, 48, 55, 51, 55, 48, 57, 53, 53, 49, 54, 49, 55] : List UInt8) then (if (t287.length : Int) = 0 then (if t297 = 0 then (if (t294.length : Int) = 5 then ((nat_Bits.f t294).bind fun t335 => (if t335 = 129 then (if t301 = 2 then (if t308 = 10 then (if t318 = 0 then ((nat_Text.f k t315).bind fun t336 => (if t336.toList = ([49, 50] : List UInt8) then (if t322 = 0 then ((nat_Text.f k t319).bind fun t337 => (if t337.toList = ([51, 52, 48, 50, 56, 50, 51, 54, 54, 57, 50, 48, 57, 51, 56, 52, 54, 51, 52, 50, 54, 52, 56, 49, 49, 49, 57, 50, 56, 52, 51, 52, 57, 49, 48, 56, 50, 50, 53] : List UInt8) then ((nat_Compare.f k t319 t277).bind fun t338 => (if t338 = (-1) then (if t326 = 3 then (if bt330.2 = 1 then ((nat_Right.f t277).bind fun t339 => (if t339 = true then ((nat_Right.f (([0] : List Int))).bind fun t343 => (if t343 = true then (some false) else ((nat_Text.f k ([] : List Int)).bind fun t344 => (some (t344.toList == ([48] : List UInt8)))))) else (some false))) else (some false)) else (some false)) else (some false))) else (some false))) else (some false)) else (some false))) else (some false)) else (some false)) else (some false)) else (some false))) else (some false)) else (some false)) else (some false)) else (some false))) else (some false)) else (some false)) else (some false))) = some true := H
  have A12 := Aside0.mk A120
  clear A120
  obtain ⟨y327, hy327⟩ : ∃ y_ : List Int, y_ = (([0] : List Int)) := ⟨_, rfl⟩
  replace H : ((nat_Add.f k y327 ([] : List Int)).bind fun bt330 => (if t280 = 0 then (if (t277.length : Int) = 4 then (if t290 = 0 then ((nat_Text.f k t284).bind fun t334 => (if t334.toList = ([49, 56, 52, 52, 54, 55, 52, 52, 48, 55, 51, 55, 48, 57, 53, 53, 49, 54, 49, 55] : List UInt8) then (if (t287.length : Int) = 0 then (if t297 = 0 then (if (t294.length : Int) = 5 then ((nat_Bits.f t294).bind fun t335 => (if t335 = 129 then (if t301 = 2 then (if t308 = 10 then (if t318 = 0 then ((nat_Text.f k t315).bind fun t336 => (if t336.toList = ([49, 50] : List UInt8) then (if t322 = 0 then ((nat_Text.f k t319).bind fun t337 => (if t337.toList = ([51, 52, 48, 50, 56, 50, 51, 54, 54, 57, 50, 48, 57, 51, 56, 52, 54, 51, 52, 50, 54, 52, 56, 49, 49, 49, 57, 50, 56, 52, 51, 52, 57, 49, 48, 56, 50, 50, 53] : List UInt8) then ((nat_Compare.f k t319 t277).bind fun t338 => (if t338 = (-1) then (if t326 = 3 then (if bt330.2 = 1 then ((nat_Right.f t277).bind fun t339 => (if t339 = true then ((nat_Right.f (([0] : List Int))).bind fun t343 => (if t343 = true then (some false) else ((nat_Text.f k ([] : List Int)).bind fun t344 => (some (t344.toList == ([48] : List UInt8)))))) else (some false))) else (some false)) else (some false)) else (some false))) else (some false))) else (some false)) else (some false))) else (some false)) else (some false)) else (some false)) else (some false))) else (some false)) else (some false)) else (some false)) else (some false))) else (some false)) else (some false)) else (some false))) = some true := by first | (rw [hy327]; with_reducible exact H) | (have H2_ := (Option.bind_some _ _).symm.trans H; rw [hy327]; with_reducible exact H2_) | (have H2_ := (Option.bind_some _ _).symm.trans H; with_reducible exact H2_) | with_reducible exact H | (rw [hy327]; exact H) | exact H
  have Ny327 := Aside0.mk hy327
  clear hy327
  replace H := Option.bind_eq_some_iff.mp H
  obtain ⟨⟨t330, t333⟩, A130, H⟩ := H
  replace H : (if t280 = 0 then (if (t277.length : Int) = 4 then (if t290 = 0 then ((nat_Text.f k t284).bind fun t334 => (if t334.toList = ([49, 56, 52, 52, 54, 55, 52, 52, 48, 55, 51, 55, 48, 57, 53, 53, 49, 54, 49, 55] : List UInt8) then (if (t287.length : Int) = 0 then (if t297 = 0 then (if (t294.length : Int) = 5 then ((nat_Bits.f t294).bind fun t335 => (if t335 = 129 then (if t301 = 2 then (if t308 = 10 then (if t318 = 0 then ((nat_Text.f k t315).bind fun t336 => (if t336.toList = ([49, 50] : List UInt8) then (if t322 = 0 then ((nat_Text.f k t319).bind fun t337 => (if t337.toList = ([51, 52, 48, 50, 56, 50, 51, 54, 54, 57, 50, 48, 57, 51, 56, 52, 54, 51, 52, 50, 54, 52, 56, 49, 49, 49, 57, 50, 56, 52, 51, 52, 57, 49, 48, 56, 50, 50, 53] : List UInt8) then ((nat_Compare.f k t319 t277).bind fun t338 => (if t338 = (-1) then (if t326 = 3 then (if t333 = 1 then ((nat_Right.f t277).bind fun t339 => (if t339 = true then ((nat_Right.f (([0] : List Int))).bind fun t343 => (if t343 = true then (some false) else ((nat_Text.f k ([] : List Int)).bind fun t344 => (some (t344.toList == ([48] : List UInt8)))))) else (some false))) else (some false)) else (some false)) else (some false))) else (some false))) else (some false)) else (some false))) else (some false)) else (some false)) else (some false)) else (some false))) else (some false)) else (some false)) else (some false)) else (some false))) else (some false)) else (some false)) else (some false)) = some true := H
  have A13 := Aside0.mk A130
  clear A130
  by_cases c14 : t280 = 0
  · rw [if_pos c14] at H
    have c14b0 : (t280 == 0) = true := beq_iff_eq.mpr c14
    have c14b1 : (t280 != 0) = false := bne_eq_false_iff_eq.mpr c14
    clear c14
    by_cases c15 : (t277.length : Int) = 4
    · rw [if_pos c15] at H
      have c15b0 : ((t277.length : Int) == 4) = true := beq_iff_eq.mpr c15
      have c15b1 : ((t277.length : Int) != 4) = false := bne_eq_false_iff_eq.mpr c15
      clear c15
      by_cases c16 : t290 = 0
      · rw [if_pos c16] at H
        have c16b0 : (t290 == 0) = true := beq_iff_eq.mpr c16
        have c16b1 : (t290 != 0) = false := bne_eq_false_iff_eq.mpr c16
        clear c16
        replace H := Option.bind_eq_some_iff.mp H
        obtain ⟨t334, A170, H⟩ := H
        replace H : (if t334.toList = ([49, 56, 52, 52, 54, 55, 52, 52, 48, 55, 51, 55, 48, 57, 53, 53, 49, 54, 49, 55] : List UInt8) then (if (t287.length : Int) = 0 then (if t297 = 0 then (if (t294.length : Int) = 5 then ((nat_Bits.f t294).bind fun t335 => (if t335 = 129 then (if t301 = 2 then (if t308 = 10 then (if t318 = 0 then ((nat_Text.f k t315).bind fun t336 => (if t336.toList = ([49, 50] : List UInt8) then (if t322 = 0 then ((nat_Text.f k t319).bind fun t337 => (if t337.toList = ([51, 52, 48, 50, 56, 50, 51, 54, 54, 57, 50, 48, 57, 51, 56, 52, 54, 51, 52, 50, 54, 52, 56, 49, 49, 49, 57, 50, 56, 52, 51, 52, 57, 49, 48, 56, 50, 50, 53] : List UInt8) then ((nat_Compare.f k t319 t277).bind fun t338 => (if t338 = (-1) then (if t326 = 3 then (if t333 = 1 then ((nat_Right.f t277).bind fun t339 => (if t339 = true then ((nat_Right.f (([0] : List Int))).bind fun t343 => (if t343 = true then (some false) else ((nat_Text.f k ([] : List Int)).bind fun t344 => (some (t344.toList == ([48] : List UInt8)))))) else (some false))) else (some false)) else (some false)) else (some false))) else (some false))) else (some false)) else (some false))) else (some false)) else (some false)) else (some false)) else (some false))) else (some false)) else (some false)) else (some false)) else (some false)) = some true := H
        have A17 := Aside0.mk A170
        clear A170
        by_cases c18 : t334.toList = ([49, 56, 52, 52, 54, 55, 52, 52, 48, 55, 51, 55, 48, 57, 53, 53, 49, 54, 49, 55] : List UInt8)
        · rw [if_pos c18] at H
          have c18b0 : (t334.toList == ([49, 56, 52, 52, 54, 55, 52, 52, 48, 55, 51, 55, 48, 57, 53, 53, 49, 54, 49, 55] : List UInt8)) = true := beq_iff_eq.mpr c18
          have c18b1 : (t334.toList != ([49, 56, 52, 52, 54, 55, 52, 52, 48, 55, 51, 55, 48, 57, 53, 53, 49, 54, 49, 55] : List UInt8)) = false := bne_eq_false_iff_eq.mpr c18
          clear c18
          by_cases c19 : (t287.length : Int) = 0
          · rw [if_pos c19] at H
            have c19b0 : ((t287.length : Int) == 0) = true := beq_iff_eq.mpr c19
            have c19b1 : ((t287.length : Int) != 0) = false := bne_eq_false_iff_eq.mpr c19
            clear c19
            by_cases c20 : t297 = 0
            · rw [if_pos c20] at H
              have c20b0 : (t297 == 0) = true := beq_iff_eq.mpr c20
              have c20b1 : (t297 != 0) = false := bne_eq_false_iff_eq.mpr c20
              clear c20
              by_cases c21 : (t294.length : Int) = 5
              · rw [if_pos c21] at H
                have c21b0 : ((t294.length : Int) == 5) = true := beq_iff_eq.mpr c21
                have c21b1 : ((t294.length : Int) != 5) = false := bne_eq_false_iff_eq.mpr c21
                clear c21
                replace H := Option.bind_eq_some_iff.mp H
                obtain ⟨t335, A220, H⟩ := H
                replace H : (if t335 = 129 then (if t301 = 2 then (if t308 = 10 then (if t318 = 0 then ((nat_Text.f k t315).bind fun t336 => (if t336.toList = ([49, 50] : List UInt8) then (if t322 = 0 then ((nat_Text.f k t319).bind fun t337 => (if t337.toList = ([51, 52, 48, 50, 56, 50, 51, 54, 54, 57, 50, 48, 57, 51, 56, 52, 54, 51, 52, 50, 54, 52, 56, 49, 49, 49, 57, 50, 56, 52, 51, 52, 57, 49, 48, 56, 50, 50, 53] : List UInt8) then ((nat_Compare.f k t319 t277).bind fun t338 => (if t338 = (-1) then (if t326 = 3 then (if t333 = 1 then ((nat_Right.f t277).bind fun t339 => (if t339 = true then ((nat_Right.f (([0] : List Int))).bind fun t343 => (if t343 = true then (some false) else ((nat_Text.f k ([] : List Int)).bind fun t344 => (some (t344.toList == ([48] : List UInt8)))))) else (some false))) else (some false)) else (some false)) else (some false))) else (some false))) else (some false)) else (some false))) else (some false)) else (some false)) else (some false)) else (some false)) = some true := H
                have A22 := Aside0.mk A220
                clear A220
                by_cases c23 : t335 = 129
                · rw [if_pos c23] at H
                  have c23b0 : (t335 == 129) = true := beq_iff_eq.mpr c23
                  have c23b1 : (t335 != 129) = false := bne_eq_false_iff_eq.mpr c23
                  clear c23
                  by_cases c24 : t301 = 2
                  · rw [if_pos c24] at H
                    have c24b0 : (t301 == 2) = true := beq_iff_eq.mpr c24
                    have c24b1 : (t301 != 2) = false := bne_eq_false_iff_eq.mpr c24
                    clear c24
                    by_cases c25 : t308 = 10
                    · rw [if_pos c25] at H
                      have c25b0 : (t308 == 10) = true := beq_iff_eq.mpr c25
                      have c25b1 : (t308 != 10) = false := bne_eq_false_iff_eq.mpr c25
                      clear c25
                      by_cases c26 : t318 = 0
                      · rw [if_pos c26] at H
                        have c26b0 : (t318 == 0) = true := beq_iff_eq.mpr c26
                        have c26b1 : (t318 != 0) = false := bne_eq_false_iff_eq.mpr c26
                        clear c26
                        replace H := Option.bind_eq_some_iff.mp H
                        obtain ⟨t336, A270, H⟩ := H
                        replace H : (if t336.toList = ([49, 50] : List UInt8) then (if t322 = 0 then ((nat_Text.f k t319).bind fun t337 => (if t337.toList = ([51, 52, 48, 50, 56, 50, 51, 54, 54, 57, 50, 48, 57, 51, 56, 52, 54, 51, 52, 50, 54, 52, 56, 49, 49, 49, 57, 50, 56, 52, 51, 52, 57, 49, 48, 56, 50, 50, 53] : List UInt8) then ((nat_Compare.f k t319 t277).bind fun t338 => (if t338 = (-1) then (if t326 = 3 then (if t333 = 1 then ((nat_Right.f t277).bind fun t339 => (if t339 = true then ((nat_Right.f (([0] : List Int))).bind fun t343 => (if t343 = true then (some false) else ((nat_Text.f k ([] : List Int)).bind fun t344 => (some (t344.toList == ([48] : List UInt8)))))) else (some false))) else (some false)) else (some false)) else (some false))) else (some false))) else (some false)) else (some false)) = some true := H
                        have A27 := Aside0.mk A270
                        clear A270
                        by_cases c28 : t336.toList = ([49, 50] : List UInt8)
                        · rw [if_pos c28] at H
                          have c28b0 : (t336.toList == ([49, 50] : List UInt8)) = true := beq_iff_eq.mpr c28
                          have c28b1 : (t336.toList != ([49, 50] : List UInt8)) = false := bne_eq_false_iff_eq.mpr c28
                          clear c28
                          by_cases c29 : t322 = 0
                          · rw [if_pos c29] at H
                            have c29b0 : (t322 == 0) = true := beq_iff_eq.mpr c29
                            have c29b1 : (t322 != 0) = false := bne_eq_false_iff_eq.mpr c29
                            clear c29
                            replace H := Option.bind_eq_some_iff.mp H
                            obtain ⟨t337, A300, H⟩ := H
                            replace H : (if t337.toList = ([51, 52, 48, 50, 56, 50, 51, 54, 54, 57, 50, 48, 57, 51, 56, 52, 54, 51, 52, 50, 54, 52, 56, 49, 49, 49, 57, 50, 56, 52, 51, 52, 57, 49, 48, 56, 50, 50, 53] : List UInt8) then ((nat_Compare.f k t319 t277).bind fun t338 => (if t338 = (-1) then (if t326 = 3 then (if t333 = 1 then ((nat_Right.f t277).bind fun t339 => (if t339 = true then ((nat_Right.f (([0] : List Int))).bind fun t343 => (if t343 = true then (some false) else ((nat_Text.f k ([] : List Int)).bind fun t344 => (some (t344.toList == ([48] : List UInt8)))))) else (some false))) else (some false)) else (some false)) else (some false))) else (some false)) = some true := H
                            have A30 := Aside0.mk A300
                            clear A300
                            by_cases c31 : t337.toList = ([51, 52, 48, 50, 56, 50, 51, 54, 54, 57, 50, 48, 57, 51, 56, 52, 54, 51, 52, 50, 54, 52, 56, 49, 49, 49, 57, 50, 56, 52, 51, 52, 57, 49, 48, 56, 50, 50, 53] : List UInt8)
                            · rw [if_pos c31] at H
                              have c31b0 : (t337.toList == ([51, 52, 48, 50, 56, 50, 51, 54, 54, 57, 50, 48, 57, 51, 56, 52, 54, 51, 52, 50, 54, 52, 56, 49, 49, 49, 57, 50, 56, 52, 51, 52, 57, 49, 48, 56, 50, 50, 53] : List UInt8)) = true := beq_iff_eq.mpr c31
                              have c31b1 : (t337.toList != ([51, 52, 48, 50, 56, 50, 51, 54, 54, 57, 50, 48, 57, 51, 56, 52, 54, 51, 52, 50, 54, 52, 56, 49, 49, 49, 57, 50, 56, 52, 51, 52, 57, 49, 48, 56, 50, 50, 53] : List UInt8)) = false := bne_eq_false_iff_eq.mpr c31
                              clear c31
                              replace H := Option.bind_eq_some_iff.mp H
                              obtain ⟨t338, A320, H⟩ := H
                              replace H : (if t338 = (-1) then (if t326 = 3 then (if t333 = 1 then ((nat_Right.f t277).bind fun t339 => (if t339 = true then ((nat_Right.f (([0] : List Int))).bind fun t343 => (if t343 = true then (some false) else ((nat_Text.f k ([] : List Int)).bind fun t344 => (some (t344.toList == ([48] : List UInt8)))))) else (some false))) else (some false)) else (some false)) else (some false)) = some true := H
                              have A32 := Aside0.mk A320
                              clear A320
                              by_cases c33 : t338 = (-1)
                              · rw [if_pos c33] at H
                                have c33b0 : (t338 == (-1)) = true := beq_iff_eq.mpr c33
                                have c33b1 : (t338 != (-1)) = false := bne_eq_false_iff_eq.mpr c33
                                clear c33
                                by_cases c34 : t326 = 3
                                · rw [if_pos c34] at H
                                  have c34b0 : (t326 == 3) = true := beq_iff_eq.mpr c34
                                  have c34b1 : (t326 != 3) = false := bne_eq_false_iff_eq.mpr c34
                                  clear c34
                                  by_cases c35 : t333 = 1
                                  · rw [if_pos c35] at H
                                    have c35b0 : (t333 == 1) = true := beq_iff_eq.mpr c35
                                    have c35b1 : (t333 != 1) = false := bne_eq_false_iff_eq.mpr c35
                                    clear c35
                                    replace H := Option.bind_eq_some_iff.mp H
                                    obtain ⟨t339, A360, H⟩ := H
                                    replace H : (if t339 = true then ((nat_Right.f (([0] : List Int))).bind fun t343 => (if t343 = true then (some false) else ((nat_Text.f k ([] : List Int)).bind fun t344 => (some (t344.toList == ([48] : List UInt8)))))) else (some false)) = some true := H
                                    have A36 := Aside0.mk A360
                                    clear A360
                                    by_cases c37 : t339 = true
                                    · subst c37
                                      have H1 : ((nat_Right.f (([0] : List Int))).bind fun t343 => (if t343 = true then (some false) else ((nat_Text.f k ([] : List Int)).bind fun t344 => (some (t344.toList == ([48] : List UInt8)))))) = some true := by rw [if_pos rfl] at H; exact H
                                      clear H
                                      have H := H1
                                      clear H1
                                      obtain ⟨y340, hy340⟩ : ∃ y_ : List Int, y_ = (([0] : List Int)) := ⟨_, rfl⟩
                                      replace H : ((nat_Right.f y340).bind fun t343 => (if t343 = true then (some false) else ((nat_Text.f k ([] : List Int)).bind fun t344 => (some (t344.toList == ([48] : List UInt8)))))) = some true := by first | (rw [hy340]; with_reducible exact H) | (have H2_ := (Option.bind_some _ _).symm.trans H; rw [hy340]; with_reducible exact H2_) | (have H2_ := (Option.bind_some _ _).symm.trans H; with_reducible exact H2_) | with_reducible exact H | (rw [hy340]; exact H) | exact H
                                      have Ny340 := Aside0.mk hy340
                                      clear hy340
                                      replace H := Option.bind_eq_some_iff.mp H
                                      obtain ⟨t343, A380, H⟩ := H
                                      replace H : (if t343 = true then (some false) else ((nat_Text.f k ([] : List Int)).bind fun t344 => (some (t344.toList == ([48] : List UInt8))))) = some true := H
                                      have A38 := Aside0.mk A380
                                      clear A380
                                      by_cases c39 : t343 = true
                                      · subst c39
                                        have H1 : (some false) = some true := by rw [if_pos rfl] at H; exact H
                                        clear H
                                        have H := H1
                                        clear H1
                                        exact absurd (Option.some.inj H) (by decide)
                                      · replace c39 := Bool.eq_false_iff.mpr c39
                                        subst c39
                                        have H1 : ((nat_Text.f k ([] : List Int)).bind fun t344 => (some (t344.toList == ([48] : List UInt8)))) = some true := by rw [if_neg (show ¬ (false = true) by decide)] at H; exact H
                                        clear H
                                        have H := H1
                                        clear H1
                                        replace H := Option.bind_eq_some_iff.mp H
                                        obtain ⟨t344, A720, H⟩ := H
                                        replace H : (some (t344.toList == ([48] : List UInt8))) = some true := H
                                        have A72 := Aside0.mk A720
                                        clear A720
                                        have e_true := Option.some.inj H
                                        go_enter Tryd.func14, Tryd.ntmps14
                                        go_wp2_with (first | ((with_reducible refine gate_callee (f := 26) rfl ?_); refine goesL_ (some 23) rfl rfl Tryd.func26 (by kernel_rfl) rfl #[.string (⟨#[51, 52, 48, 50, 56, 50, 51, 54, 54, 57, 50, 48, 57, 51, 56, 52, 54, 51, 52, 54, 51, 51, 55, 52, 54, 48, 55, 52, 51, 49, 55, 54, 56, 50, 49, 49, 52, 53, 53]⟩ : ByteArray)] rfl (by (try simp only [List.map_toArray, List.map_cons, List.map_nil]); first | done | rfl | (simp only [List.length_drop, List.length_take]; rfl)) ?_; (with_reducible refine (nat_Parse.calls k (⟨#[51, 52, 48, 50, 56, 50, 51, 54, 54, 57, 50, 48, 57, 51, 56, 52, 54, 51, 52, 54, 51, 51, 55, 52, 54, 48, 55, 52, 51, 49, 55, 54, 56, 50, 49, 49, 52, 53, 53]⟩ : ByteArray) t277 t280 _ A1.out).mono ?_); rintro e w73 ⟨v278, rfl, ho0, hb⟩; refine ⟨_, rfl, ?_⟩; have n0_ := Aside0.mk (Kd.V_lower (Kd.V_mono (ok' := fun k_ => True) ho0 (fun k_ hk_ => trivial)) (below_size (by repeat (first | (with_reducible first | exact HB.out | apply below_alloc | apply pw_below_drewN | apply below_drew1) | exact HB.out)))); have n1_ := Aside0.mk (below_step (by repeat (first | (with_reducible first | exact HB.out | apply below_alloc | apply pw_below_drewN | apply below_drew1) | exact HB.out)) hb); clear HB; have HO279 := n0_; have HB := n1_; clear n0_ n1_; (try clear hb); (try clear hb2); (try clear hk); (try clear hi); (try clear ho0)) | ((with_reducible refine gate_callee (f := 35) rfl ?_); refine goesL_ (some 26) rfl rfl Tryd.func35 (by kernel_rfl) rfl #[.int .u64 18446744073709551615] rfl (by (try simp only [List.map_toArray, List.map_cons, List.map_nil]); first | done | rfl | (simp only [List.length_drop, List.length_take]; rfl)) ?_; (with_reducible refine (nat_Of.calls k 18446744073709551615 t281 _ A2.out).mono ?_); rintro e w74 ⟨v282, rfl, ho0, hb⟩; refine ⟨_, rfl, ?_⟩; have n0_ := Aside0.mk (Kd.V_below (by (with_reducible repeat (first | apply Kd.V_alloc | apply Kd.V_drewN | apply Kd.V_drew)); exact HO279.out) hb); have n1_ := Aside0.mk (Kd.V_lower (Kd.V_mono (ok' := fun k_ => True) ho0 (fun k_ hk_ => trivial)) (below_size (by repeat (first | (with_reducible first | exact HB.out | apply below_alloc | apply pw_below_drewN | apply below_drew1) | exact HB.out)))); have n2_ := Aside0.mk (below_step (by repeat (first | (with_reducible first | exact HB.out | apply below_alloc | apply pw_below_drewN | apply below_drew1) | exact HB.out)) hb); clear HO279; clear HB; have HO279 := n0_; have HO283 := n1_; have HB := n2_; clear n0_ n1_ n2_; (try clear hb); (try clear hb2); (try clear hk); (try clear hi); (try clear ho0); obtain ⟨Ao75, co75, eo75⟩ := Kd.V_slice HO279.out; subst eo75; obtain ⟨Ao76, co76, eo76⟩ := Kd.V_slice HO283.out; subst eo76) | ((with_reducible refine gate_callee (f := 22) rfl ?_); refine goesL_ (some 30) rfl rfl Tryd.func22 (by kernel_rfl) rfl #[.slice Ao75 t277.length co75, .slice Ao76 t281.length co76] rfl (by (try simp only [List.map_toArray, List.map_cons, List.map_nil]); first | done | rfl | (simp only [List.length_drop, List.length_take]; rfl)) ?_; (with_reducible refine (nat_DivMod.calls k _ _ t277 _ _ t281 t284 t287 t290 _ ?side1 ?side2 ?side3 ?side4 A3.out).mono ?_); (case side1 => repeat (first | exact (Kd.V_reads' HO279.out).2.2 | (with_reducible refine Kd.C_alloc ?_ _) | (with_reducible refine Kd.C_drewN ?_ _) | (with_reducible refine Kd.C_drew ?_))); (case side2 => exact (Kd.V_reads' HO279.out).2.1); (case side3 => repeat (first | exact (Kd.V_reads' HO283.out).2.2 | (with_reducible refine Kd.C_alloc ?_ _) | (with_reducible refine Kd.C_drewN ?_ _) | (with_reducible refine Kd.C_drew ?_))); (case side4 => exact (Kd.V_reads' HO283.out).2.1); rintro e w77 ⟨v285, v288, rfl, ho0, ho1, hb⟩; refine ⟨_, rfl, ?_⟩; have n0_ := Aside0.mk (Kd.V_below (by (with_reducible repeat (first | apply Kd.V_alloc | apply Kd.V_drewN | apply Kd.V_drew)); exact HO279.out) hb); have n1_ := Aside0.mk (Kd.V_below (by (with_reducible repeat (first | apply Kd.V_alloc | apply Kd.V_drewN | apply Kd.V_drew)); exact HO283.out) hb); have n2_ := Aside0.mk (Kd.V_lower (Kd.V_mono (ok' := fun k_ => True) ho0 (fun k_ hk_ => trivial)) (below_size (by repeat (first | (with_reducible first | exact HB.out | apply below_alloc | apply pw_below_drewN | apply below_drew1) | exact HB.out)))); have n3_ := Aside0.mk (Kd.V_lower (Kd.V_mono (ok' := fun k_ => True) ho1 (fun k_ hk_ => trivial)) (below_size (by repeat (first | (with_reducible first | exact HB.out | apply below_alloc | apply pw_below_drewN | apply below_drew1) | exact HB.out)))); have n4_ := Aside0.mk (below_step (by repeat (first | (with_reducible first | exact HB.out | apply below_alloc | apply pw_below_drewN | apply below_drew1) | exact HB.out)) hb); clear HO279; clear HO283; clear HB; have HO279 := n0_; have HO283 := n1_; have HO286 := n2_; have HO289 := n3_; have HB := n4_; clear n0_ n1_ n2_ n3_ n4_; (try clear hb); (try clear hb2); (try clear hk); (try clear hi); (try clear ho0); (try clear ho1)) | ((with_reducible refine gate_callee (f := 35) rfl ?_); refine goesL_ (some 36) rfl rfl Tryd.func35 (by kernel_rfl) rfl #[.int .u64 1] rfl (by (try simp only [List.map_toArray, List.map_cons, List.map_nil]); first | done | rfl | (simp only [List.length_drop, List.length_take]; rfl)) ?_; (with_reducible refine (nat_Of.calls k 1 t291 _ A4.out).mono ?_); rintro e w78 ⟨v292, rfl, ho0, hb⟩; refine ⟨_, rfl, ?_⟩; have n0_ := Aside0.mk (Kd.V_below (by (with_reducible repeat (first | apply Kd.V_alloc | apply Kd.V_drewN | apply Kd.V_drew)); exact HO279.out) hb); have n1_ := Aside0.mk (Kd.V_below (by (with_reducible repeat (first | apply Kd.V_alloc | apply Kd.V_drewN | apply Kd.V_drew)); exact HO283.out) hb); have n2_ := Aside0.mk (Kd.V_below (by (with_reducible repeat (first | apply Kd.V_alloc | apply Kd.V_drewN | apply Kd.V_drew)); exact HO286.out) hb); have n3_ := Aside0.mk (Kd.V_below (by (with_reducible repeat (first | apply Kd.V_alloc | apply Kd.V_drewN | apply Kd.V_drew)); exact HO289.out) hb); have n4_ := Aside0.mk (Kd.V_lower (Kd.V_mono (ok' := fun k_ => True) ho0 (fun k_ hk_ => trivial)) (below_size (by repeat (first | (with_reducible first | exact HB.out | apply below_alloc | apply pw_below_drewN | apply below_drew1) | exact HB.out)))); have n5_ := Aside0.mk (below_step (by repeat (first | (with_reducible first | exact HB.out | apply below_alloc | apply pw_below_drewN | apply below_drew1) | exact HB.out)) hb); clear HO279; clear HO283; clear HO286; clear HO289; clear HB; have HO279 := n0_; have HO283 := n1_; have HO286 := n2_; have HO289 := n3_; have HO293 := n4_; have HB := n5_; clear n0_ n1_ n2_ n3_ n4_ n5_; (try clear hb); (try clear hb2); (try clear hk); (try clear hi); (try clear ho0); obtain ⟨Ao79, co79, eo79⟩ := Kd.V_slice HO293.out; subst eo79) | ((with_reducible refine gate_callee (f := 15) rfl ?_); refine goesL_ (some 37) rfl rfl Tryd.func15 (by kernel_rfl) rfl #[.slice Ao75 t277.length co75, .slice Ao79 t291.length co79] rfl (by (try simp only [List.map_toArray, List.map_cons, List.map_nil]); first | done | rfl | (simp only [List.length_drop, List.length_take]; rfl)) ?_; (with_reducible refine (nat_Add.calls k _ _ t277 _ _ t291 t294 t297 _ ?side1 ?side2 ?side3 ?side4 A5.out).mono ?_); (case side1 => repeat (first | exact (Kd.V_reads' HO279.out).2.2 | (with_reducible refine Kd.C_alloc ?_ _) | (with_reducible refine Kd.C_drewN ?_ _) | (with_reducible refine Kd.C_drew ?_))); (case side2 => exact (Kd.V_reads' HO279.out).2.1); (case side3 => repeat (first | exact (Kd.V_reads' HO293.out).2.2 | (with_reducible refine Kd.C_alloc ?_ _) | (with_reducible refine Kd.C_drewN ?_ _) | (with_reducible refine Kd.C_drew ?_))); (case side4 => exact (Kd.V_reads' HO293.out).2.1); rintro e w80 ⟨v295, rfl, ho0, hb⟩; refine ⟨_, rfl, ?_⟩; have n0_ := Aside0.mk (Kd.V_below (by (with_reducible repeat (first | apply Kd.V_alloc | apply Kd.V_drewN | apply Kd.V_drew)); exact HO279.out) hb); have n1_ := Aside0.mk (Kd.V_below (by (with_reducible repeat (first | apply Kd.V_alloc | apply Kd.V_drewN | apply Kd.V_drew)); exact HO283.out) hb); have n2_ := Aside0.mk (Kd.V_below (by (with_reducible repeat (first | apply Kd.V_alloc | apply Kd.V_drewN | apply Kd.V_drew)); exact HO286.out) hb); have n3_ := Aside0.mk (Kd.V_below (by (with_reducible repeat (first | apply Kd.V_alloc | apply Kd.V_drewN | apply Kd.V_drew)); exact HO289.out) hb); have n4_ := Aside0.mk (Kd.V_below (by (with_reducible repeat (first | apply Kd.V_alloc | apply Kd.V_drewN | apply Kd.V_drew)); exact HO293.out) hb); have n5_ := Aside0.mk (Kd.V_lower (Kd.V_mono (ok' := fun k_ => True) ho0 (fun k_ hk_ => trivial)) (below_size (by repeat (first | (with_reducible first | exact HB.out | apply below_alloc | apply pw_below_drewN | apply below_drew1) | exact HB.out)))); have n6_ := Aside0.mk (below_step (by repeat (first | (with_reducible first | exact HB.out | apply below_alloc | apply pw_below_drewN | apply below_drew1) | exact HB.out)) hb); clear HO279; clear HO283; clear HO286; clear HO289; clear HO293; clear HB; have HO279 := n0_; have HO283 := n1_; have HO286 := n2_; have HO289 := n3_; have HO293 := n4_; have HO296 := n5_; have HB := n6_; clear n0_ n1_ n2_ n3_ n4_ n5_ n6_; (try clear hb); (try clear hb2); (try clear hk); (try clear hi); (try clear ho0)) | ((with_reducible refine gate_callee (f := 17) rfl ?_); refine goesL_ (some 43) rfl rfl Tryd.func17 (by kernel_rfl) rfl #[.slice Ao76 t281.length co76, .slice Ao75 t277.length co75] rfl (by (try simp only [List.map_toArray, List.map_cons, List.map_nil]); first | done | rfl | (simp only [List.length_drop, List.length_take]; rfl)) ?_; (with_reducible refine (nat_Sub.calls k _ _ t281 _ _ t277 t298 t301 _ ?side1 ?side2 ?side3 ?side4 A6.out).mono ?_); (case side1 => repeat (first | exact (Kd.V_reads' HO283.out).2.2 | (with_reducible refine Kd.C_alloc ?_ _) | (with_reducible refine Kd.C_drewN ?_ _) | (with_reducible refine Kd.C_drew ?_))); (case side2 => exact (Kd.V_reads' HO283.out).2.1); (case side3 => repeat (first | exact (Kd.V_reads' HO279.out).2.2 | (with_reducible refine Kd.C_alloc ?_ _) | (with_reducible refine Kd.C_drewN ?_ _) | (with_reducible refine Kd.C_drew ?_))); (case side4 => exact (Kd.V_reads' HO279.out).2.1); rintro e w81 ⟨v299, rfl, ho0, hb⟩; refine ⟨_, rfl, ?_⟩; have n0_ := Aside0.mk (Kd.V_below (by (with_reducible repeat (first | apply Kd.V_alloc | apply Kd.V_drewN | apply Kd.V_drew)); exact HO279.out) hb); have n1_ := Aside0.mk (Kd.V_below (by (with_reducible repeat (first | apply Kd.V_alloc | apply Kd.V_drewN | apply Kd.V_drew)); exact HO283.out) hb); have n2_ := Aside0.mk (Kd.V_below (by (with_reducible repeat (first | apply Kd.V_alloc | apply Kd.V_drewN | apply Kd.V_drew)); exact HO286.out) hb); have n3_ := Aside0.mk (Kd.V_below (by (with_reducible repeat (first | apply Kd.V_alloc | apply Kd.V_drewN | apply Kd.V_drew)); exact HO289.out) hb); have n4_ := Aside0.mk (Kd.V_below (by (with_reducible repeat (first | apply Kd.V_alloc | apply Kd.V_drewN | apply Kd.V_drew)); exact HO293.out) hb); have n5_ := Aside0.mk (Kd.V_below (by (with_reducible repeat (first | apply Kd.V_alloc | apply Kd.V_drewN | apply Kd.V_drew)); exact HO296.out) hb); have n6_ := Aside0.mk (Kd.V_lower (Kd.V_mono (ok' := fun k_ => True) ho0 (fun k_ hk_ => trivial)) (below_size (by repeat (first | (with_reducible first | exact HB.out | apply below_alloc | apply pw_below_drewN | apply below_drew1) | exact HB.out)))); have n7_ := Aside0.mk (below_step (by repeat (first | (with_reducible first | exact HB.out | apply below_alloc | apply pw_below_drewN | apply below_drew1) | exact HB.out)) hb); clear HO279; clear HO283; clear HO286; clear HO289; clear HO293; clear HO296; clear HB; have HO279 := n0_; have HO283 := n1_; have HO286 := n2_; have HO289 := n3_; have HO293 := n4_; have HO296 := n5_; have HO300 := n6_; have HB := n7_; clear n0_ n1_ n2_ n3_ n4_ n5_ n6_ n7_; (try clear hb); (try clear hb2); (try clear hk); (try clear hi); (try clear ho0)) | ((with_reducible refine gate_callee (f := 22) rfl ?_); refine goesL_ (some 48) rfl rfl Tryd.func22 (by kernel_rfl) rfl #[.slice Ao75 t277.length co75, .slice none 0 0] rfl (by (try simp only [List.map_toArray, List.map_cons, List.map_nil]); first | done | rfl | (simp only [List.length_drop, List.length_take]; rfl)) ?_; (refine (nat_DivMod.calls k _ _ t277 _ _ ([] : List Int) t302 t305 t308 _ ?side1 ?side2 ?side3 ?side4 A7.out).mono ?_); (case side1 => repeat (first | exact (Kd.V_reads' HO279.out).2.2 | (with_reducible refine Kd.C_alloc ?_ _) | (with_reducible refine Kd.C_drewN ?_ _) | (with_reducible refine Kd.C_drew ?_))); (case side2 => exact (Kd.V_reads' HO279.out).2.1); (case side3 => exact Kd.C_nil _ _); (case side4 => exact Nat.le_refl _); rintro e w82 ⟨v303, v306, rfl, ho0, ho1, hb⟩; refine ⟨_, rfl, ?_⟩; have n0_ := Aside0.mk (Kd.V_below (by (with_reducible repeat (first | apply Kd.V_alloc | apply Kd.V_drewN | apply Kd.V_drew)); exact HO279.out) hb); have n1_ := Aside0.mk (Kd.V_below (by (with_reducible repeat (first | apply Kd.V_alloc | apply Kd.V_drewN | apply Kd.V_drew)); exact HO283.out) hb); have n2_ := Aside0.mk (Kd.V_below (by (with_reducible repeat (first | apply Kd.V_alloc | apply Kd.V_drewN | apply Kd.V_drew)); exact HO286.out) hb); have n3_ := Aside0.mk (Kd.V_below (by (with_reducible repeat (first | apply Kd.V_alloc | apply Kd.V_drewN | apply Kd.V_drew)); exact HO289.out) hb); have n4_ := Aside0.mk (Kd.V_below (by (with_reducible repeat (first | apply Kd.V_alloc | apply Kd.V_drewN | apply Kd.V_drew)); exact HO293.out) hb); have n5_ := Aside0.mk (Kd.V_below (by (with_reducible repeat (first | apply Kd.V_alloc | apply Kd.V_drewN | apply Kd.V_drew)); exact HO296.out) hb); have n6_ := Aside0.mk (Kd.V_below (by (with_reducible repeat (first | apply Kd.V_alloc | apply Kd.V_drewN | apply Kd.V_drew)); exact HO300.out) hb); have n7_ := Aside0.mk (Kd.V_lower (Kd.V_mono (ok' := fun k_ => True) ho0 (fun k_ hk_ => trivial)) (below_size (by repeat (first | (with_reducible first | exact HB.out | apply below_alloc | apply pw_below_drewN | apply below_drew1) | exact HB.out)))); have n8_ := Aside0.mk (Kd.V_lower (Kd.V_mono (ok' := fun k_ => True) ho1 (fun k_ hk_ => trivial)) (below_size (by repeat (first | (with_reducible first | exact HB.out | apply below_alloc | apply pw_below_drewN | apply below_drew1) | exact HB.out)))); have n9_ := Aside0.mk (below_step (by repeat (first | (with_reducible first | exact HB.out | apply below_alloc | apply pw_below_drewN | apply below_drew1) | exact HB.out)) hb); clear HO279; clear HO283; clear HO286; clear HO289; clear HO293; clear HO296; clear HO300; clear HB; have HO279 := n0_; have HO283 := n1_; have HO286 := n2_; have HO289 := n3_; have HO293 := n4_; have HO296 := n5_; have HO300 := n6_; have HO304 := n7_; have HO307 := n8_; have HB := n9_; clear n0_ n1_ n2_ n3_ n4_ n5_ n6_ n7_ n8_ n9_; (try clear hb); (try clear hb2); (try clear hk); (try clear hi); (try clear ho0); (try clear ho1)) | ((with_reducible refine gate_callee (f := 35) rfl ?_); refine goesL_ (some 53) rfl rfl Tryd.func35 (by kernel_rfl) rfl #[.int .u64 84] rfl (by (try simp only [List.map_toArray, List.map_cons, List.map_nil]); first | done | rfl | (simp only [List.length_drop, List.length_take]; rfl)) ?_; (with_reducible refine (nat_Of.calls k 84 t309 _ A8.out).mono ?_); rintro e w83 ⟨v310, rfl, ho0, hb⟩; refine ⟨_, rfl, ?_⟩; have n0_ := Aside0.mk (Kd.V_below (by (with_reducible repeat (first | apply Kd.V_alloc | apply Kd.V_drewN | apply Kd.V_drew)); exact HO279.out) hb); have n1_ := Aside0.mk (Kd.V_below (by (with_reducible repeat (first | apply Kd.V_alloc | apply Kd.V_drewN | apply Kd.V_drew)); exact HO283.out) hb); have n2_ := Aside0.mk (Kd.V_below (by (with_reducible repeat (first | apply Kd.V_alloc | apply Kd.V_drewN | apply Kd.V_drew)); exact HO286.out) hb); have n3_ := Aside0.mk (Kd.V_below (by (with_reducible repeat (first | apply Kd.V_alloc | apply Kd.V_drewN | apply Kd.V_drew)); exact HO289.out) hb); have n4_ := Aside0.mk (Kd.V_below (by (with_reducible repeat (first | apply Kd.V_alloc | apply Kd.V_drewN | apply Kd.V_drew)); exact HO293.out) hb); have n5_ := Aside0.mk (Kd.V_below (by (with_reducible repeat (first | apply Kd.V_alloc | apply Kd.V_drewN | apply Kd.V_drew)); exact HO296.out) hb); have n6_ := Aside0.mk (Kd.V_below (by (with_reducible repeat (first | apply Kd.V_alloc | apply Kd.V_drewN | apply Kd.V_drew)); exact HO300.out) hb); have n7_ := Aside0.mk (Kd.V_below (by (with_reducible repeat (first | apply Kd.V_alloc | apply Kd.V_drewN | apply Kd.V_drew)); exact HO304.out) hb); have n8_ := Aside0.mk (Kd.V_below (by (with_reducible repeat (first | apply Kd.V_alloc | apply Kd.V_drewN | apply Kd.V_drew)); exact HO307.out) hb); have n9_ := Aside0.mk (Kd.V_lower (Kd.V_mono (ok' := fun k_ => True) ho0 (fun k_ hk_ => trivial)) (below_size (by repeat (first | (with_reducible first | exact HB.out | apply below_alloc | apply pw_below_drewN | apply below_drew1) | exact HB.out)))); have n10_ := Aside0.mk (below_step (by repeat (first | (with_reducible first | exact HB.out | apply below_alloc | apply pw_below_drewN | apply below_drew1) | exact HB.out)) hb); clear HO279; clear HO283; clear HO286; clear HO289; clear HO293; clear HO296; clear HO300; clear HO304; clear HO307; clear HB; have HO279 := n0_; have HO283 := n1_; have HO286 := n2_; have HO289 := n3_; have HO293 := n4_; have HO296 := n5_; have HO300 := n6_; have HO304 := n7_; have HO307 := n8_; have HO311 := n9_; have HB := n10_; clear n0_ n1_ n2_ n3_ n4_ n5_ n6_ n7_ n8_ n9_ n10_; (try clear hb); (try clear hb2); (try clear hk); (try clear hi); (try clear ho0)) | ((with_reducible refine gate_callee (f := 35) rfl ?_); refine goesL_ (some 54) rfl rfl Tryd.func35 (by kernel_rfl) rfl #[.int .u64 36] rfl (by (try simp only [List.map_toArray, List.map_cons, List.map_nil]); first | done | rfl | (simp only [List.length_drop, List.length_take]; rfl)) ?_; (with_reducible refine (nat_Of.calls k 36 t312 _ A9.out).mono ?_); rintro e w84 ⟨v313, rfl, ho0, hb⟩; refine ⟨_, rfl, ?_⟩; have n0_ := Aside0.mk (Kd.V_below (by (with_reducible repeat (first | apply Kd.V_alloc | apply Kd.V_drewN | apply Kd.V_drew)); exact HO279.out) hb); have n1_ := Aside0.mk (Kd.V_below (by (with_reducible repeat (first | apply Kd.V_alloc | apply Kd.V_drewN | apply Kd.V_drew)); exact HO283.out) hb); have n2_ := Aside0.mk (Kd.V_below (by (with_reducible repeat (first | apply Kd.V_alloc | apply Kd.V_drewN | apply Kd.V_drew)); exact HO286.out) hb); have n3_ := Aside0.mk (Kd.V_below (by (with_reducible repeat (first | apply Kd.V_alloc | apply Kd.V_drewN | apply Kd.V_drew)); exact HO289.out) hb); have n4_ := Aside0.mk (Kd.V_below (by (with_reducible repeat (first | apply Kd.V_alloc | apply Kd.V_drewN | apply Kd.V_drew)); exact HO293.out) hb); have n5_ := Aside0.mk (Kd.V_below (by (with_reducible repeat (first | apply Kd.V_alloc | apply Kd.V_drewN | apply Kd.V_drew)); exact HO296.out) hb); have n6_ := Aside0.mk (Kd.V_below (by (with_reducible repeat (first | apply Kd.V_alloc | apply Kd.V_drewN | apply Kd.V_drew)); exact HO300.out) hb); have n7_ := Aside0.mk (Kd.V_below (by (with_reducible repeat (first | apply Kd.V_alloc | apply Kd.V_drewN | apply Kd.V_drew)); exact HO304.out) hb); have n8_ := Aside0.mk (Kd.V_below (by (with_reducible repeat (first | apply Kd.V_alloc | apply Kd.V_drewN | apply Kd.V_drew)); exact HO307.out) hb); have n9_ := Aside0.mk (Kd.V_below (by (with_reducible repeat (first | apply Kd.V_alloc | apply Kd.V_drewN | apply Kd.V_drew)); exact HO311.out) hb); have n10_ := Aside0.mk (Kd.V_lower (Kd.V_mono (ok' := fun k_ => True) ho0 (fun k_ hk_ => trivial)) (below_size (by repeat (first | (with_reducible first | exact HB.out | apply below_alloc | apply pw_below_drewN | apply below_drew1) | exact HB.out)))); have n11_ := Aside0.mk (below_step (by repeat (first | (with_reducible first | exact HB.out | apply below_alloc | apply pw_below_drewN | apply below_drew1) | exact HB.out)) hb); clear HO279; clear HO283; clear HO286; clear HO289; clear HO293; clear HO296; clear HO300; clear HO304; clear HO307; clear HO311; clear HB; have HO279 := n0_; have HO283 := n1_; have HO286 := n2_; have HO289 := n3_; have HO293 := n4_; have HO296 := n5_; have HO300 := n6_; have HO304 := n7_; have HO307 := n8_; have HO311 := n9_; have HO314 := n10_; have HB := n11_; clear n0_ n1_ n2_ n3_ n4_ n5_ n6_ n7_ n8_ n9_ n10_ n11_; (try clear hb); (try clear hb2); (try clear hk); (try clear hi); (try clear ho0); obtain ⟨Ao85, co85, eo85⟩ := Kd.V_slice HO311.out; subst eo85; obtain ⟨Ao86, co86, eo86⟩ := Kd.V_slice HO314.out; subst eo86) | ((with_reducible refine gate_callee (f := 24) rfl ?_); refine goesL_ (some 55) rfl rfl Tryd.func24 (by kernel_rfl) rfl #[.slice Ao85 t309.length co85, .slice Ao86 t312.length co86] rfl (by (try simp only [List.map_toArray, List.map_cons, List.map_nil]); first | done | rfl | (simp only [List.length_drop, List.length_take]; rfl)) ?_; (with_reducible refine (nat_Gcd.calls k (fun k_ => True) _ _ t309 (fun k_ => True) _ _ t312 t315 t318 _ ?side1 ?side2 A10.out).mono ?_); (case side1 => exact HO311.out); (case side2 => exact HO314.out); rintro e w87 ⟨v316, rfl, ho0, hb⟩; refine ⟨_, rfl, ?_⟩; have n0_ := Aside0.mk (Kd.V_elder' (by (with_reducible repeat (first | apply Kd.V_alloc | apply Kd.V_drewN | apply Kd.V_drew)); exact HO279.out) (Kd.R_base ho0) hb); have n1_ := Aside0.mk (Kd.V_elder' (by (with_reducible repeat (first | apply Kd.V_alloc | apply Kd.V_drewN | apply Kd.V_drew)); exact HO283.out) (Kd.R_base ho0) hb); have n2_ := Aside0.mk (Kd.V_elder' (by (with_reducible repeat (first | apply Kd.V_alloc | apply Kd.V_drewN | apply Kd.V_drew)); exact HO286.out) (Kd.R_base ho0) hb); have n3_ := Aside0.mk (Kd.V_elder' (by (with_reducible repeat (first | apply Kd.V_alloc | apply Kd.V_drewN | apply Kd.V_drew)); exact HO289.out) (Kd.R_base ho0) hb); have n4_ := Aside0.mk (Kd.V_elder' (by (with_reducible repeat (first | apply Kd.V_alloc | apply Kd.V_drewN | apply Kd.V_drew)); exact HO293.out) (Kd.R_base ho0) hb); have n5_ := Aside0.mk (Kd.V_elder' (by (with_reducible repeat (first | apply Kd.V_alloc | apply Kd.V_drewN | apply Kd.V_drew)); exact HO296.out) (Kd.R_base ho0) hb); have n6_ := Aside0.mk (Kd.V_elder' (by (with_reducible repeat (first | apply Kd.V_alloc | apply Kd.V_drewN | apply Kd.V_drew)); exact HO300.out) (Kd.R_base ho0) hb); have n7_ := Aside0.mk (Kd.V_elder' (by (with_reducible repeat (first | apply Kd.V_alloc | apply Kd.V_drewN | apply Kd.V_drew)); exact HO304.out) (Kd.R_base ho0) hb); have n8_ := Aside0.mk (Kd.V_elder' (by (with_reducible repeat (first | apply Kd.V_alloc | apply Kd.V_drewN | apply Kd.V_drew)); exact HO307.out) (Kd.R_base ho0) hb); have n9_ := Aside0.mk (Kd.V_elder' (by (with_reducible repeat (first | apply Kd.V_alloc | apply Kd.V_drewN | apply Kd.V_drew)); exact HO311.out) (Kd.R_base ho0) hb); have n10_ := Aside0.mk (Kd.V_elder' (by (with_reducible repeat (first | apply Kd.V_alloc | apply Kd.V_drewN | apply Kd.V_drew)); exact HO314.out) (Kd.R_base ho0) hb); have n11_ := Aside0.mk (Kd.R_lower (Kd.R_mono (ok' := fun k_ => True) ho0 (fun _ hk_ => trivial)) (below_size (by repeat (first | (with_reducible first | exact HB.out | apply below_alloc | apply pw_below_drewN | apply below_drew1) | exact HB.out)))); have n12_ := Aside0.mk (below_step (by repeat (first | (with_reducible first | exact HB.out | apply below_alloc | apply pw_below_drewN | apply below_drew1) | exact HB.out)) hb); clear HO279; clear HO283; clear HO286; clear HO289; clear HO293; clear HO296; clear HO300; clear HO304; clear HO307; clear HO311; clear HO314; clear HB; have HO279 := n0_; have HO283 := n1_; have HO286 := n2_; have HO289 := n3_; have HO293 := n4_; have HO296 := n5_; have HO300 := n6_; have HO304 := n7_; have HO307 := n8_; have HO311 := n9_; have HO314 := n10_; have HO317 := n11_; have HB := n12_; clear n0_ n1_ n2_ n3_ n4_ n5_ n6_ n7_ n8_ n9_ n10_ n11_ n12_; (try clear hb); (try clear hb2); (try clear hk); (try clear hi); (try clear ho0)) | ((with_reducible refine gate_callee (f := 20) rfl ?_); refine goesL_ (some 61) rfl rfl Tryd.func20 (by kernel_rfl) rfl #[.slice Ao76 t281.length co76, .slice Ao76 t281.length co76] rfl (by (try simp only [List.map_toArray, List.map_cons, List.map_nil]); first | done | rfl | (simp only [List.length_drop, List.length_take]; rfl)) ?_; (with_reducible refine (nat_Mul.calls k _ _ t281 _ _ t281 t319 t322 _ ?side1 ?side2 ?side3 ?side4 A11.out).mono ?_); (case side1 => repeat (first | exact (Kd.V_reads' HO283.out).2.2 | (with_reducible refine Kd.C_alloc ?_ _) | (with_reducible refine Kd.C_drewN ?_ _) | (with_reducible refine Kd.C_drew ?_))); (case side2 => exact (Kd.V_reads' HO283.out).2.1); (case side3 => repeat (first | exact (Kd.V_reads' HO283.out).2.2 | (with_reducible refine Kd.C_alloc ?_ _) | (with_reducible refine Kd.C_drewN ?_ _) | (with_reducible refine Kd.C_drew ?_))); (case side4 => exact (Kd.V_reads' HO283.out).2.1); rintro e w88 ⟨v320, rfl, ho0, hb⟩; refine ⟨_, rfl, ?_⟩; have n0_ := Aside0.mk (Kd.V_below (by (with_reducible repeat (first | apply Kd.V_alloc | apply Kd.V_drewN | apply Kd.V_drew)); exact HO279.out) hb); have n1_ := Aside0.mk (Kd.V_below (by (with_reducible repeat (first | apply Kd.V_alloc | apply Kd.V_drewN | apply Kd.V_drew)); exact HO283.out) hb); have n2_ := Aside0.mk (Kd.V_below (by (with_reducible repeat (first | apply Kd.V_alloc | apply Kd.V_drewN | apply Kd.V_drew)); exact HO286.out) hb); have n3_ := Aside0.mk (Kd.V_below (by (with_reducible repeat (first | apply Kd.V_alloc | apply Kd.V_drewN | apply Kd.V_drew)); exact HO289.out) hb); have n4_ := Aside0.mk (Kd.V_below (by (with_reducible repeat (first | apply Kd.V_alloc | apply Kd.V_drewN | apply Kd.V_drew)); exact HO293.out) hb); have n5_ := Aside0.mk (Kd.V_below (by (with_reducible repeat (first | apply Kd.V_alloc | apply Kd.V_drewN | apply Kd.V_drew)); exact HO296.out) hb); have n6_ := Aside0.mk (Kd.V_below (by (with_reducible repeat (first | apply Kd.V_alloc | apply Kd.V_drewN | apply Kd.V_drew)); exact HO300.out) hb); have n7_ := Aside0.mk (Kd.V_below (by (with_reducible repeat (first | apply Kd.V_alloc | apply Kd.V_drewN | apply Kd.V_drew)); exact HO304.out) hb); have n8_ := Aside0.mk (Kd.V_below (by (with_reducible repeat (first | apply Kd.V_alloc | apply Kd.V_drewN | apply Kd.V_drew)); exact HO307.out) hb); have n9_ := Aside0.mk (Kd.V_below (by (with_reducible repeat (first | apply Kd.V_alloc | apply Kd.V_drewN | apply Kd.V_drew)); exact HO311.out) hb); have n10_ := Aside0.mk (Kd.V_below (by (with_reducible repeat (first | apply Kd.V_alloc | apply Kd.V_drewN | apply Kd.V_drew)); exact HO314.out) hb); have n11_ := Aside0.mk (Kd.R_below (by (with_reducible repeat (first | apply Kd.R_alloc | apply Kd.R_drewN | apply Kd.R_drew)); exact HO317.out) hb); have n12_ := Aside0.mk (Kd.V_lower (Kd.V_mono (ok' := fun k_ => some k_ ≠ (v316 : Value).ownBlock) ho0 (fun k_ hk_ => (Kd.fresh' (Kd.R_lt (by (with_reducible repeat (first | apply Kd.R_alloc | apply Kd.R_drewN | apply Kd.R_drew)); exact HO317.out)) k_ hk_))) (below_size (by repeat (first | (with_reducible first | exact HB.out | apply below_alloc | apply pw_below_drewN | apply below_drew1) | exact HB.out)))); have n13_ := Aside0.mk (below_step (by repeat (first | (with_reducible first | exact HB.out | apply below_alloc | apply pw_below_drewN | apply below_drew1) | exact HB.out)) hb); clear HO279; clear HO283; clear HO286; clear HO289; clear HO293; clear HO296; clear HO300; clear HO304; clear HO307; clear HO311; clear HO314; clear HO317; clear HB; have HO279 := n0_; have HO283 := n1_; have HO286 := n2_; have HO289 := n3_; have HO293 := n4_; have HO296 := n5_; have HO300 := n6_; have HO304 := n7_; have HO307 := n8_; have HO311 := n9_; have HO314 := n10_; have HO317 := n11_; have HO321 := n12_; have HB := n13_; clear n0_ n1_ n2_ n3_ n4_ n5_ n6_ n7_ n8_ n9_ n10_ n11_ n12_ n13_; (try clear hb); (try clear hb2); (try clear hk); (try clear hi); (try clear ho0)) | ((with_reducible refine gate_callee (f := 26) rfl ?_); refine goesL_ (some 65) rfl rfl Tryd.func26 (by kernel_rfl) rfl #[.string (⟨#[48, 49]⟩ : ByteArray)] rfl (by (try simp only [List.map_toArray, List.map_cons, List.map_nil]); first | done | rfl | (simp only [List.length_drop, List.length_take]; rfl)) ?_; (with_reducible refine (nat_Parse.calls k (⟨#[48, 49]⟩ : ByteArray) t323 t326 _ A12.out).mono ?_); rintro e w89 ⟨v324, rfl, ho0, hb⟩; refine ⟨_, rfl, ?_⟩; have n0_ := Aside0.mk (Kd.V_below (by (with_reducible repeat (first | apply Kd.V_alloc | apply Kd.V_drewN | apply Kd.V_drew)); exact HO279.out) hb); have n1_ := Aside0.mk (Kd.V_below (by (with_reducible repeat (first | apply Kd.V_alloc | apply Kd.V_drewN | apply Kd.V_drew)); exact HO283.out) hb); have n2_ := Aside0.mk (Kd.V_below (by (with_reducible repeat (first | apply Kd.V_alloc | apply Kd.V_drewN | apply Kd.V_drew)); exact HO286.out) hb); have n3_ := Aside0.mk (Kd.V_below (by (with_reducible repeat (first | apply Kd.V_alloc | apply Kd.V_drewN | apply Kd.V_drew)); exact HO289.out) hb); have n4_ := Aside0.mk (Kd.V_below (by (with_reducible repeat (first | apply Kd.V_alloc | apply Kd.V_drewN | apply Kd.V_drew)); exact HO293.out) hb); have n5_ := Aside0.mk (Kd.V_below (by (with_reducible repeat (first | apply Kd.V_alloc | apply Kd.V_drewN | apply Kd.V_drew)); exact HO296.out) hb); have n6_ := Aside0.mk (Kd.V_below (by (with_reducible repeat (first | apply Kd.V_alloc | apply Kd.V_drewN | apply Kd.V_drew)); exact HO300.out) hb); have n7_ := Aside0.mk (Kd.V_below (by (with_reducible repeat (first | apply Kd.V_alloc | apply Kd.V_drewN | apply Kd.V_drew)); exact HO304.out) hb); have n8_ := Aside0.mk (Kd.V_below (by (with_reducible repeat (first | apply Kd.V_alloc | apply Kd.V_drewN | apply Kd.V_drew)); exact HO307.out) hb); have n9_ := Aside0.mk (Kd.V_below (by (with_reducible repeat (first | apply Kd.V_alloc | apply Kd.V_drewN | apply Kd.V_drew)); exact HO311.out) hb); have n10_ := Aside0.mk (Kd.V_below (by (with_reducible repeat (first | apply Kd.V_alloc | apply Kd.V_drewN | apply Kd.V_drew)); exact HO314.out) hb); have n11_ := Aside0.mk (Kd.R_below (by (with_reducible repeat (first | apply Kd.R_alloc | apply Kd.R_drewN | apply Kd.R_drew)); exact HO317.out) hb); have n12_ := Aside0.mk (Kd.V_below (by (with_reducible repeat (first | apply Kd.V_alloc | apply Kd.V_drewN | apply Kd.V_drew)); exact HO321.out) hb); have n13_ := Aside0.mk (Kd.V_lower (Kd.V_mono (ok' := fun k_ => some k_ ≠ (v316 : Value).ownBlock) ho0 (fun k_ hk_ => (Kd.fresh' (Kd.R_lt (by (with_reducible repeat (first | apply Kd.R_alloc | apply Kd.R_drewN | apply Kd.R_drew)); exact HO317.out)) k_ hk_))) (below_size (by repeat (first | (with_reducible first | exact HB.out | apply below_alloc | apply pw_below_drewN | apply below_drew1) | exact HB.out)))); have n14_ := Aside0.mk (below_step (by repeat (first | (with_reducible first | exact HB.out | apply below_alloc | apply pw_below_drewN | apply below_drew1) | exact HB.out)) hb); clear HO279; clear HO283; clear HO286; clear HO289; clear HO293; clear HO296; clear HO300; clear HO304; clear HO307; clear HO311; clear HO314; clear HO317; clear HO321; clear HB; have HO279 := n0_; have HO283 := n1_; have HO286 := n2_; have HO289 := n3_; have HO293 := n4_; have HO296 := n5_; have HO300 := n6_; have HO304 := n7_; have HO307 := n8_; have HO311 := n9_; have HO314 := n10_; have HO317 := n11_; have HO321 := n12_; have HO325 := n13_; have HB := n14_; clear n0_ n1_ n2_ n3_ n4_ n5_ n6_ n7_ n8_ n9_ n10_ n11_ n12_ n13_ n14_; (try clear hb); (try clear hb2); (try clear hk); (try clear hi); (try clear ho0)) | ((with_reducible refine gate_dst (N := 69) rfl ?_); (try (refine gate_guard (by rfl) ?_; dsimp only)); refine Kd.R_lit (Kd.int .u32) _ 56 ?hg (N := 69) ?hd (xs := ([0] : List Int)) (inner := [.int .u32 0]) (ok := fun _ => True) (okp := fun _ => True) ?hr ?hp (fun _ hk => hk) trivial (Below.refl _ _) (Nat.le_refl _) (by simp) ?_; (case hd => rfl); (case hg => rfl); (case hr => first | (go_simp; done) | (go_simp; rfl) | (go_simp; (try simp only [u8_w, w64_256]); done) | (go_simp; simp only [u8_w, w64_256]; rfl)); (case hp => exact (Reps.one (show Kd.M (Kd.int .u32) _ _ _ 0 [.int .u32 0] from rfl) (Reps.none _ _))); intro v328 w90 ho91 hb hg_ hnew_; clear hg_ hnew_; (first | rw [← Ny327.out] at ho91 | (simp only [Int.reduceToNat] at ho91; rw [← Ny327.out] at ho91)); have n0_ := Aside0.mk (Kd.V_elder' (by (with_reducible repeat (first | apply Kd.V_alloc | apply Kd.V_drewN | apply Kd.V_drew)); exact HO279.out) (Kd.R_base ho91) hb); have n1_ := Aside0.mk (Kd.V_elder' (by (with_reducible repeat (first | apply Kd.V_alloc | apply Kd.V_drewN | apply Kd.V_drew)); exact HO283.out) (Kd.R_base ho91) hb); have n2_ := Aside0.mk (Kd.V_elder' (by (with_reducible repeat (first | apply Kd.V_alloc | apply Kd.V_drewN | apply Kd.V_drew)); exact HO286.out) (Kd.R_base ho91) hb); have n3_ := Aside0.mk (Kd.V_elder' (by (with_reducible repeat (first | apply Kd.V_alloc | apply Kd.V_drewN | apply Kd.V_drew)); exact HO289.out) (Kd.R_base ho91) hb); have n4_ := Aside0.mk (Kd.V_elder' (by (with_reducible repeat (first | apply Kd.V_alloc | apply Kd.V_drewN | apply Kd.V_drew)); exact HO293.out) (Kd.R_base ho91) hb); have n5_ := Aside0.mk (Kd.V_elder' (by (with_reducible repeat (first | apply Kd.V_alloc | apply Kd.V_drewN | apply Kd.V_drew)); exact HO296.out) (Kd.R_base ho91) hb); have n6_ := Aside0.mk (Kd.V_elder' (by (with_reducible repeat (first | apply Kd.V_alloc | apply Kd.V_drewN | apply Kd.V_drew)); exact HO300.out) (Kd.R_base ho91) hb); have n7_ := Aside0.mk (Kd.V_elder' (by (with_reducible repeat (first | apply Kd.V_alloc | apply Kd.V_drewN | apply Kd.V_drew)); exact HO304.out) (Kd.R_base ho91) hb); have n8_ := Aside0.mk (Kd.V_elder' (by (with_reducible repeat (first | apply Kd.V_alloc | apply Kd.V_drewN | apply Kd.V_drew)); exact HO307.out) (Kd.R_base ho91) hb); have n9_ := Aside0.mk (Kd.V_elder' (by (with_reducible repeat (first | apply Kd.V_alloc | apply Kd.V_drewN | apply Kd.V_drew)); exact HO311.out) (Kd.R_base ho91) hb); have n10_ := Aside0.mk (Kd.V_elder' (by (with_reducible repeat (first | apply Kd.V_alloc | apply Kd.V_drewN | apply Kd.V_drew)); exact HO314.out) (Kd.R_base ho91) hb); have n11_ := Aside0.mk (Kd.R_elder' (by (with_reducible repeat (first | apply Kd.R_alloc | apply Kd.R_drewN | apply Kd.R_drew)); exact HO317.out) (Kd.R_base ho91) hb); have n12_ := Aside0.mk (Kd.V_elder' (by (with_reducible repeat (first | apply Kd.V_alloc | apply Kd.V_drewN | apply Kd.V_drew)); exact HO321.out) (Kd.R_base ho91) hb); have n13_ := Aside0.mk (Kd.V_elder' (by (with_reducible repeat (first | apply Kd.V_alloc | apply Kd.V_drewN | apply Kd.V_drew)); exact HO325.out) (Kd.R_base ho91) hb); have n14_ := Aside0.mk (Kd.R_lower (Kd.R_new' ho91 (Kd.R_lt (by (with_reducible repeat (first | apply Kd.R_alloc | apply Kd.R_drewN | apply Kd.R_drew)); exact HO317.out))) (below_size (by repeat (first | (with_reducible first | exact HB.out | apply below_alloc | apply pw_below_drewN | apply below_drew1) | exact HB.out)))); have n15_ := Aside0.mk (below_step (by repeat (first | (with_reducible first | exact HB.out | apply below_alloc | apply pw_below_drewN | apply below_drew1) | exact HB.out)) hb); clear HO279; clear HO283; clear HO286; clear HO289; clear HO293; clear HO296; clear HO300; clear HO304; clear HO307; clear HO311; clear HO314; clear HO317; clear HO321; clear HO325; clear HB; have HO279 := n0_; have HO283 := n1_; have HO286 := n2_; have HO289 := n3_; have HO293 := n4_; have HO296 := n5_; have HO300 := n6_; have HO304 := n7_; have HO307 := n8_; have HO311 := n9_; have HO314 := n10_; have HO317 := n11_; have HO321 := n12_; have HO325 := n13_; have HO329 := n14_; have HB := n15_; clear n0_ n1_ n2_ n3_ n4_ n5_ n6_ n7_ n8_ n9_ n10_ n11_ n12_ n13_ n14_ n15_; clear hb ho91; obtain ⟨Ao92, co92, eo92⟩ := Kd.R_slice HO329.out; subst eo92) | ((with_reducible refine gate_callee (f := 15) rfl ?_); refine goesL_ (some 70) rfl rfl Tryd.func15 (by kernel_rfl) rfl #[.slice Ao92 y327.length co92, .slice none 0 0] rfl (by (try simp only [List.map_toArray, List.map_cons, List.map_nil]); first | done | rfl | (simp only [List.length_drop, List.length_take]; rfl)) ?_; (refine (nat_Add.calls k _ _ y327 _ _ ([] : List Int) t330 t333 _ ?side1 ?side2 ?side3 ?side4 A13.out).mono ?_); (case side1 => repeat (first | exact (Kd.R_reads' HO329.out).2.2 | (with_reducible refine Kd.C_alloc ?_ _) | (with_reducible refine Kd.C_drewN ?_ _) | (with_reducible refine Kd.C_drew ?_))); (case side2 => exact (Kd.R_reads' HO329.out).2.1); (case side3 => exact Kd.C_nil _ _); (case side4 => exact Nat.le_refl _); rintro e w93 ⟨v331, rfl, ho0, hb⟩; refine ⟨_, rfl, ?_⟩; have n0_ := Aside0.mk (Kd.V_below (by (with_reducible repeat (first | apply Kd.V_alloc | apply Kd.V_drewN | apply Kd.V_drew)); exact HO279.out) hb); have n1_ := Aside0.mk (Kd.V_below (by (with_reducible repeat (first | apply Kd.V_alloc | apply Kd.V_drewN | apply Kd.V_drew)); exact HO283.out) hb); have n2_ := Aside0.mk (Kd.V_below (by (with_reducible repeat (first | apply Kd.V_alloc | apply Kd.V_drewN | apply Kd.V_drew)); exact HO286.out) hb); have n3_ := Aside0.mk (Kd.V_below (by (with_reducible repeat (first | apply Kd.V_alloc | apply Kd.V_drewN | apply Kd.V_drew)); exact HO289.out) hb); have n4_ := Aside0.mk (Kd.V_below (by (with_reducible repeat (first | apply Kd.V_alloc | apply Kd.V_drewN | apply Kd.V_drew)); exact HO293.out) hb); have n5_ := Aside0.mk (Kd.V_below (by (with_reducible repeat (first | apply Kd.V_alloc | apply Kd.V_drewN | apply Kd.V_drew)); exact HO296.out) hb); have n6_ := Aside0.mk (Kd.V_below (by (with_reducible repeat (first | apply Kd.V_alloc | apply Kd.V_drewN | apply Kd.V_drew)); exact HO300.out) hb); have n7_ := Aside0.mk (Kd.V_below (by (with_reducible repeat (first | apply Kd.V_alloc | apply Kd.V_drewN | apply Kd.V_drew)); exact HO304.out) hb); have n8_ := Aside0.mk (Kd.V_below (by (with_reducible repeat (first | apply Kd.V_alloc | apply Kd.V_drewN | apply Kd.V_drew)); exact HO307.out) hb); have n9_ := Aside0.mk (Kd.V_below (by (with_reducible repeat (first | apply Kd.V_alloc | apply Kd.V_drewN | apply Kd.V_drew)); exact HO311.out) hb); have n10_ := Aside0.mk (Kd.V_below (by (with_reducible repeat (first | apply Kd.V_alloc | apply Kd.V_drewN | apply Kd.V_drew)); exact HO314.out) hb); have n11_ := Aside0.mk (Kd.R_below (by (with_reducible repeat (first | apply Kd.R_alloc | apply Kd.R_drewN | apply Kd.R_drew)); exact HO317.out) hb); have n12_ := Aside0.mk (Kd.V_below (by (with_reducible repeat (first | apply Kd.V_alloc | apply Kd.V_drewN | apply Kd.V_drew)); exact HO321.out) hb); have n13_ := Aside0.mk (Kd.V_below (by (with_reducible repeat (first | apply Kd.V_alloc | apply Kd.V_drewN | apply Kd.V_drew)); exact HO325.out) hb); have n14_ := Aside0.mk (Kd.R_below (by (with_reducible repeat (first | apply Kd.R_alloc | apply Kd.R_drewN | apply Kd.R_drew)); exact HO329.out) hb); have n15_ := Aside0.mk (Kd.V_lower (Kd.V_mono (ok' := fun k_ => some k_ ≠ (v316 : Value).ownBlock ∧ some k_ ≠ (.slice Ao92 y327.length co92 : Value).ownBlock) ho0 (fun k_ hk_ => ⟨(Kd.fresh' (Kd.R_lt (by (with_reducible repeat (first | apply Kd.R_alloc | apply Kd.R_drewN | apply Kd.R_drew)); exact HO317.out)) k_ hk_), (Kd.fresh' (Kd.R_lt (by (with_reducible repeat (first | apply Kd.R_alloc | apply Kd.R_drewN | apply Kd.R_drew)); exact HO329.out)) k_ hk_)⟩)) (below_size (by repeat (first | (with_reducible first | exact HB.out | apply below_alloc | apply pw_below_drewN | apply below_drew1) | exact HB.out)))); have n16_ := Aside0.mk (below_step (by repeat (first | (with_reducible first | exact HB.out | apply below_alloc | apply pw_below_drewN | apply below_drew1) | exact HB.out)) hb); clear HO279; clear HO283; clear HO286; clear HO289; clear HO293; clear HO296; clear HO300; clear HO304; clear HO307; clear HO311; clear HO314; clear HO317; clear HO321; clear HO325; clear HO329; clear HB; have HO279 := n0_; have HO283 := n1_; have HO286 := n2_; have HO289 := n3_; have HO293 := n4_; have HO296 := n5_; have HO300 := n6_; have HO304 := n7_; have HO307 := n8_; have HO311 := n9_; have HO314 := n10_; have HO317 := n11_; have HO321 := n12_; have HO325 := n13_; have HO329 := n14_; have HO332 := n15_; have HB := n16_; clear n0_ n1_ n2_ n3_ n4_ n5_ n6_ n7_ n8_ n9_ n10_ n11_ n12_ n13_ n14_ n15_ n16_; (try clear hb); (try clear hb2); (try clear hk); (try clear hi); (try clear ho0); obtain ⟨Ao94, co94, eo94⟩ := Kd.V_slice HO286.out; subst eo94) | (go_at_call 28; (with_reducible refine (nat_Text.calls k (fun k_ => ((True ∧ some k_ ≠ (v316 : Value).ownBlock) ∧ some k_ ≠ (.slice Ao92 y327.length co92 : Value).ownBlock)) _ _ t284 t334 _ ?side1 ?side2 A17.out).mono ?_); (case side1 => exact TabOK.below HT.out (by repeat (first | (with_reducible first | exact HB.out | apply below_alloc | apply pw_below_drewN | apply below_drew1) | exact HB.out))); (case side2 => exact HO286.out); rintro e w95 ⟨rfl, hb⟩; have n0_ := Aside0.mk (Kd.V_below (by (with_reducible repeat (first | apply Kd.V_alloc | apply Kd.V_drewN | apply Kd.V_drew)); exact HO279.out) hb); have n1_ := Aside0.mk (Kd.V_below (by (with_reducible repeat (first | apply Kd.V_alloc | apply Kd.V_drewN | apply Kd.V_drew)); exact HO283.out) hb); have n2_ := Aside0.mk (Kd.V_below (by (with_reducible repeat (first | apply Kd.V_alloc | apply Kd.V_drewN | apply Kd.V_drew)); exact HO286.out) hb); have n3_ := Aside0.mk (Kd.V_below (by (with_reducible repeat (first | apply Kd.V_alloc | apply Kd.V_drewN | apply Kd.V_drew)); exact HO289.out) hb); have n4_ := Aside0.mk (Kd.V_below (by (with_reducible repeat (first | apply Kd.V_alloc | apply Kd.V_drewN | apply Kd.V_drew)); exact HO293.out) hb); have n5_ := Aside0.mk (Kd.V_below (by (with_reducible repeat (first | apply Kd.V_alloc | apply Kd.V_drewN | apply Kd.V_drew)); exact HO296.out) hb); have n6_ := Aside0.mk (Kd.V_below (by (with_reducible repeat (first | apply Kd.V_alloc | apply Kd.V_drewN | apply Kd.V_drew)); exact HO300.out) hb); have n7_ := Aside0.mk (Kd.V_below (by (with_reducible repeat (first | apply Kd.V_alloc | apply Kd.V_drewN | apply Kd.V_drew)); exact HO304.out) hb); have n8_ := Aside0.mk (Kd.V_below (by (with_reducible repeat (first | apply Kd.V_alloc | apply Kd.V_drewN | apply Kd.V_drew)); exact HO307.out) hb); have n9_ := Aside0.mk (Kd.V_below (by (with_reducible repeat (first | apply Kd.V_alloc | apply Kd.V_drewN | apply Kd.V_drew)); exact HO311.out) hb); have n10_ := Aside0.mk (Kd.V_below (by (with_reducible repeat (first | apply Kd.V_alloc | apply Kd.V_drewN | apply Kd.V_drew)); exact HO314.out) hb); have n11_ := Aside0.mk (Kd.R_below (by (with_reducible repeat (first | apply Kd.R_alloc | apply Kd.R_drewN | apply Kd.R_drew)); exact HO317.out) hb); have n12_ := Aside0.mk (Kd.V_below (by (with_reducible repeat (first | apply Kd.V_alloc | apply Kd.V_drewN | apply Kd.V_drew)); exact HO321.out) hb); have n13_ := Aside0.mk (Kd.V_below (by (with_reducible repeat (first | apply Kd.V_alloc | apply Kd.V_drewN | apply Kd.V_drew)); exact HO325.out) hb); have n14_ := Aside0.mk (Kd.R_below (by (with_reducible repeat (first | apply Kd.R_alloc | apply Kd.R_drewN | apply Kd.R_drew)); exact HO329.out) hb); have n15_ := Aside0.mk (Kd.V_below (by (with_reducible repeat (first | apply Kd.V_alloc | apply Kd.V_drewN | apply Kd.V_drew)); exact HO332.out) hb); have n16_ := Aside0.mk (below_step (by repeat (first | (with_reducible first | exact HB.out | apply below_alloc | apply pw_below_drewN | apply below_drew1) | exact HB.out)) hb); clear HO279; clear HO283; clear HO286; clear HO289; clear HO293; clear HO296; clear HO300; clear HO304; clear HO307; clear HO311; clear HO314; clear HO317; clear HO321; clear HO325; clear HO329; clear HO332; clear HB; have HO279 := n0_; have HO283 := n1_; have HO286 := n2_; have HO289 := n3_; have HO293 := n4_; have HO296 := n5_; have HO300 := n6_; have HO304 := n7_; have HO307 := n8_; have HO311 := n9_; have HO314 := n10_; have HO317 := n11_; have HO321 := n12_; have HO325 := n13_; have HO329 := n14_; have HO332 := n15_; have HB := n16_; clear n0_ n1_ n2_ n3_ n4_ n5_ n6_ n7_ n8_ n9_ n10_ n11_ n12_ n13_ n14_ n15_ n16_; (try clear hb); (try clear hb2); (try clear hk); (try clear hi); obtain ⟨Ao96, co96, eo96⟩ := Kd.V_slice HO289.out; subst eo96; obtain ⟨Ao97, co97, eo97⟩ := Kd.V_slice HO296.out; subst eo97) | (go_at_call 38; (with_reducible refine (nat_Bits.calls _ _ t294 t335 _ ?side1 ?side2 A22.out).mono ?_); (case side1 => repeat (first | exact (Kd.V_reads' HO296.out).2.2 | (with_reducible refine Kd.C_alloc ?_ _) | (with_reducible refine Kd.C_drewN ?_ _) | (with_reducible refine Kd.C_drew ?_))); (case side2 => exact (Kd.V_reads' HO296.out).2.1); rintro e w' ⟨rfl, ⟨nd, rfl⟩⟩; obtain ⟨Ao98, co98, eo98⟩ := Kd.R_slice HO317.out; subst eo98) | (go_at_call 28; (with_reducible refine (nat_Text.calls k (fun k_ => some k_ = (.slice Ao98 t315.length co98 : Value).ownBlock) _ _ t315 t336 _ ?side1 ?side2 A27.out).mono ?_); (case side1 => exact TabOK.below HT.out (by repeat (first | (with_reducible first | exact HB.out | apply below_alloc | apply pw_below_drewN | apply below_drew1) | exact HB.out))); (case side2 => exact Kd.R_V (Kd.R_tight rfl (HO317.out))); rintro e w99 ⟨rfl, hb⟩; have n0_ := Aside0.mk (Kd.V_below (by (with_reducible repeat (first | apply Kd.V_alloc | apply Kd.V_drewN | apply Kd.V_drew)); exact HO279.out) hb); have n1_ := Aside0.mk (Kd.V_below (by (with_reducible repeat (first | apply Kd.V_alloc | apply Kd.V_drewN | apply Kd.V_drew)); exact HO283.out) hb); have n2_ := Aside0.mk (Kd.V_below (by (with_reducible repeat (first | apply Kd.V_alloc | apply Kd.V_drewN | apply Kd.V_drew)); exact HO286.out) hb); have n3_ := Aside0.mk (Kd.V_below (by (with_reducible repeat (first | apply Kd.V_alloc | apply Kd.V_drewN | apply Kd.V_drew)); exact HO289.out) hb); have n4_ := Aside0.mk (Kd.V_below (by (with_reducible repeat (first | apply Kd.V_alloc | apply Kd.V_drewN | apply Kd.V_drew)); exact HO293.out) hb); have n5_ := Aside0.mk (Kd.V_below (by (with_reducible repeat (first | apply Kd.V_alloc | apply Kd.V_drewN | apply Kd.V_drew)); exact HO296.out) hb); have n6_ := Aside0.mk (Kd.V_below (by (with_reducible repeat (first | apply Kd.V_alloc | apply Kd.V_drewN | apply Kd.V_drew)); exact HO300.out) hb); have n7_ := Aside0.mk (Kd.V_below (by (with_reducible repeat (first | apply Kd.V_alloc | apply Kd.V_drewN | apply Kd.V_drew)); exact HO304.out) hb); have n8_ := Aside0.mk (Kd.V_below (by (with_reducible repeat (first | apply Kd.V_alloc | apply Kd.V_drewN | apply Kd.V_drew)); exact HO307.out) hb); have n9_ := Aside0.mk (Kd.V_below (by (with_reducible repeat (first | apply Kd.V_alloc | apply Kd.V_drewN | apply Kd.V_drew)); exact HO311.out) hb); have n10_ := Aside0.mk (Kd.V_below (by (with_reducible repeat (first | apply Kd.V_alloc | apply Kd.V_drewN | apply Kd.V_drew)); exact HO314.out) hb); have n11_ := Aside0.mk (Kd.R_below (by (with_reducible repeat (first | apply Kd.R_alloc | apply Kd.R_drewN | apply Kd.R_drew)); exact HO317.out) hb); have n12_ := Aside0.mk (Kd.V_below (by (with_reducible repeat (first | apply Kd.V_alloc | apply Kd.V_drewN | apply Kd.V_drew)); exact HO321.out) hb); have n13_ := Aside0.mk (Kd.V_below (by (with_reducible repeat (first | apply Kd.V_alloc | apply Kd.V_drewN | apply Kd.V_drew)); exact HO325.out) hb); have n14_ := Aside0.mk (Kd.R_below (by (with_reducible repeat (first | apply Kd.R_alloc | apply Kd.R_drewN | apply Kd.R_drew)); exact HO329.out) hb); have n15_ := Aside0.mk (Kd.V_below (by (with_reducible repeat (first | apply Kd.V_alloc | apply Kd.V_drewN | apply Kd.V_drew)); exact HO332.out) hb); have n16_ := Aside0.mk (below_step (by repeat (first | (with_reducible first | exact HB.out | apply below_alloc | apply pw_below_drewN | apply below_drew1) | exact HB.out)) hb); clear HO279; clear HO283; clear HO286; clear HO289; clear HO293; clear HO296; clear HO300; clear HO304; clear HO307; clear HO311; clear HO314; clear HO317; clear HO321; clear HO325; clear HO329; clear HO332; clear HB; have HO279 := n0_; have HO283 := n1_; have HO286 := n2_; have HO289 := n3_; have HO293 := n4_; have HO296 := n5_; have HO300 := n6_; have HO304 := n7_; have HO307 := n8_; have HO311 := n9_; have HO314 := n10_; have HO317 := n11_; have HO321 := n12_; have HO325 := n13_; have HO329 := n14_; have HO332 := n15_; have HB := n16_; clear n0_ n1_ n2_ n3_ n4_ n5_ n6_ n7_ n8_ n9_ n10_ n11_ n12_ n13_ n14_ n15_ n16_; (try clear hb); (try clear hb2); (try clear hk); (try clear hi); obtain ⟨Ao100, co100, eo100⟩ := Kd.V_slice HO321.out; subst eo100) | (go_at_call 28; (with_reducible refine (nat_Text.calls k (fun k_ => (some k_ ≠ (.slice Ao98 t315.length co98 : Value).ownBlock ∧ some k_ ≠ (.slice Ao92 y327.length co92 : Value).ownBlock)) _ _ t319 t337 _ ?side1 ?side2 A30.out).mono ?_); (case side1 => exact TabOK.below HT.out (by repeat (first | (with_reducible first | exact HB.out | apply below_alloc | apply pw_below_drewN | apply below_drew1) | exact HB.out))); (case side2 => exact HO321.out); rintro e w101 ⟨rfl, hb⟩; have n0_ := Aside0.mk (Kd.V_below (by (with_reducible repeat (first | apply Kd.V_alloc | apply Kd.V_drewN | apply Kd.V_drew)); exact HO279.out) hb); have n1_ := Aside0.mk (Kd.V_below (by (with_reducible repeat (first | apply Kd.V_alloc | apply Kd.V_drewN | apply Kd.V_drew)); exact HO283.out) hb); have n2_ := Aside0.mk (Kd.V_below (by (with_reducible repeat (first | apply Kd.V_alloc | apply Kd.V_drewN | apply Kd.V_drew)); exact HO286.out) hb); have n3_ := Aside0.mk (Kd.V_below (by (with_reducible repeat (first | apply Kd.V_alloc | apply Kd.V_drewN | apply Kd.V_drew)); exact HO289.out) hb); have n4_ := Aside0.mk (Kd.V_below (by (with_reducible repeat (first | apply Kd.V_alloc | apply Kd.V_drewN | apply Kd.V_drew)); exact HO293.out) hb); have n5_ := Aside0.mk (Kd.V_below (by (with_reducible repeat (first | apply Kd.V_alloc | apply Kd.V_drewN | apply Kd.V_drew)); exact HO296.out) hb); have n6_ := Aside0.mk (Kd.V_below (by (with_reducible repeat (first | apply Kd.V_alloc | apply Kd.V_drewN | apply Kd.V_drew)); exact HO300.out) hb); have n7_ := Aside0.mk (Kd.V_below (by (with_reducible repeat (first | apply Kd.V_alloc | apply Kd.V_drewN | apply Kd.V_drew)); exact HO304.out) hb); have n8_ := Aside0.mk (Kd.V_below (by (with_reducible repeat (first | apply Kd.V_alloc | apply Kd.V_drewN | apply Kd.V_drew)); exact HO307.out) hb); have n9_ := Aside0.mk (Kd.V_below (by (with_reducible repeat (first | apply Kd.V_alloc | apply Kd.V_drewN | apply Kd.V_drew)); exact HO311.out) hb); have n10_ := Aside0.mk (Kd.V_below (by (with_reducible repeat (first | apply Kd.V_alloc | apply Kd.V_drewN | apply Kd.V_drew)); exact HO314.out) hb); have n11_ := Aside0.mk (Kd.R_below (by (with_reducible repeat (first | apply Kd.R_alloc | apply Kd.R_drewN | apply Kd.R_drew)); exact HO317.out) hb); have n12_ := Aside0.mk (Kd.V_below (by (with_reducible repeat (first | apply Kd.V_alloc | apply Kd.V_drewN | apply Kd.V_drew)); exact HO321.out) hb); have n13_ := Aside0.mk (Kd.V_below (by (with_reducible repeat (first | apply Kd.V_alloc | apply Kd.V_drewN | apply Kd.V_drew)); exact HO325.out) hb); have n14_ := Aside0.mk (Kd.R_below (by (with_reducible repeat (first | apply Kd.R_alloc | apply Kd.R_drewN | apply Kd.R_drew)); exact HO329.out) hb); have n15_ := Aside0.mk (Kd.V_below (by (with_reducible repeat (first | apply Kd.V_alloc | apply Kd.V_drewN | apply Kd.V_drew)); exact HO332.out) hb); have n16_ := Aside0.mk (below_step (by repeat (first | (with_reducible first | exact HB.out | apply below_alloc | apply pw_below_drewN | apply below_drew1) | exact HB.out)) hb); clear HO279; clear HO283; clear HO286; clear HO289; clear HO293; clear HO296; clear HO300; clear HO304; clear HO307; clear HO311; clear HO314; clear HO317; clear HO321; clear HO325; clear HO329; clear HO332; clear HB; have HO279 := n0_; have HO283 := n1_; have HO286 := n2_; have HO289 := n3_; have HO293 := n4_; have HO296 := n5_; have HO300 := n6_; have HO304 := n7_; have HO307 := n8_; have HO311 := n9_; have HO314 := n10_; have HO317 := n11_; have HO321 := n12_; have HO325 := n13_; have HO329 := n14_; have HO332 := n15_; have HB := n16_; clear n0_ n1_ n2_ n3_ n4_ n5_ n6_ n7_ n8_ n9_ n10_ n11_ n12_ n13_ n14_ n15_ n16_; (try clear hb); (try clear hb2); (try clear hk); (try clear hi)) | (go_at_call 31; (with_reducible refine (nat_Compare.calls k _ _ t319 _ _ t277 t338 _ ?side1 ?side2 ?side3 ?side4 A32.out).mono ?_); (case side1 => repeat (first | exact (Kd.V_reads' HO321.out).2.2 | (with_reducible refine Kd.C_alloc ?_ _) | (with_reducible refine Kd.C_drewN ?_ _) | (with_reducible refine Kd.C_drew ?_))); (case side2 => exact (Kd.V_reads' HO321.out).2.1); (case side3 => repeat (first | exact (Kd.V_reads' HO279.out).2.2 | (with_reducible refine Kd.C_alloc ?_ _) | (with_reducible refine Kd.C_drewN ?_ _) | (with_reducible refine Kd.C_drew ?_))); (case side4 => exact (Kd.V_reads' HO279.out).2.1); rintro e w' ⟨rfl, ⟨nd, rfl⟩⟩) | (go_at_call 32; (with_reducible refine (nat_Right.calls _ _ t277 true _ ?side1 ?side2 A36.out).mono ?_); (case side1 => repeat (first | exact (Kd.V_reads' HO279.out).2.2 | (with_reducible refine Kd.C_alloc ?_ _) | (with_reducible refine Kd.C_drewN ?_ _) | (with_reducible refine Kd.C_drew ?_))); (case side2 => exact (Kd.V_reads' HO279.out).2.1); rintro e w' ⟨rfl, ⟨nd, rfl⟩⟩) | ((with_reducible refine gate_dst (N := 153) rfl ?_); (try (refine gate_guard (by rfl) ?_; dsimp only)); refine Kd.R_lit (Kd.int .u32) _ 56 ?hg (N := 153) ?hd (xs := ([0] : List Int)) (inner := [.int .u32 0]) (ok := fun _ => True) (okp := fun _ => True) ?hr ?hp (fun _ hk => hk) trivial (Below.refl _ _) (Nat.le_refl _) (by simp) ?_; (case hd => rfl); (case hg => rfl); (case hr => first | (go_simp; done) | (go_simp; rfl) | (go_simp; (try simp only [u8_w, w64_256]); done) | (go_simp; simp only [u8_w, w64_256]; rfl)); (case hp => exact (Reps.one (show Kd.M (Kd.int .u32) _ _ _ 0 [.int .u32 0] from rfl) (Reps.none _ _))); intro v341 w102 ho103 hb hg_ hnew_; clear hg_ hnew_; (first | rw [← Ny340.out] at ho103 | (simp only [Int.reduceToNat] at ho103; rw [← Ny340.out] at ho103)); have n0_ := Aside0.mk (Kd.V_elder' (by (with_reducible repeat (first | apply Kd.V_alloc | apply Kd.V_drewN | apply Kd.V_drew)); exact HO279.out) (Kd.R_base ho103) hb); have n1_ := Aside0.mk (Kd.V_elder' (by (with_reducible repeat (first | apply Kd.V_alloc | apply Kd.V_drewN | apply Kd.V_drew)); exact HO283.out) (Kd.R_base ho103) hb); have n2_ := Aside0.mk (Kd.V_elder' (by (with_reducible repeat (first | apply Kd.V_alloc | apply Kd.V_drewN | apply Kd.V_drew)); exact HO286.out) (Kd.R_base ho103) hb); have n3_ := Aside0.mk (Kd.V_elder' (by (with_reducible repeat (first | apply Kd.V_alloc | apply Kd.V_drewN | apply Kd.V_drew)); exact HO289.out) (Kd.R_base ho103) hb); have n4_ := Aside0.mk (Kd.V_elder' (by (with_reducible repeat (first | apply Kd.V_alloc | apply Kd.V_drewN | apply Kd.V_drew)); exact HO293.out) (Kd.R_base ho103) hb); have n5_ := Aside0.mk (Kd.V_elder' (by (with_reducible repeat (first | apply Kd.V_alloc | apply Kd.V_drewN | apply Kd.V_drew)); exact HO296.out) (Kd.R_base ho103) hb); have n6_ := Aside0.mk (Kd.V_elder' (by (with_reducible repeat (first | apply Kd.V_alloc | apply Kd.V_drewN | apply Kd.V_drew)); exact HO300.out) (Kd.R_base ho103) hb); have n7_ := Aside0.mk (Kd.V_elder' (by (with_reducible repeat (first | apply Kd.V_alloc | apply Kd.V_drewN | apply Kd.V_drew)); exact HO304.out) (Kd.R_base ho103) hb); have n8_ := Aside0.mk (Kd.V_elder' (by (with_reducible repeat (first | apply Kd.V_alloc | apply Kd.V_drewN | apply Kd.V_drew)); exact HO307.out) (Kd.R_base ho103) hb); have n9_ := Aside0.mk (Kd.V_elder' (by (with_reducible repeat (first | apply Kd.V_alloc | apply Kd.V_drewN | apply Kd.V_drew)); exact HO311.out) (Kd.R_base ho103) hb); have n10_ := Aside0.mk (Kd.V_elder' (by (with_reducible repeat (first | apply Kd.V_alloc | apply Kd.V_drewN | apply Kd.V_drew)); exact HO314.out) (Kd.R_base ho103) hb); have n11_ := Aside0.mk (Kd.R_elder' (by (with_reducible repeat (first | apply Kd.R_alloc | apply Kd.R_drewN | apply Kd.R_drew)); exact HO317.out) (Kd.R_base ho103) hb); have n12_ := Aside0.mk (Kd.V_elder' (by (with_reducible repeat (first | apply Kd.V_alloc | apply Kd.V_drewN | apply Kd.V_drew)); exact HO321.out) (Kd.R_base ho103) hb); have n13_ := Aside0.mk (Kd.V_elder' (by (with_reducible repeat (first | apply Kd.V_alloc | apply Kd.V_drewN | apply Kd.V_drew)); exact HO325.out) (Kd.R_base ho103) hb); have n14_ := Aside0.mk (Kd.R_elder' (by (with_reducible repeat (first | apply Kd.R_alloc | apply Kd.R_drewN | apply Kd.R_drew)); exact HO329.out) (Kd.R_base ho103) hb); have n15_ := Aside0.mk (Kd.V_elder' (by (with_reducible repeat (first | apply Kd.V_alloc | apply Kd.V_drewN | apply Kd.V_drew)); exact HO332.out) (Kd.R_base ho103) hb); have n16_ := Aside0.mk (Kd.R_lower (Kd.R_new' (Kd.R_new' ho103 (Kd.R_lt (by (with_reducible repeat (first | apply Kd.R_alloc | apply Kd.R_drewN | apply Kd.R_drew)); exact HO317.out))) (Kd.R_lt (by (with_reducible repeat (first | apply Kd.R_alloc | apply Kd.R_drewN | apply Kd.R_drew)); exact HO329.out))) (below_size (by repeat (first | (with_reducible first | exact HB.out | apply below_alloc | apply pw_below_drewN | apply below_drew1) | exact HB.out)))); have n17_ := Aside0.mk (below_step (by repeat (first | (with_reducible first | exact HB.out | apply below_alloc | apply pw_below_drewN | apply below_drew1) | exact HB.out)) hb); clear HO279; clear HO283; clear HO286; clear HO289; clear HO293; clear HO296; clear HO300; clear HO304; clear HO307; clear HO311; clear HO314; clear HO317; clear HO321; clear HO325; clear HO329; clear HO332; clear HB; have HO279 := n0_; have HO283 := n1_; have HO286 := n2_; have HO289 := n3_; have HO293 := n4_; have HO296 := n5_; have HO300 := n6_; have HO304 := n7_; have HO307 := n8_; have HO311 := n9_; have HO314 := n10_; have HO317 := n11_; have HO321 := n12_; have HO325 := n13_; have HO329 := n14_; have HO332 := n15_; have HO342 := n16_; have HB := n17_; clear n0_ n1_ n2_ n3_ n4_ n5_ n6_ n7_ n8_ n9_ n10_ n11_ n12_ n13_ n14_ n15_ n16_ n17_; clear hb ho103; obtain ⟨Ao104, co104, eo104⟩ := Kd.R_slice HO342.out; subst eo104) | (go_at_call 32; (with_reducible refine (nat_Right.calls _ _ y340 false _ ?side1 ?side2 A38.out).mono ?_); (case side1 => repeat (first | exact (Kd.R_reads' HO342.out).2.2 | (with_reducible refine Kd.C_alloc ?_ _) | (with_reducible refine Kd.C_drewN ?_ _) | (with_reducible refine Kd.C_drew ?_))); (case side2 => exact (Kd.R_reads' HO342.out).2.1); rintro e w' ⟨rfl, ⟨nd, rfl⟩⟩) | (go_at_call 28; (refine (nat_Text.calls k (fun k_ => False) _ _ ([] : List Int) t344 _ ?side1 ?side2 A72.out).mono ?_); (case side1 => exact TabOK.below HT.out (by repeat (first | (with_reducible first | exact HB.out | apply below_alloc | apply pw_below_drewN | apply below_drew1) | exact HB.out))); (case side2 => exact Kd.V_nil _ _ _ _ _); rintro e w105 ⟨rfl, hb⟩; have n0_ := Aside0.mk (Kd.V_below (by (with_reducible repeat (first | apply Kd.V_alloc | apply Kd.V_drewN | apply Kd.V_drew)); exact HO279.out) hb); have n1_ := Aside0.mk (Kd.V_below (by (with_reducible repeat (first | apply Kd.V_alloc | apply Kd.V_drewN | apply Kd.V_drew)); exact HO283.out) hb); have n2_ := Aside0.mk (Kd.V_below (by (with_reducible repeat (first | apply Kd.V_alloc | apply Kd.V_drewN | apply Kd.V_drew)); exact HO286.out) hb); have n3_ := Aside0.mk (Kd.V_below (by (with_reducible repeat (first | apply Kd.V_alloc | apply Kd.V_drewN | apply Kd.V_drew)); exact HO289.out) hb); have n4_ := Aside0.mk (Kd.V_below (by (with_reducible repeat (first | apply Kd.V_alloc | apply Kd.V_drewN | apply Kd.V_drew)); exact HO293.out) hb); have n5_ := Aside0.mk (Kd.V_below (by (with_reducible repeat (first | apply Kd.V_alloc | apply Kd.V_drewN | apply Kd.V_drew)); exact HO296.out) hb); have n6_ := Aside0.mk (Kd.V_below (by (with_reducible repeat (first | apply Kd.V_alloc | apply Kd.V_drewN | apply Kd.V_drew)); exact HO300.out) hb); have n7_ := Aside0.mk (Kd.V_below (by (with_reducible repeat (first | apply Kd.V_alloc | apply Kd.V_drewN | apply Kd.V_drew)); exact HO304.out) hb); have n8_ := Aside0.mk (Kd.V_below (by (with_reducible repeat (first | apply Kd.V_alloc | apply Kd.V_drewN | apply Kd.V_drew)); exact HO307.out) hb); have n9_ := Aside0.mk (Kd.V_below (by (with_reducible repeat (first | apply Kd.V_alloc | apply Kd.V_drewN | apply Kd.V_drew)); exact HO311.out) hb); have n10_ := Aside0.mk (Kd.V_below (by (with_reducible repeat (first | apply Kd.V_alloc | apply Kd.V_drewN | apply Kd.V_drew)); exact HO314.out) hb); have n11_ := Aside0.mk (Kd.R_below (by (with_reducible repeat (first | apply Kd.R_alloc | apply Kd.R_drewN | apply Kd.R_drew)); exact HO317.out) hb); have n12_ := Aside0.mk (Kd.V_below (by (with_reducible repeat (first | apply Kd.V_alloc | apply Kd.V_drewN | apply Kd.V_drew)); exact HO321.out) hb); have n13_ := Aside0.mk (Kd.V_below (by (with_reducible repeat (first | apply Kd.V_alloc | apply Kd.V_drewN | apply Kd.V_drew)); exact HO325.out) hb); have n14_ := Aside0.mk (Kd.R_below (by (with_reducible repeat (first | apply Kd.R_alloc | apply Kd.R_drewN | apply Kd.R_drew)); exact HO329.out) hb); have n15_ := Aside0.mk (Kd.V_below (by (with_reducible repeat (first | apply Kd.V_alloc | apply Kd.V_drewN | apply Kd.V_drew)); exact HO332.out) hb); have n16_ := Aside0.mk (Kd.R_below (by (with_reducible repeat (first | apply Kd.R_alloc | apply Kd.R_drewN | apply Kd.R_drew)); exact HO342.out) hb); have n17_ := Aside0.mk (below_step (by repeat (first | (with_reducible first | exact HB.out | apply below_alloc | apply pw_below_drewN | apply below_drew1) | exact HB.out)) hb); clear HO279; clear HO283; clear HO286; clear HO289; clear HO293; clear HO296; clear HO300; clear HO304; clear HO307; clear HO311; clear HO314; clear HO317; clear HO321; clear HO325; clear HO329; clear HO332; clear HO342; clear HB; have HO279 := n0_; have HO283 := n1_; have HO286 := n2_; have HO289 := n3_; have HO293 := n4_; have HO296 := n5_; have HO300 := n6_; have HO304 := n7_; have HO307 := n8_; have HO311 := n9_; have HO314 := n10_; have HO317 := n11_; have HO321 := n12_; have HO325 := n13_; have HO329 := n14_; have HO332 := n15_; have HO342 := n16_; have HB := n17_; clear n0_ n1_ n2_ n3_ n4_ n5_ n6_ n7_ n8_ n9_ n10_ n11_ n12_ n13_ n14_ n15_ n16_ n17_; (try clear hb); (try clear hb2); (try clear hk); (try clear hi)))
                                        go_ret
                                        exact ⟨by first | rfl | (simp [errW_none, errW_some] <;> rfl) | (simp [*, errW_none, errW_some] <;> rfl), by repeat (first | (with_reducible first | exact HB.out | apply below_alloc | apply pw_below_drewN | apply below_drew1) | exact HB.out)⟩
                                    · replace c37 := Bool.eq_false_iff.mpr c37
                                      subst c37
                                      have H1 : (some false) = some true := by rw [if_neg (show ¬ (false = true) by decide)] at H; exact H
                                      clear H
                                      have H := H1
                                      clear H1
                                      exact absurd (Option.some.inj H) (by decide)
                                  · rw [if_neg c35] at H
                                    have c35b0 : (t333 == 1) = false := beq_eq_false_iff_ne.mpr c35
                                    have c35b1 : (t333 != 1) = true := bne_iff_ne.mpr c35
                                    exact absurd (Option.some.inj H) (by decide)
                                · rw [if_neg c34] at H
                                  have c34b0 : (t326 == 3) = false := beq_eq_false_iff_ne.mpr c34
                                  have c34b1 : (t326 != 3) = true := bne_iff_ne.mpr c34
                                  exact absurd (Option.some.inj H) (by decide)
                              · rw [if_neg c33] at H
                                have c33b0 : (t338 == (-1)) = false := beq_eq_false_iff_ne.mpr c33
                                have c33b1 : (t338 != (-1)) = true := bne_iff_ne.mpr c33
                                exact absurd (Option.some.inj H) (by decide)
                            · rw [if_neg c31] at H
                              have c31b0 : (t337.toList == ([51, 52, 48, 50, 56, 50, 51, 54, 54, 57, 50, 48, 57, 51, 56, 52, 54, 51, 52, 50, 54, 52, 56, 49, 49, 49, 57, 50, 56, 52, 51, 52, 57, 49, 48, 56, 50, 50, 53] : List UInt8)) = false := beq_eq_false_iff_ne.mpr c31
                              have c31b1 : (t337.toList != ([51, 52, 48, 50, 56, 50, 51, 54, 54, 57, 50, 48, 57, 51, 56, 52, 54, 51, 52, 50, 54, 52, 56, 49, 49, 49, 57, 50, 56, 52, 51, 52, 57, 49, 48, 56, 50, 50, 53] : List UInt8)) = true := bne_iff_ne.mpr c31
                              exact absurd (Option.some.inj H) (by decide)
                          · rw [if_neg c29] at H
                            have c29b0 : (t322 == 0) = false := beq_eq_false_iff_ne.mpr c29
                            have c29b1 : (t322 != 0) = true := bne_iff_ne.mpr c29
                            exact absurd (Option.some.inj H) (by decide)
                        · rw [if_neg c28] at H
                          have c28b0 : (t336.toList == ([49, 50] : List UInt8)) = false := beq_eq_false_iff_ne.mpr c28
                          have c28b1 : (t336.toList != ([49, 50] : List UInt8)) = true := bne_iff_ne.mpr c28
                          exact absurd (Option.some.inj H) (by decide)
                      · rw [if_neg c26] at H
                        have c26b0 : (t318 == 0) = false := beq_eq_false_iff_ne.mpr c26
                        have c26b1 : (t318 != 0) = true := bne_iff_ne.mpr c26
                        exact absurd (Option.some.inj H) (by decide)
                    · rw [if_neg c25] at H
                      have c25b0 : (t308 == 10) = false := beq_eq_false_iff_ne.mpr c25
                      have c25b1 : (t308 != 10) = true := bne_iff_ne.mpr c25
                      exact absurd (Option.some.inj H) (by decide)
                  · rw [if_neg c24] at H
                    have c24b0 : (t301 == 2) = false := beq_eq_false_iff_ne.mpr c24
                    have c24b1 : (t301 != 2) = true := bne_iff_ne.mpr c24
                    exact absurd (Option.some.inj H) (by decide)
                · rw [if_neg c23] at H
                  have c23b0 : (t335 == 129) = false := beq_eq_false_iff_ne.mpr c23
                  have c23b1 : (t335 != 129) = true := bne_iff_ne.mpr c23
                  exact absurd (Option.some.inj H) (by decide)
              · rw [if_neg c21] at H
                have c21b0 : ((t294.length : Int) == 5) = false := beq_eq_false_iff_ne.mpr c21
                have c21b1 : ((t294.length : Int) != 5) = true := bne_iff_ne.mpr c21
                exact absurd (Option.some.inj H) (by decide)
            · rw [if_neg c20] at H
              have c20b0 : (t297 == 0) = false := beq_eq_false_iff_ne.mpr c20
              have c20b1 : (t297 != 0) = true := bne_iff_ne.mpr c20
              exact absurd (Option.some.inj H) (by decide)
          · rw [if_neg c19] at H
            have c19b0 : ((t287.length : Int) == 0) = false := beq_eq_false_iff_ne.mpr c19
            have c19b1 : ((t287.length : Int) != 0) = true := bne_iff_ne.mpr c19
            have c19b2 : ¬ (t287 = []) := fun h_ => c19 (by rw [h_]; rfl)
            exact absurd (Option.some.inj H) (by decide)
        · rw [if_neg c18] at H
          have c18b0 : (t334.toList == ([49, 56, 52, 52, 54, 55, 52, 52, 48, 55, 51, 55, 48, 57, 53, 53, 49, 54, 49, 55] : List UInt8)) = false := beq_eq_false_iff_ne.mpr c18
          have c18b1 : (t334.toList != ([49, 56, 52, 52, 54, 55, 52, 52, 48, 55, 51, 55, 48, 57, 53, 53, 49, 54, 49, 55] : List UInt8)) = true := bne_iff_ne.mpr c18
          exact absurd (Option.some.inj H) (by decide)
      · rw [if_neg c16] at H
        have c16b0 : (t290 == 0) = false := beq_eq_false_iff_ne.mpr c16
        have c16b1 : (t290 != 0) = true := bne_iff_ne.mpr c16
        exact absurd (Option.some.inj H) (by decide)
    · rw [if_neg c15] at H
      have c15b0 : ((t277.length : Int) == 4) = false := beq_eq_false_iff_ne.mpr c15
      have c15b1 : ((t277.length : Int) != 4) = true := bne_iff_ne.mpr c15
      exact absurd (Option.some.inj H) (by decide)
  · rw [if_neg c14] at H
    have c14b0 : (t280 == 0) = false := beq_eq_false_iff_ne.mpr c14
    have c14b1 : (t280 != 0) = true := bne_iff_ne.mpr c14
    exact absurd (Option.some.inj H) (by decide)
theorem cashbooklaw01_alive.le (k r) (h : cashbooklaw01_alive.f k = some r) : ∀ n, cashbooklaw01_alive.f (k + n) = some r
  | 0 => h
  | n + 1 => cashbooklaw01_alive.mono (k + n) r (cashbooklaw01_alive.le k r h n)
theorem cashbooklaw01_alive.now : cashbooklaw01_alive.f 300 = some true := by decide +kernel
theorem cashbooklaw01_alive.is_true (k r) (h : cashbooklaw01_alive.f k = some r) : r = true := by
  have e1 := cashbooklaw01_alive.le k r h 300
  have e2 := cashbooklaw01_alive.le 300 true cashbooklaw01_alive.now k
  rw [Nat.add_comm] at e2
  rw [e1] at e2
  exact Option.some.inj e2
set_option maxHeartbeats 8000000 in
set_option maxRecDepth 100000 in
theorem cashbooklaw01_alive.calls (k : Nat)  (r : Bool) (w : World) (hT : TabOK w) (h : cashbooklaw01_alive.f k  = some r) :
    Calls Tryd.prog 14 #[] w fun e w' => e = .returned (.bool r) ∧ Below w.heap.size w w' := by
  obtain rfl := cashbooklaw01_alive.is_true k r h
  exact cashbooklaw01_alive.calls_ k w hT h


/-! ### cashbookref01_Right: function 37 -/
def cashbookref01_Right.f (l0 : List Int) : Option (Bool) := if (l0.length : Int) ≤ 256 then (if (l0.length : Int) = 0 then (some true) else (if 0 ≤ (wrap64 ((l0.length : Int) - 1)) then (if (wrap64 ((l0.length : Int) - 1)) < (l0.length : Int) then (some ((rd l0 (wrap64 ((l0.length : Int) - 1))) != 0)) else (none)) else (none))) else (some false)
set_option maxHeartbeats 8000000 in
set_option maxRecDepth 100000 in
theorem cashbookref01_Right.calls (A0 : Option Addr) (c0 : Nat) (l0 : List Int) (r : Bool) (w : World) (hr0 : Kd.C (Kd.int .u32) w A0 l0.length l0) (hc0 : l0.length ≤ c0) (h : cashbookref01_Right.f l0 = some r) :
    Calls Tryd.prog 37 #[.slice A0 l0.length c0] w fun e w' => e = .returned (.bool r) ∧ Drawn0 w w' := by
  have HR0 := Aside0.mk hr0
  have HC0 := Aside0.mk hc0
  clear hr0 hc0
  have H : (if (l0.length : Int) ≤ 256 then (if (l0.length : Int) = 0 then (some true) else (if 0 ≤ (wrap64 ((l0.length : Int) - 1)) then (if (wrap64 ((l0.length : Int) - 1)) < (l0.length : Int) then (some ((rd l0 (wrap64 ((l0.length : Int) - 1))) != 0)) else (none)) else (none))) else (some false)) = some r := h
  clear h
  by_cases c2 : (l0.length : Int) ≤ 256
  · rw [if_pos c2] at H
    have c2b0 : decide ((l0.length : Int) ≤ 256) = true := decide_eq_true c2
    have c2b1 : decide (l0.length ≤ 256) = true := decide_eq_true (by omega)
    clear c2
    by_cases c3 : (l0.length : Int) = 0
    · rw [if_pos c3] at H
      have c3b0 : ((l0.length : Int) == 0) = true := beq_iff_eq.mpr c3
      have c3b1 : ((l0.length : Int) != 0) = false := bne_eq_false_iff_eq.mpr c3
      clear c3
      obtain rfl := Option.some.inj H
      go_enter Tryd.func37, Tryd.ntmps37
      go_wp2
      go_ret
      exact ⟨by first | rfl | (simp; done) | (simp [*]; done), by repeat (first | exact Drawn0.refl _ | apply Drawn0.step)⟩
    · rw [if_neg c3] at H
      have c3b0 : ((l0.length : Int) == 0) = false := beq_eq_false_iff_ne.mpr c3
      have c3b1 : ((l0.length : Int) != 0) = true := bne_iff_ne.mpr c3
      have c3b2 : ¬ (l0 = []) := fun h_ => c3 (by rw [h_]; rfl)
      obtain ⟨ji4, hji4⟩ : ∃ j_ : Int, (wrap64 ((l0.length : Int) - 1)) = j_ := ⟨_, rfl⟩
      replace H : (if 0 ≤ (ji4) then (if (ji4) < (l0.length : Int) then (some ((rd l0 (ji4)) != 0)) else (none)) else (none)) = some r := by first | (rw [hji4] at H; exact H) | (simp only [hji4] at H ⊢; exact H)
      have hji4w : (IntKind.i64.wrap ((l0.length : Int) - 1)) = ji4 := (i64_w _).trans hji4
      by_cases c5 : 0 ≤ (ji4)
      · rw [if_pos c5] at H
        have c5b0 : decide (0 ≤ (ji4)) = true := decide_eq_true c5
        clear c5
        by_cases c6 : (ji4) < (l0.length : Int)
        · rw [if_pos c6] at H
          have c6b0 : decide ((ji4) < (l0.length : Int)) = true := decide_eq_true c6
          clear c6
          obtain rfl := Option.some.inj H
          have p345 : 0 ≤ ((ji4) : Int) := of_decide_eq_true (by first | (with_reducible assumption) | assumption)
          have q345 : (ji4) < (l0.length : Int) := of_decide_eq_true (by first | (with_reducible assumption) | assumption)
          obtain ⟨ad345, e345, hx345_0⟩ := Kd.at_int HR0.out (ji4) p345 q345
          cases e345
          replace p345 := eq_true p345
          replace q345 := eq_true q345
          go_enter Tryd.func37, Tryd.ntmps37
          go_wp2
          go_ret
          exact ⟨by first | rfl | (simp; done) | (simp only [← hji4] <;> (first | rfl | simp)) | (simp [*]; done), by repeat (first | exact Drawn0.refl _ | apply Drawn0.step)⟩
        · rw [if_neg c6] at H
          exact absurd H (by simp)
      · rw [if_neg c5] at H
        exact absurd H (by simp)
  · rw [if_neg c2] at H
    have c2b0 : decide ((l0.length : Int) ≤ 256) = false := decide_eq_false c2
    have c2b1 : decide (l0.length ≤ 256) = false := decide_eq_false (by omega)
    clear c2
    obtain rfl := Option.some.inj H
    go_enter Tryd.func37, Tryd.ntmps37
    go_wp2
    go_ret
    exact ⟨by first | rfl | (simp; done) | (simp [*]; done), by repeat (first | exact Drawn0.refl _ | apply Drawn0.step)⟩

/-! ### cashbookref01_nat: function 54 -/
def cashbookref01_nat.l0 : Nat → List Int → List Int → Int → Option (List Int)
  | 0, _, _, _ => none
  | k + 1, x0, x3, x4 => if x4 < (x0.length : Int) then (if 0 ≤ x4 then (if (wrap64 (x4 + 1)) < (x0.length : Int) then (if 0 ≤ (wrap64 (x4 + 1)) then (if x3.length < 35184372088832 then (cashbookref01_nat.l0 k x0 (x3 ++ [(wrap64 ((rd x0 x4) + (wrap64 (65536 * (rd x0 (wrap64 (x4 + 1))))))) % 4294967296]) (wrap64 (x4 + 2))) else (none)) else (none)) else (if x3.length < 35184372088832 then (cashbookref01_nat.l0 k x0 (x3 ++ [(rd x0 x4) % 4294967296]) (wrap64 (x4 + 2))) else (none))) else (none)) else (some x3)
def cashbookref01_nat.f (k : Nat) (l0 : List Int) : Option (List Int) := cashbookref01_nat.l0 k l0 ([] : List Int) 0
theorem cashbookref01_nat.mono_l : ∀ k, (∀ y0 y1 y2, LeO (cashbookref01_nat.l0 k y0 y1 y2) (cashbookref01_nat.l0 (k + 1) y0 y1 y2))
  | 0 => fun _ _ _ r h => by simp [cashbookref01_nat.l0] at h
  | k + 1 => by
    have ih0 := cashbookref01_nat.mono_l k
    · intro y0 y1 y2
      unfold cashbookref01_nat.l0
      repeat' first
      | (with_reducible exact ih0 _ _ _)
      | (with_reducible exact LeO.refl _)
      | (with_reducible exact LeO.none _)
      | (with_reducible refine LeO.ite ?_ ?_)
      | (with_reducible refine LeO.bind ?_ (fun _ => ?_))
      | exact ih0 _ _ _
      | exact LeO.none _
      | refine LeO.ite ?_ ?_
      | refine LeO.bind ?_ (fun _ => ?_)
theorem cashbookref01_nat.mono : ∀ a0 k, LeO (cashbookref01_nat.f k a0) (cashbookref01_nat.f (k + 1) a0) := by
  intro a0 k
  have ih0 := cashbookref01_nat.mono_l k
  unfold cashbookref01_nat.f
  repeat' first
      | (with_reducible exact ih0 _ _ _)
      | (with_reducible exact LeO.refl _)
      | (with_reducible exact LeO.none _)
      | (with_reducible refine LeO.ite ?_ ?_)
      | (with_reducible refine LeO.bind ?_ (fun _ => ?_))
      | exact ih0 _ _ _
      | exact LeO.none _
      | refine LeO.ite ?_ ?_
      | refine LeO.bind ?_ (fun _ => ?_)
set_option maxHeartbeats 8000000 in
set_option maxRecDepth 100000 in
theorem cashbookref01_nat.calls (k : Nat) (A0 : Option Addr) (c0 : Nat) (l0 : List Int) (r : List Int) (w : World) (hr0 : Kd.C (Kd.int .i64) w A0 l0.length l0) (hc0 : l0.length ≤ c0) (h : cashbookref01_nat.f k l0 = some r) :
    Calls Tryd.prog 54 #[.slice A0 l0.length c0] w fun e w' => ∃ v0_ : Value, e = .returned (v0_) ∧ Kd.R (Kd.int .u32) 56 w' w.heap.size (fun _ => True) v0_ r ∧ Below w.heap.size w w' := by
  have HR0 := Aside0.mk hr0
  have HC0 := Aside0.mk hc0
  clear hr0 hc0
  have HB := Aside0.mk (Below.refl w.heap.size w)
  have H : (cashbookref01_nat.l0 k l0 ([] : List Int) 0) = some r := h
  clear h
  have H' := Aside0.mk H
  clear H
  go_enter Tryd.func54, Tryd.ntmps54
  go_wp2
  go_loopg [3, 4] k (fun kq v3 v4 w' => ∃ (x3_1 : List Int) (x4_1 : Int), v4 = .int .i64 x4_1 ∧ Aside0 (cashbookref01_nat.l0 kq l0 x3_1 x4_1 = some r) ∧ Aside0 (kq ≤ k) ∧ Aside0 (Kd.R (Kd.int .u32) 56 w' w.heap.size (fun _ => True) v3 x3_1) ∧ Aside0 (Below w.heap.size w w'))
  case atStart => exact ⟨(([] : List Int)), (0), (by first | rfl | (simp; done) | (simp [*]; done)), H', ⟨Nat.le_refl _⟩, ⟨by first | exact Kd.R_nil _ _ _ _ _ | exact Kd.N_nil _ _ _ _ _ | exact Kd.V_nil _ _ _ _ _ | exact Kd.Q_nil _ _ _ _ _ | exact Kd.S_nil _ _ _ _ _⟩, ⟨by repeat (first | (with_reducible first | exact HB.out | apply below_alloc | apply pw_below_drewN | apply below_drew1) | exact HB.out)⟩⟩
  case round =>
    clear H'
    obtain ⟨x3_1, x4_1, rfl, HA, HK1, HO_3, HB⟩ := hrel
    cases gk with
    | zero => exact absurd HA.out (by simp [cashbookref01_nat.l0])
    | succ k1 =>
      have H := HA.out
      clear HA
      simp only [cashbookref01_nat.l0] at H
      by_cases c2 : x4_1 < (l0.length : Int)
      · rw [if_pos c2] at H
        have c2b0 : decide (x4_1 < (l0.length : Int)) = true := decide_eq_true c2
        clear c2
        by_cases c3 : 0 ≤ x4_1
        · rw [if_pos c3] at H
          have c3b0 : decide (0 ≤ x4_1) = true := decide_eq_true c3
          clear c3
          by_cases c4 : (wrap64 (x4_1 + 1)) < (l0.length : Int)
          · rw [if_pos c4] at H
            have c4b0 : decide ((wrap64 (x4_1 + 1)) < (l0.length : Int)) = true := decide_eq_true c4
            clear c4
            obtain ⟨ji5, hji5⟩ : ∃ j_ : Int, (wrap64 (x4_1 + 1)) = j_ := ⟨_, rfl⟩
            replace H : (if 0 ≤ (ji5) then (if x3_1.length < 35184372088832 then (cashbookref01_nat.l0 k1 l0 (x3_1 ++ [(wrap64 ((rd l0 x4_1) + (wrap64 (65536 * (rd l0 (ji5)))))) % 4294967296]) (wrap64 (x4_1 + 2))) else (none)) else (none)) = some r := by first | (rw [hji5] at H; exact H) | (simp only [hji5] at H ⊢; exact H)
            (try rw [hji5] at c4b0)
            have hji5w : (IntKind.i64.wrap (x4_1 + 1)) = ji5 := (i64_w _).trans hji5
            by_cases c6 : 0 ≤ (ji5)
            · rw [if_pos c6] at H
              have c6b0 : decide (0 ≤ (ji5)) = true := decide_eq_true c6
              clear c6
              by_cases c7 : x3_1.length < 35184372088832
              · rw [if_pos c7] at H
                have LMc7 := Aside0.mk c7
                clear c7
                obtain ⟨y348, hy348⟩ : ∃ y_ : List Int, y_ = (x3_1 ++ [(wrap64 ((rd l0 x4_1) + (wrap64 (65536 * (rd l0 (ji5)))))) % 4294967296]) := ⟨_, rfl⟩
                replace H : (cashbookref01_nat.l0 k1 l0 y348 (wrap64 (x4_1 + 2))) = some r := by first | (rw [hy348]; with_reducible exact H) | (have H2_ := (Option.bind_some _ _).symm.trans H; rw [hy348]; with_reducible exact H2_) | (have H2_ := (Option.bind_some _ _).symm.trans H; with_reducible exact H2_) | with_reducible exact H | (rw [hy348]; exact H) | exact H
                have Ny348 := Aside0.mk hy348
                clear hy348
                have H' := Aside0.mk H
                clear H
                have p346 : 0 ≤ (x4_1 : Int) := of_decide_eq_true (by first | (with_reducible assumption) | assumption)
                have q346 : x4_1 < (l0.length : Int) := of_decide_eq_true (by first | (with_reducible assumption) | assumption)
                obtain ⟨ad346, e346, hx346_0⟩ := Kd.at_int HR0.out x4_1 p346 q346
                cases e346
                replace hx346_0 := (HB.out.cell (World.block_lt_of_cell? w _ hx346_0)).trans hx346_0
                replace p346 := eq_true p346
                replace q346 := eq_true q346
                have p347 : 0 ≤ ((ji5) : Int) := of_decide_eq_true (by first | (with_reducible assumption) | assumption)
                have q347 : (ji5) < (l0.length : Int) := of_decide_eq_true (by first | (with_reducible assumption) | assumption)
                obtain ⟨ad347, e347, hx347_0⟩ := Kd.at_int HR0.out (ji5) p347 q347
                obtain rfl : ad346 = ad347 := (by injection e347)
                replace hx347_0 := (HB.out.cell (World.block_lt_of_cell? w _ hx347_0)).trans hx347_0
                replace p347 := eq_true p347
                replace q347 := eq_true q347
                go_wp2_with (first | ((with_reducible refine gate_builtin (b := .append) (xs := #[.tmp 29, .tmp 32]) rfl ?_); at_builtin; refine Kd.R_append (Kd.int .u32) (w0 := w) w.heap.size rfl (.tmp 29) (.tmp 32) 22 56 (.int .u32 0) 4 rfl Tryd.underlying22 info56 rfl (by decide) (by omega) u3 x3_1 ((wrap64 ((rd l0 x4_1) + (wrap64 (65536 * (rd l0 (ji5)))))) % 4294967296) [.int .u32 ((wrap64 ((rd l0 x4_1) + (wrap64 (65536 * (rd l0 (ji5)))))) % 4294967296)] (fun _ => True) (fun _ => False) rfl rfl ?aP (fun _ hk => hk.elim) ?aF ?aO ?aB ?aS ?aL ?_; (case aP => exact rfl); (case aB => exact (by repeat (first | (with_reducible first | exact HB.out | apply below_alloc | apply pw_below_drewN | apply below_drew1) | exact HB.out))); (case aF => exact (fun _ _ => trivial)); (case aO => exact (by (with_reducible repeat (first | apply Kd.R_alloc | apply Kd.R_drewN | apply Kd.R_drew)); exact HO_3.out)); (case aS => exact (below_size (by repeat (first | (with_reducible first | exact HB.out | apply below_alloc | apply pw_below_drewN | apply below_drew1) | exact HB.out)))); (case aL => have := LMc7.out; omega); intro v349 w8 ho hb hg hat; rw [← Ny348.out] at ho; have n0_ := Aside0.mk (hb); have n1_ := Aside0.mk (ho); clear HB; clear HO_3; have HB := n0_; have HO350 := n1_; clear n0_ n1_; clear ho hb hg hat))
                go_roundg k1
                case measure => have := HK1.out; omega
                case rel => exact ⟨(y348), (wrap64 (x4_1 + 2)), (by first | rfl | (simp; done) | (simp [*]; done)), H', ⟨by have := HK1.out; omega⟩, ⟨by (with_reducible repeat (first | apply Kd.R_alloc | apply Kd.R_drewN | apply Kd.R_drew)); exact HO350.out⟩, ⟨by repeat (first | (with_reducible first | exact HB.out | apply below_alloc | apply pw_below_drewN | apply below_drew1) | exact HB.out)⟩⟩
              · rw [if_neg c7] at H
                exact absurd H (by simp)
            · rw [if_neg c6] at H
              exact absurd H (by simp)
          · rw [if_neg c4] at H
            have c4b0 : decide ((wrap64 (x4_1 + 1)) < (l0.length : Int)) = false := decide_eq_false c4
            clear c4
            by_cases c9 : x3_1.length < 35184372088832
            · rw [if_pos c9] at H
              have LMc9 := Aside0.mk c9
              clear c9
              obtain ⟨y351, hy351⟩ : ∃ y_ : List Int, y_ = (x3_1 ++ [(rd l0 x4_1) % 4294967296]) := ⟨_, rfl⟩
              replace H : (cashbookref01_nat.l0 k1 l0 y351 (wrap64 (x4_1 + 2))) = some r := by first | (rw [hy351]; with_reducible exact H) | (have H2_ := (Option.bind_some _ _).symm.trans H; rw [hy351]; with_reducible exact H2_) | (have H2_ := (Option.bind_some _ _).symm.trans H; with_reducible exact H2_) | with_reducible exact H | (rw [hy351]; exact H) | exact H
              have Ny351 := Aside0.mk hy351
              clear hy351
              have H' := Aside0.mk H
              clear H
              have p346 : 0 ≤ (x4_1 : Int) := of_decide_eq_true (by first | (with_reducible assumption) | assumption)
              have q346 : x4_1 < (l0.length : Int) := of_decide_eq_true (by first | (with_reducible assumption) | assumption)
              obtain ⟨ad346, e346, hx346_0⟩ := Kd.at_int HR0.out x4_1 p346 q346
              cases e346
              replace hx346_0 := (HB.out.cell (World.block_lt_of_cell? w _ hx346_0)).trans hx346_0
              replace p346 := eq_true p346
              replace q346 := eq_true q346
              go_wp2_with (first | ((with_reducible refine gate_builtin (b := .append) (xs := #[.tmp 29, .tmp 32]) rfl ?_); at_builtin; refine Kd.R_append (Kd.int .u32) (w0 := w) w.heap.size rfl (.tmp 29) (.tmp 32) 22 56 (.int .u32 0) 4 rfl Tryd.underlying22 info56 rfl (by decide) (by omega) u3 x3_1 ((rd l0 x4_1) % 4294967296) [.int .u32 ((rd l0 x4_1) % 4294967296)] (fun _ => True) (fun _ => False) rfl rfl ?aP (fun _ hk => hk.elim) ?aF ?aO ?aB ?aS ?aL ?_; (case aP => exact rfl); (case aB => exact (by repeat (first | (with_reducible first | exact HB.out | apply below_alloc | apply pw_below_drewN | apply below_drew1) | exact HB.out))); (case aF => exact (fun _ _ => trivial)); (case aO => exact (by (with_reducible repeat (first | apply Kd.R_alloc | apply Kd.R_drewN | apply Kd.R_drew)); exact HO_3.out)); (case aS => exact (below_size (by repeat (first | (with_reducible first | exact HB.out | apply below_alloc | apply pw_below_drewN | apply below_drew1) | exact HB.out)))); (case aL => have := LMc9.out; omega); intro v352 w10 ho hb hg hat; rw [← Ny351.out] at ho; have n0_ := Aside0.mk (hb); have n1_ := Aside0.mk (ho); clear HB; clear HO_3; have HB := n0_; have HO353 := n1_; clear n0_ n1_; clear ho hb hg hat))
              go_roundg k1
              case measure => have := HK1.out; omega
              case rel => exact ⟨(y351), (wrap64 (x4_1 + 2)), (by first | rfl | (simp; done) | (simp [*]; done)), H', ⟨by have := HK1.out; omega⟩, ⟨by (with_reducible repeat (first | apply Kd.R_alloc | apply Kd.R_drewN | apply Kd.R_drew)); exact HO353.out⟩, ⟨by repeat (first | (with_reducible first | exact HB.out | apply below_alloc | apply pw_below_drewN | apply below_drew1) | exact HB.out)⟩⟩
            · rw [if_neg c9] at H
              exact absurd H (by simp)
        · rw [if_neg c3] at H
          exact absurd H (by simp)
      · rw [if_neg c2] at H
        have c2b0 : decide (x4_1 < (l0.length : Int)) = false := decide_eq_false c2
        clear c2
        obtain rfl := Option.some.inj H
        go_wp2
        go_ret
        exact ⟨_, by first | rfl | (simp [errW_none, errW_some] <;> rfl) | (simp [*, errW_none, errW_some] <;> rfl), by (with_reducible repeat (first | apply Kd.R_alloc | apply Kd.R_drewN | apply Kd.R_drew)); exact HO_3.out, by repeat (first | (with_reducible first | exact HB.out | apply below_alloc | apply pw_below_drewN | apply below_drew1) | exact HB.out)⟩

/-! ### cashbookref01_trim: function 66 -/
def cashbookref01_trim.l0 : Nat → List Int → Int → Option (List Int)
  | 0, _, _ => none
  | k + 1, x0, x3 => if x3 > 0 then (if 0 ≤ (wrap64 (x3 - 1)) then (if (wrap64 (x3 - 1)) < (x0.length : Int) then (if (rd x0 (wrap64 (x3 - 1))) = 0 then (cashbookref01_trim.l0 k x0 (wrap64 (x3 - 1))) else (if 0 ≤ x3 then (if x3 ≤ (x0.length : Int) then (some (x0.take (x3 : Int).toNat)) else (none)) else (none))) else (none)) else (none)) else (if 0 ≤ x3 then (if x3 ≤ (x0.length : Int) then (some (x0.take (x3 : Int).toNat)) else (none)) else (none))
def cashbookref01_trim.f (k : Nat) (l0 : List Int) : Option (List Int) := cashbookref01_trim.l0 k l0 (l0.length : Int)
theorem cashbookref01_trim.mono_l : ∀ k, (∀ y0 y1, LeO (cashbookref01_trim.l0 k y0 y1) (cashbookref01_trim.l0 (k + 1) y0 y1))
  | 0 => fun _ _ r h => by simp [cashbookref01_trim.l0] at h
  | k + 1 => by
    have ih0 := cashbookref01_trim.mono_l k
    · intro y0 y1
      unfold cashbookref01_trim.l0
      repeat' first
      | (with_reducible exact ih0 _ _)
      | (with_reducible exact LeO.refl _)
      | (with_reducible exact LeO.none _)
      | (with_reducible refine LeO.ite ?_ ?_)
      | (with_reducible refine LeO.bind ?_ (fun _ => ?_))
      | exact ih0 _ _
      | exact LeO.none _
      | refine LeO.ite ?_ ?_
      | refine LeO.bind ?_ (fun _ => ?_)
theorem cashbookref01_trim.mono : ∀ a0 k, LeO (cashbookref01_trim.f k a0) (cashbookref01_trim.f (k + 1) a0) := by
  intro a0 k
  have ih0 := cashbookref01_trim.mono_l k
  unfold cashbookref01_trim.f
  repeat' first
      | (with_reducible exact ih0 _ _)
      | (with_reducible exact LeO.refl _)
      | (with_reducible exact LeO.none _)
      | (with_reducible refine LeO.ite ?_ ?_)
      | (with_reducible refine LeO.bind ?_ (fun _ => ?_))
      | exact ih0 _ _
      | exact LeO.none _
      | refine LeO.ite ?_ ?_
      | refine LeO.bind ?_ (fun _ => ?_)
set_option maxHeartbeats 8000000 in
set_option maxRecDepth 100000 in
theorem cashbookref01_trim.calls (k : Nat) (P0_ : Nat → Prop) (u9000_ : Value) (l0 : List Int) (r : List Int) (w0 w : World) (hB : Below w0.heap.size w0 w) (ho0 : Kd.R (Kd.int .i64) 3 w w0.heap.size P0_ u9000_ l0) (h : cashbookref01_trim.f k l0 = some r) :
    Calls Tryd.prog 66 #[u9000_] w fun e w' => ∃ v0_ : Value, e = .returned (v0_) ∧ Kd.R (Kd.int .i64) 3 w' w0.heap.size (fun k_ => (P0_ k_ ∨ w.heap.size ≤ k_)) v0_ r ∧ Below w0.heap.size w0 w' ∧ Kept w w' (fun k_ => P0_ k_) := by
  have HO0 := Aside0.mk (show Kd.R (Kd.int .i64) 3 w w0.heap.size (fun k_ => (P0_ k_ ∨ w.heap.size ≤ k_)) u9000_ l0 from Kd.R_mono ho0 (fun k_ hk => (.inl hk)))
  have HK := Aside0.mk (Kept.refl w (fun k_ => P0_ k_))
  have HW0 := Aside0.mk hB.size
  have HB := Aside0.mk hB
  clear hB
  have H : (cashbookref01_trim.l0 k l0 (l0.length : Int)) = some r := h
  clear h
  have H' := Aside0.mk H
  clear H
  obtain ⟨Ao2, co2, eo2⟩ := Kd.R_slice HO0.out
  subst eo2
  go_enter Tryd.func66, Tryd.ntmps66
  go_wp2
  go_loopg [3] k (fun kq v3 w' => ∃ (x3_1 : Int), v3 = .int .i64 x3_1 ∧ Aside0 (cashbookref01_trim.l0 kq l0 x3_1 = some r) ∧ Aside0 (kq ≤ k) ∧ Aside0 (Kd.R (Kd.int .i64) 3 w' w0.heap.size (fun k_ => (P0_ k_ ∨ w.heap.size ≤ k_)) (.slice Ao2 l0.length co2) l0) ∧ Aside0 (Kept w w' (fun k_ => P0_ k_)) ∧ Aside0 (Below w0.heap.size w0 w'))
  case atStart => exact ⟨((l0.length : Int)), (by first | rfl | (simp; done) | (simp [*]; done)), H', ⟨Nat.le_refl _⟩, ⟨by (with_reducible repeat (first | apply Kd.R_alloc | apply Kd.R_drewN | apply Kd.R_drew)); exact HO0.out⟩, ⟨by repeat (first | (with_reducible first | exact HK.out | apply Kept.alloc | apply Kept.drewN | apply Kept.drew) | exact HK.out)⟩, ⟨by repeat (first | (with_reducible first | exact HB.out | apply below_alloc | apply pw_below_drewN | apply below_drew1) | exact HB.out)⟩⟩
  case round =>
    clear H'
    try clear p2
    obtain ⟨x3_1, rfl, HA, HK1, HO_0, HK, HB⟩ := hrel
    cases gk with
    | zero => exact absurd HA.out (by simp [cashbookref01_trim.l0])
    | succ k1 =>
      have H := HA.out
      clear HA
      simp only [cashbookref01_trim.l0] at H
      by_cases c3 : x3_1 > 0
      · rw [if_pos c3] at H
        have c3b0 : decide (0 < x3_1) = true := decide_eq_true c3
        clear c3
        obtain ⟨ji4, hji4⟩ : ∃ j_ : Int, (wrap64 (x3_1 - 1)) = j_ := ⟨_, rfl⟩
        replace H : (if 0 ≤ (ji4) then (if (ji4) < (l0.length : Int) then (if (rd l0 (ji4)) = 0 then (cashbookref01_trim.l0 k1 l0 ji4) else (if 0 ≤ x3_1 then (if x3_1 ≤ (l0.length : Int) then (some (l0.take (x3_1 : Int).toNat)) else (none)) else (none))) else (none)) else (none)) = some r := by first | (rw [hji4] at H; exact H) | (simp only [hji4] at H ⊢; exact H)
        have hji4w : (IntKind.i64.wrap (x3_1 - 1)) = ji4 := (i64_w _).trans hji4
        by_cases c5 : 0 ≤ (ji4)
        · rw [if_pos c5] at H
          have c5b0 : decide (0 ≤ (ji4)) = true := decide_eq_true c5
          clear c5
          by_cases c6 : (ji4) < (l0.length : Int)
          · rw [if_pos c6] at H
            have c6b0 : decide ((ji4) < (l0.length : Int)) = true := decide_eq_true c6
            clear c6
            by_cases c7 : (rd l0 (ji4)) = 0
            · rw [if_pos c7] at H
              have c7b0 : ((rd l0 (ji4)) == 0) = true := beq_iff_eq.mpr c7
              have c7b1 : ((rd l0 (ji4)) != 0) = false := bne_eq_false_iff_eq.mpr c7
              clear c7
              have H' := Aside0.mk H
              clear H
              have p354 : 0 ≤ ((ji4) : Int) := of_decide_eq_true (by first | (with_reducible assumption) | assumption)
              have q354 : (ji4) < (l0.length : Int) := of_decide_eq_true (by first | (with_reducible assumption) | assumption)
              obtain ⟨ad354, e354, hx354_0⟩ := Kd.at_int (Kd.R_reads' HO_0.out).2.2 (ji4) p354 q354
              cases e354
              replace p354 := eq_true p354
              replace q354 := eq_true q354
              go_wp2
              go_roundg k1
              case measure => have := HK1.out; omega
              case rel => exact ⟨(ji4), (by first | rfl | (simp; done) | (simp only [← hji4] <;> (first | rfl | simp)) | (simp [*]; done)), H', ⟨by have := HK1.out; omega⟩, ⟨by (with_reducible repeat (first | apply Kd.R_alloc | apply Kd.R_drewN | apply Kd.R_drew)); exact HO_0.out⟩, ⟨by repeat (first | (with_reducible first | exact HK.out | apply Kept.alloc | apply Kept.drewN | apply Kept.drew) | exact HK.out)⟩, ⟨by repeat (first | (with_reducible first | exact HB.out | apply below_alloc | apply pw_below_drewN | apply below_drew1) | exact HB.out)⟩⟩
            · rw [if_neg c7] at H
              have c7b0 : ((rd l0 (ji4)) == 0) = false := beq_eq_false_iff_ne.mpr c7
              have c7b1 : ((rd l0 (ji4)) != 0) = true := bne_iff_ne.mpr c7
              by_cases c8 : 0 ≤ x3_1
              · rw [if_pos c8] at H
                have c8b0 := eq_true c8
                have c8b1 : decide (0 ≤ x3_1) = true := decide_eq_true c8
                clear c8
                by_cases c9 : x3_1 ≤ (l0.length : Int)
                · rw [if_pos c9] at H
                  have c9b0 := eq_true c9
                  have c9b1 : decide (x3_1 ≤ (l0.length : Int)) = true := decide_eq_true c9
                  clear c9
                  obtain ⟨y355, hy355⟩ : ∃ y_ : List Int, y_ = (l0.take (x3_1 : Int).toNat) := ⟨_, rfl⟩
                  replace H : (some y355) = some r := by first | (rw [hy355]; with_reducible exact H) | (have H2_ := (Option.bind_some _ _).symm.trans H; rw [hy355]; with_reducible exact H2_) | (have H2_ := (Option.bind_some _ _).symm.trans H; with_reducible exact H2_) | with_reducible exact H | (rw [hy355]; exact H) | exact H
                  have Ny355 := Aside0.mk hy355
                  clear hy355
                  obtain rfl := Option.some.inj H
                  have p354 : 0 ≤ ((ji4) : Int) := of_decide_eq_true (by first | (with_reducible assumption) | assumption)
                  have q354 : (ji4) < (l0.length : Int) := of_decide_eq_true (by first | (with_reducible assumption) | assumption)
                  obtain ⟨ad354, e354, hx354_0⟩ := Kd.at_int (Kd.R_reads' HO_0.out).2.2 (ji4) p354 q354
                  cases e354
                  replace p354 := eq_true p354
                  replace q354 := eq_true q354
                  have q10 : (x3_1 : Int) ≤ ((l0.length : Int) : Int) := of_decide_eq_true (by first | (with_reducible assumption) | assumption)
                  obtain ⟨i010, hi010, _, hsz10, _⟩ := info_parts info3
                  have hcut10 := cut_to (P := Tryd.prog) 60 3 .i64 Tryd.underlying60 hi010 (some ad354) l0.length co2 x3_1 (of_decide_eq_true (by first | (with_reducible assumption) | assumption)) q10 (Kd.R_reads' HO_0.out).2.1
                  have hr10 := Kd.R_take (m := (x3_1 : Int).toNat) HO_0.out (by omega)
                  have hy10 : y355.length = (x3_1 : Int).toNat := (by rw [Ny355.out, List.length_take]; omega)
                  rw [← Ny355.out] at hr10
                  rw [← hy10] at hr10 hcut10
                  clear hy10 hi010 hsz10 HO_0
                  have HO357 := Aside0.mk hr10
                  clear hr10
                  replace q10 := eq_true q10
                  go_wp2
                  go_ret
                  exact ⟨_, by first | rfl | (simp [errW_none, errW_some] <;> rfl) | (simp only [← hji4]; first | rfl | (simp [errW_none, errW_some] <;> rfl)) | (simp [*, errW_none, errW_some] <;> rfl), by (with_reducible repeat (first | apply Kd.R_alloc | apply Kd.R_drewN | apply Kd.R_drew)); exact HO357.out, by repeat (first | (with_reducible first | exact HB.out | apply below_alloc | apply pw_below_drewN | apply below_drew1) | exact HB.out), by repeat (first | (with_reducible first | exact HK.out | apply Kept.alloc | apply Kept.drewN | apply Kept.drew) | exact HK.out)⟩
                · rw [if_neg c9] at H
                  exact absurd H (by simp)
              · rw [if_neg c8] at H
                exact absurd H (by simp)
          · rw [if_neg c6] at H
            exact absurd H (by simp)
        · rw [if_neg c5] at H
          exact absurd H (by simp)
      · rw [if_neg c3] at H
        have c3b0 : decide (0 < x3_1) = false := decide_eq_false c3
        clear c3
        by_cases c11 : 0 ≤ x3_1
        · rw [if_pos c11] at H
          have c11b0 := eq_true c11
          have c11b1 : decide (0 ≤ x3_1) = true := decide_eq_true c11
          clear c11
          by_cases c12 : x3_1 ≤ (l0.length : Int)
          · rw [if_pos c12] at H
            have c12b0 := eq_true c12
            have c12b1 : decide (x3_1 ≤ (l0.length : Int)) = true := decide_eq_true c12
            clear c12
            obtain ⟨y358, hy358⟩ : ∃ y_ : List Int, y_ = (l0.take (x3_1 : Int).toNat) := ⟨_, rfl⟩
            replace H : (some y358) = some r := by first | (rw [hy358]; with_reducible exact H) | (have H2_ := (Option.bind_some _ _).symm.trans H; rw [hy358]; with_reducible exact H2_) | (have H2_ := (Option.bind_some _ _).symm.trans H; with_reducible exact H2_) | with_reducible exact H | (rw [hy358]; exact H) | exact H
            have Ny358 := Aside0.mk hy358
            clear hy358
            obtain rfl := Option.some.inj H
            have q13 : (x3_1 : Int) ≤ ((l0.length : Int) : Int) := of_decide_eq_true (by first | (with_reducible assumption) | assumption)
            obtain ⟨i013, hi013, _, hsz13, _⟩ := info_parts info3
            have hcut13 := cut_to (P := Tryd.prog) 60 3 .i64 Tryd.underlying60 hi013 Ao2 l0.length co2 x3_1 (of_decide_eq_true (by first | (with_reducible assumption) | assumption)) q13 (Kd.R_reads' HO_0.out).2.1
            have hr13 := Kd.R_take (m := (x3_1 : Int).toNat) HO_0.out (by omega)
            have hy13 : y358.length = (x3_1 : Int).toNat := (by rw [Ny358.out, List.length_take]; omega)
            rw [← Ny358.out] at hr13
            rw [← hy13] at hr13 hcut13
            clear hy13 hi013 hsz13 HO_0
            have HO360 := Aside0.mk hr13
            clear hr13
            replace q13 := eq_true q13
            go_wp2
            go_ret
            exact ⟨_, by first | rfl | (simp [errW_none, errW_some] <;> rfl) | (simp [*, errW_none, errW_some] <;> rfl), by (with_reducible repeat (first | apply Kd.R_alloc | apply Kd.R_drewN | apply Kd.R_drew)); exact HO360.out, by repeat (first | (with_reducible first | exact HB.out | apply below_alloc | apply pw_below_drewN | apply below_drew1) | exact HB.out), by repeat (first | (with_reducible first | exact HK.out | apply Kept.alloc | apply Kept.drewN | apply Kept.drew) | exact HK.out)⟩
          · rw [if_neg c12] at H
            exact absurd H (by simp)
        · rw [if_neg c11] at H
          exact absurd H (by simp)

/-! ### cashbookref01_fit: function 43 -/
def cashbookref01_fit.f (k : Nat) (l0 : List Int) : Option (List Int × Int) := (cashbookref01_trim.f k l0).bind fun t361 => ((cashbookref01_nat.f k t361).bind fun t364 => ((cashbookref01_Right.f t364).bind fun t367 => (if t367 = true then (some (t364, 0)) else (some (([] : List Int), 4)))))
theorem cashbookref01_fit.mono : ∀ a0 k, LeO (cashbookref01_fit.f k a0) (cashbookref01_fit.f (k + 1) a0) := by
  intro a0 k
  unfold cashbookref01_fit.f
  repeat' first
      | (with_reducible exact cashbookref01_nat.mono _ _)
      | (with_reducible exact cashbookref01_trim.mono _ _)
      | (with_reducible exact LeO.refl _)
      | (with_reducible exact LeO.none _)
      | (with_reducible refine LeO.ite ?_ ?_)
      | (with_reducible refine LeO.bind ?_ (fun _ => ?_))
      | exact cashbookref01_nat.mono _ _
      | exact cashbookref01_trim.mono _ _
      | exact LeO.none _
      | refine LeO.ite ?_ ?_
      | refine LeO.bind ?_ (fun _ => ?_)
set_option maxHeartbeats 8000000 in
set_option maxRecDepth 100000 in
theorem cashbookref01_fit.calls (k : Nat) (P0_ : Nat → Prop) (u9000_ : Value) (l0 : List Int) (r1 : List Int) (r2 : Int) (w0 w : World) (hB : Below w0.heap.size w0 w) (ho0 : Kd.R (Kd.int .i64) 3 w w0.heap.size P0_ u9000_ l0) (h : cashbookref01_fit.f k l0 = some (r1, r2)) :
    Calls Tryd.prog 43 #[u9000_] w fun e w' => ∃ v0_ : Value, e = .returned (.tuple #[v0_, .int .i64 r2]) ∧ Kd.R (Kd.int .u32) 56 w' w0.heap.size (fun k_ => (P0_ k_ ∨ w.heap.size ≤ k_)) v0_ r1 ∧ Below w0.heap.size w0 w' ∧ Kept w w' (fun k_ => P0_ k_) := by
  have HO0 := Aside0.mk (show Kd.R (Kd.int .i64) 3 w w0.heap.size (fun k_ => (P0_ k_ ∨ w.heap.size ≤ k_)) u9000_ l0 from Kd.R_mono ho0 (fun k_ hk => (.inl hk)))
  have HK := Aside0.mk (Kept.refl w (fun k_ => P0_ k_))
  have HW0 := Aside0.mk hB.size
  have HB := Aside0.mk hB
  clear hB
  have H : ((cashbookref01_trim.f k l0).bind fun t361 => ((cashbookref01_nat.f k t361).bind fun t364 => ((cashbookref01_Right.f t364).bind fun t367 => (if t367 = true then (some (t364, 0)) else (some (([] : List Int), 4)))))) = some (r1, r2) := h
  clear h
  replace H := Option.bind_eq_some_iff.mp H
  obtain ⟨t361, A20, H⟩ := H
  replace H : ((cashbookref01_nat.f k t361).bind fun t364 => ((cashbookref01_Right.f t364).bind fun t367 => (if t367 = true then (some (t364, 0)) else (some (([] : List Int), 4))))) = some (r1, r2) := H
  have A2 := Aside0.mk A20
  clear A20
  replace H := Option.bind_eq_some_iff.mp H
  obtain ⟨t364, A30, H⟩ := H
  replace H : ((cashbookref01_Right.f t364).bind fun t367 => (if t367 = true then (some (t364, 0)) else (some (([] : List Int), 4)))) = some (r1, r2) := H
  have A3 := Aside0.mk A30
  clear A30
  replace H := Option.bind_eq_some_iff.mp H
  obtain ⟨t367, A40, H⟩ := H
  replace H : (if t367 = true then (some (t364, 0)) else (some (([] : List Int), 4))) = some (r1, r2) := H
  have A4 := Aside0.mk A40
  clear A40
  by_cases c5 : t367 = true
  · subst c5
    have H1 : (some (t364, 0)) = some (r1, r2) := by rw [if_pos rfl] at H; exact H
    clear H
    have H := H1
    clear H1
    simp only [Option.some.injEq, Prod.mk.injEq] at H
    obtain ⟨rfl, rfl⟩ := H
    obtain ⟨Ao6, co6, eo6⟩ := Kd.R_slice HO0.out
    subst eo6
    go_enter Tryd.func43, Tryd.ntmps43
    go_wp2_with (first | ((with_reducible refine gate_callee (f := 66) rfl ?_); refine goesL_ (some 7) rfl rfl Tryd.func66 (by kernel_rfl) rfl #[.slice Ao6 l0.length co6] rfl (by (try simp only [List.map_toArray, List.map_cons, List.map_nil]); first | done | rfl | (simp only [List.length_drop, List.length_take]; rfl)) ?_; (with_reducible refine (cashbookref01_trim.calls k (fun k_ => some k_ = (.slice Ao6 l0.length co6 : Value).ownBlock) (.slice Ao6 l0.length co6) l0 t361 w0 _ ?side1 ?side2 A2.out).mono ?_); (case side1 => repeat (first | (with_reducible first | exact HB.out | apply below_alloc | apply pw_below_drewN | apply below_drew1) | exact HB.out)); (case side2 => exact Kd.R_tight rfl HO0.out); rintro e w7 ⟨v362, rfl, ho0, hb, hkp⟩; refine ⟨_, rfl, ?_⟩; have n0_ := Aside0.mk (Kd.R_mono (ok' := fun k_ => (P0_ k_ ∨ w.heap.size ≤ k_)) ho0 (fun k_ hk_ => Or.elim hk_ (fun hs_ => (HO0.out.1 k_ (hs_).symm)) (fun hn_ => (.inr (Nat.le_trans (by first | exact HK.out.1 | exact (show Kept w _ (fun k_ => P0_ k_) from by repeat (first | (with_reducible first | exact HK.out | apply Kept.alloc | apply Kept.drewN | apply Kept.drew) | exact HK.out)).1) hn_))))); have n1_ := Aside0.mk (Kept.then_ (S := (fun k_ => P0_ k_)) (by repeat (first | (with_reducible first | exact HK.out | apply Kept.alloc | apply Kept.drewN | apply Kept.drew) | exact HK.out)) hkp (fun k_ hs_ => (fun e_ => (HO0.out.1 k_ e_.symm)) hs_)); have n2_ := Aside0.mk (hb); clear HK; clear HB; clear HO0; have HO363 := n0_; have HK := n1_; have HB := n2_; clear n0_ n1_ n2_; (try clear hb); (try clear hkp); (try clear ho0); obtain ⟨Ao8, co8, eo8⟩ := Kd.R_slice HO363.out; subst eo8) | ((with_reducible refine gate_callee (f := 54) rfl ?_); refine goesL_ (some 8) rfl rfl Tryd.func54 (by kernel_rfl) rfl #[.slice Ao8 t361.length co8] rfl (by (try simp only [List.map_toArray, List.map_cons, List.map_nil]); first | done | rfl | (simp only [List.length_drop, List.length_take]; rfl)) ?_; (with_reducible refine (cashbookref01_nat.calls k _ _ t361 t364 _ ?side1 ?side2 A3.out).mono ?_); (case side1 => repeat (first | exact (Kd.R_reads' HO363.out).2.2 | (with_reducible refine Kd.C_alloc ?_ _) | (with_reducible refine Kd.C_drewN ?_ _) | (with_reducible refine Kd.C_drew ?_))); (case side2 => exact (Kd.R_reads' HO363.out).2.1); rintro e w9 ⟨v365, rfl, ho0, hb⟩; refine ⟨_, rfl, ?_⟩; have n0_ := Aside0.mk (Kd.R_below (by (with_reducible repeat (first | apply Kd.R_alloc | apply Kd.R_drewN | apply Kd.R_drew)); exact HO363.out) hb); have n1_ := Aside0.mk (Kd.R_lower (Kd.R_newM (M := fun k_ => (P0_ k_ ∨ w.heap.size ≤ k_)) ho0 (by first | exact HK.out.1 | exact (show Kept w _ (fun k_ => P0_ k_) from by repeat (first | (with_reducible first | exact HK.out | apply Kept.alloc | apply Kept.drewN | apply Kept.drew) | exact HK.out)).1) (fun k_ h_ => .inr h_)) (below_size (by repeat (first | (with_reducible first | exact HB.out | apply below_alloc | apply pw_below_drewN | apply below_drew1) | exact HB.out)))); have n2_ := Aside0.mk (Kept.below (S := (fun k_ => P0_ k_)) (by repeat (first | (with_reducible first | exact HK.out | apply Kept.alloc | apply Kept.drewN | apply Kept.drew) | exact HK.out)) hb); have n3_ := Aside0.mk (below_step (by repeat (first | (with_reducible first | exact HB.out | apply below_alloc | apply pw_below_drewN | apply below_drew1) | exact HB.out)) hb); clear HO363; clear HK; clear HB; have HO363 := n0_; have HO366 := n1_; have HK := n2_; have HB := n3_; clear n0_ n1_ n2_ n3_; (try clear hb); (try clear hb2); (try clear hk); (try clear hi); (try clear ho0); obtain ⟨Ao10, co10, eo10⟩ := Kd.R_slice HO366.out; subst eo10) | ((with_reducible refine gate_callee (f := 37) rfl ?_); refine goesL_ (some 10) rfl rfl Tryd.func37 (by kernel_rfl) rfl #[.slice Ao10 t364.length co10] rfl (by (try simp only [List.map_toArray, List.map_cons, List.map_nil]); first | done | rfl | (simp only [List.length_drop, List.length_take]; rfl)) ?_; (with_reducible refine (cashbookref01_Right.calls _ _ t364 true _ ?side1 ?side2 A4.out).mono ?_); (case side1 => repeat (first | exact (Kd.R_reads' HO366.out).2.2 | (with_reducible refine Kd.C_alloc ?_ _) | (with_reducible refine Kd.C_drewN ?_ _) | (with_reducible refine Kd.C_drew ?_))); (case side2 => exact (Kd.R_reads' HO366.out).2.1); rintro e w' ⟨rfl, ⟨nd, rfl⟩⟩; refine ⟨_, rfl, ?_⟩))
    go_ret2
    exact ⟨_, by first | rfl | (simp [errW_none, errW_some] <;> rfl) | (simp [*, errW_none, errW_some] <;> rfl), by (with_reducible repeat (first | apply Kd.R_alloc | apply Kd.R_drewN | apply Kd.R_drew)); exact Kd.R_mono HO366.out (fun _ hk => hk.1), by repeat (first | (with_reducible first | exact HB.out | apply below_alloc | apply pw_below_drewN | apply below_drew1) | exact HB.out), by repeat (first | (with_reducible first | exact HK.out | apply Kept.alloc | apply Kept.drewN | apply Kept.drew) | exact HK.out)⟩
  · replace c5 := Bool.eq_false_iff.mpr c5
    subst c5
    have H1 : (some (([] : List Int), 4)) = some (r1, r2) := by rw [if_neg (show ¬ (false = true) by decide)] at H; exact H
    clear H
    have H := H1
    clear H1
    simp only [Option.some.injEq, Prod.mk.injEq] at H
    obtain ⟨rfl, rfl⟩ := H
    obtain ⟨Ao11, co11, eo11⟩ := Kd.R_slice HO0.out
    subst eo11
    go_enter Tryd.func43, Tryd.ntmps43
    go_wp2_with (first | ((with_reducible refine gate_callee (f := 66) rfl ?_); refine goesL_ (some 7) rfl rfl Tryd.func66 (by kernel_rfl) rfl #[.slice Ao11 l0.length co11] rfl (by (try simp only [List.map_toArray, List.map_cons, List.map_nil]); first | done | rfl | (simp only [List.length_drop, List.length_take]; rfl)) ?_; (with_reducible refine (cashbookref01_trim.calls k (fun k_ => some k_ = (.slice Ao11 l0.length co11 : Value).ownBlock) (.slice Ao11 l0.length co11) l0 t361 w0 _ ?side1 ?side2 A2.out).mono ?_); (case side1 => repeat (first | (with_reducible first | exact HB.out | apply below_alloc | apply pw_below_drewN | apply below_drew1) | exact HB.out)); (case side2 => exact Kd.R_tight rfl HO0.out); rintro e w12 ⟨v362, rfl, ho0, hb, hkp⟩; refine ⟨_, rfl, ?_⟩; have n0_ := Aside0.mk (Kd.R_mono (ok' := fun k_ => (P0_ k_ ∨ w.heap.size ≤ k_)) ho0 (fun k_ hk_ => Or.elim hk_ (fun hs_ => (HO0.out.1 k_ (hs_).symm)) (fun hn_ => (.inr (Nat.le_trans (by first | exact HK.out.1 | exact (show Kept w _ (fun k_ => P0_ k_) from by repeat (first | (with_reducible first | exact HK.out | apply Kept.alloc | apply Kept.drewN | apply Kept.drew) | exact HK.out)).1) hn_))))); have n1_ := Aside0.mk (Kept.then_ (S := (fun k_ => P0_ k_)) (by repeat (first | (with_reducible first | exact HK.out | apply Kept.alloc | apply Kept.drewN | apply Kept.drew) | exact HK.out)) hkp (fun k_ hs_ => (fun e_ => (HO0.out.1 k_ e_.symm)) hs_)); have n2_ := Aside0.mk (hb); clear HK; clear HB; clear HO0; have HO363 := n0_; have HK := n1_; have HB := n2_; clear n0_ n1_ n2_; (try clear hb); (try clear hkp); (try clear ho0); obtain ⟨Ao13, co13, eo13⟩ := Kd.R_slice HO363.out; subst eo13) | ((with_reducible refine gate_callee (f := 54) rfl ?_); refine goesL_ (some 8) rfl rfl Tryd.func54 (by kernel_rfl) rfl #[.slice Ao13 t361.length co13] rfl (by (try simp only [List.map_toArray, List.map_cons, List.map_nil]); first | done | rfl | (simp only [List.length_drop, List.length_take]; rfl)) ?_; (with_reducible refine (cashbookref01_nat.calls k _ _ t361 t364 _ ?side1 ?side2 A3.out).mono ?_); (case side1 => repeat (first | exact (Kd.R_reads' HO363.out).2.2 | (with_reducible refine Kd.C_alloc ?_ _) | (with_reducible refine Kd.C_drewN ?_ _) | (with_reducible refine Kd.C_drew ?_))); (case side2 => exact (Kd.R_reads' HO363.out).2.1); rintro e w14 ⟨v365, rfl, ho0, hb⟩; refine ⟨_, rfl, ?_⟩; have n0_ := Aside0.mk (Kd.R_below (by (with_reducible repeat (first | apply Kd.R_alloc | apply Kd.R_drewN | apply Kd.R_drew)); exact HO363.out) hb); have n1_ := Aside0.mk (Kd.R_lower (Kd.R_newM (M := fun k_ => (P0_ k_ ∨ w.heap.size ≤ k_)) ho0 (by first | exact HK.out.1 | exact (show Kept w _ (fun k_ => P0_ k_) from by repeat (first | (with_reducible first | exact HK.out | apply Kept.alloc | apply Kept.drewN | apply Kept.drew) | exact HK.out)).1) (fun k_ h_ => .inr h_)) (below_size (by repeat (first | (with_reducible first | exact HB.out | apply below_alloc | apply pw_below_drewN | apply below_drew1) | exact HB.out)))); have n2_ := Aside0.mk (Kept.below (S := (fun k_ => P0_ k_)) (by repeat (first | (with_reducible first | exact HK.out | apply Kept.alloc | apply Kept.drewN | apply Kept.drew) | exact HK.out)) hb); have n3_ := Aside0.mk (below_step (by repeat (first | (with_reducible first | exact HB.out | apply below_alloc | apply pw_below_drewN | apply below_drew1) | exact HB.out)) hb); clear HO363; clear HK; clear HB; have HO363 := n0_; have HO366 := n1_; have HK := n2_; have HB := n3_; clear n0_ n1_ n2_ n3_; (try clear hb); (try clear hb2); (try clear hk); (try clear hi); (try clear ho0); obtain ⟨Ao15, co15, eo15⟩ := Kd.R_slice HO366.out; subst eo15) | ((with_reducible refine gate_callee (f := 37) rfl ?_); refine goesL_ (some 10) rfl rfl Tryd.func37 (by kernel_rfl) rfl #[.slice Ao15 t364.length co15] rfl (by (try simp only [List.map_toArray, List.map_cons, List.map_nil]); first | done | rfl | (simp only [List.length_drop, List.length_take]; rfl)) ?_; (with_reducible refine (cashbookref01_Right.calls _ _ t364 false _ ?side1 ?side2 A4.out).mono ?_); (case side1 => repeat (first | exact (Kd.R_reads' HO366.out).2.2 | (with_reducible refine Kd.C_alloc ?_ _) | (with_reducible refine Kd.C_drewN ?_ _) | (with_reducible refine Kd.C_drew ?_))); (case side2 => exact (Kd.R_reads' HO366.out).2.1); rintro e w' ⟨rfl, ⟨nd, rfl⟩⟩; refine ⟨_, rfl, ?_⟩))
    go_ret2
    exact ⟨_, by first | rfl | (simp [errW_none, errW_some] <;> rfl) | (simp [*, errW_none, errW_some] <;> rfl), by first | exact Kd.R_nil _ _ _ _ _ | exact Kd.N_nil _ _ _ _ _ | exact Kd.V_nil _ _ _ _ _ | exact Kd.Q_nil _ _ _ _ _ | exact Kd.S_nil _ _ _ _ _, by repeat (first | (with_reducible first | exact HB.out | apply below_alloc | apply pw_below_drewN | apply below_drew1) | exact HB.out), by repeat (first | (with_reducible first | exact HK.out | apply Kept.alloc | apply Kept.drewN | apply Kept.drew) | exact HK.out)⟩

/-! ### cashbookref01_at: function 70 -/
def cashbookref01_at.f (l0 : List Int) (a1 : Int) : Option (Int) := if a1 < 0 then (some 0) else (if a1 ≥ (l0.length : Int) then (some 0) else (if 0 ≤ a1 then (if a1 < (l0.length : Int) then (some (rd l0 a1)) else (none)) else (none)))
set_option maxHeartbeats 8000000 in
set_option maxRecDepth 100000 in
theorem cashbookref01_at.calls (A0 : Option Addr) (c0 : Nat) (l0 : List Int) (a1 : Int) (r : Int) (w : World) (hr0 : Kd.C (Kd.int .i64) w A0 l0.length l0) (hc0 : l0.length ≤ c0) (h : cashbookref01_at.f l0 a1 = some r) :
    Calls Tryd.prog 70 #[.slice A0 l0.length c0, .int .i64 a1] w fun e w' => e = .returned (.int .i64 r) ∧ Drawn0 w w' := by
  have HR0 := Aside0.mk hr0
  have HC0 := Aside0.mk hc0
  clear hr0 hc0
  have H : (if a1 < 0 then (some 0) else (if a1 ≥ (l0.length : Int) then (some 0) else (if 0 ≤ a1 then (if a1 < (l0.length : Int) then (some (rd l0 a1)) else (none)) else (none)))) = some r := h
  clear h
  by_cases c3 : a1 < 0
  · rw [if_pos c3] at H
    have c3b0 : decide (a1 < 0) = true := decide_eq_true c3
    clear c3
    obtain rfl := Option.some.inj H
    go_enter Tryd.func70, Tryd.ntmps70
    go_wp2
    go_ret
    exact ⟨by first | rfl | (simp; done) | (simp [*]; done), by repeat (first | exact Drawn0.refl _ | apply Drawn0.step)⟩
  · rw [if_neg c3] at H
    have c3b0 : decide (a1 < 0) = false := decide_eq_false c3
    clear c3
    by_cases c4 : a1 ≥ (l0.length : Int)
    · rw [if_pos c4] at H
      have c4b0 : decide ((l0.length : Int) ≤ a1) = true := decide_eq_true c4
      clear c4
      obtain rfl := Option.some.inj H
      go_enter Tryd.func70, Tryd.ntmps70
      go_wp2
      go_ret
      exact ⟨by first | rfl | (simp; done) | (simp [*]; done), by repeat (first | exact Drawn0.refl _ | apply Drawn0.step)⟩
    · rw [if_neg c4] at H
      have c4b0 : decide ((l0.length : Int) ≤ a1) = false := decide_eq_false c4
      clear c4
      by_cases c5 : 0 ≤ a1
      · rw [if_pos c5] at H
        have c5b0 : decide (0 ≤ a1) = true := decide_eq_true c5
        clear c5
        by_cases c6 : a1 < (l0.length : Int)
        · rw [if_pos c6] at H
          have c6b0 : decide (a1 < (l0.length : Int)) = true := decide_eq_true c6
          clear c6
          obtain rfl := Option.some.inj H
          have p368 : 0 ≤ (a1 : Int) := of_decide_eq_true (by first | (with_reducible assumption) | assumption)
          have q368 : a1 < (l0.length : Int) := of_decide_eq_true (by first | (with_reducible assumption) | assumption)
          obtain ⟨ad368, e368, hx368_0⟩ := Kd.at_int HR0.out a1 p368 q368
          cases e368
          replace p368 := eq_true p368
          replace q368 := eq_true q368
          go_enter Tryd.func70, Tryd.ntmps70
          go_wp2
          go_ret
          exact ⟨by first | rfl | (simp; done) | (simp [*]; done), by repeat (first | exact Drawn0.refl _ | apply Drawn0.step)⟩
        · rw [if_neg c6] at H
          exact absurd H (by simp)
      · rw [if_neg c5] at H
        exact absurd H (by simp)

end Go.Proofs.YtcidmdjhmhkmgaaDoor.S
