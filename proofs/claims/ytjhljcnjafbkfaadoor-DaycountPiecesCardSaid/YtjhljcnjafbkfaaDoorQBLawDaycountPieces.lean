/- DaycountPieces (the tied card): for every input DaycountPieces returns true, ends, never panics, and leaves its arguments reading as they did. Conditions: none; the package-level variables that the card lists (date.before, daycount.names) are tied to the program's text. -/
import Derived.Test.YtjhljcnjafbkfaaDoorRows
import Derived.Test.YtjhljcnjafbkfaaDoorQB2
import Derived.Test.YtjhljcnjafbkfaaDoorQB12
import Derived.Test.YtjhljcnjafbkfaaDoorQB16
import Derived.WalkKit
import Derived.ProofKit
import Derived.OpenShut
import Derived.ShutString
import Derived.ChangeOld
import Derived.Below
import Derived.SizedLaws
import Derived.Test.YtjhljcnjafbkfaaDoorTie
import Derived.Test.YtjhljcnjafbkfaaDoorCards
import Derived.Handed
import Derived.LaidMore
import Derived.LaidHandle
import Derived.MakeChecks
import Derived.Lib.LaidTab
import Derived.Lib.LaidU8
import Derived.SevenTiedAt
import Derived.Stop.Joined
namespace Go.Proofs.YtjhljcnjafbkfaaDoor.daycountPieces
open Go.ChangeShapes Go.WideShapes Go.ChangeAt Go.RowKit Go.Proofs.YtjhljcnjafbkfaaDoor Go.Proofs.YtjhljcnjafbkfaaDoor.X
open Go.ChangeMaps (open_string shut_string)
set_option linter.unusedVariables false
theorem door_met (os : Os) (args : Array Value) : laidMetH Tryd.prog Rows.daycountPiecesRow.laid ((World.doorLaid Tryd.prog 4000 os).forCall (fun _ _ => 0) ⟨#[], args, []⟩).memory :=
  laidMetH_of_parts3 (fuel := 8) (laidMet_of_run' 8 (by kernel_rfl) (by kernel_rfl)) (by kernel_rfl) (by kernel_rfl)
theorem glob_of_laid {W : World} (h : laidMetH Tryd.prog Rows.daycountPiecesRow.laid W) : ∀ k cs, C0.E.G k = some cs → RepP (allI W) W (.pointer (some ⟨k, 0, none⟩)) (.ref cs) := by
  rw [MakeChecks.laidMetH_plain _ _ _ (by kernel_rfl)] at h
  have h0 : RepP (allI W) W (.pointer (some ⟨0, 0, none⟩)) (.ref ((gt0.map fun z => Value.string z).map .sc)) := by
    obtain ⟨g, t, cs, fuel, p, h1, h2, h3, h4⟩ := Lib.laidMet.reads h (n := "cashbook/daycount.names") (d := strData gt0) (List.Mem.tail _ (List.Mem.head _))
    obtain rfl := Option.some.inj ((show Tryd.prog.globalNamed "cashbook/daycount.names" = some 0 by kernel_rfl).symm.trans h1)
    obtain rfl := Option.some.inj ((show (Tryd.prog.globals[0]?).map (·.type) = some 50 by kernel_rfl).symm.trans h2)
    refine glob_ref h1 ?_ (fun v hv => by obtain ⟨z, _, rfl⟩ := List.mem_map.1 hv; rfl)
    rw [h3, ← cells_of_strs Tryd.underlying50 Tryd.underlying9 (by kernel_rfl) (by kernel_rfl) h4]
  have h1 : RepP (allI W) W (.pointer (some ⟨1, 0, none⟩)) (.ref ((gt1.map fun z => Value.int .i64 z).map .sc)) := by
    obtain ⟨g, t, cs, fuel, p, h1, h2, h3, h4⟩ := Lib.laidMet.reads h (n := "cashbook/date.before") (d := Lib.tabData .i64 gt1) (List.Mem.head _)
    obtain rfl := Option.some.inj ((show Tryd.prog.globalNamed "cashbook/date.before" = some 1 by kernel_rfl).symm.trans h1)
    obtain rfl := Option.some.inj ((show (Tryd.prog.globals[1]?).map (·.type) = some 88 by kernel_rfl).symm.trans h2)
    refine glob_ref h1 ?_ (fun v hv => by obtain ⟨z, _, rfl⟩ := List.mem_map.1 hv; rfl)
    rw [h3, ← Lib.cells_of_tab Tryd.underlying88 Tryd.underlying3 (by kernel_rfl) (by kernel_rfl) h4]
  intro k cs hk
  have hk' : (if k = 0 then some (gt0.map pS) else if k = 1 then some (gt1.map (pI .i64)) else none) = some cs := hk
  split at hk'
  · rename_i e
    subst e
    cases hk'
    exact h0
  split at hk'
  · rename_i e
    subst e
    cases hk'
    exact h1
  cases hk'
theorem own : ownKnob Tryd.prog.godebug = none := by kernel_rfl
theorem laidOut : laidOutB Tryd.prog = true := by kernel_rfl
theorem op39 : OpensP Tryd.prog 3 X.e39 39 X.wf39 := by
  have q2 := opensFsP_one (P := Tryd.prog) (f := arrF Tryd.prog 22 2) (off := 2) (sz := 1) (by kernel_rfl) (by kernel_rfl) (opensP_int (k := .i32) (by kernel_rfl))
  have q1 := opensFsP_cons (P := Tryd.prog) (f := arrF Tryd.prog 22 1) (off := 1) (sz := 1) (by kernel_rfl) (by kernel_rfl) (opensP_int (k := .i32) (by kernel_rfl)) q2
  have q0 := opensFsP_cons (P := Tryd.prog) (f := arrF Tryd.prog 22 0) (off := 0) (sz := 1) (by kernel_rfl) (by kernel_rfl) (opensP_int (k := .i32) (by kernel_rfl)) q1
  exact opensP_arr (g := fun p : Int × Int × Int => (⟨p.1, p.2.1, p.2.2⟩ : X.S39)) (n := 3) (e := 22) Tryd.underlying39 (by kernel_rfl) q0 (fun _ => rfl) (fun _ h => h)
set_option maxRecDepth 100000 in
theorem lifted (os : Os) (started : os.Started) (H : Type) (enc : TypeId × Value → H) :
    ReturnsInHanded {} Tryd.checked os 4 .any (fun w args => (Rows.daycountPiecesSpec.pre enc Tryd.prog Tryd.f4 [] false w args ∧ laidMetH Tryd.prog Rows.daycountPiecesRow.laid w) ∧ sizedMet enc Tryd.prog Tryd.f4 (OpenSpec.ofChange Rows.daycountPiecesSpec) false w args) (Rows.daycountPiecesSpec.post enc Tryd.prog Tryd.f4 false true false false) := by
  refine returnsInHanded_of_change_and (C := Tryd.checked) (X := fun w _ => laidMetH Tryd.prog Rows.daycountPiecesRow.laid w) (fun _ _ _ hh h => h.of_heap hh) own started (by kernel_rfl) Tryd.func4
    (ChangeSpec.witness_shaped (enc := enc) (C := Tryd.checked) (os := os) (X := fun w _ => laidMetH Tryd.prog Rows.daycountPiecesRow.laid w) false (World.doorLaid Tryd.prog 4000 os) #[.int .u8 0, .agg #[.int .i32 0, .int .i32 0, .int .i32 0]] 8 rfl (World.shaped_of_RefB (by kernel_rfl) (by kernel_rfl)) (by kernel_rfl) (by kernel_rfl) (by kernel_rfl) (door_met os _)) ?_
  intro W base args ds gs before hval0 hW hcnd hsz0 hL _
  have hG := glob_of_laid hL
  have hval : ∀ (j : Nat) t v, Tryd.f4.params[j]? = some t → args[j]? = some v → Value.okWide Tryd.prog W .any base t v := hval0
  have hW' := hW
  obtain ⟨p, q, hA0, hV, rfl, hfz, hnd⟩ := hW
  have hA : DataW.TrodAll enc Tryd.prog W 0 (fun _ => true) true Tryd.f4.params.toList args.toList ds p := hA0
  rw [Tryd.params4] at hA hval
  obtain ⟨v0, vs0, d0, ds0, p0, q0, hargs, rfl, rfl, h0, r0⟩ := trodAll_cons hA
  obtain ⟨v1, vs1, d1, ds1, p1, q1, rfl, rfl, rfl, h1, r1⟩ := trodAll_cons r0
  obtain ⟨rfl, rfl, rfl⟩ := trodAll_nil r1
  obtain rfl : args = #[v0, v1] := by cases args; simp_all
  obtain ⟨rfl, rfl⟩ := trodVars_none hV
  obtain ⟨a0, rfl, rfl, rfl, hw0⟩ := open_int Tryd.underlying5 (hval 0 5 v0 rfl rfl) h0
  have k1 := h1
  have lt1 : ∀ x ∈ p1, x.block < W.heap.size := by obtain ⟨m, hm⟩ := k1; exact DataW.trod_lt m _ _ _ hm
  obtain ⟨a1, hr1, hw1⟩ := arg_aggP (T := 39) (by kernel_rfl) op39 (hval 1 39 v1 rfl rfl) k1
  clear hA0 hval0 hsz0
  obtain ⟨k, h⟩ := Pure.DaycountPieces a0 a1 hw0 hw1
  have hR := X.cashbooklaw05_DaycountPieces.ok k a0 a1 true h
  refine (hR.calls X.progOk ext0_ok (I := allI W) (vals := #[.int .u8 a0, v1]) hG allI_lt (RepAs.cons arg_intP (RepAs.cons hr1 RepAs.nil))).mono fun e W' ⟨v, I', he, bel0, hres⟩ => ?_
  have bel : Below W.heap.size W W' := bel0
  obtain rfl := res_bool hres
  subst he
  exact ⟨_, rfl, _, _, _, [], _, [], hW', trodAll_mk1 (shut_bool Tryd.underlying4 _), (trodAll_cons_mk (shut_int Tryd.underlying5 hw0) (trodAll_cons_mk (Below.trod laidOut (by kernel_rfl) (of_decide_eq_true (by kernel_rfl)) k1 bel lt1) trodAll_mk0)), rfl, bel.frame _, fun h => by cases h⟩
theorem over : Rows.daycountPiecesRow.holds Tryd.pinned (OpenSpec.ofChange Rows.daycountPiecesSpec) :=
  OpenClaim.holds_of_wide 4 Tryd.f4 rfl rfl rfl rfl rfl rfl rfl ⟨rfl, rfl, rfl, rfl, rfl⟩ rfl rfl rfl rfl rfl (by kernel_rfl) Tryd.func4 (by kernel_rfl)
    (of_decide_eq_true (by kernel_rfl)) (by unfold Func.isWrapper; first | (rw [if_pos (by decide +kernel)]; kernel_rfl) | (rw [if_neg (by decide +kernel)]; exact ⟨rfl, rfl⟩))
    (fun os started H enc _ => lifted os started H enc)
theorem proved : Rows.DaycountPiecesSaid := over
end Go.Proofs.YtjhljcnjafbkfaaDoor.daycountPieces
namespace Go.Proofs.YtjhljcnjafbkfaaDoor
/-- The tied card. -/
theorem daycountPieces_holds : Rows.DaycountPiecesCardSaid :=
  Claim7.holds_tied_plain_at .later [] [.data, .widerDeep] true (true, "015047dd7ad21ca3fcd62bdc6d8d46da02791abe62693104f53f573b7a10217f") false
    daycountPieces.proved (fun _ h => by cases h) (by kernel_rfl) (fun _ h => by cases h) daycountPieces_row_tie rfl ⟨rfl, rfl⟩ (by kernel_rfl) rfl
    (fun f fn hf hfn => by
      obtain rfl : f = 4 := Option.some.inj ((show Tryd.prog.funcNamed "cashbook/cashbooklaw05.DaycountPieces" = some 4 by kernel_rfl).symm.trans hf) |>.symm
      obtain rfl : fn = Tryd.f4 := (Option.some.inj (Tryd.func4.symm.trans hfn)).symm
      exact ⟨by kernel_rfl, fun j t ht => by
        rw [Tryd.params4] at ht
        have hm : t ∈ [5, 39] := by have h0 := Array.mem_of_getElem? ht; simp at h0; first | (rcases h0 with rfl | rfl | rfl <;> simp; done) | (rcases h0 with rfl | rfl <;> simp; done) | (subst h0; simp; done) | (simp; omega)
        have hall : ([5, 39].all fun u => !Tryd.prog.wantsStandIn u) = true := by kernel_rfl
        exact (show Tryd.prog.wantsStandIn t = false by simpa using List.all_eq_true.1 hall t hm)⟩)
    (by kernel_rfl)
#print axioms daycountPieces_holds
end Go.Proofs.YtjhljcnjafbkfaaDoor
