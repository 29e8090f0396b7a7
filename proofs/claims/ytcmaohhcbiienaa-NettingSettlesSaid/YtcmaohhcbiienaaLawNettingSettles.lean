/- NettingSettles: the statement of the law, out of its plain law (YtcmaohhcbiienaaPureNettingSettles) and the walks of what it reaches. -/
import Derived.Test.YtcmaohhcbiienaaRows
import Derived.Test.YtcmaohhcbiienaaS
import Derived.Test.YtcmaohhcbiienaaLOpens
import Derived.Test.YtcmaohhcbiienaaPureNettingSettles
import Derived.WalkKit
import Derived.ProofKit
import Derived.OpenShut
import Derived.ShutString
import Derived.ChangeOld
import Derived.Below
import Derived.SizedLaws
namespace Go.Proofs.Ytcmaohhcbiienaa.nettingSettles
open Go.ChangeShapes Go.WideShapes Go.ChangeAt Go.RowKit Go.Proofs.Ytcmaohhcbiienaa.Opens Go.Proofs.YtcmaohhcbiienaaW.PrintWords
open Go.ChangeMaps (open_string shut_string)
set_option linter.unusedVariables false
theorem own : ownKnob Try.prog.godebug = none := by kernel_rfl
theorem laidOut : laidOutB Try.prog = true := by kernel_rfl
theorem opens56 : Opens Try.prog S.k56 56 S.wf56 := opens_struct (f := fun x : S.S56 => (x.f0, x.f1)) (g := fun p => (⟨p.1, p.2⟩ : S.S56)) Try.underlying56 (by kernel_rfl) (opensFs_cons rfl (by kernel_rfl) (opens_int Try.underlying23) (opensFs_one rfl (by kernel_rfl) (opens_int Try.underlying2))) (fun _ => rfl) (fun _ h => h)
theorem opens58 : Opens Try.prog S.k58 58 S.wf58 := opens_struct (f := fun x : S.S58 => (x.f0, x.f1, x.f2, x.f3, x.f4)) (g := fun p => (⟨p.1, p.2.1, p.2.2.1, p.2.2.2.1, p.2.2.2.2⟩ : S.S58)) Try.underlying58 (by kernel_rfl) (opensFs_cons rfl (by kernel_rfl) (opens_int Try.underlying3) (opensFs_cons rfl (by kernel_rfl) (opens_int Try.underlying3) (opensFs_cons rfl (by kernel_rfl) (opens_int Try.underlying3) (opensFs_cons rfl (by kernel_rfl) opens56 (opensFs_one rfl (by kernel_rfl) (opens_int Try.underlying24)))))) (fun _ => rfl) (fun _ h => h)
set_option maxRecDepth 100000 in
theorem lifted (os : Os) (started : os.Started) (H : Type) (enc : TypeId × Value → H) :
    ReturnsInHanded {} Try.checked os 4 .any (Rows.nettingSettlesSpec.pre6 enc Try.prog Try.f4 Rows.nettingSettlesRow.domain false) (Rows.nettingSettlesSpec.post enc Try.prog Try.f4 false true false false) := by
  refine returnsInHanded_of_change_sized (C := Try.checked) own started (by kernel_rfl) Try.func4
    (ChangeSpec.witness6 (enc := enc) (C := Try.checked) false ⟨#[], #[.slice none 0 0, .int .i64 0, .int .i32 0], []⟩ 8 (by kernel_rfl) (by kernel_rfl) (by kernel_rfl) (by kernel_rfl)) ?_
  intro W base args ds gs before hval0 hW hcnd hsz0 _
  have hsz : (DataW.weightsEach Try.prog (Try.f4.params.toList ++ Rows.nettingSettlesSpec.plain.varTypes Try.prog) (ds ++ gs)).all (· ≤ reachBytes) = true := hsz0
  have hval : ∀ (j : Nat) t v, Try.f4.params[j]? = some t → args[j]? = some v → Value.okWide Try.prog W .any base t v := hval0
  have hW' := hW
  obtain ⟨p, q, hA0, hV, rfl, hfz, hnd⟩ := hW
  have hA : DataW.TrodAll enc Try.prog W 0 (fun _ => true) true Try.f4.params.toList args.toList ds p := hA0
  rw [Try.params4] at hA hval hsz
  obtain ⟨v0, vs0, d0, ds0, p0, q0, hargs, rfl, rfl, h0, r0⟩ := trodAll_cons hA
  obtain ⟨v1, vs1, d1, ds1, p1, q1, rfl, rfl, rfl, h1, r1⟩ := trodAll_cons r0
  obtain ⟨v2, vs2, d2, ds2, p2, q2, rfl, rfl, rfl, h2, r2⟩ := trodAll_cons r1
  obtain ⟨rfl, rfl, rfl⟩ := trodAll_nil r2
  obtain rfl : args = #[v0, v1, v2] := by cases args; simp_all
  obtain ⟨rfl, rfl⟩ := trodVars_none hV
  obtain ⟨a0, len0, cap0, rfl⟩ := okWide_slice Try.underlying22 (hval 0 22 v0 rfl rfl)
  have k0 := h0
  have lt0 : ∀ x ∈ p0, x.block < W.heap.size := by obtain ⟨m, hm⟩ := k0; exact DataW.trod_lt m _ _ _ hm
  obtain ⟨A0, c0, l0, e0, hc0, hr0, hw0⟩ := arg_slice (opens_slice Try.underlying22 (by kernel_rfl) opens58) k0 ⟨_, _, _, rfl⟩
  simp only [Value.slice.injEq] at e0
  obtain ⟨rfl, rfl, rfl⟩ := e0
  obtain ⟨a1, rfl, rfl, rfl, hw1⟩ := open_int Try.underlying23 (hval 1 23 v1 rfl rfl) h1
  obtain ⟨a2, rfl, rfl, rfl, hw2⟩ := open_int Try.underlying24 (hval 2 24 v2 rfl rfl) h2
  clear hA0 hval0 hsz0 hsz
  obtain ⟨k, h⟩ := Pure.NettingSettles l0 a1 a2 hw0 hw1 hw2
  refine (S.cashbooklaw30_NettingSettles.calls k _ _ l0 a1 a2 true W hr0 hc0 h).mono fun e W' ⟨he, bel0⟩ => ?_
  have bel : Below W.heap.size W W' := bel0
  subst he
  exact ⟨_, rfl, _, _, _, [], _, [], hW', trodAll_mk1 (shut_bool Try.underlying4 _), (trodAll_cons_mk (Below.trod laidOut (by kernel_rfl) (of_decide_eq_true (by kernel_rfl)) k0 bel lt0) (trodAll_cons_mk (shut_int Try.underlying23 hw1) (trodAll_cons_mk (shut_int Try.underlying24 hw2) trodAll_mk0))), rfl, bel.frame _, fun h => by cases h⟩
theorem over : Rows.nettingSettlesRow.holds Try.pinned (OpenSpec.ofChange Rows.nettingSettlesSpec) :=
  OpenClaim.holds_of_wide 4 Try.f4 rfl rfl rfl rfl rfl rfl rfl ⟨rfl, rfl, rfl, rfl, rfl⟩ rfl rfl rfl rfl rfl (by kernel_rfl) Try.func4 (by kernel_rfl)
    (of_decide_eq_true (by kernel_rfl)) (by unfold Func.isWrapper; first | (rw [if_pos (by decide +kernel)]; kernel_rfl) | (rw [if_neg (by decide +kernel)]; exact ⟨rfl, rfl⟩))
    (fun os started H enc _ => lifted os started H enc)
theorem proved : Rows.NettingSettlesSaid := over
#print axioms proved
end Go.Proofs.Ytcmaohhcbiienaa.nettingSettles
namespace Go.Proofs.Ytcmaohhcbiienaa
/-- The row, under a short name, for the claim. -/
theorem nettingSettles_holds : Rows.NettingSettlesSaid := nettingSettles.proved
end Go.Proofs.Ytcmaohhcbiienaa
