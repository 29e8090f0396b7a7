/- NettingCaps: the statement of the law, out of its plain law (YtcmaohhcbiienaaNtCaps) and what the evaluator says of the functions that it reaches. No condition. -/
import Derived.Test.YtcmaohhcbiienaaRows
import Derived.Test.YtcmaohhcbiienaaYP
import Derived.Test.YtcmaohhcbiienaaNtCaps
import Derived.WalkKit
import Derived.ProofKit
import Derived.OpenShut
import Derived.ShutString
import Derived.ChangeOld
import Derived.Below
import Derived.SizedLaws
namespace Go.Proofs.Ytcmaohhcbiienaa.nettingCaps
open Go.ChangeShapes Go.WideShapes Go.ChangeAt Go.RowKit Go.Proofs.Ytcmaohhcbiienaa Go.Proofs.Ytcmaohhcbiienaa.X
open Go.ChangeMaps (open_string shut_string)
set_option linter.unusedVariables false
theorem own : ownKnob Try.prog.godebug = none := by kernel_rfl
theorem laidOut : laidOutB Try.prog = true := by kernel_rfl
theorem progOk : ProgOk C0.E C0.H := progOk_of (by kernel_rfl) (by kernel_rfl)
theorem extOk : ExtOk C0.E C0.ext := fun _ _ _ _ h => by cases h
theorem op56 : OpensP Try.prog 2 X.e56 56 X.wf56 := by
  have q1 := opensFsP_one (P := Try.prog) (f := fl Try.prog 56 1) (off := 1) (sz := 1) (by kernel_rfl) (by kernel_rfl) (opensP_int (k := .i64) (by kernel_rfl))
  have q0 := opensFsP_cons (P := Try.prog) (f := fl Try.prog 56 0) (off := 0) (sz := 1) (by kernel_rfl) (by kernel_rfl) (opensP_int (k := .i64) (by kernel_rfl)) q1
  exact opensP_struct (g := fun p : Int × Int => (⟨p.1, p.2⟩ : X.S56)) (fs := #[fl Try.prog 56 0, fl Try.prog 56 1]) (by kernel_rfl) (by kernel_rfl) q0 (fun _ => rfl) (fun _ h => h)
theorem op58 : OpensP Try.prog 6 X.e58 58 X.wf58 := by
  have q4 := opensFsP_one (P := Try.prog) (f := fl Try.prog 58 4) (off := 5) (sz := 1) (by kernel_rfl) (by kernel_rfl) (opensP_int (k := .i32) (by kernel_rfl))
  have q3 := opensFsP_cons (P := Try.prog) (f := fl Try.prog 58 3) (off := 3) (sz := 2) (by kernel_rfl) (by kernel_rfl) (opensP_cast (by kernel_rfl) op56) q4
  have q2 := opensFsP_cons (P := Try.prog) (f := fl Try.prog 58 2) (off := 2) (sz := 1) (by kernel_rfl) (by kernel_rfl) (opensP_int (k := .i64) (by kernel_rfl)) q3
  have q1 := opensFsP_cons (P := Try.prog) (f := fl Try.prog 58 1) (off := 1) (sz := 1) (by kernel_rfl) (by kernel_rfl) (opensP_int (k := .i64) (by kernel_rfl)) q2
  have q0 := opensFsP_cons (P := Try.prog) (f := fl Try.prog 58 0) (off := 0) (sz := 1) (by kernel_rfl) (by kernel_rfl) (opensP_int (k := .i64) (by kernel_rfl)) q1
  exact opensP_struct (g := fun p : Int × Int × Int × X.S56 × Int => (⟨p.1, p.2.1, p.2.2.1, p.2.2.2.1, p.2.2.2.2⟩ : X.S58)) (fs := #[fl Try.prog 58 0, fl Try.prog 58 1, fl Try.prog 58 2, fl Try.prog 58 3, fl Try.prog 58 4]) (by kernel_rfl) (by kernel_rfl) q0 (fun _ => rfl) (fun _ h => h)
set_option maxRecDepth 100000 in
theorem lifted (os : Os) (started : os.Started) (H : Type) (enc : TypeId × Value → H) :
    ReturnsInHanded {} Try.checked os 6 .any (Rows.nettingCapsSpec.pre6 enc Try.prog Try.f6 Rows.nettingCapsRow.domain false) (Rows.nettingCapsSpec.post enc Try.prog Try.f6 false true false false) := by
  refine returnsInHanded_of_change_sized (C := Try.checked) own started (by kernel_rfl) Try.func6
    (ChangeSpec.witness6 (enc := enc) (C := Try.checked) false ⟨#[], #[.slice none 0 0, .int .i64 0, .int .i32 0, .slice none 0 0], []⟩ 8 (by kernel_rfl) (by kernel_rfl) (by kernel_rfl) (by kernel_rfl)) ?_
  intro W base args ds gs before hval0 hW hcnd hsz0 _
  have hsz : (DataW.weightsEach Try.prog (Try.f6.params.toList ++ Rows.nettingCapsSpec.plain.varTypes Try.prog) (ds ++ gs)).all (· ≤ reachBytes) = true := hsz0
  have hval : ∀ (j : Nat) t v, Try.f6.params[j]? = some t → args[j]? = some v → Value.okWide Try.prog W .any base t v := hval0
  have hW' := hW
  obtain ⟨p, q, hA0, hV, rfl, hfz, hnd⟩ := hW
  have hA : DataW.TrodAll enc Try.prog W 0 (fun _ => true) true Try.f6.params.toList args.toList ds p := hA0
  rw [Try.params6] at hA hval hsz
  obtain ⟨v0, vs0, d0, ds0, p0, q0, hargs, rfl, rfl, h0, r0⟩ := trodAll_cons hA
  obtain ⟨v1, vs1, d1, ds1, p1, q1, rfl, rfl, rfl, h1, r1⟩ := trodAll_cons r0
  obtain ⟨v2, vs2, d2, ds2, p2, q2, rfl, rfl, rfl, h2, r2⟩ := trodAll_cons r1
  obtain ⟨v3, vs3, d3, ds3, p3, q3, rfl, rfl, rfl, h3, r3⟩ := trodAll_cons r2
  obtain ⟨rfl, rfl, rfl⟩ := trodAll_nil r3
  obtain rfl : args = #[v0, v1, v2, v3] := by cases args; simp_all
  obtain ⟨rfl, rfl⟩ := trodVars_none hV
  have k0 := h0
  have lt0 : ∀ x ∈ p0, x.block < W.heap.size := by obtain ⟨m, hm⟩ := k0; exact DataW.trod_lt m _ _ _ hm
  obtain ⟨l0, hr0, hw0, hl0⟩ := arg_sliceP (d := X.e58) Try.underlying22 (by kernel_rfl) op58 (hval 0 22 v0 rfl rfl) k0
  obtain ⟨a1, rfl, rfl, rfl, hw1⟩ := open_int Try.underlying23 (hval 1 23 v1 rfl rfl) h1
  obtain ⟨a2, rfl, rfl, rfl, hw2⟩ := open_int Try.underlying24 (hval 2 24 v2 rfl rfl) h2
  have k3 := h3
  have lt3 : ∀ x ∈ p3, x.block < W.heap.size := by obtain ⟨m, hm⟩ := k3; exact DataW.trod_lt m _ _ _ hm
  obtain ⟨l3, hr3, hw3, hl3⟩ := arg_sliceP (d := X.e2) Try.underlying25 (by kernel_rfl) (opensP_int Try.underlying2) (hval 3 25 v3 rfl rfl) k3
  clear hA0 hval0 hsz0 hsz
  obtain ⟨k, h⟩ := P30.NettingCaps l0 a1 a2 l3 hw0 hw1 hw2 hw3
  have hR := X.cashbooklaw30_NettingCaps.ok k l0 a1 a2 l3 true h
  refine (hR.calls progOk extOk (I := allI W) (vals := #[v0, .int .i64 a1, .int .i32 a2, v3]) (fun _ _ h => by cases h) allI_lt (RepAs.cons hr0 (RepAs.cons arg_intP (RepAs.cons arg_intP (RepAs.cons hr3 RepAs.nil))))).mono fun e W' ⟨v, I', he, bel0, hres⟩ => ?_
  have bel : Below W.heap.size W W' := bel0
  obtain rfl := res_bool hres
  subst he
  exact ⟨_, rfl, _, _, _, [], _, [], hW', trodAll_mk1 (shut_bool Try.underlying4 _), (trodAll_cons_mk (Below.trod laidOut (by kernel_rfl) (of_decide_eq_true (by kernel_rfl)) k0 bel lt0) (trodAll_cons_mk (shut_int Try.underlying23 hw1) (trodAll_cons_mk (shut_int Try.underlying24 hw2) (trodAll_cons_mk (Below.trod laidOut (by kernel_rfl) (of_decide_eq_true (by kernel_rfl)) k3 bel lt3) trodAll_mk0)))), rfl, bel.frame _, fun h => by cases h⟩
theorem over : Rows.nettingCapsRow.holds Try.pinned (OpenSpec.ofChange Rows.nettingCapsSpec) :=
  OpenClaim.holds_of_wide 6 Try.f6 rfl rfl rfl rfl rfl rfl rfl ⟨rfl, rfl, rfl, rfl, rfl⟩ rfl rfl rfl rfl rfl (by kernel_rfl) Try.func6 (by kernel_rfl)
    (of_decide_eq_true (by kernel_rfl)) (by unfold Func.isWrapper; first | (rw [if_pos (by decide +kernel)]; kernel_rfl) | (rw [if_neg (by decide +kernel)]; exact ⟨rfl, rfl⟩))
    (fun os started H enc _ => lifted os started H enc)
theorem proved : Rows.NettingCapsSaid := over
#print axioms proved
end Go.Proofs.Ytcmaohhcbiienaa.nettingCaps
namespace Go.Proofs.Ytcmaohhcbiienaa
/-- The row, under a short name, for the claim. -/
theorem nettingCaps_holds : Rows.NettingCapsSaid := nettingCaps.proved
end Go.Proofs.Ytcmaohhcbiienaa
