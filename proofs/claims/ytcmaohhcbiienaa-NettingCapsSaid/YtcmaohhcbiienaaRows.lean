/-
  No cell of these rows narrows 'for every input' (looked for: loops, veiled, ifaces, maps, wideKeys, modest, calm, conditions, laid).
  DERIVED. THE GIVEN ROWS OF THIS SEAT. 4 by the template 'for every input the law returns true; each argument reads behind the call as it read before'; 0 by the template 'total and deterministic' (their statements: YtcmaohhcbiienaaTotals.lean).
  GIVEN WITH THE SEED: the statements are not yours to turn. If you find one false, say at which input.
  Laid BY PROGRAM, IN A SANDBOX (cutbox-rows.mjs): the forced cells as the released guide's own fill.sh prints them over the translation 6e806a08d78c5bee… (all of the seat's roots in one cut). By AI agents, Wed Nov 11 2026. No macro, syntax, notation, axiom, sorry.
-/
import Derived.Test.YtcmaohhcbiienaaChecked
import GoSem.Claim
import GoSem.ClaimJoined
import GoSem.ClaimMapViews
import Derived.JoinedTies
import Derived.KernelRfl
namespace Go.Proofs.Ytcmaohhcbiienaa
/- THE CELL 'sum', in the pinned program and in every row, IS THE sha256 OF THE DUMP (.gsa) THAT YtcmaohhcbiienaaProg.lean LOADS. Nothing in Lean hashes anything: it is a label: what it is worth is what the hold of that sum in a sandbox is worth. -/
noncomputable def Try.pinned : Pinned := { name := "ytcmaohhcbiienaa", sum := "6e806a08d78c5bee14178ade938ffc7be23ce6caf5e7c17e5dfa76b0614b3a71", checked := Try.checked }
namespace Rows
def none {H : Type} : Left H := { results := [], args := [] }

/-- 'cashbooklaw30.NettingNets': WHATEVER THE INPUT: true; the input reads as it did. -/
def nettingNetsSpec : ChangeSpec := { name := "nettingNets", fn := fun _ => fun
  | [d1, d2, d3, d4] => { results := [.lit (.bool true)], args := [d1, d2, d3, d4] }
  | _ => none }
def nettingNetsRow : OpenClaim := { program := "ytcmaohhcbiienaa", sum := "6e806a08d78c5bee14178ade938ffc7be23ce6caf5e7c17e5dfa76b0614b3a71", func := "cashbook/cashbooklaw30.NettingNets", spec := "nettingNets", apart := false }
def NettingNetsSaid : Prop := nettingNetsRow.holds Try.pinned (OpenSpec.ofChange nettingNetsSpec)

/-- ITS FALSE NEIGHBOUR: 'it returns false'. Refute it at one input. -/
def nettingNetsWrong : ChangeSpec := { name := "nettingNets", fn := fun _ => fun
  | [d1, d2, d3, d4] => { results := [.lit (.bool false)], args := [d1, d2, d3, d4] }
  | _ => none }
def NettingNetsWrongFalsely : Prop := nettingNetsRow.holds Try.pinned (OpenSpec.ofChange nettingNetsWrong)

/-- 'cashbooklaw30.NettingSettles': WHATEVER THE INPUT: true; the input reads as it did. -/
def nettingSettlesSpec : ChangeSpec := { name := "nettingSettles", fn := fun _ => fun
  | [d1, d2, d3] => { results := [.lit (.bool true)], args := [d1, d2, d3] }
  | _ => none }
def nettingSettlesRow : OpenClaim := { program := "ytcmaohhcbiienaa", sum := "6e806a08d78c5bee14178ade938ffc7be23ce6caf5e7c17e5dfa76b0614b3a71", func := "cashbook/cashbooklaw30.NettingSettles", spec := "nettingSettles", apart := false }
def NettingSettlesSaid : Prop := nettingSettlesRow.holds Try.pinned (OpenSpec.ofChange nettingSettlesSpec)

/-- ITS FALSE NEIGHBOUR: 'it returns false'. Refute it at one input. -/
def nettingSettlesWrong : ChangeSpec := { name := "nettingSettles", fn := fun _ => fun
  | [d1, d2, d3] => { results := [.lit (.bool false)], args := [d1, d2, d3] }
  | _ => none }
def NettingSettlesWrongFalsely : Prop := nettingSettlesRow.holds Try.pinned (OpenSpec.ofChange nettingSettlesWrong)

/-- 'cashbooklaw30.NettingRuns': WHATEVER THE INPUT: true; the input reads as it did. -/
def nettingRunsSpec : ChangeSpec := { name := "nettingRuns", fn := fun _ => fun
  | [d1, d2, d3, d4] => { results := [.lit (.bool true)], args := [d1, d2, d3, d4] }
  | _ => none }
def nettingRunsRow : OpenClaim := { program := "ytcmaohhcbiienaa", sum := "6e806a08d78c5bee14178ade938ffc7be23ce6caf5e7c17e5dfa76b0614b3a71", func := "cashbook/cashbooklaw30.NettingRuns", spec := "nettingRuns", unfollowed := true, recurses := true, apart := false }
def NettingRunsSaid : Prop := nettingRunsRow.holds Try.pinned (OpenSpec.ofChange nettingRunsSpec)

/-- ITS FALSE NEIGHBOUR: 'it returns false'. Refute it at one input. -/
def nettingRunsWrong : ChangeSpec := { name := "nettingRuns", fn := fun _ => fun
  | [d1, d2, d3, d4] => { results := [.lit (.bool false)], args := [d1, d2, d3, d4] }
  | _ => none }
def NettingRunsWrongFalsely : Prop := nettingRunsRow.holds Try.pinned (OpenSpec.ofChange nettingRunsWrong)

/-- 'cashbooklaw30.NettingCaps': WHATEVER THE INPUT: true; the input reads as it did. -/
def nettingCapsSpec : ChangeSpec := { name := "nettingCaps", fn := fun _ => fun
  | [d1, d2, d3, d4] => { results := [.lit (.bool true)], args := [d1, d2, d3, d4] }
  | _ => none }
def nettingCapsRow : OpenClaim := { program := "ytcmaohhcbiienaa", sum := "6e806a08d78c5bee14178ade938ffc7be23ce6caf5e7c17e5dfa76b0614b3a71", func := "cashbook/cashbooklaw30.NettingCaps", spec := "nettingCaps", unfollowed := true, recurses := true, apart := false }
def NettingCapsSaid : Prop := nettingCapsRow.holds Try.pinned (OpenSpec.ofChange nettingCapsSpec)

/-- ITS FALSE NEIGHBOUR: 'it returns false'. Refute it at one input. -/
def nettingCapsWrong : ChangeSpec := { name := "nettingCaps", fn := fun _ => fun
  | [d1, d2, d3, d4] => { results := [.lit (.bool false)], args := [d1, d2, d3, d4] }
  | _ => none }
def NettingCapsWrongFalsely : Prop := nettingCapsRow.holds Try.pinned (OpenSpec.ofChange nettingCapsWrong)

/- THE SECOND FORM. 'bulk': how many values and letters a reading holds, each counted each time it is reached (what is shared counts as often as it is met; a slice's spare places count too). A statement '..UptoSaid' is the law's where the arguments, and the package variables that the reading takes, are together of bulk at most 1048576: NARROWER than '..Said'. Prove '..Said' where nothing that the law and all that it calls make is longer than what came in: it says more and counts as full. Else prove '..UptoSaid'. A law counts once. -/
mutual
def uptoBulk {H : Type} : DataW H → Nat
  | .lit (.string bytes) => bytes.length + 1
  | .lit _ => 1
  | .nil => 1
  | .ptr d => uptoBulk d + 1
  | .slice elems spare => uptoBulkAll elems + uptoBulkAll spare + 1
  | .agg parts => uptoBulkAll parts + 1
  | .iface _ d => uptoBulk d + 1
  | .map entries => uptoBulkEntries entries + 1
  | .held _ => 1
def uptoBulkAll {H : Type} : List (DataW H) → Nat
  | [] => 0
  | d :: r => uptoBulk d + uptoBulkAll r
def uptoBulkEntries {H : Type} : List (Lit × DataW H) → Nat
  | [] => 0
  | x :: r => uptoBulkEntry x + uptoBulkEntries r
def uptoBulkEntry {H : Type} : Lit × DataW H → Nat
  | (.string bytes, d) => bytes.length + uptoBulk d + 1
  | (_, d) => uptoBulk d + 1
 end
def uptoSmall : (H : Type) → List (DataW H) → Bool := fun _ ds => decide (uptoBulkAll ds ≤ 1048576)
def OpenSpec.upto (s : _root_.Go.ChangeSpec) : _root_.Go.OpenSpec := { _root_.Go.OpenSpec.ofChange s with cond := some uptoSmall }

/-- 'cashbooklaw30.NettingNets', WHERE WHAT IT READS IS OF BULK AT MOST 1048576: true; the input reads as it did. -/
def nettingNetsUptoRow : OpenClaim := { program := "ytcmaohhcbiienaa", sum := "6e806a08d78c5bee14178ade938ffc7be23ce6caf5e7c17e5dfa76b0614b3a71", func := "cashbook/cashbooklaw30.NettingNets", spec := "nettingNets", apart := false, narrowed := true }
def NettingNetsUptoSaid : Prop := nettingNetsUptoRow.holds Try.pinned (OpenSpec.upto nettingNetsSpec)

/-- 'cashbooklaw30.NettingSettles', WHERE WHAT IT READS IS OF BULK AT MOST 1048576: true; the input reads as it did. -/
def nettingSettlesUptoRow : OpenClaim := { program := "ytcmaohhcbiienaa", sum := "6e806a08d78c5bee14178ade938ffc7be23ce6caf5e7c17e5dfa76b0614b3a71", func := "cashbook/cashbooklaw30.NettingSettles", spec := "nettingSettles", apart := false, narrowed := true }
def NettingSettlesUptoSaid : Prop := nettingSettlesUptoRow.holds Try.pinned (OpenSpec.upto nettingSettlesSpec)

/-- 'cashbooklaw30.NettingRuns', WHERE WHAT IT READS IS OF BULK AT MOST 1048576: true; the input reads as it did. -/
def nettingRunsUptoRow : OpenClaim := { program := "ytcmaohhcbiienaa", sum := "6e806a08d78c5bee14178ade938ffc7be23ce6caf5e7c17e5dfa76b0614b3a71", func := "cashbook/cashbooklaw30.NettingRuns", spec := "nettingRuns", unfollowed := true, recurses := true, apart := false, narrowed := true }
def NettingRunsUptoSaid : Prop := nettingRunsUptoRow.holds Try.pinned (OpenSpec.upto nettingRunsSpec)

/-- 'cashbooklaw30.NettingCaps', WHERE WHAT IT READS IS OF BULK AT MOST 1048576: true; the input reads as it did. -/
def nettingCapsUptoRow : OpenClaim := { program := "ytcmaohhcbiienaa", sum := "6e806a08d78c5bee14178ade938ffc7be23ce6caf5e7c17e5dfa76b0614b3a71", func := "cashbook/cashbooklaw30.NettingCaps", spec := "nettingCaps", unfollowed := true, recurses := true, apart := false, narrowed := true }
def NettingCapsUptoSaid : Prop := nettingCapsUptoRow.holds Try.pinned (OpenSpec.upto nettingCapsSpec)

end Rows
end Go.Proofs.Ytcmaohhcbiienaa
