-- CUT by prune.py (wip/prune.py, a program of this session's) out of the words that the kit's own.py wrote: theorems that no text here names are left out. No longer as printed.
import Derived.Test.YtcidmdjhmhkmgaaDoorWTab
/-! ### 56. Four, five, six operations that may come up next, in any order -/
namespace Go.Proofs.YtcidmdjhmhkmgaaDoorW.PrintLast
section
variable {P : Program} {ops : Array Oper} {Q : Exit → Act → World → Prop} {md : Region.Mode} {S : World → Prop} {ds : List Nat} {T : Bool × List (List Nat × List Nat)}
end
end Go.Proofs.YtcidmdjhmhkmgaaDoorW.PrintLast
