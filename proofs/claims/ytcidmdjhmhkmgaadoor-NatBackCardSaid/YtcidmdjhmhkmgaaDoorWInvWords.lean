-- CUT by prune.py (wip/prune.py, a program of this session's) out of the words that the kit's own.py wrote: theorems that no text here names are left out. No longer as printed.
import Derived.Test.YtcidmdjhmhkmgaaDoorWInv
import Derived.Test.YtcidmdjhmhkmgaaDoorWFootNe
namespace Go.Proofs.YtcidmdjhmhkmgaaDoorW.PrintWords
open Go.RowKit
end Go.Proofs.YtcidmdjhmhkmgaaDoorW.PrintWords
namespace Go.Proofs.YtcidmdjhmhkmgaaDoorW.PrintLast
section
variable {ops : Array Oper} {a : Act} {o og : Oper} {g : Nat} {t : Tmp} {u : Bool}
end
end Go.Proofs.YtcidmdjhmhkmgaaDoorW.PrintLast
