-- CUT by prune.py (wip/prune.py, a program of this session's) out of the words that the kit's own.py wrote: theorems that no text here names are left out. No longer as printed.
import Derived.Test.YtcidmdjhmhkmgaaDoorWWords
import Derived.Laws.StructEq
/-! ### 53. '==' of structs as_ one Bool -/
namespace Go.Proofs.YtcidmdjhmhkmgaaDoorW.PrintWords
open Go.RowKit
section
variable {P : Program} {d : Nat} {xs ys : Array Value} {f : Field} {fs : List Field} {a b : Value} {r s : Bool} {w : World}
end
end Go.Proofs.YtcidmdjhmhkmgaaDoorW.PrintWords
