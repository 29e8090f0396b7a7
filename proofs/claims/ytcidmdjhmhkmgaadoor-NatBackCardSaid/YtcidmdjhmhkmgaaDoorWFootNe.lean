-- CUT by prune.py (wip/prune.py, a program of this session's) out of the words that the kit's own.py wrote: theorems that no text here names are left out. No longer as printed.
import Derived.Test.YtcidmdjhmhkmgaaDoorWN
/-! ### 52. A row that stays read whatever happens to a block (a set of blocks) doesn't lie there -/
namespace Go.Proofs.YtcidmdjhmhkmgaaDoorW.PrintWords
open Go.RowKit
namespace Kd
section
variable {α : Type} {d : Kd α} {W : World} {g n : Nat} {S ok : Nat → Prop} {A : Option Addr} {ad : Addr} {xs : List α}
end
end Kd
end Go.Proofs.YtcidmdjhmhkmgaaDoorW.PrintWords
