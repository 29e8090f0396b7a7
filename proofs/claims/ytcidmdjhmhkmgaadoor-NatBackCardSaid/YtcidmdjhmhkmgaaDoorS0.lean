-- Printed by pp.py (wip/pp), a program of this session's, over the kit's print; Lean checks it.
import Derived.Test.YtcidmdjhmhkmgaaDoorProg
import Derived.Below
import Derived.Deep.Draws
import Derived.Deep.AppendLies
import Derived.Maps.AppendAt
import Derived.OwnWalk
import Derived.Laws.BytesArg
import Derived.Laws.MakeOwn
import Derived.Laws.OwnMore
import Derived.Deep.OwnRows
import Derived.Tactics
import Derived.Lib.ConvBytes
import Derived.Laws.Slices
import Derived.WalkKit
import Derived.KernelRfl
import Derived.RowKit3
import Derived.Deep.LoopGhost
import Derived.Deep.QuietTactic
import Derived.BigQuiet
import Derived.WideLaws
import Derived.Deep.DeepCutAuto
import Derived.Deep.CutBlock
import Derived.Deep.RegionHeld3
import Derived.Laws.Rows
import Derived.Lib.AppendStr
import Derived.ArgAppend
import Derived.Laws.IdiomCopy
import Derived.OrdersHeld
import Derived.Laws.BitsLemmas
import Derived.RowKit
import Derived.Lib.SliceRun
import Derived.StillTailTactics
import Derived.Lib.OthersKept
import Derived.Laws.RangeString
import Derived.Lib.Hide
import Derived.RangeFuncNested
import Derived.RangeFuncBound
import Derived.RangeFuncCalls
import Derived.RangeFuncLeaves
import Derived.RangeFuncBox
import Derived.Shelf.Abstract
import Derived.Shelf.RegionOpen
import Derived.WalkKit
import Derived.OwnWalkIn
import Derived.TacticsInMore
import Derived.LoopNIn
import Derived.LoopIn
import Derived.WalkSpells
import Derived.Lib.ItoaMem
import Derived.Lib.Walk
import Derived.BigCall
import Derived.BigGuard
import Derived.Shelf.Strconv.Itoa2
import Derived.Test.YtcidmdjhmhkmgaaDoorShelf
import Derived.Test.YtcidmdjhmhkmgaaDoorWWords
import Derived.Test.YtcidmdjhmhkmgaaDoorWLast
import Derived.Test.YtcidmdjhmhkmgaaDoorWTab
import Derived.Test.YtcidmdjhmhkmgaaDoorWFour
import Derived.Test.YtcidmdjhmhkmgaaDoorWQPut
import Derived.Test.YtcidmdjhmhkmgaaDoorWApart
import Derived.Test.YtcidmdjhmhkmgaaDoorWArr
import Derived.Test.YtcidmdjhmhkmgaaDoorWZeros
import Derived.Test.YtcidmdjhmhkmgaaDoorWFoot
import Derived.Test.YtcidmdjhmhkmgaaDoorWKept
import Derived.Test.YtcidmdjhmhkmgaaDoorWShare
import Derived.Test.YtcidmdjhmhkmgaaDoorWN
import Derived.Test.YtcidmdjhmhkmgaaDoorWFootNe
import Derived.Test.YtcidmdjhmhkmgaaDoorWAt
import Derived.Test.YtcidmdjhmhkmgaaDoorWEqStruct
import Derived.Test.YtcidmdjhmhkmgaaDoorWRepsOne
import Derived.Test.YtcidmdjhmhkmgaaDoorWInv
import Derived.Test.YtcidmdjhmhkmgaaDoorWInvWords
import Derived.Test.YtcidmdjhmhkmgaaDoorWGuard
import Derived.Test.YtcidmdjhmhkmgaaDoorWNEv
import Derived.Test.YtcidmdjhmhkmgaaDoorWMore
namespace Go.Proofs.YtcidmdjhmhkmgaaDoor.S
open Go.RowKit Go.Proofs.YtcidmdjhmhkmgaaDoorW.PrintWords Go.Proofs.YtcidmdjhmhkmgaaDoorW.PrintLast Go.Proofs.YtcidmdjhmhkmgaaDoorW.PrintMore
attribute [local go_sem] max2_int min2_int max_two min_two max_three min_three max_four min_four   -- for this text's walks alone
set_option linter.unusedVariables false
set_option linter.unusedSimpArgs false



def errW : Option Int → Value
  | none => .nilIface
  | some c => .iface 0 (.int .i64 c)
theorem errW_none : errW none = .nilIface := rfl
theorem errW_some (c : Int) : errW (some c) = .iface 0 (.int .i64 c) := rfl

theorem info3 : (Tryd.prog.info? 3).map (fun i => (i.zero, i.size, i.bytes)) = some (some (.int .i64 0), 1, 8) := by kernel_rfl
theorem info5 : (Tryd.prog.info? 5).map (fun i => (i.zero, i.size, i.bytes)) = some (some (.int .u8 0), 1, 1) := by kernel_rfl
theorem info9 : (Tryd.prog.info? 9).map (fun i => (i.zero, i.size, i.bytes)) = some (some (.string ⟨#[]⟩), 1, 16) := by kernel_rfl
theorem info56 : (Tryd.prog.info? 56).map (fun i => (i.zero, i.size, i.bytes)) = some (some (.int .u32 0), 1, 4) := by kernel_rfl
-- the values' own types
def rd_L1 (xs : List (List Int)) (i : Int) : (List Int) := xs.getD i.toNat ([] : List Int)
theorem at_L1 {w : World} {A : Option Addr} {n : Nat} {xs : List (List Int)} (h : Kd.C (Kd.slice 56 (Kd.int .u32)) w A n xs) (i : Int) (h0 : 0 ≤ i) (h1 : i < n) : ∃ ad A0 c0, A = some ad ∧ w.cell? (ad.add i.toNat) = some (.slice A0 (rd_L1 xs i).length c0) ∧ (rd_L1 xs i).length ≤ c0 ∧ (Kd.int .u32).C w A0 (rd_L1 xs i).length (rd_L1 xs i) := by
  obtain ⟨ad, c, e, _, hK, hc0⟩ := Kd.C_get h ([] : List Int) i h0 h1
  have hc : ∀ j u, c[j]? = some u → w.cell? (ad.add (i.toNat * 1 + j)) = some u := hc0
  obtain ⟨A0, c0, rfl, l0, g0⟩ := hK
  exact ⟨ad, A0, c0, e, by have hq := hc 0 _ rfl; rwa [Nat.mul_one, Nat.add_zero] at hq, l0, g0⟩


theorem typed_again {α : Type} {d : Kd α} {e g n c : Nat} {w : World} {base : Nat} {ok : Nat → Prop} {xs : List α} (h : d.R e w base ok (.slice (some ⟨g, 0, none⟩) n c) xs) : ∃ cells, w.heap[g]? = some (.cells cells e (0, 0)) := by
  obtain ⟨inner, ho⟩ := Kd.R_own h
  exact own_typed ho g rfl
theorem u8_w (x : Int) : IntKind.u8.wrap x = x % 256 := IntKind.wrap_u8 x
theorem w64_256 (x : Int) : wrap64 (x % 256) = x % 256 := by unfold wrap64; omega

end Go.Proofs.YtcidmdjhmhkmgaaDoor.S
