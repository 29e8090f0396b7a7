/-
  NARROWER THAN 'FOR EVERY INPUT', by the rows' own cells (each row's printed sentence says how): DaycountTells: laid · DaycountPieces: laid · DaycountWhole: laid.
  DERIVED. THE GIVEN ROWS OF THIS SEAT. 3 by the template 'for every input the law returns true; each argument reads behind the call as it read before'; 0 by the template 'total and deterministic' (their statements: YtjhljcnjafbkfaaDoorTotals.lean).
  GIVEN WITH THE SEED: the statements are not yours to turn. If you find one false, say at which input.
  Laid BY PROGRAM, IN A SANDBOX (cutbox-rows.mjs): the forced cells as the released guide's own fill.sh prints them over the translation e0fe5209635c9ff4… (all of the seat's roots in one cut). By AI agents, Wed Nov 11 2026. No macro, syntax, notation, axiom, sorry.
-/
import Derived.Test.YtjhljcnjafbkfaaDoorChecked
import GoSem.Claim
import GoSem.ClaimJoined
import GoSem.ClaimMapViews
import Derived.JoinedTies
import Derived.KernelRfl
namespace Go.Proofs.YtjhljcnjafbkfaaDoor
/- THE CELL 'sum', in the pinned program and in every row, IS THE sha256 OF THE DUMP (.gsa) THAT YtjhljcnjafbkfaaDoorProg.lean LOADS. Nothing in Lean hashes anything: it is a label: what it is worth is what the hold of that sum in a sandbox is worth. -/
noncomputable def Tryd.pinned : Pinned := { name := "ytjhljcnjafbkfaadoor", sum := "e0fe5209635c9ff4558e32e50d122bc812a9f48c5b783439b8d50decc2f244e7", checked := Tryd.checked }
namespace Rows
def none {H : Type} : Left H := { results := [], args := [] }

/- WHAT THE LISTED PACKAGE-LEVEL VARIABLES READ AS WHEN THE CALL BEGINS. Each datum BY PROGRAM (the guide's laid-datum.mjs) off the statement by which the dump's own 'gosem.cut.vars' lays the variable. In a bare row this is a premise. The card (YtjhljcnjafbkfaaDoorCards.lean) ties it to the program's text. -/
def laid_cashbook_date_before {H : Type} : DataW H := .agg [.lit (.int .i64 0), .lit (.int .i64 31), .lit (.int .i64 61), .lit (.int .i64 92), .lit (.int .i64 122), .lit (.int .i64 153), .lit (.int .i64 184), .lit (.int .i64 214), .lit (.int .i64 245), .lit (.int .i64 275), .lit (.int .i64 306), .lit (.int .i64 337)]
def laid_cashbook_daycount_names {H : Type} : DataW H := .agg [.lit (.string [97, 99, 116, 51, 54, 53]), .lit (.string [97, 99, 116, 51, 54, 48]), .lit (.string [116, 104, 105, 114, 116, 121]), .lit (.string [97, 99, 116, 97, 99, 116])]

/-- 'cashbooklaw05.DaycountTells': WHATEVER THE INPUT: true; the input reads as it did. -/
def daycountTellsSpec : ChangeSpec := { name := "daycountTells", fn := fun _ => fun
  | [d1, d2, d3] => { results := [.lit (.bool true)], args := [d1, d2, d3] }
  | _ => none }
def daycountTellsRow : OpenClaim := { program := "ytjhljcnjafbkfaadoor", sum := "e0fe5209635c9ff4558e32e50d122bc812a9f48c5b783439b8d50decc2f244e7", func := "cashbook/cashbooklaw05.DaycountTells", spec := "daycountTells", unfollowed := true, recurses := true, named := ["cashbook/daycount.names", "cashbook/date.before"], apart := false, laid := [("cashbook/date.before", laid_cashbook_date_before), ("cashbook/daycount.names", laid_cashbook_daycount_names)] }
def DaycountTellsSaid : Prop := daycountTellsRow.holds Tryd.pinned (OpenSpec.ofChange daycountTellsSpec)

/-- ITS FALSE NEIGHBOUR: 'it returns false'. Refute it at one input. -/
def daycountTellsWrong : ChangeSpec := { name := "daycountTells", fn := fun _ => fun
  | [d1, d2, d3] => { results := [.lit (.bool false)], args := [d1, d2, d3] }
  | _ => none }
def DaycountTellsWrongFalsely : Prop := daycountTellsRow.holds Tryd.pinned (OpenSpec.ofChange daycountTellsWrong)

/-- 'cashbooklaw05.DaycountPieces': WHATEVER THE INPUT: true; the input reads as it did. -/
def daycountPiecesSpec : ChangeSpec := { name := "daycountPieces", fn := fun _ => fun
  | [d1, d2] => { results := [.lit (.bool true)], args := [d1, d2] }
  | _ => none }
def daycountPiecesRow : OpenClaim := { program := "ytjhljcnjafbkfaadoor", sum := "e0fe5209635c9ff4558e32e50d122bc812a9f48c5b783439b8d50decc2f244e7", func := "cashbook/cashbooklaw05.DaycountPieces", spec := "daycountPieces", unfollowed := true, recurses := true, named := ["cashbook/date.before", "cashbook/daycount.names"], apart := false, laid := [("cashbook/date.before", laid_cashbook_date_before), ("cashbook/daycount.names", laid_cashbook_daycount_names)] }
def DaycountPiecesSaid : Prop := daycountPiecesRow.holds Tryd.pinned (OpenSpec.ofChange daycountPiecesSpec)

/-- ITS FALSE NEIGHBOUR: 'it returns false'. Refute it at one input. -/
def daycountPiecesWrong : ChangeSpec := { name := "daycountPieces", fn := fun _ => fun
  | [d1, d2] => { results := [.lit (.bool false)], args := [d1, d2] }
  | _ => none }
def DaycountPiecesWrongFalsely : Prop := daycountPiecesRow.holds Tryd.pinned (OpenSpec.ofChange daycountPiecesWrong)

/-- 'cashbooklaw05.DaycountWhole': WHATEVER THE INPUT: true; the input reads as it did. -/
def daycountWholeSpec : ChangeSpec := { name := "daycountWhole", fn := fun _ => fun
  | [d1, d2, d3] => { results := [.lit (.bool true)], args := [d1, d2, d3] }
  | _ => none }
def daycountWholeRow : OpenClaim := { program := "ytjhljcnjafbkfaadoor", sum := "e0fe5209635c9ff4558e32e50d122bc812a9f48c5b783439b8d50decc2f244e7", func := "cashbook/cashbooklaw05.DaycountWhole", spec := "daycountWhole", unfollowed := true, recurses := true, named := ["cashbook/date.before", "cashbook/daycount.names"], apart := false, laid := [("cashbook/date.before", laid_cashbook_date_before), ("cashbook/daycount.names", laid_cashbook_daycount_names)] }
def DaycountWholeSaid : Prop := daycountWholeRow.holds Tryd.pinned (OpenSpec.ofChange daycountWholeSpec)

/-- ITS FALSE NEIGHBOUR: 'it returns false'. Refute it at one input. -/
def daycountWholeWrong : ChangeSpec := { name := "daycountWhole", fn := fun _ => fun
  | [d1, d2, d3] => { results := [.lit (.bool false)], args := [d1, d2, d3] }
  | _ => none }
def DaycountWholeWrongFalsely : Prop := daycountWholeRow.holds Tryd.pinned (OpenSpec.ofChange daycountWholeWrong)

/- THE SECOND FORM. 'bulk': how many values and letters a reading holds, each counted each time it is reached (what is shared counts as often as it is met; a slice's spare places count too). A statement '..UptoSaid' is the law's where the arguments, and the package variables that the reading takes, are together of bulk at most 1048576: NARROWER than '..Said'. Prove '..Said' where nothing that the law and all that it calls make is longer than what came in: it says more and counts as full. Else prove '..UptoSaid'. A law counts once. -/
mutual
def uptoBulk {H : Type} : DataW H → Nat
  | .lit (.string bytes) => bytes.length + 1
  | .lit _ => 1
  | .nil => 1
  | .ptr d => uptoBulk d + 1
  | .slice elems spare => uptoBulkAll elems + uptoBulkAll spare + 1
  | .agg parts => uptoBulkAll parts + 1
  | .iface _ d => uptoBulk d + 1
  | .map entries => uptoBulkEntries entries + 1
  | .held _ => 1
def uptoBulkAll {H : Type} : List (DataW H) → Nat
  | [] => 0
  | d :: r => uptoBulk d + uptoBulkAll r
def uptoBulkEntries {H : Type} : List (Lit × DataW H) → Nat
  | [] => 0
  | x :: r => uptoBulkEntry x + uptoBulkEntries r
def uptoBulkEntry {H : Type} : Lit × DataW H → Nat
  | (.string bytes, d) => bytes.length + uptoBulk d + 1
  | (_, d) => uptoBulk d + 1
 end
def uptoSmall : (H : Type) → List (DataW H) → Bool := fun _ ds => decide (uptoBulkAll ds ≤ 1048576)
def OpenSpec.upto (s : _root_.Go.ChangeSpec) : _root_.Go.OpenSpec := { _root_.Go.OpenSpec.ofChange s with cond := some uptoSmall }

/-- 'cashbooklaw05.DaycountTells', WHERE WHAT IT READS IS OF BULK AT MOST 1048576: true; the input reads as it did. -/
def daycountTellsUptoRow : OpenClaim := { program := "ytjhljcnjafbkfaadoor", sum := "e0fe5209635c9ff4558e32e50d122bc812a9f48c5b783439b8d50decc2f244e7", func := "cashbook/cashbooklaw05.DaycountTells", spec := "daycountTells", unfollowed := true, recurses := true, named := ["cashbook/daycount.names", "cashbook/date.before"], apart := false, laid := [("cashbook/date.before", laid_cashbook_date_before), ("cashbook/daycount.names", laid_cashbook_daycount_names)], narrowed := true }
def DaycountTellsUptoSaid : Prop := daycountTellsUptoRow.holds Tryd.pinned (OpenSpec.upto daycountTellsSpec)

/-- 'cashbooklaw05.DaycountPieces', WHERE WHAT IT READS IS OF BULK AT MOST 1048576: true; the input reads as it did. -/
def daycountPiecesUptoRow : OpenClaim := { program := "ytjhljcnjafbkfaadoor", sum := "e0fe5209635c9ff4558e32e50d122bc812a9f48c5b783439b8d50decc2f244e7", func := "cashbook/cashbooklaw05.DaycountPieces", spec := "daycountPieces", unfollowed := true, recurses := true, named := ["cashbook/date.before", "cashbook/daycount.names"], apart := false, laid := [("cashbook/date.before", laid_cashbook_date_before), ("cashbook/daycount.names", laid_cashbook_daycount_names)], narrowed := true }
def DaycountPiecesUptoSaid : Prop := daycountPiecesUptoRow.holds Tryd.pinned (OpenSpec.upto daycountPiecesSpec)

/-- 'cashbooklaw05.DaycountWhole', WHERE WHAT IT READS IS OF BULK AT MOST 1048576: true; the input reads as it did. -/
def daycountWholeUptoRow : OpenClaim := { program := "ytjhljcnjafbkfaadoor", sum := "e0fe5209635c9ff4558e32e50d122bc812a9f48c5b783439b8d50decc2f244e7", func := "cashbook/cashbooklaw05.DaycountWhole", spec := "daycountWhole", unfollowed := true, recurses := true, named := ["cashbook/date.before", "cashbook/daycount.names"], apart := false, laid := [("cashbook/date.before", laid_cashbook_date_before), ("cashbook/daycount.names", laid_cashbook_daycount_names)], narrowed := true }
def DaycountWholeUptoSaid : Prop := daycountWholeUptoRow.holds Tryd.pinned (OpenSpec.upto daycountWholeSpec)

end Rows
end Go.Proofs.YtjhljcnjafbkfaaDoor
