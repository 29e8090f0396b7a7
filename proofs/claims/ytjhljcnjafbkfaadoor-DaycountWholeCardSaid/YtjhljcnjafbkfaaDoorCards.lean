/-
  DERIVED. GIVEN WITH THE SEED: THE CARDS: each row of YtjhljcnjafbkfaaDoorRows.lean that lists a variable, with what it lists TIED to the program's text (the seventh form; the later family's looks); each row that meets fmt, with fmt's text TOLD by the authors' own Lean function (tested against real Go, not proved from fmt's source: count such statements apart). THE CARD IS WHAT COUNTS. Prove the row's statement (the work); the ties are given (YtjhljcnjafbkfaaDoorTie.lean); close each card by the builder's one call (the guide's Derived/Test/ToyasCard.lean, 'card_holds'). Laid BY PROGRAM, IN A SANDBOX (cutbox-door.mjs). By AI agents, Wed Nov 11 2026. No macro, syntax, notation, axiom, sorry.
-/
import Derived.Test.YtjhljcnjafbkfaaDoorRows
import GoSem.ClaimSeven
namespace Go.Proofs.YtjhljcnjafbkfaaDoor
namespace Rows

/-- THE TIED CARD OF 'cashbooklaw05.DaycountTells'. -/
def daycountTellsCard : Claim7 := { stood := { row := daycountTellsRow, standIns := [], harness := (true, "015047dd7ad21ca3fcd62bdc6d8d46da02791abe62693104f53f573b7a10217f"), looks := false }, kinds := [], alts := [], laidByText := true, laidKinds := [.data, .widerDeep], laidTests := true, laidLooks := .later }
def DaycountTellsCardSaid : Prop := Claim7.holds Tryd.pinned (.plain (OpenSpec.ofChange daycountTellsSpec)) daycountTellsCard

/-- THE TIED CARD OF 'cashbooklaw05.DaycountPieces'. -/
def daycountPiecesCard : Claim7 := { stood := { row := daycountPiecesRow, standIns := [], harness := (true, "015047dd7ad21ca3fcd62bdc6d8d46da02791abe62693104f53f573b7a10217f"), looks := false }, kinds := [], alts := [], laidByText := true, laidKinds := [.data, .widerDeep], laidTests := true, laidLooks := .later }
def DaycountPiecesCardSaid : Prop := Claim7.holds Tryd.pinned (.plain (OpenSpec.ofChange daycountPiecesSpec)) daycountPiecesCard

/-- THE TIED CARD OF 'cashbooklaw05.DaycountWhole'. -/
def daycountWholeCard : Claim7 := { stood := { row := daycountWholeRow, standIns := [], harness := (true, "015047dd7ad21ca3fcd62bdc6d8d46da02791abe62693104f53f573b7a10217f"), looks := false }, kinds := [], alts := [], laidByText := true, laidKinds := [.data, .widerDeep], laidTests := true, laidLooks := .later }
def DaycountWholeCardSaid : Prop := Claim7.holds Tryd.pinned (.plain (OpenSpec.ofChange daycountWholeSpec)) daycountWholeCard

/-- THE SECOND FORM's CARD OF 'cashbooklaw05.DaycountTells'. -/
def daycountTellsUptoCard : Claim7 := { stood := { row := daycountTellsUptoRow, standIns := [], harness := (true, "015047dd7ad21ca3fcd62bdc6d8d46da02791abe62693104f53f573b7a10217f"), looks := false }, kinds := [], alts := [], laidByText := true, laidKinds := [.data, .widerDeep], laidTests := true, laidLooks := .later }
def DaycountTellsUptoCardSaid : Prop := Claim7.holds Tryd.pinned (.plain (OpenSpec.upto daycountTellsSpec)) daycountTellsUptoCard

/-- THE SECOND FORM's CARD OF 'cashbooklaw05.DaycountPieces'. -/
def daycountPiecesUptoCard : Claim7 := { stood := { row := daycountPiecesUptoRow, standIns := [], harness := (true, "015047dd7ad21ca3fcd62bdc6d8d46da02791abe62693104f53f573b7a10217f"), looks := false }, kinds := [], alts := [], laidByText := true, laidKinds := [.data, .widerDeep], laidTests := true, laidLooks := .later }
def DaycountPiecesUptoCardSaid : Prop := Claim7.holds Tryd.pinned (.plain (OpenSpec.upto daycountPiecesSpec)) daycountPiecesUptoCard

/-- THE SECOND FORM's CARD OF 'cashbooklaw05.DaycountWhole'. -/
def daycountWholeUptoCard : Claim7 := { stood := { row := daycountWholeUptoRow, standIns := [], harness := (true, "015047dd7ad21ca3fcd62bdc6d8d46da02791abe62693104f53f573b7a10217f"), looks := false }, kinds := [], alts := [], laidByText := true, laidKinds := [.data, .widerDeep], laidTests := true, laidLooks := .later }
def DaycountWholeUptoCardSaid : Prop := Claim7.holds Tryd.pinned (.plain (OpenSpec.upto daycountWholeSpec)) daycountWholeUptoCard
end Rows
end Go.Proofs.YtjhljcnjafbkfaaDoor
