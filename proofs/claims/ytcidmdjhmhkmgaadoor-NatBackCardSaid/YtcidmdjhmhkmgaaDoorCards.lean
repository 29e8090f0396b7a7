/-
  DERIVED. GIVEN WITH THE SEED: THE CARDS: each row of YtcidmdjhmhkmgaaDoorRows.lean that lists a variable, with what it lists TIED to the program's text (the seventh form; the later family's looks); each row that meets fmt, with fmt's text TOLD by the authors' own Lean function (tested against real Go, not proved from fmt's source: count such statements apart). THE CARD IS WHAT COUNTS. Prove the row's statement (the work); the ties are given (YtcidmdjhmhkmgaaDoorTie.lean); close each card by the builder's one call (the guide's Derived/Test/ToyasCard.lean, 'card_holds'). Laid BY PROGRAM, IN A SANDBOX (cutbox-door.mjs). By AI agents, Wed Nov 11 2026. No macro, syntax, notation, axiom, sorry.
-/
import Derived.Test.YtcidmdjhmhkmgaaDoorRows
import GoSem.ClaimSeven
namespace Go.Proofs.YtcidmdjhmhkmgaaDoor
namespace Rows

/-- THE TIED CARD OF 'cashbooklaw01.NatSums'. -/
def natSumsCard : Claim7 := { stood := { row := natSumsRow, standIns := [], harness := (true, "1b8a891a1db3a543b5e6db42db6d2e241fa7db069108a9fce34d1a681a0dc4fc"), looks := false }, kinds := [], alts := [], laidByText := true, laidKinds := [.data, .data, .data], laidTests := true, laidLooks := .later }
def NatSumsCardSaid : Prop := Claim7.holds Tryd.pinned (.plain (OpenSpec.ofChange natSumsSpec)) natSumsCard

/-- THE TIED CARD OF 'cashbooklaw01.NatProducts'. -/
def natProductsCard : Claim7 := { stood := { row := natProductsRow, standIns := [], harness := (true, "1b8a891a1db3a543b5e6db42db6d2e241fa7db069108a9fce34d1a681a0dc4fc"), looks := false }, kinds := [], alts := [], laidByText := true, laidKinds := [.data, .data, .data], laidTests := true, laidLooks := .later }
def NatProductsCardSaid : Prop := Claim7.holds Tryd.pinned (.plain (OpenSpec.ofChange natProductsSpec)) natProductsCard

/-- THE TIED CARD OF 'cashbooklaw01.NatQuotients'. -/
def natQuotientsCard : Claim7 := { stood := { row := natQuotientsRow, standIns := [], harness := (true, "1b8a891a1db3a543b5e6db42db6d2e241fa7db069108a9fce34d1a681a0dc4fc"), looks := false }, kinds := [], alts := [], laidByText := true, laidKinds := [.data, .data, .data], laidTests := true, laidLooks := .later }
def NatQuotientsCardSaid : Prop := Claim7.holds Tryd.pinned (.plain (OpenSpec.ofChange natQuotientsSpec)) natQuotientsCard

/-- THE TIED CARD OF 'cashbooklaw01.NatCommon'. -/
def natCommonCard : Claim7 := { stood := { row := natCommonRow, standIns := [], harness := (true, "1b8a891a1db3a543b5e6db42db6d2e241fa7db069108a9fce34d1a681a0dc4fc"), looks := false }, kinds := [], alts := [], laidByText := true, laidKinds := [.data, .data, .data], laidTests := true, laidLooks := .later }
def NatCommonCardSaid : Prop := Claim7.holds Tryd.pinned (.plain (OpenSpec.ofChange natCommonSpec)) natCommonCard

/-- THE TIED CARD OF 'cashbooklaw01.NatTexts'. -/
def natTextsCard : Claim7 := { stood := { row := natTextsRow, standIns := [], harness := (true, "1b8a891a1db3a543b5e6db42db6d2e241fa7db069108a9fce34d1a681a0dc4fc"), looks := false }, kinds := [], alts := [], laidByText := true, laidKinds := [.data, .data, .data], laidTests := true, laidLooks := .later }
def NatTextsCardSaid : Prop := Claim7.holds Tryd.pinned (.plain (OpenSpec.ofChange natTextsSpec)) natTextsCard

/-- THE TIED CARD OF 'cashbooklaw01.NatRing'. -/
def natRingCard : Claim7 := { stood := { row := natRingRow, standIns := [], harness := (true, "1b8a891a1db3a543b5e6db42db6d2e241fa7db069108a9fce34d1a681a0dc4fc"), looks := false }, kinds := [], alts := [], laidByText := true, laidKinds := [.data, .data, .data], laidTests := true, laidLooks := .later }
def NatRingCardSaid : Prop := Claim7.holds Tryd.pinned (.plain (OpenSpec.ofChange natRingSpec)) natRingCard

/-- THE TIED CARD OF 'cashbooklaw01.NatDivided'. -/
def natDividedCard : Claim7 := { stood := { row := natDividedRow, standIns := [], harness := (true, "1b8a891a1db3a543b5e6db42db6d2e241fa7db069108a9fce34d1a681a0dc4fc"), looks := false }, kinds := [], alts := [], laidByText := true, laidKinds := [.data, .data, .data], laidTests := true, laidLooks := .later }
def NatDividedCardSaid : Prop := Claim7.holds Tryd.pinned (.plain (OpenSpec.ofChange natDividedSpec)) natDividedCard

/-- THE TIED CARD OF 'cashbooklaw01.NatGreatest'. -/
def natGreatestCard : Claim7 := { stood := { row := natGreatestRow, standIns := [], harness := (true, "1b8a891a1db3a543b5e6db42db6d2e241fa7db069108a9fce34d1a681a0dc4fc"), looks := false }, kinds := [], alts := [], laidByText := true, laidKinds := [.data, .data, .data], laidTests := true, laidLooks := .later }
def NatGreatestCardSaid : Prop := Claim7.holds Tryd.pinned (.plain (OpenSpec.ofChange natGreatestSpec)) natGreatestCard

/-- THE TIED CARD OF 'cashbooklaw01.NatTells'. -/
def natTellsCard : Claim7 := { stood := { row := natTellsRow, standIns := [], harness := (true, "1b8a891a1db3a543b5e6db42db6d2e241fa7db069108a9fce34d1a681a0dc4fc"), looks := false }, kinds := [], alts := [], laidByText := true, laidKinds := [.data, .data, .data], laidTests := true, laidLooks := .later }
def NatTellsCardSaid : Prop := Claim7.holds Tryd.pinned (.plain (OpenSpec.ofChange natTellsSpec)) natTellsCard

/-- THE TIED CARD OF 'cashbooklaw01.NatBack'. -/
def natBackCard : Claim7 := { stood := { row := natBackRow, standIns := [], harness := (true, "1b8a891a1db3a543b5e6db42db6d2e241fa7db069108a9fce34d1a681a0dc4fc"), looks := false }, kinds := [], alts := [], laidByText := true, laidKinds := [.data, .data, .data], laidTests := true, laidLooks := .later }
def NatBackCardSaid : Prop := Claim7.holds Tryd.pinned (.plain (OpenSpec.ofChange natBackSpec)) natBackCard

/-- THE SECOND FORM's CARD OF 'cashbooklaw01.NatSums'. -/
def natSumsUptoCard : Claim7 := { stood := { row := natSumsUptoRow, standIns := [], harness := (true, "1b8a891a1db3a543b5e6db42db6d2e241fa7db069108a9fce34d1a681a0dc4fc"), looks := false }, kinds := [], alts := [], laidByText := true, laidKinds := [.data, .data, .data], laidTests := true, laidLooks := .later }
def NatSumsUptoCardSaid : Prop := Claim7.holds Tryd.pinned (.plain (OpenSpec.upto natSumsSpec)) natSumsUptoCard

/-- THE SECOND FORM's CARD OF 'cashbooklaw01.NatProducts'. -/
def natProductsUptoCard : Claim7 := { stood := { row := natProductsUptoRow, standIns := [], harness := (true, "1b8a891a1db3a543b5e6db42db6d2e241fa7db069108a9fce34d1a681a0dc4fc"), looks := false }, kinds := [], alts := [], laidByText := true, laidKinds := [.data, .data, .data], laidTests := true, laidLooks := .later }
def NatProductsUptoCardSaid : Prop := Claim7.holds Tryd.pinned (.plain (OpenSpec.upto natProductsSpec)) natProductsUptoCard

/-- THE SECOND FORM's CARD OF 'cashbooklaw01.NatQuotients'. -/
def natQuotientsUptoCard : Claim7 := { stood := { row := natQuotientsUptoRow, standIns := [], harness := (true, "1b8a891a1db3a543b5e6db42db6d2e241fa7db069108a9fce34d1a681a0dc4fc"), looks := false }, kinds := [], alts := [], laidByText := true, laidKinds := [.data, .data, .data], laidTests := true, laidLooks := .later }
def NatQuotientsUptoCardSaid : Prop := Claim7.holds Tryd.pinned (.plain (OpenSpec.upto natQuotientsSpec)) natQuotientsUptoCard

/-- THE SECOND FORM's CARD OF 'cashbooklaw01.NatCommon'. -/
def natCommonUptoCard : Claim7 := { stood := { row := natCommonUptoRow, standIns := [], harness := (true, "1b8a891a1db3a543b5e6db42db6d2e241fa7db069108a9fce34d1a681a0dc4fc"), looks := false }, kinds := [], alts := [], laidByText := true, laidKinds := [.data, .data, .data], laidTests := true, laidLooks := .later }
def NatCommonUptoCardSaid : Prop := Claim7.holds Tryd.pinned (.plain (OpenSpec.upto natCommonSpec)) natCommonUptoCard

/-- THE SECOND FORM's CARD OF 'cashbooklaw01.NatTexts'. -/
def natTextsUptoCard : Claim7 := { stood := { row := natTextsUptoRow, standIns := [], harness := (true, "1b8a891a1db3a543b5e6db42db6d2e241fa7db069108a9fce34d1a681a0dc4fc"), looks := false }, kinds := [], alts := [], laidByText := true, laidKinds := [.data, .data, .data], laidTests := true, laidLooks := .later }
def NatTextsUptoCardSaid : Prop := Claim7.holds Tryd.pinned (.plain (OpenSpec.upto natTextsSpec)) natTextsUptoCard

/-- THE SECOND FORM's CARD OF 'cashbooklaw01.NatRing'. -/
def natRingUptoCard : Claim7 := { stood := { row := natRingUptoRow, standIns := [], harness := (true, "1b8a891a1db3a543b5e6db42db6d2e241fa7db069108a9fce34d1a681a0dc4fc"), looks := false }, kinds := [], alts := [], laidByText := true, laidKinds := [.data, .data, .data], laidTests := true, laidLooks := .later }
def NatRingUptoCardSaid : Prop := Claim7.holds Tryd.pinned (.plain (OpenSpec.upto natRingSpec)) natRingUptoCard

/-- THE SECOND FORM's CARD OF 'cashbooklaw01.NatDivided'. -/
def natDividedUptoCard : Claim7 := { stood := { row := natDividedUptoRow, standIns := [], harness := (true, "1b8a891a1db3a543b5e6db42db6d2e241fa7db069108a9fce34d1a681a0dc4fc"), looks := false }, kinds := [], alts := [], laidByText := true, laidKinds := [.data, .data, .data], laidTests := true, laidLooks := .later }
def NatDividedUptoCardSaid : Prop := Claim7.holds Tryd.pinned (.plain (OpenSpec.upto natDividedSpec)) natDividedUptoCard

/-- THE SECOND FORM's CARD OF 'cashbooklaw01.NatGreatest'. -/
def natGreatestUptoCard : Claim7 := { stood := { row := natGreatestUptoRow, standIns := [], harness := (true, "1b8a891a1db3a543b5e6db42db6d2e241fa7db069108a9fce34d1a681a0dc4fc"), looks := false }, kinds := [], alts := [], laidByText := true, laidKinds := [.data, .data, .data], laidTests := true, laidLooks := .later }
def NatGreatestUptoCardSaid : Prop := Claim7.holds Tryd.pinned (.plain (OpenSpec.upto natGreatestSpec)) natGreatestUptoCard

/-- THE SECOND FORM's CARD OF 'cashbooklaw01.NatTells'. -/
def natTellsUptoCard : Claim7 := { stood := { row := natTellsUptoRow, standIns := [], harness := (true, "1b8a891a1db3a543b5e6db42db6d2e241fa7db069108a9fce34d1a681a0dc4fc"), looks := false }, kinds := [], alts := [], laidByText := true, laidKinds := [.data, .data, .data], laidTests := true, laidLooks := .later }
def NatTellsUptoCardSaid : Prop := Claim7.holds Tryd.pinned (.plain (OpenSpec.upto natTellsSpec)) natTellsUptoCard

/-- THE SECOND FORM's CARD OF 'cashbooklaw01.NatBack'. -/
def natBackUptoCard : Claim7 := { stood := { row := natBackUptoRow, standIns := [], harness := (true, "1b8a891a1db3a543b5e6db42db6d2e241fa7db069108a9fce34d1a681a0dc4fc"), looks := false }, kinds := [], alts := [], laidByText := true, laidKinds := [.data, .data, .data], laidTests := true, laidLooks := .later }
def NatBackUptoCardSaid : Prop := Claim7.holds Tryd.pinned (.plain (OpenSpec.upto natBackSpec)) natBackUptoCard
end Rows
end Go.Proofs.YtcidmdjhmhkmgaaDoor
