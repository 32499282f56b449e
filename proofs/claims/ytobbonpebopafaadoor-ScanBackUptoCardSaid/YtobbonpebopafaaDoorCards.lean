/-
  DERIVED. GIVEN WITH THE SEED: THE CARDS: each row of YtobbonpebopafaaDoorRows.lean that lists a variable, with what it lists TIED to the program's text (the seventh form; the later family's looks); each row that meets fmt, with fmt's text TOLD by the authors' own Lean function (tested against real Go, not proved from fmt's source: count such statements apart). THE CARD IS WHAT COUNTS. Prove the row's statement (the work); the ties are given (YtobbonpebopafaaDoorTie.lean); close each card by the builder's one call (the guide's Derived/Test/ToyasCard.lean, 'card_holds'). Laid BY PROGRAM, IN A SANDBOX (cutbox-door.mjs). By AI agents, Wed Nov 11 2026. No macro, syntax, notation, axiom, sorry.
-/
import Derived.Test.YtobbonpebopafaaDoorRows
import GoSem.ClaimSeven
namespace Go.Proofs.YtobbonpebopafaaDoor
namespace Rows

/-- THE TIED CARD OF 'loiterlaw07.ScanTokens'. -/
def scanTokensCard : Claim7 := { stood := { row := scanTokensRow, standIns := [], harness := (true, "85456cd552a48ad719f6180daded1e9e8e2dc8920957b8bcdfa8c3f31fe233f4"), looks := true }, kinds := [], alts := [], laidByText := true, laidKinds := [.data, .data, .data, .sentinel, .sentinel], laidTests := true, laidLooks := .later }
def ScanTokensCardSaid : Prop := Claim7.holds Tryd.pinned (.plain (OpenSpec.ofChange scanTokensSpec)) scanTokensCard

/-- THE TIED CARD OF 'loiterlaw07.ScanFault'. -/
def scanFaultCard : Claim7 := { stood := { row := scanFaultRow, standIns := [], harness := (true, "85456cd552a48ad719f6180daded1e9e8e2dc8920957b8bcdfa8c3f31fe233f4"), looks := true }, kinds := [], alts := [], laidByText := true, laidKinds := [.data, .data, .data, .sentinel, .sentinel], laidTests := true, laidLooks := .later }
def ScanFaultCardSaid : Prop := Claim7.holds Tryd.pinned (.plain (OpenSpec.ofChange scanFaultSpec)) scanFaultCard

/-- THE TIED CARD OF 'loiterlaw07.ScanPlaces'. -/
def scanPlacesCard : Claim7 := { stood := { row := scanPlacesRow, standIns := [], harness := (true, "85456cd552a48ad719f6180daded1e9e8e2dc8920957b8bcdfa8c3f31fe233f4"), looks := true }, kinds := [], alts := [], laidByText := true, laidKinds := [.data, .data, .data, .sentinel, .sentinel], laidTests := true, laidLooks := .later }
def ScanPlacesCardSaid : Prop := Claim7.holds Tryd.pinned (.plain (OpenSpec.ofChange scanPlacesSpec)) scanPlacesCard

/-- THE TIED CARD OF 'loiterlaw07.ScanTexts'. -/
def scanTextsCard : Claim7 := { stood := { row := scanTextsRow, standIns := [], harness := (true, "85456cd552a48ad719f6180daded1e9e8e2dc8920957b8bcdfa8c3f31fe233f4"), looks := true }, kinds := [], alts := [], laidByText := true, laidKinds := [.data, .data, .data, .sentinel, .sentinel], laidTests := true, laidLooks := .later }
def ScanTextsCardSaid : Prop := Claim7.holds Tryd.pinned (.plain (OpenSpec.ofChange scanTextsSpec)) scanTextsCard

/-- THE TIED CARD OF 'loiterlaw07.ScanBack'. -/
def scanBackCard : Claim7 := { stood := { row := scanBackRow, standIns := [], harness := (true, "85456cd552a48ad719f6180daded1e9e8e2dc8920957b8bcdfa8c3f31fe233f4"), looks := true }, kinds := [], alts := [], laidByText := true, laidKinds := [.data, .data, .data, .sentinel, .sentinel], laidTests := true, laidLooks := .later }
def ScanBackCardSaid : Prop := Claim7.holds Tryd.pinned (.plain (OpenSpec.ofChange scanBackSpec)) scanBackCard

/-- THE TIED CARD OF 'loiterlaw07.ScanKeeps'. -/
def scanKeepsCard : Claim7 := { stood := { row := scanKeepsRow, standIns := [], harness := (true, "85456cd552a48ad719f6180daded1e9e8e2dc8920957b8bcdfa8c3f31fe233f4"), looks := true }, kinds := [], alts := [], laidByText := true, laidKinds := [.data, .data, .data, .sentinel, .sentinel], laidTests := true, laidLooks := .later }
def ScanKeepsCardSaid : Prop := Claim7.holds Tryd.pinned (.plain (OpenSpec.ofChange scanKeepsSpec)) scanKeepsCard

/-- THE SECOND FORM's CARD OF 'loiterlaw07.ScanTokens'. -/
def scanTokensUptoCard : Claim7 := { stood := { row := scanTokensUptoRow, standIns := [], harness := (true, "85456cd552a48ad719f6180daded1e9e8e2dc8920957b8bcdfa8c3f31fe233f4"), looks := true }, kinds := [], alts := [], laidByText := true, laidKinds := [.data, .data, .data, .sentinel, .sentinel], laidTests := true, laidLooks := .later }
def ScanTokensUptoCardSaid : Prop := Claim7.holds Tryd.pinned (.plain (OpenSpec.upto scanTokensSpec)) scanTokensUptoCard

/-- THE SECOND FORM's CARD OF 'loiterlaw07.ScanFault'. -/
def scanFaultUptoCard : Claim7 := { stood := { row := scanFaultUptoRow, standIns := [], harness := (true, "85456cd552a48ad719f6180daded1e9e8e2dc8920957b8bcdfa8c3f31fe233f4"), looks := true }, kinds := [], alts := [], laidByText := true, laidKinds := [.data, .data, .data, .sentinel, .sentinel], laidTests := true, laidLooks := .later }
def ScanFaultUptoCardSaid : Prop := Claim7.holds Tryd.pinned (.plain (OpenSpec.upto scanFaultSpec)) scanFaultUptoCard

/-- THE SECOND FORM's CARD OF 'loiterlaw07.ScanPlaces'. -/
def scanPlacesUptoCard : Claim7 := { stood := { row := scanPlacesUptoRow, standIns := [], harness := (true, "85456cd552a48ad719f6180daded1e9e8e2dc8920957b8bcdfa8c3f31fe233f4"), looks := true }, kinds := [], alts := [], laidByText := true, laidKinds := [.data, .data, .data, .sentinel, .sentinel], laidTests := true, laidLooks := .later }
def ScanPlacesUptoCardSaid : Prop := Claim7.holds Tryd.pinned (.plain (OpenSpec.upto scanPlacesSpec)) scanPlacesUptoCard

/-- THE SECOND FORM's CARD OF 'loiterlaw07.ScanTexts'. -/
def scanTextsUptoCard : Claim7 := { stood := { row := scanTextsUptoRow, standIns := [], harness := (true, "85456cd552a48ad719f6180daded1e9e8e2dc8920957b8bcdfa8c3f31fe233f4"), looks := true }, kinds := [], alts := [], laidByText := true, laidKinds := [.data, .data, .data, .sentinel, .sentinel], laidTests := true, laidLooks := .later }
def ScanTextsUptoCardSaid : Prop := Claim7.holds Tryd.pinned (.plain (OpenSpec.upto scanTextsSpec)) scanTextsUptoCard

/-- THE SECOND FORM's CARD OF 'loiterlaw07.ScanBack'. -/
def scanBackUptoCard : Claim7 := { stood := { row := scanBackUptoRow, standIns := [], harness := (true, "85456cd552a48ad719f6180daded1e9e8e2dc8920957b8bcdfa8c3f31fe233f4"), looks := true }, kinds := [], alts := [], laidByText := true, laidKinds := [.data, .data, .data, .sentinel, .sentinel], laidTests := true, laidLooks := .later }
def ScanBackUptoCardSaid : Prop := Claim7.holds Tryd.pinned (.plain (OpenSpec.upto scanBackSpec)) scanBackUptoCard

/-- THE SECOND FORM's CARD OF 'loiterlaw07.ScanKeeps'. -/
def scanKeepsUptoCard : Claim7 := { stood := { row := scanKeepsUptoRow, standIns := [], harness := (true, "85456cd552a48ad719f6180daded1e9e8e2dc8920957b8bcdfa8c3f31fe233f4"), looks := true }, kinds := [], alts := [], laidByText := true, laidKinds := [.data, .data, .data, .sentinel, .sentinel], laidTests := true, laidLooks := .later }
def ScanKeepsUptoCardSaid : Prop := Claim7.holds Tryd.pinned (.plain (OpenSpec.upto scanKeepsSpec)) scanKeepsUptoCard
end Rows
end Go.Proofs.YtobbonpebopafaaDoor
