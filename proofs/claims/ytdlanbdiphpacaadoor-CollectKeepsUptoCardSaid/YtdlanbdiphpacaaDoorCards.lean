/-
  DERIVED. GIVEN WITH THE SEED: THE CARDS: each row of YtdlanbdiphpacaaDoorRows.lean that lists a variable, with what it lists TIED to the program's text (the seventh form; the later family's looks); each row that meets fmt, with fmt's text TOLD by the authors' own Lean function (tested against real Go, not proved from fmt's source: count such statements apart). THE CARD IS WHAT COUNTS. Prove the row's statement (the work); the ties are given (YtdlanbdiphpacaaDoorTie.lean); close each card by the builder's one call (the guide's Derived/Test/ToyasCard.lean, 'card_holds'). Laid BY PROGRAM, IN A SANDBOX (cutbox-door.mjs). By AI agents, Wed Nov 11 2026. No macro, syntax, notation, axiom, sorry.
-/
import Derived.Test.YtdlanbdiphpacaaDoorRows
import GoSem.ClaimSeven
namespace Go.Proofs.YtdlanbdiphpacaaDoor
namespace Rows

/-- THE TIED CARD OF 'loiterlaw19.CollectShapes'. -/
def collectShapesCard : Claim7 := { stood := { row := collectShapesRow, standIns := [], harness := (true, "3d1c41847716796221f6aac10a2322eeb56e8bbe2a5d195336c31ba05bdd9344"), looks := true }, kinds := [], alts := [], laidByText := true, laidKinds := [.data, .data, .data], laidTests := true, laidLooks := .later }
def CollectShapesCardSaid : Prop := Claim7.holds Tryd.pinned (.plain (OpenSpec.ofChange collectShapesSpec)) collectShapesCard

/-- THE TIED CARD OF 'loiterlaw19.CollectWaste'. -/
def collectWasteCard : Claim7 := { stood := { row := collectWasteRow, standIns := [], harness := (true, "3d1c41847716796221f6aac10a2322eeb56e8bbe2a5d195336c31ba05bdd9344"), looks := true }, kinds := [], alts := [], laidByText := true, laidKinds := [.data, .data, .data], laidTests := true, laidLooks := .later }
def CollectWasteCardSaid : Prop := Claim7.holds Tryd.pinned (.plain (OpenSpec.ofChange collectWasteSpec)) collectWasteCard

/-- THE TIED CARD OF 'loiterlaw19.CollectChains'. -/
def collectChainsCard : Claim7 := { stood := { row := collectChainsRow, standIns := [], harness := (true, "3d1c41847716796221f6aac10a2322eeb56e8bbe2a5d195336c31ba05bdd9344"), looks := true }, kinds := [], alts := [], laidByText := true, laidKinds := [.data, .data, .data], laidTests := true, laidLooks := .later }
def CollectChainsCardSaid : Prop := Claim7.holds Tryd.pinned (.plain (OpenSpec.ofChange collectChainsSpec)) collectChainsCard

/-- THE TIED CARD OF 'loiterlaw19.CollectKeeps'. -/
def collectKeepsCard : Claim7 := { stood := { row := collectKeepsRow, standIns := [], harness := (true, "3d1c41847716796221f6aac10a2322eeb56e8bbe2a5d195336c31ba05bdd9344"), looks := true }, kinds := [], alts := [], laidByText := true, laidKinds := [.data, .data, .data], laidTests := true, laidLooks := .later }
def CollectKeepsCardSaid : Prop := Claim7.holds Tryd.pinned (.plain (OpenSpec.ofChange collectKeepsSpec)) collectKeepsCard

/-- THE SECOND FORM's CARD OF 'loiterlaw19.CollectShapes'. -/
def collectShapesUptoCard : Claim7 := { stood := { row := collectShapesUptoRow, standIns := [], harness := (true, "3d1c41847716796221f6aac10a2322eeb56e8bbe2a5d195336c31ba05bdd9344"), looks := true }, kinds := [], alts := [], laidByText := true, laidKinds := [.data, .data, .data], laidTests := true, laidLooks := .later }
def CollectShapesUptoCardSaid : Prop := Claim7.holds Tryd.pinned (.plain (OpenSpec.upto collectShapesSpec)) collectShapesUptoCard

/-- THE SECOND FORM's CARD OF 'loiterlaw19.CollectWaste'. -/
def collectWasteUptoCard : Claim7 := { stood := { row := collectWasteUptoRow, standIns := [], harness := (true, "3d1c41847716796221f6aac10a2322eeb56e8bbe2a5d195336c31ba05bdd9344"), looks := true }, kinds := [], alts := [], laidByText := true, laidKinds := [.data, .data, .data], laidTests := true, laidLooks := .later }
def CollectWasteUptoCardSaid : Prop := Claim7.holds Tryd.pinned (.plain (OpenSpec.upto collectWasteSpec)) collectWasteUptoCard

/-- THE SECOND FORM's CARD OF 'loiterlaw19.CollectChains'. -/
def collectChainsUptoCard : Claim7 := { stood := { row := collectChainsUptoRow, standIns := [], harness := (true, "3d1c41847716796221f6aac10a2322eeb56e8bbe2a5d195336c31ba05bdd9344"), looks := true }, kinds := [], alts := [], laidByText := true, laidKinds := [.data, .data, .data], laidTests := true, laidLooks := .later }
def CollectChainsUptoCardSaid : Prop := Claim7.holds Tryd.pinned (.plain (OpenSpec.upto collectChainsSpec)) collectChainsUptoCard

/-- THE SECOND FORM's CARD OF 'loiterlaw19.CollectKeeps'. -/
def collectKeepsUptoCard : Claim7 := { stood := { row := collectKeepsUptoRow, standIns := [], harness := (true, "3d1c41847716796221f6aac10a2322eeb56e8bbe2a5d195336c31ba05bdd9344"), looks := true }, kinds := [], alts := [], laidByText := true, laidKinds := [.data, .data, .data], laidTests := true, laidLooks := .later }
def CollectKeepsUptoCardSaid : Prop := Claim7.holds Tryd.pinned (.plain (OpenSpec.upto collectKeepsSpec)) collectKeepsUptoCard
end Rows
end Go.Proofs.YtdlanbdiphpacaaDoor
