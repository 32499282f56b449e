/-
  DERIVED. GIVEN WITH THE SEED: THE CARDS: each row of YtijanegfgaphoaaGreatDoorRows.lean that lists a variable, with what it lists TIED to the program's text (the seventh form; the later family's looks); each row that meets fmt, with fmt's text TOLD by the authors' own Lean function (tested against real Go, not proved from fmt's source: count such statements apart). THE CARD IS WHAT COUNTS. Prove the row's statement (the work); the ties are given (YtijanegfgaphoaaGreatDoorTie.lean); close each card by the builder's one call (the guide's Derived/Test/ToyasCard.lean, 'card_holds'). Laid BY PROGRAM, IN A SANDBOX (cutbox-door.mjs). By AI agents, Wed Nov 11 2026. No macro, syntax, notation, axiom, sorry.
-/
import Derived.Test.YtijanegfgaphoaaGreatDoorRows
import GoSem.ClaimSeven
namespace Go.Proofs.YtijanegfgaphoaaGreatDoor
namespace Rows

/-- THE TIED CARD OF 'loiterlaw17.ImageKeeps'. -/
def imageKeepsCard : Claim7 := { stood := { row := imageKeepsRow, standIns := [], harness := (true, "4977acb685460c25c2a85e517dcd956b59843a9b5afb1d9d8a86d148c352826b"), looks := true }, kinds := [], alts := [], laidByText := true, laidKinds := [.data, .data, .data], laidTests := true, laidLooks := .later }
def ImageKeepsCardSaid : Prop := Claim7.holds Tryz.pinned (.plain (OpenSpec.ofChange imageKeepsSpec)) imageKeepsCard

/-- THE TIED CARD OF 'loiterlaw17.ImagePrints'. -/
def imagePrintsCard : Claim7 := { stood := { row := imagePrintsRow, standIns := [], harness := (true, "4977acb685460c25c2a85e517dcd956b59843a9b5afb1d9d8a86d148c352826b"), looks := true }, kinds := [], alts := [], laidByText := true, laidKinds := [.data, .data, .data], laidTests := true, laidLooks := .later }
def ImagePrintsCardSaid : Prop := Claim7.holds Tryz.pinned (.plain (OpenSpec.ofChange imagePrintsSpec)) imagePrintsCard

/-- THE TIED CARD OF 'loiterlaw17.ImageLoads'. -/
def imageLoadsCard : Claim7 := { stood := { row := imageLoadsRow, standIns := [], harness := (true, "4977acb685460c25c2a85e517dcd956b59843a9b5afb1d9d8a86d148c352826b"), looks := true }, kinds := [], alts := [], laidByText := true, laidKinds := [.data, .data, .data], laidTests := true, laidLooks := .later }
def ImageLoadsCardSaid : Prop := Claim7.holds Tryz.pinned (.plain (OpenSpec.ofChange imageLoadsSpec)) imageLoadsCard

/-- THE TIED CARD OF 'loiterlaw17.ImageBack'. -/
def imageBackCard : Claim7 := { stood := { row := imageBackRow, standIns := [], harness := (true, "4977acb685460c25c2a85e517dcd956b59843a9b5afb1d9d8a86d148c352826b"), looks := true }, kinds := [], alts := [], laidByText := true, laidKinds := [.data, .data, .data], laidTests := true, laidLooks := .later }
def ImageBackCardSaid : Prop := Claim7.holds Tryz.pinned (.plain (OpenSpec.ofChange imageBackSpec)) imageBackCard

/-- THE SECOND FORM's CARD OF 'loiterlaw17.ImageKeeps'. -/
def imageKeepsUptoCard : Claim7 := { stood := { row := imageKeepsUptoRow, standIns := [], harness := (true, "4977acb685460c25c2a85e517dcd956b59843a9b5afb1d9d8a86d148c352826b"), looks := true }, kinds := [], alts := [], laidByText := true, laidKinds := [.data, .data, .data], laidTests := true, laidLooks := .later }
def ImageKeepsUptoCardSaid : Prop := Claim7.holds Tryz.pinned (.plain (OpenSpec.upto imageKeepsSpec)) imageKeepsUptoCard

/-- THE SECOND FORM's CARD OF 'loiterlaw17.ImagePrints'. -/
def imagePrintsUptoCard : Claim7 := { stood := { row := imagePrintsUptoRow, standIns := [], harness := (true, "4977acb685460c25c2a85e517dcd956b59843a9b5afb1d9d8a86d148c352826b"), looks := true }, kinds := [], alts := [], laidByText := true, laidKinds := [.data, .data, .data], laidTests := true, laidLooks := .later }
def ImagePrintsUptoCardSaid : Prop := Claim7.holds Tryz.pinned (.plain (OpenSpec.upto imagePrintsSpec)) imagePrintsUptoCard

/-- THE SECOND FORM's CARD OF 'loiterlaw17.ImageLoads'. -/
def imageLoadsUptoCard : Claim7 := { stood := { row := imageLoadsUptoRow, standIns := [], harness := (true, "4977acb685460c25c2a85e517dcd956b59843a9b5afb1d9d8a86d148c352826b"), looks := true }, kinds := [], alts := [], laidByText := true, laidKinds := [.data, .data, .data], laidTests := true, laidLooks := .later }
def ImageLoadsUptoCardSaid : Prop := Claim7.holds Tryz.pinned (.plain (OpenSpec.upto imageLoadsSpec)) imageLoadsUptoCard

/-- THE SECOND FORM's CARD OF 'loiterlaw17.ImageBack'. -/
def imageBackUptoCard : Claim7 := { stood := { row := imageBackUptoRow, standIns := [], harness := (true, "4977acb685460c25c2a85e517dcd956b59843a9b5afb1d9d8a86d148c352826b"), looks := true }, kinds := [], alts := [], laidByText := true, laidKinds := [.data, .data, .data], laidTests := true, laidLooks := .later }
def ImageBackUptoCardSaid : Prop := Claim7.holds Tryz.pinned (.plain (OpenSpec.upto imageBackSpec)) imageBackUptoCard
end Rows
end Go.Proofs.YtijanegfgaphoaaGreatDoor
