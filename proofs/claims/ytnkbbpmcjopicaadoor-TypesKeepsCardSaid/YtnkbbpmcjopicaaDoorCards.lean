/-
  DERIVED. GIVEN WITH THE SEED: THE CARDS: each row of YtnkbbpmcjopicaaDoorRows.lean that lists a variable, with what it lists TIED to the program's text (the seventh form; the later family's looks); each row that meets fmt, with fmt's text TOLD by the authors' own Lean function (tested against real Go, not proved from fmt's source: count such statements apart). THE CARD IS WHAT COUNTS. Prove the row's statement (the work); the ties are given (YtnkbbpmcjopicaaDoorTie.lean); close each card by the builder's one call (the guide's Derived/Test/ToyasCard.lean, 'card_holds'). Laid BY PROGRAM, IN A SANDBOX (cutbox-door.mjs). By AI agents, Wed Nov 11 2026. No macro, syntax, notation, axiom, sorry.
-/
import Derived.Test.YtnkbbpmcjopicaaDoorRows
import GoSem.ClaimSeven
namespace Go.Proofs.YtnkbbpmcjopicaaDoor
namespace Rows

/-- THE TIED CARD OF 'loiterlaw11.TypesUnify'. -/
def typesUnifyCard : Claim7 := { stood := { row := typesUnifyRow, standIns := [], harness := (true, "b9782bd2bf6a8b22620911d679b86d4a83912afe1beaa97693873587ce699ff5"), looks := true }, kinds := [], alts := [], laidByText := true, laidKinds := [.data, .data, .data], laidTests := true, laidLooks := .later }
def TypesUnifyCardSaid : Prop := Claim7.holds Tryd.pinned (.plain (OpenSpec.ofChange typesUnifySpec)) typesUnifyCard

/-- THE TIED CARD OF 'loiterlaw11.TypesMost'. -/
def typesMostCard : Claim7 := { stood := { row := typesMostRow, standIns := [], harness := (true, "b9782bd2bf6a8b22620911d679b86d4a83912afe1beaa97693873587ce699ff5"), looks := true }, kinds := [], alts := [], laidByText := true, laidKinds := [.data, .data, .data], laidTests := true, laidLooks := .later }
def TypesMostCardSaid : Prop := Claim7.holds Tryd.pinned (.plain (OpenSpec.ofChange typesMostSpec)) typesMostCard

/-- THE TIED CARD OF 'loiterlaw11.TypesKeeps'. -/
def typesKeepsCard : Claim7 := { stood := { row := typesKeepsRow, standIns := [], harness := (true, "b9782bd2bf6a8b22620911d679b86d4a83912afe1beaa97693873587ce699ff5"), looks := true }, kinds := [], alts := [], laidByText := true, laidKinds := [.data, .data, .data], laidTests := true, laidLooks := .later }
def TypesKeepsCardSaid : Prop := Claim7.holds Tryd.pinned (.plain (OpenSpec.ofChange typesKeepsSpec)) typesKeepsCard

/-- THE TIED CARD OF 'loiterlaw11.TypesTexts'. -/
def typesTextsCard : Claim7 := { stood := { row := typesTextsRow, standIns := [], harness := (true, "b9782bd2bf6a8b22620911d679b86d4a83912afe1beaa97693873587ce699ff5"), looks := true }, kinds := [], alts := [], laidByText := true, laidKinds := [.data, .data, .data], laidTests := true, laidLooks := .later }
def TypesTextsCardSaid : Prop := Claim7.holds Tryd.pinned (.plain (OpenSpec.ofChange typesTextsSpec)) typesTextsCard

/-- THE TIED CARD OF 'loiterlaw11.TypesNil'. -/
def typesNilCard : Claim7 := { stood := { row := typesNilRow, standIns := [], harness := (true, "b9782bd2bf6a8b22620911d679b86d4a83912afe1beaa97693873587ce699ff5"), looks := true }, kinds := [], alts := [], laidByText := true, laidKinds := [.data, .data, .data], laidTests := true, laidLooks := .later }
def TypesNilCardSaid : Prop := Claim7.holds Tryd.pinned (.plain (OpenSpec.ofChange typesNilSpec)) typesNilCard

/-- THE SECOND FORM's CARD OF 'loiterlaw11.TypesUnify'. -/
def typesUnifyUptoCard : Claim7 := { stood := { row := typesUnifyUptoRow, standIns := [], harness := (true, "b9782bd2bf6a8b22620911d679b86d4a83912afe1beaa97693873587ce699ff5"), looks := true }, kinds := [], alts := [], laidByText := true, laidKinds := [.data, .data, .data], laidTests := true, laidLooks := .later }
def TypesUnifyUptoCardSaid : Prop := Claim7.holds Tryd.pinned (.plain (OpenSpec.upto typesUnifySpec)) typesUnifyUptoCard

/-- THE SECOND FORM's CARD OF 'loiterlaw11.TypesMost'. -/
def typesMostUptoCard : Claim7 := { stood := { row := typesMostUptoRow, standIns := [], harness := (true, "b9782bd2bf6a8b22620911d679b86d4a83912afe1beaa97693873587ce699ff5"), looks := true }, kinds := [], alts := [], laidByText := true, laidKinds := [.data, .data, .data], laidTests := true, laidLooks := .later }
def TypesMostUptoCardSaid : Prop := Claim7.holds Tryd.pinned (.plain (OpenSpec.upto typesMostSpec)) typesMostUptoCard

/-- THE SECOND FORM's CARD OF 'loiterlaw11.TypesKeeps'. -/
def typesKeepsUptoCard : Claim7 := { stood := { row := typesKeepsUptoRow, standIns := [], harness := (true, "b9782bd2bf6a8b22620911d679b86d4a83912afe1beaa97693873587ce699ff5"), looks := true }, kinds := [], alts := [], laidByText := true, laidKinds := [.data, .data, .data], laidTests := true, laidLooks := .later }
def TypesKeepsUptoCardSaid : Prop := Claim7.holds Tryd.pinned (.plain (OpenSpec.upto typesKeepsSpec)) typesKeepsUptoCard

/-- THE SECOND FORM's CARD OF 'loiterlaw11.TypesTexts'. -/
def typesTextsUptoCard : Claim7 := { stood := { row := typesTextsUptoRow, standIns := [], harness := (true, "b9782bd2bf6a8b22620911d679b86d4a83912afe1beaa97693873587ce699ff5"), looks := true }, kinds := [], alts := [], laidByText := true, laidKinds := [.data, .data, .data], laidTests := true, laidLooks := .later }
def TypesTextsUptoCardSaid : Prop := Claim7.holds Tryd.pinned (.plain (OpenSpec.upto typesTextsSpec)) typesTextsUptoCard

/-- THE SECOND FORM's CARD OF 'loiterlaw11.TypesNil'. -/
def typesNilUptoCard : Claim7 := { stood := { row := typesNilUptoRow, standIns := [], harness := (true, "b9782bd2bf6a8b22620911d679b86d4a83912afe1beaa97693873587ce699ff5"), looks := true }, kinds := [], alts := [], laidByText := true, laidKinds := [.data, .data, .data], laidTests := true, laidLooks := .later }
def TypesNilUptoCardSaid : Prop := Claim7.holds Tryd.pinned (.plain (OpenSpec.upto typesNilSpec)) typesNilUptoCard
end Rows
end Go.Proofs.YtnkbbpmcjopicaaDoor
