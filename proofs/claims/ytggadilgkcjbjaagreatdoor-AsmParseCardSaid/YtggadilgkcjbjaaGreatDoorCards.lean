/-
  DERIVED. GIVEN WITH THE SEED: THE CARDS: each row of YtggadilgkcjbjaaGreatDoorRows.lean that lists a variable, with what it lists TIED to the program's text (the seventh form; the later family's looks); each row that meets fmt, with fmt's text TOLD by the authors' own Lean function (tested against real Go, not proved from fmt's source: count such statements apart). THE CARD IS WHAT COUNTS. Prove the row's statement (the work); the ties are given (YtggadilgkcjbjaaGreatDoorTie.lean); close each card by the builder's one call (the guide's Derived/Test/ToyasCard.lean, 'card_holds'). Laid BY PROGRAM, IN A SANDBOX (cutbox-door.mjs). By AI agents, Wed Nov 11 2026. No macro, syntax, notation, axiom, sorry.
-/
import Derived.Test.YtggadilgkcjbjaaGreatDoorRows
import GoSem.ClaimSeven
namespace Go.Proofs.YtggadilgkcjbjaaGreatDoor
namespace Rows

/-- THE TIED CARD OF 'entaillaw19.AsmPrint'. -/
def asmPrintCard : Claim7 := { stood := { row := asmPrintRow, standIns := [], harness := (true, "1242032c6e92b24ef92593b30666d4f44efb48f52b368dfbcd9a14618a17c056"), looks := true }, kinds := [], alts := [], laidByText := true, laidKinds := [.data, .data, .data, .data, .sentinel, .sentinel, .pinned], laidTests := true, laidLooks := .later }
def AsmPrintCardSaid : Prop := Claim7.holds Tryz.pinned (.plain (OpenSpec.ofChange asmPrintSpec)) asmPrintCard

/-- THE TIED CARD OF 'entaillaw19.AsmParse'. -/
def asmParseCard : Claim7 := { stood := { row := asmParseRow, standIns := [], harness := (true, "1242032c6e92b24ef92593b30666d4f44efb48f52b368dfbcd9a14618a17c056"), looks := true }, kinds := [], alts := [], laidByText := true, laidKinds := [.data, .data, .data, .data, .sentinel, .sentinel, .pinned], laidTests := true, laidLooks := .later }
def AsmParseCardSaid : Prop := Claim7.holds Tryz.pinned (.plain (OpenSpec.ofChange asmParseSpec)) asmParseCard

/-- THE SECOND FORM's CARD OF 'entaillaw19.AsmPrint'. -/
def asmPrintUptoCard : Claim7 := { stood := { row := asmPrintUptoRow, standIns := [], harness := (true, "1242032c6e92b24ef92593b30666d4f44efb48f52b368dfbcd9a14618a17c056"), looks := true }, kinds := [], alts := [], laidByText := true, laidKinds := [.data, .data, .data, .data, .sentinel, .sentinel, .pinned], laidTests := true, laidLooks := .later }
def AsmPrintUptoCardSaid : Prop := Claim7.holds Tryz.pinned (.plain (OpenSpec.upto asmPrintSpec)) asmPrintUptoCard

/-- THE SECOND FORM's CARD OF 'entaillaw19.AsmParse'. -/
def asmParseUptoCard : Claim7 := { stood := { row := asmParseUptoRow, standIns := [], harness := (true, "1242032c6e92b24ef92593b30666d4f44efb48f52b368dfbcd9a14618a17c056"), looks := true }, kinds := [], alts := [], laidByText := true, laidKinds := [.data, .data, .data, .data, .sentinel, .sentinel, .pinned], laidTests := true, laidLooks := .later }
def AsmParseUptoCardSaid : Prop := Claim7.holds Tryz.pinned (.plain (OpenSpec.upto asmParseSpec)) asmParseUptoCard
end Rows
end Go.Proofs.YtggadilgkcjbjaaGreatDoor
