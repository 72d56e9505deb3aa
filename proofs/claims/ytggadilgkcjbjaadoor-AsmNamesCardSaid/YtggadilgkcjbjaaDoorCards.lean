/-
  DERIVED. GIVEN WITH THE SEED: THE CARDS: each row of YtggadilgkcjbjaaDoorRows.lean that lists a variable, with what it lists TIED to the program's text (the seventh form; the later family's looks); each row that meets fmt, with fmt's text TOLD by the authors' own Lean function (tested against real Go, not proved from fmt's source: count such statements apart). THE CARD IS WHAT COUNTS. Prove the row's statement (the work); the ties are given (YtggadilgkcjbjaaDoorTie.lean); close each card by the builder's one call (the guide's Derived/Test/ToyasCard.lean, 'card_holds'). Laid BY PROGRAM, IN A SANDBOX (cutbox-door.mjs). By AI agents, Wed Nov 11 2026. No macro, syntax, notation, axiom, sorry.
-/
import Derived.Test.YtggadilgkcjbjaaDoorRows
import GoSem.ClaimSeven
namespace Go.Proofs.YtggadilgkcjbjaaDoor
namespace Rows

/-- THE TIED CARD OF 'entaillaw19.AsmBack'. -/
def asmBackCard : Claim7 := { stood := { row := asmBackRow, standIns := [], harness := (true, "4d1c73e15ba201536b89e00d1b338e631b3bdfaae6bfbfccfd8075ae1937d7cd"), looks := true }, kinds := [], alts := [], laidByText := true, laidKinds := [.data, .data, .data, .data, .sentinel, .sentinel, .pinned], laidTests := true, laidLooks := .later }
def AsmBackCardSaid : Prop := Claim7.holds Tryd.pinned (.plain (OpenSpec.ofChange asmBackSpec)) asmBackCard

/-- THE TIED CARD OF 'entaillaw19.AsmOnly'. -/
def asmOnlyCard : Claim7 := { stood := { row := asmOnlyRow, standIns := [], harness := (true, "4d1c73e15ba201536b89e00d1b338e631b3bdfaae6bfbfccfd8075ae1937d7cd"), looks := true }, kinds := [], alts := [], laidByText := true, laidKinds := [.data, .data, .data, .data, .sentinel, .sentinel, .pinned], laidTests := true, laidLooks := .later }
def AsmOnlyCardSaid : Prop := Claim7.holds Tryd.pinned (.plain (OpenSpec.ofChange asmOnlySpec)) asmOnlyCard

/-- THE TIED CARD OF 'entaillaw19.AsmNames'. -/
def asmNamesCard : Claim7 := { stood := { row := asmNamesRow, standIns := [], harness := (true, "4d1c73e15ba201536b89e00d1b338e631b3bdfaae6bfbfccfd8075ae1937d7cd"), looks := true }, kinds := [], alts := [], laidByText := true, laidKinds := [.data, .data, .data, .data, .sentinel, .sentinel, .pinned], laidTests := true, laidLooks := .later }
def AsmNamesCardSaid : Prop := Claim7.holds Tryd.pinned (.plain (OpenSpec.ofChange asmNamesSpec)) asmNamesCard

/-- THE SECOND FORM's CARD OF 'entaillaw19.AsmBack'. -/
def asmBackUptoCard : Claim7 := { stood := { row := asmBackUptoRow, standIns := [], harness := (true, "4d1c73e15ba201536b89e00d1b338e631b3bdfaae6bfbfccfd8075ae1937d7cd"), looks := true }, kinds := [], alts := [], laidByText := true, laidKinds := [.data, .data, .data, .data, .sentinel, .sentinel, .pinned], laidTests := true, laidLooks := .later }
def AsmBackUptoCardSaid : Prop := Claim7.holds Tryd.pinned (.plain (OpenSpec.upto asmBackSpec)) asmBackUptoCard

/-- THE SECOND FORM's CARD OF 'entaillaw19.AsmOnly'. -/
def asmOnlyUptoCard : Claim7 := { stood := { row := asmOnlyUptoRow, standIns := [], harness := (true, "4d1c73e15ba201536b89e00d1b338e631b3bdfaae6bfbfccfd8075ae1937d7cd"), looks := true }, kinds := [], alts := [], laidByText := true, laidKinds := [.data, .data, .data, .data, .sentinel, .sentinel, .pinned], laidTests := true, laidLooks := .later }
def AsmOnlyUptoCardSaid : Prop := Claim7.holds Tryd.pinned (.plain (OpenSpec.upto asmOnlySpec)) asmOnlyUptoCard

/-- THE SECOND FORM's CARD OF 'entaillaw19.AsmNames'. -/
def asmNamesUptoCard : Claim7 := { stood := { row := asmNamesUptoRow, standIns := [], harness := (true, "4d1c73e15ba201536b89e00d1b338e631b3bdfaae6bfbfccfd8075ae1937d7cd"), looks := true }, kinds := [], alts := [], laidByText := true, laidKinds := [.data, .data, .data, .data, .sentinel, .sentinel, .pinned], laidTests := true, laidLooks := .later }
def AsmNamesUptoCardSaid : Prop := Claim7.holds Tryd.pinned (.plain (OpenSpec.upto asmNamesSpec)) asmNamesUptoCard
end Rows
end Go.Proofs.YtggadilgkcjbjaaDoor
