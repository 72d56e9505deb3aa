/-
  DERIVED. GIVEN WITH THE SEED: THE CARDS: each row of YtpnghjfcfeaemaaDoorRows.lean that lists a variable, with what it lists TIED to the program's text (the seventh form; the later family's looks); each row that meets fmt, with fmt's text TOLD by the authors' own Lean function (tested against real Go, not proved from fmt's source: count such statements apart). THE CARD IS WHAT COUNTS. Prove the row's statement (the work); the ties are given (YtpnghjfcfeaemaaDoorTie.lean); close each card by the builder's one call (the guide's Derived/Test/ToyasCard.lean, 'card_holds'). Laid BY PROGRAM, IN A SANDBOX (cutbox-door.mjs). By AI agents, Wed Nov 11 2026. No macro, syntax, notation, axiom, sorry.
-/
import Derived.Test.YtpnghjfcfeaemaaDoorRows
import GoSem.ClaimSeven
namespace Go.Proofs.YtpnghjfcfeaemaaDoor
namespace Rows

/-- THE TIED CARD OF 'entaillaw03.MoneySum'. -/
def moneySumCard : Claim7 := { stood := { row := moneySumRow, standIns := [], harness := (true, "e7d6aaf69c3a1e2be238738836d96db9a9158a1405e1172c3dd38f2e7a514e97"), looks := false }, kinds := [], alts := [], laidByText := true, laidKinds := [.data, .data, .data], laidTests := true, laidLooks := .later }
def MoneySumCardSaid : Prop := Claim7.holds Tryd.pinned (.plain (OpenSpec.ofChange moneySumSpec)) moneySumCard

/-- THE TIED CARD OF 'entaillaw03.MoneyPrint'. -/
def moneyPrintCard : Claim7 := { stood := { row := moneyPrintRow, standIns := [], harness := (true, "e7d6aaf69c3a1e2be238738836d96db9a9158a1405e1172c3dd38f2e7a514e97"), looks := false }, kinds := [], alts := [], laidByText := true, laidKinds := [.data, .data, .data], laidTests := true, laidLooks := .later }
def MoneyPrintCardSaid : Prop := Claim7.holds Tryd.pinned (.plain (OpenSpec.ofChange moneyPrintSpec)) moneyPrintCard

/-- THE TIED CARD OF 'entaillaw03.MoneyParse'. -/
def moneyParseCard : Claim7 := { stood := { row := moneyParseRow, standIns := [], harness := (true, "e7d6aaf69c3a1e2be238738836d96db9a9158a1405e1172c3dd38f2e7a514e97"), looks := false }, kinds := [], alts := [], laidByText := true, laidKinds := [.data, .data, .data], laidTests := true, laidLooks := .later }
def MoneyParseCardSaid : Prop := Claim7.holds Tryd.pinned (.plain (OpenSpec.ofChange moneyParseSpec)) moneyParseCard

/-- THE TIED CARD OF 'entaillaw03.MoneyBack'. -/
def moneyBackCard : Claim7 := { stood := { row := moneyBackRow, standIns := [], harness := (true, "e7d6aaf69c3a1e2be238738836d96db9a9158a1405e1172c3dd38f2e7a514e97"), looks := false }, kinds := [], alts := [], laidByText := true, laidKinds := [.data, .data, .data], laidTests := true, laidLooks := .later }
def MoneyBackCardSaid : Prop := Claim7.holds Tryd.pinned (.plain (OpenSpec.ofChange moneyBackSpec)) moneyBackCard

/-- THE TIED CARD OF 'entaillaw03.MoneyParts'. -/
def moneyPartsCard : Claim7 := { stood := { row := moneyPartsRow, standIns := [], harness := (true, "e7d6aaf69c3a1e2be238738836d96db9a9158a1405e1172c3dd38f2e7a514e97"), looks := false }, kinds := [], alts := [], laidByText := true, laidKinds := [.data, .data, .data], laidTests := true, laidLooks := .later }
def MoneyPartsCardSaid : Prop := Claim7.holds Tryd.pinned (.plain (OpenSpec.ofChange moneyPartsSpec)) moneyPartsCard

/-- THE TIED CARD OF 'entaillaw03.MoneyFee'. -/
def moneyFeeCard : Claim7 := { stood := { row := moneyFeeRow, standIns := [], harness := (true, "e7d6aaf69c3a1e2be238738836d96db9a9158a1405e1172c3dd38f2e7a514e97"), looks := false }, kinds := [], alts := [], laidByText := true, laidKinds := [.data, .data, .data], laidTests := true, laidLooks := .later }
def MoneyFeeCardSaid : Prop := Claim7.holds Tryd.pinned (.plain (OpenSpec.ofChange moneyFeeSpec)) moneyFeeCard

/-- THE SECOND FORM's CARD OF 'entaillaw03.MoneySum'. -/
def moneySumUptoCard : Claim7 := { stood := { row := moneySumUptoRow, standIns := [], harness := (true, "e7d6aaf69c3a1e2be238738836d96db9a9158a1405e1172c3dd38f2e7a514e97"), looks := false }, kinds := [], alts := [], laidByText := true, laidKinds := [.data, .data, .data], laidTests := true, laidLooks := .later }
def MoneySumUptoCardSaid : Prop := Claim7.holds Tryd.pinned (.plain (OpenSpec.upto moneySumSpec)) moneySumUptoCard

/-- THE SECOND FORM's CARD OF 'entaillaw03.MoneyPrint'. -/
def moneyPrintUptoCard : Claim7 := { stood := { row := moneyPrintUptoRow, standIns := [], harness := (true, "e7d6aaf69c3a1e2be238738836d96db9a9158a1405e1172c3dd38f2e7a514e97"), looks := false }, kinds := [], alts := [], laidByText := true, laidKinds := [.data, .data, .data], laidTests := true, laidLooks := .later }
def MoneyPrintUptoCardSaid : Prop := Claim7.holds Tryd.pinned (.plain (OpenSpec.upto moneyPrintSpec)) moneyPrintUptoCard

/-- THE SECOND FORM's CARD OF 'entaillaw03.MoneyParse'. -/
def moneyParseUptoCard : Claim7 := { stood := { row := moneyParseUptoRow, standIns := [], harness := (true, "e7d6aaf69c3a1e2be238738836d96db9a9158a1405e1172c3dd38f2e7a514e97"), looks := false }, kinds := [], alts := [], laidByText := true, laidKinds := [.data, .data, .data], laidTests := true, laidLooks := .later }
def MoneyParseUptoCardSaid : Prop := Claim7.holds Tryd.pinned (.plain (OpenSpec.upto moneyParseSpec)) moneyParseUptoCard

/-- THE SECOND FORM's CARD OF 'entaillaw03.MoneyBack'. -/
def moneyBackUptoCard : Claim7 := { stood := { row := moneyBackUptoRow, standIns := [], harness := (true, "e7d6aaf69c3a1e2be238738836d96db9a9158a1405e1172c3dd38f2e7a514e97"), looks := false }, kinds := [], alts := [], laidByText := true, laidKinds := [.data, .data, .data], laidTests := true, laidLooks := .later }
def MoneyBackUptoCardSaid : Prop := Claim7.holds Tryd.pinned (.plain (OpenSpec.upto moneyBackSpec)) moneyBackUptoCard

/-- THE SECOND FORM's CARD OF 'entaillaw03.MoneyParts'. -/
def moneyPartsUptoCard : Claim7 := { stood := { row := moneyPartsUptoRow, standIns := [], harness := (true, "e7d6aaf69c3a1e2be238738836d96db9a9158a1405e1172c3dd38f2e7a514e97"), looks := false }, kinds := [], alts := [], laidByText := true, laidKinds := [.data, .data, .data], laidTests := true, laidLooks := .later }
def MoneyPartsUptoCardSaid : Prop := Claim7.holds Tryd.pinned (.plain (OpenSpec.upto moneyPartsSpec)) moneyPartsUptoCard

/-- THE SECOND FORM's CARD OF 'entaillaw03.MoneyFee'. -/
def moneyFeeUptoCard : Claim7 := { stood := { row := moneyFeeUptoRow, standIns := [], harness := (true, "e7d6aaf69c3a1e2be238738836d96db9a9158a1405e1172c3dd38f2e7a514e97"), looks := false }, kinds := [], alts := [], laidByText := true, laidKinds := [.data, .data, .data], laidTests := true, laidLooks := .later }
def MoneyFeeUptoCardSaid : Prop := Claim7.holds Tryd.pinned (.plain (OpenSpec.upto moneyFeeSpec)) moneyFeeUptoCard
end Rows
end Go.Proofs.YtpnghjfcfeaemaaDoor
