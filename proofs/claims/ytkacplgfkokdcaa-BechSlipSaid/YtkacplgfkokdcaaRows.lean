/-
  No cell of these rows narrows 'for every input' (looked for: loops, veiled, ifaces, maps, wideKeys, modest, calm, conditions, laid).
  DERIVED. THE GIVEN ROWS OF THIS SEAT. 7 by the template 'for every input the law returns true; each argument reads behind the call as it read before'; 0 by the template 'total and deterministic' (their statements: YtkacplgfkokdcaaTotals.lean).
  GIVEN WITH THE SEED: the statements are not yours to turn. If you find one false, say at which input.
  Laid BY PROGRAM, IN A SANDBOX (cutbox-rows.mjs): the forced cells as the released guide's own fill.sh prints them over the translation 71b4e15045d09145… (all of the seat's roots in one cut). By AI agents, Wed Nov 11 2026. No macro, syntax, notation, axiom, sorry.
-/
import Derived.Test.YtkacplgfkokdcaaChecked
import GoSem.Claim
import GoSem.ClaimJoined
import GoSem.ClaimMapViews
import Derived.JoinedTies
import Derived.KernelRfl
namespace Go.Proofs.Ytkacplgfkokdcaa
/- THE CELL 'sum', in the pinned program and in every row, IS THE sha256 OF THE DUMP (.gsa) THAT YtkacplgfkokdcaaProg.lean LOADS. Nothing in Lean hashes anything: it is a label: what it is worth is what the hold of that sum in a sandbox is worth. -/
noncomputable def Try.pinned : Pinned := { name := "ytkacplgfkokdcaa", sum := "71b4e15045d09145385888acc1b343dbca33dc8b8e4311e10ac6ab98169d3998", checked := Try.checked }
namespace Rows
def none {H : Type} : Left H := { results := [], args := [] }

/-- 'entaillaw04.BechCheck': WHATEVER THE INPUT: true; the input reads as it did. -/
def bechCheckSpec : ChangeSpec := { name := "bechCheck", fn := fun _ => fun
  | [d] => { results := [.lit (.bool true)], args := [d] }
  | _ => none }
def bechCheckRow : OpenClaim := { program := "ytkacplgfkokdcaa", sum := "71b4e15045d09145385888acc1b343dbca33dc8b8e4311e10ac6ab98169d3998", func := "entail/entaillaw04.BechCheck", spec := "bechCheck", apart := false }
def BechCheckSaid : Prop := bechCheckRow.holds Try.pinned (OpenSpec.ofChange bechCheckSpec)

/-- ITS FALSE NEIGHBOUR: 'it returns false'. Refute it at one input. -/
def bechCheckWrong : ChangeSpec := { name := "bechCheck", fn := fun _ => fun
  | [d] => { results := [.lit (.bool false)], args := [d] }
  | _ => none }
def BechCheckWrongFalsely : Prop := bechCheckRow.holds Try.pinned (OpenSpec.ofChange bechCheckWrong)

/-- 'entaillaw04.BechBits': WHATEVER THE INPUT: true; the input reads as it did. -/
def bechBitsSpec : ChangeSpec := { name := "bechBits", fn := fun _ => fun
  | [d] => { results := [.lit (.bool true)], args := [d] }
  | _ => none }
def bechBitsRow : OpenClaim := { program := "ytkacplgfkokdcaa", sum := "71b4e15045d09145385888acc1b343dbca33dc8b8e4311e10ac6ab98169d3998", func := "entail/entaillaw04.BechBits", spec := "bechBits", apart := false }
def BechBitsSaid : Prop := bechBitsRow.holds Try.pinned (OpenSpec.ofChange bechBitsSpec)

/-- ITS FALSE NEIGHBOUR: 'it returns false'. Refute it at one input. -/
def bechBitsWrong : ChangeSpec := { name := "bechBits", fn := fun _ => fun
  | [d] => { results := [.lit (.bool false)], args := [d] }
  | _ => none }
def BechBitsWrongFalsely : Prop := bechBitsRow.holds Try.pinned (OpenSpec.ofChange bechBitsWrong)

/-- 'entaillaw04.BechDecode': WHATEVER THE INPUT: true; the input reads as it did. -/
def bechDecodeSpec : ChangeSpec := { name := "bechDecode", fn := fun _ => fun
  | [d] => { results := [.lit (.bool true)], args := [d] }
  | _ => none }
def bechDecodeRow : OpenClaim := { program := "ytkacplgfkokdcaa", sum := "71b4e15045d09145385888acc1b343dbca33dc8b8e4311e10ac6ab98169d3998", func := "entail/entaillaw04.BechDecode", spec := "bechDecode", inPlace := ["internal/bytealg.IndexByteString"], apart := false }
def BechDecodeSaid : Prop := bechDecodeRow.holds Try.pinned (OpenSpec.ofChange bechDecodeSpec)

/-- ITS FALSE NEIGHBOUR: 'it returns false'. Refute it at one input. -/
def bechDecodeWrong : ChangeSpec := { name := "bechDecode", fn := fun _ => fun
  | [d] => { results := [.lit (.bool false)], args := [d] }
  | _ => none }
def BechDecodeWrongFalsely : Prop := bechDecodeRow.holds Try.pinned (OpenSpec.ofChange bechDecodeWrong)

/-- 'entaillaw04.BechEncode': WHATEVER THE INPUT: true; the input reads as it did. -/
def bechEncodeSpec : ChangeSpec := { name := "bechEncode", fn := fun _ => fun
  | [d1, d2] => { results := [.lit (.bool true)], args := [d1, d2] }
  | _ => none }
def bechEncodeRow : OpenClaim := { program := "ytkacplgfkokdcaa", sum := "71b4e15045d09145385888acc1b343dbca33dc8b8e4311e10ac6ab98169d3998", func := "entail/entaillaw04.BechEncode", spec := "bechEncode", inPlace := ["internal/abi.NoEscape"], apart := false }
def BechEncodeSaid : Prop := bechEncodeRow.holds Try.pinned (OpenSpec.ofChange bechEncodeSpec)

/-- ITS FALSE NEIGHBOUR: 'it returns false'. Refute it at one input. -/
def bechEncodeWrong : ChangeSpec := { name := "bechEncode", fn := fun _ => fun
  | [d1, d2] => { results := [.lit (.bool false)], args := [d1, d2] }
  | _ => none }
def BechEncodeWrongFalsely : Prop := bechEncodeRow.holds Try.pinned (OpenSpec.ofChange bechEncodeWrong)

/-- 'entaillaw04.BechSlip': WHATEVER THE INPUT: true; the input reads as it did. -/
def bechSlipSpec : ChangeSpec := { name := "bechSlip", fn := fun _ => fun
  | [d1, d2, d3] => { results := [.lit (.bool true)], args := [d1, d2, d3] }
  | _ => none }
def bechSlipRow : OpenClaim := { program := "ytkacplgfkokdcaa", sum := "71b4e15045d09145385888acc1b343dbca33dc8b8e4311e10ac6ab98169d3998", func := "entail/entaillaw04.BechSlip", spec := "bechSlip", inPlace := ["internal/abi.NoEscape", "internal/bytealg.IndexByteString"], apart := false }
def BechSlipSaid : Prop := bechSlipRow.holds Try.pinned (OpenSpec.ofChange bechSlipSpec)

/-- ITS FALSE NEIGHBOUR: 'it returns false'. Refute it at one input. -/
def bechSlipWrong : ChangeSpec := { name := "bechSlip", fn := fun _ => fun
  | [d1, d2, d3] => { results := [.lit (.bool false)], args := [d1, d2, d3] }
  | _ => none }
def BechSlipWrongFalsely : Prop := bechSlipRow.holds Try.pinned (OpenSpec.ofChange bechSlipWrong)

/-- 'entaillaw04.BechAddress': WHATEVER THE INPUT: true; the input reads as it did. -/
def bechAddressSpec : ChangeSpec := { name := "bechAddress", fn := fun _ => fun
  | [d1, d2] => { results := [.lit (.bool true)], args := [d1, d2] }
  | _ => none }
def bechAddressRow : OpenClaim := { program := "ytkacplgfkokdcaa", sum := "71b4e15045d09145385888acc1b343dbca33dc8b8e4311e10ac6ab98169d3998", func := "entail/entaillaw04.BechAddress", spec := "bechAddress", inPlace := ["internal/abi.NoEscape", "internal/bytealg.IndexByteString"], apart := false }
def BechAddressSaid : Prop := bechAddressRow.holds Try.pinned (OpenSpec.ofChange bechAddressSpec)

/-- ITS FALSE NEIGHBOUR: 'it returns false'. Refute it at one input. -/
def bechAddressWrong : ChangeSpec := { name := "bechAddress", fn := fun _ => fun
  | [d1, d2] => { results := [.lit (.bool false)], args := [d1, d2] }
  | _ => none }
def BechAddressWrongFalsely : Prop := bechAddressRow.holds Try.pinned (OpenSpec.ofChange bechAddressWrong)

/-- 'entaillaw04.BechBack': WHATEVER THE INPUT: true; the input reads as it did. -/
def bechBackSpec : ChangeSpec := { name := "bechBack", fn := fun _ => fun
  | [d1, d2] => { results := [.lit (.bool true)], args := [d1, d2] }
  | _ => none }
def bechBackRow : OpenClaim := { program := "ytkacplgfkokdcaa", sum := "71b4e15045d09145385888acc1b343dbca33dc8b8e4311e10ac6ab98169d3998", func := "entail/entaillaw04.BechBack", spec := "bechBack", inPlace := ["internal/abi.NoEscape", "internal/bytealg.IndexByteString"], apart := false }
def BechBackSaid : Prop := bechBackRow.holds Try.pinned (OpenSpec.ofChange bechBackSpec)

/-- ITS FALSE NEIGHBOUR: 'it returns false'. Refute it at one input. -/
def bechBackWrong : ChangeSpec := { name := "bechBack", fn := fun _ => fun
  | [d1, d2] => { results := [.lit (.bool false)], args := [d1, d2] }
  | _ => none }
def BechBackWrongFalsely : Prop := bechBackRow.holds Try.pinned (OpenSpec.ofChange bechBackWrong)

/- THE SECOND FORM. 'bulk': how many values and letters a reading holds, each counted each time it is reached (what is shared counts as often as it is met; a slice's spare places count too). A statement '..UptoSaid' is the law's where the arguments, and the package variables that the reading takes, are together of bulk at most 1048576: NARROWER than '..Said'. Prove '..Said' where nothing that the law and all that it calls make is longer than what came in: it says more and counts as full. Else prove '..UptoSaid'. A law counts once. -/
mutual
def uptoBulk {H : Type} : DataW H → Nat
  | .lit (.string bytes) => bytes.length + 1
  | .lit _ => 1
  | .nil => 1
  | .ptr d => uptoBulk d + 1
  | .slice elems spare => uptoBulkAll elems + uptoBulkAll spare + 1
  | .agg parts => uptoBulkAll parts + 1
  | .iface _ d => uptoBulk d + 1
  | .map entries => uptoBulkEntries entries + 1
  | .held _ => 1
def uptoBulkAll {H : Type} : List (DataW H) → Nat
  | [] => 0
  | d :: r => uptoBulk d + uptoBulkAll r
def uptoBulkEntries {H : Type} : List (Lit × DataW H) → Nat
  | [] => 0
  | x :: r => uptoBulkEntry x + uptoBulkEntries r
def uptoBulkEntry {H : Type} : Lit × DataW H → Nat
  | (.string bytes, d) => bytes.length + uptoBulk d + 1
  | (_, d) => uptoBulk d + 1
 end
def uptoSmall : (H : Type) → List (DataW H) → Bool := fun _ ds => decide (uptoBulkAll ds ≤ 1048576)
def OpenSpec.upto (s : _root_.Go.ChangeSpec) : _root_.Go.OpenSpec := { _root_.Go.OpenSpec.ofChange s with cond := some uptoSmall }

/-- 'entaillaw04.BechCheck', WHERE WHAT IT READS IS OF BULK AT MOST 1048576: true; the input reads as it did. -/
def bechCheckUptoRow : OpenClaim := { program := "ytkacplgfkokdcaa", sum := "71b4e15045d09145385888acc1b343dbca33dc8b8e4311e10ac6ab98169d3998", func := "entail/entaillaw04.BechCheck", spec := "bechCheck", apart := false, narrowed := true }
def BechCheckUptoSaid : Prop := bechCheckUptoRow.holds Try.pinned (OpenSpec.upto bechCheckSpec)

/-- 'entaillaw04.BechBits', WHERE WHAT IT READS IS OF BULK AT MOST 1048576: true; the input reads as it did. -/
def bechBitsUptoRow : OpenClaim := { program := "ytkacplgfkokdcaa", sum := "71b4e15045d09145385888acc1b343dbca33dc8b8e4311e10ac6ab98169d3998", func := "entail/entaillaw04.BechBits", spec := "bechBits", apart := false, narrowed := true }
def BechBitsUptoSaid : Prop := bechBitsUptoRow.holds Try.pinned (OpenSpec.upto bechBitsSpec)

/-- 'entaillaw04.BechDecode', WHERE WHAT IT READS IS OF BULK AT MOST 1048576: true; the input reads as it did. -/
def bechDecodeUptoRow : OpenClaim := { program := "ytkacplgfkokdcaa", sum := "71b4e15045d09145385888acc1b343dbca33dc8b8e4311e10ac6ab98169d3998", func := "entail/entaillaw04.BechDecode", spec := "bechDecode", inPlace := ["internal/bytealg.IndexByteString"], apart := false, narrowed := true }
def BechDecodeUptoSaid : Prop := bechDecodeUptoRow.holds Try.pinned (OpenSpec.upto bechDecodeSpec)

/-- 'entaillaw04.BechEncode', WHERE WHAT IT READS IS OF BULK AT MOST 1048576: true; the input reads as it did. -/
def bechEncodeUptoRow : OpenClaim := { program := "ytkacplgfkokdcaa", sum := "71b4e15045d09145385888acc1b343dbca33dc8b8e4311e10ac6ab98169d3998", func := "entail/entaillaw04.BechEncode", spec := "bechEncode", inPlace := ["internal/abi.NoEscape"], apart := false, narrowed := true }
def BechEncodeUptoSaid : Prop := bechEncodeUptoRow.holds Try.pinned (OpenSpec.upto bechEncodeSpec)

/-- 'entaillaw04.BechSlip', WHERE WHAT IT READS IS OF BULK AT MOST 1048576: true; the input reads as it did. -/
def bechSlipUptoRow : OpenClaim := { program := "ytkacplgfkokdcaa", sum := "71b4e15045d09145385888acc1b343dbca33dc8b8e4311e10ac6ab98169d3998", func := "entail/entaillaw04.BechSlip", spec := "bechSlip", inPlace := ["internal/abi.NoEscape", "internal/bytealg.IndexByteString"], apart := false, narrowed := true }
def BechSlipUptoSaid : Prop := bechSlipUptoRow.holds Try.pinned (OpenSpec.upto bechSlipSpec)

/-- 'entaillaw04.BechAddress', WHERE WHAT IT READS IS OF BULK AT MOST 1048576: true; the input reads as it did. -/
def bechAddressUptoRow : OpenClaim := { program := "ytkacplgfkokdcaa", sum := "71b4e15045d09145385888acc1b343dbca33dc8b8e4311e10ac6ab98169d3998", func := "entail/entaillaw04.BechAddress", spec := "bechAddress", inPlace := ["internal/abi.NoEscape", "internal/bytealg.IndexByteString"], apart := false, narrowed := true }
def BechAddressUptoSaid : Prop := bechAddressUptoRow.holds Try.pinned (OpenSpec.upto bechAddressSpec)

/-- 'entaillaw04.BechBack', WHERE WHAT IT READS IS OF BULK AT MOST 1048576: true; the input reads as it did. -/
def bechBackUptoRow : OpenClaim := { program := "ytkacplgfkokdcaa", sum := "71b4e15045d09145385888acc1b343dbca33dc8b8e4311e10ac6ab98169d3998", func := "entail/entaillaw04.BechBack", spec := "bechBack", inPlace := ["internal/abi.NoEscape", "internal/bytealg.IndexByteString"], apart := false, narrowed := true }
def BechBackUptoSaid : Prop := bechBackUptoRow.holds Try.pinned (OpenSpec.upto bechBackSpec)

end Rows
end Go.Proofs.Ytkacplgfkokdcaa
