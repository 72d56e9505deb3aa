/-
  No cell of these rows narrows 'for every input' (looked for: loops, veiled, ifaces, maps, wideKeys, modest, calm, conditions, laid).
  DERIVED. THE GIVEN ROWS OF THIS SEAT. 5 by the template 'for every input the law returns true; each argument reads behind the call as it read before'; 0 by the template 'total and deterministic' (their statements: YtifjpjbjlgeifaaTotals.lean).
  GIVEN WITH THE SEED: the statements are not yours to turn. If you find one false, say at which input.
  Laid BY PROGRAM, IN A SANDBOX (cutbox-rows.mjs): the forced cells as the released guide's own fill.sh prints them over the translation ee29c5d6c1d33d9c… (all of the seat's roots in one cut). By AI agents, Wed Nov 11 2026. No macro, syntax, notation, axiom, sorry.
-/
import Derived.Test.YtifjpjbjlgeifaaChecked
import GoSem.Claim
import GoSem.ClaimJoined
import GoSem.ClaimMapViews
import Derived.JoinedTies
import Derived.KernelRfl
namespace Go.Proofs.Ytifjpjbjlgeifaa
/- THE CELL 'sum', in the pinned program and in every row, IS THE sha256 OF THE DUMP (.gsa) THAT YtifjpjbjlgeifaaProg.lean LOADS. Nothing in Lean hashes anything: it is a label: what it is worth is what the hold of that sum in a sandbox is worth. -/
noncomputable def Try.pinned : Pinned := { name := "ytifjpjbjlgeifaa", sum := "ee29c5d6c1d33d9cf2d3fb787a584085be75265e466671cfe5014ffbf4ed13ae", checked := Try.checked }
namespace Rows
def none {H : Type} : Left H := { results := [], args := [] }

/-- 'entaillaw02.HexesEncode': WHATEVER THE INPUT: true; the input reads as it did. -/
def hexesEncodeSpec : ChangeSpec := { name := "hexesEncode", fn := fun _ => fun
  | [d] => { results := [.lit (.bool true)], args := [d] }
  | _ => none }
def hexesEncodeRow : OpenClaim := { program := "ytifjpjbjlgeifaa", sum := "ee29c5d6c1d33d9cf2d3fb787a584085be75265e466671cfe5014ffbf4ed13ae", func := "entail/entaillaw02.HexesEncode", spec := "hexesEncode", inPlace := ["internal/abi.NoEscape"], apart := false }
def HexesEncodeSaid : Prop := hexesEncodeRow.holds Try.pinned (OpenSpec.ofChange hexesEncodeSpec)

/-- ITS FALSE NEIGHBOUR: 'it returns false'. Refute it at one input. -/
def hexesEncodeWrong : ChangeSpec := { name := "hexesEncode", fn := fun _ => fun
  | [d] => { results := [.lit (.bool false)], args := [d] }
  | _ => none }
def HexesEncodeWrongFalsely : Prop := hexesEncodeRow.holds Try.pinned (OpenSpec.ofChange hexesEncodeWrong)

/-- 'entaillaw02.HexesDecode': WHATEVER THE INPUT: true; the input reads as it did. -/
def hexesDecodeSpec : ChangeSpec := { name := "hexesDecode", fn := fun _ => fun
  | [d] => { results := [.lit (.bool true)], args := [d] }
  | _ => none }
def hexesDecodeRow : OpenClaim := { program := "ytifjpjbjlgeifaa", sum := "ee29c5d6c1d33d9cf2d3fb787a584085be75265e466671cfe5014ffbf4ed13ae", func := "entail/entaillaw02.HexesDecode", spec := "hexesDecode", inPlace := ["internal/abi.NoEscape"], apart := false }
def HexesDecodeSaid : Prop := hexesDecodeRow.holds Try.pinned (OpenSpec.ofChange hexesDecodeSpec)

/-- ITS FALSE NEIGHBOUR: 'it returns false'. Refute it at one input. -/
def hexesDecodeWrong : ChangeSpec := { name := "hexesDecode", fn := fun _ => fun
  | [d] => { results := [.lit (.bool false)], args := [d] }
  | _ => none }
def HexesDecodeWrongFalsely : Prop := hexesDecodeRow.holds Try.pinned (OpenSpec.ofChange hexesDecodeWrong)

/-- 'entaillaw02.HexesOnly': WHATEVER THE INPUT: true; the input reads as it did. -/
def hexesOnlySpec : ChangeSpec := { name := "hexesOnly", fn := fun _ => fun
  | [d] => { results := [.lit (.bool true)], args := [d] }
  | _ => none }
def hexesOnlyRow : OpenClaim := { program := "ytifjpjbjlgeifaa", sum := "ee29c5d6c1d33d9cf2d3fb787a584085be75265e466671cfe5014ffbf4ed13ae", func := "entail/entaillaw02.HexesOnly", spec := "hexesOnly", inPlace := ["internal/abi.NoEscape"], apart := false }
def HexesOnlySaid : Prop := hexesOnlyRow.holds Try.pinned (OpenSpec.ofChange hexesOnlySpec)

/-- ITS FALSE NEIGHBOUR: 'it returns false'. Refute it at one input. -/
def hexesOnlyWrong : ChangeSpec := { name := "hexesOnly", fn := fun _ => fun
  | [d] => { results := [.lit (.bool false)], args := [d] }
  | _ => none }
def HexesOnlyWrongFalsely : Prop := hexesOnlyRow.holds Try.pinned (OpenSpec.ofChange hexesOnlyWrong)

/-- 'entaillaw02.HexesNames': WHATEVER THE INPUT: true; the input reads as it did. -/
def hexesNamesSpec : ChangeSpec := { name := "hexesNames", fn := fun _ => fun
  | [d1, d2] => { results := [.lit (.bool true)], args := [d1, d2] }
  | _ => none }
def hexesNamesRow : OpenClaim := { program := "ytifjpjbjlgeifaa", sum := "ee29c5d6c1d33d9cf2d3fb787a584085be75265e466671cfe5014ffbf4ed13ae", func := "entail/entaillaw02.HexesNames", spec := "hexesNames", inPlace := ["internal/abi.NoEscape"], apart := false }
def HexesNamesSaid : Prop := hexesNamesRow.holds Try.pinned (OpenSpec.ofChange hexesNamesSpec)

/-- ITS FALSE NEIGHBOUR: 'it returns false'. Refute it at one input. -/
def hexesNamesWrong : ChangeSpec := { name := "hexesNames", fn := fun _ => fun
  | [d1, d2] => { results := [.lit (.bool false)], args := [d1, d2] }
  | _ => none }
def HexesNamesWrongFalsely : Prop := hexesNamesRow.holds Try.pinned (OpenSpec.ofChange hexesNamesWrong)

/-- 'entaillaw02.HexesBack': WHATEVER THE INPUT: true; the input reads as it did. -/
def hexesBackSpec : ChangeSpec := { name := "hexesBack", fn := fun _ => fun
  | [d1, d2] => { results := [.lit (.bool true)], args := [d1, d2] }
  | _ => none }
def hexesBackRow : OpenClaim := { program := "ytifjpjbjlgeifaa", sum := "ee29c5d6c1d33d9cf2d3fb787a584085be75265e466671cfe5014ffbf4ed13ae", func := "entail/entaillaw02.HexesBack", spec := "hexesBack", inPlace := ["internal/abi.NoEscape"], apart := false }
def HexesBackSaid : Prop := hexesBackRow.holds Try.pinned (OpenSpec.ofChange hexesBackSpec)

/-- ITS FALSE NEIGHBOUR: 'it returns false'. Refute it at one input. -/
def hexesBackWrong : ChangeSpec := { name := "hexesBack", fn := fun _ => fun
  | [d1, d2] => { results := [.lit (.bool false)], args := [d1, d2] }
  | _ => none }
def HexesBackWrongFalsely : Prop := hexesBackRow.holds Try.pinned (OpenSpec.ofChange hexesBackWrong)

/- THE SECOND FORM. 'bulk': how many values and letters a reading holds, each counted each time it is reached (what is shared counts as often as it is met; a slice's spare places count too). A statement '..UptoSaid' is the law's where the arguments, and the package variables that the reading takes, are together of bulk at most 1048576: NARROWER than '..Said'. Prove '..Said' where nothing that the law and all that it calls make is longer than what came in: it says more and counts as full. Else prove '..UptoSaid'. A law counts once. -/
mutual
def uptoBulk {H : Type} : DataW H → Nat
  | .lit (.string bytes) => bytes.length + 1
  | .lit _ => 1
  | .nil => 1
  | .ptr d => uptoBulk d + 1
  | .slice elems spare => uptoBulkAll elems + uptoBulkAll spare + 1
  | .agg parts => uptoBulkAll parts + 1
  | .iface _ d => uptoBulk d + 1
  | .map entries => uptoBulkEntries entries + 1
  | .held _ => 1
def uptoBulkAll {H : Type} : List (DataW H) → Nat
  | [] => 0
  | d :: r => uptoBulk d + uptoBulkAll r
def uptoBulkEntries {H : Type} : List (Lit × DataW H) → Nat
  | [] => 0
  | x :: r => uptoBulkEntry x + uptoBulkEntries r
def uptoBulkEntry {H : Type} : Lit × DataW H → Nat
  | (.string bytes, d) => bytes.length + uptoBulk d + 1
  | (_, d) => uptoBulk d + 1
 end
def uptoSmall : (H : Type) → List (DataW H) → Bool := fun _ ds => decide (uptoBulkAll ds ≤ 1048576)
def OpenSpec.upto (s : _root_.Go.ChangeSpec) : _root_.Go.OpenSpec := { _root_.Go.OpenSpec.ofChange s with cond := some uptoSmall }

/-- 'entaillaw02.HexesEncode', WHERE WHAT IT READS IS OF BULK AT MOST 1048576: true; the input reads as it did. -/
def hexesEncodeUptoRow : OpenClaim := { program := "ytifjpjbjlgeifaa", sum := "ee29c5d6c1d33d9cf2d3fb787a584085be75265e466671cfe5014ffbf4ed13ae", func := "entail/entaillaw02.HexesEncode", spec := "hexesEncode", inPlace := ["internal/abi.NoEscape"], apart := false, narrowed := true }
def HexesEncodeUptoSaid : Prop := hexesEncodeUptoRow.holds Try.pinned (OpenSpec.upto hexesEncodeSpec)

/-- 'entaillaw02.HexesDecode', WHERE WHAT IT READS IS OF BULK AT MOST 1048576: true; the input reads as it did. -/
def hexesDecodeUptoRow : OpenClaim := { program := "ytifjpjbjlgeifaa", sum := "ee29c5d6c1d33d9cf2d3fb787a584085be75265e466671cfe5014ffbf4ed13ae", func := "entail/entaillaw02.HexesDecode", spec := "hexesDecode", inPlace := ["internal/abi.NoEscape"], apart := false, narrowed := true }
def HexesDecodeUptoSaid : Prop := hexesDecodeUptoRow.holds Try.pinned (OpenSpec.upto hexesDecodeSpec)

/-- 'entaillaw02.HexesOnly', WHERE WHAT IT READS IS OF BULK AT MOST 1048576: true; the input reads as it did. -/
def hexesOnlyUptoRow : OpenClaim := { program := "ytifjpjbjlgeifaa", sum := "ee29c5d6c1d33d9cf2d3fb787a584085be75265e466671cfe5014ffbf4ed13ae", func := "entail/entaillaw02.HexesOnly", spec := "hexesOnly", inPlace := ["internal/abi.NoEscape"], apart := false, narrowed := true }
def HexesOnlyUptoSaid : Prop := hexesOnlyUptoRow.holds Try.pinned (OpenSpec.upto hexesOnlySpec)

/-- 'entaillaw02.HexesNames', WHERE WHAT IT READS IS OF BULK AT MOST 1048576: true; the input reads as it did. -/
def hexesNamesUptoRow : OpenClaim := { program := "ytifjpjbjlgeifaa", sum := "ee29c5d6c1d33d9cf2d3fb787a584085be75265e466671cfe5014ffbf4ed13ae", func := "entail/entaillaw02.HexesNames", spec := "hexesNames", inPlace := ["internal/abi.NoEscape"], apart := false, narrowed := true }
def HexesNamesUptoSaid : Prop := hexesNamesUptoRow.holds Try.pinned (OpenSpec.upto hexesNamesSpec)

/-- 'entaillaw02.HexesBack', WHERE WHAT IT READS IS OF BULK AT MOST 1048576: true; the input reads as it did. -/
def hexesBackUptoRow : OpenClaim := { program := "ytifjpjbjlgeifaa", sum := "ee29c5d6c1d33d9cf2d3fb787a584085be75265e466671cfe5014ffbf4ed13ae", func := "entail/entaillaw02.HexesBack", spec := "hexesBack", inPlace := ["internal/abi.NoEscape"], apart := false, narrowed := true }
def HexesBackUptoSaid : Prop := hexesBackUptoRow.holds Try.pinned (OpenSpec.upto hexesBackSpec)

end Rows
end Go.Proofs.Ytifjpjbjlgeifaa
