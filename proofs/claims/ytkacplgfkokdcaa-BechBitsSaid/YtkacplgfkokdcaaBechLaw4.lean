/-
  The walk over the law BechBits, whole.
-/
import Derived.Test.YtkacplgfkokdcaaBechLaw2
import Derived.Test.YtkacplgfkokdcaaBechLaw3
set_option linter.unusedVariables false
namespace Go.Proofs.Ytkacplgfkokdcaa
open Go.RowKit

set_option maxHeartbeats 1000000 in
theorem lawBits (A : Option Addr) (n c : Nat) (bs : List UInt8) (w : World) (h : RdB w w.heap.size A n bs) (hc : n ≤ maxLen) :
    Calls Try.prog 4 #[.slice A n c] w fun e w' => e = .returned (.bool true) ∧ Below w.heap.size w w' := by
  by_cases hn : 200 < n
  · have hn' : (200 : Int) < (n : Int) := by omega
    go_enter Try.func4, Try.ntmps4
    go_wp2_with fail
    refine (alive_any _).mono ?_
    rintro e w1 ⟨rfl, hb1⟩
    go_wp2
    go_ret
    exact ⟨rfl, hb1⟩
  · cases hg : gatherL bs with
    | none => exact lawBits_none A n c bs w h hc hn hg
    | some l => exact lawBits_some A n c bs w h hc hn l hg

end Go.Proofs.Ytkacplgfkokdcaa
