/-
  What the row's list of variables gives; a slice of numbers among the arguments, opened.
-/
import Derived.Test.YtpnghjfcfeaemaaDoorMonLaw1
import Derived.Test.YtpnghjfcfeaemaaDoorRows
import Derived.LaidSub
import Derived.ProofKit
set_option linter.unusedVariables false
namespace Go.Proofs.YtpnghjfcfeaemaaDoor
open Go.RowKit

def keepTab (x : String × DataW Unit) : Bool := x.1 == "internal/strconv.uint64pow10"
theorem tab_of_laid {laid : List (String × DataW Unit)} {W : World} (e : laid.filter keepTab = [("internal/strconv.uint64pow10", Lib.tabData .u64 Lib.pow10Tab)]) (h : laidMetH Tryd.prog laid W) : Tab W := by
  have h2 := laidMetH.filter keepTab h
  rw [e] at h2
  exact Lib.tabIs_of_head (rest := []) gTab (t := 74) (by kernel_rfl) Tryd.underlying74 Tryd.underlying23 (by kernel_rfl) (by kernel_rfl) h2

theorem IsRow.nums {w : World} {a : Option Addr} {len cap : Nat} {zs : List Int} (h : IsRow .u64 w a len cap zs) : ∃ l : List Nat, RdQ w w.heap.size a len l ∧ len ≤ cap ∧ cap ≤ maxLen := by
  rcases h with ⟨rfl, rfl, rfl, rfl⟩ | ⟨x, rfl, hl, hm, hz, hc, hw⟩
  · exact ⟨[], ⟨Reads.none_, fun v hv => by cases hv⟩, Nat.le_refl _, by unfold maxLen; omega⟩
  · have hwj : ∀ j (hj : j < zs.length), 0 ≤ zs[j] ∧ zs[j] ≤ 18446744073709551615 := fun j hj => by
      have := hw zs[j] (List.getElem_mem hj)
      simpa [Lit.wf, IntKind.min, IntKind.max, IntKind.signed, IntKind.bits] using this
    refine ⟨(zs.take len).map fun n => n.toNat, ⟨⟨by simp [numCells]; omega, fun hn => ?_⟩, fun v hv => ?_⟩, hl, hm⟩
    · have h0 := hc 0 (by omega)
      refine ⟨x, rfl, by have := World.block_lt_of_cell? _ _ h0; rwa [block_of_add] at this, fun j u hu => ?_⟩
      have hj : j < len := by
        rcases Nat.lt_or_ge j len with h | h
        · exact h
        · rw [List.getElem?_eq_none (by simp [numCells]; omega)] at hu; cases hu
      rw [hc j (by omega)]
      have hb := hwj j (by omega)
      simp [numCells, hj, List.getElem?_eq_getElem (show j < zs.length by omega)] at hu
      rw [← hu]
      simp [List.getD, List.getElem?_eq_getElem (show j < zs.length by omega)]
      omega
    · obtain ⟨n, hn, rfl⟩ := List.mem_map.1 hv
      obtain ⟨j, hj, rfl⟩ := List.getElem_of_mem (List.mem_of_mem_take hn)
      have := hwj j hj
      omega

end Go.Proofs.YtpnghjfcfeaemaaDoor
