/-
  AN ARRAY OF BYTES BY VALUE, opened: its cells are bytes.
-/
import Derived.Test.YtifjpjbjlgeifaaMem
import Derived.ProofKit
import Derived.OpenShut
set_option linter.unusedVariables false
namespace Go.Proofs.Ytifjpjbjlgeifaa
open Go.ChangeShapes Go.WideShapes Go.ChangeAt Go.RowKit

section
variable {H : Type} {enc : TypeId × Value → H} {P : Program} {W : World} {base : Nat} {sp : Nat → Bool} {held : Bool}

theorem open_bytes {t e : TypeId} {n : Nat} {v : Value} {d : DataW H} {p : List MemPlace} (ht : P.underlying t = some (.array n e)) (he : P.underlying e = some (.int .u8)) (hce : P.cellsOf e = 1) (hct : P.cellsOf t = n)
    (hv : Value.okWide P W .any base t v) (h : DataW.Trod enc P W 0 sp held t v d p) : ∃ bs : List UInt8, bs.length = n ∧ v = .agg (Lib.byteCells bs).toArray := by
  obtain ⟨cs, rfl, hs⟩ : ∃ cs, v = .agg cs ∧ cs.size = P.cellsOf t := by
    simp only [Value.okWide, ht] at hv
    obtain ⟨cs, h1, h2, _⟩ := hv
    exact ⟨cs, h1, h2⟩
  obtain ⟨fuel, hf⟩ := h
  obtain ⟨xs, m, _, _, _, hl, hel⟩ := DataW.trod_array ht hf
  rw [hct] at hs
  have hcell : ∀ i, i < n → ∃ z : UInt8, cs[i]? = some (.int .u8 (z.toNat : Int)) := by
    intro i hi
    have hE := hel i hi
    rw [hce, Nat.mul_one, List.getElem?_eq_getElem (by omega)] at hE
    obtain ⟨z, e1, _, hz⟩ := DataW.trod_int he hE
    have h0 : (((Value.agg cs).cells.toList.drop i).take 1)[0]? = some (.int .u8 z) := by rw [e1]; rfl
    have h1 : cs[i]? = some (.int .u8 z) := by simpa [Value.cells] using h0
    have hb := bounds_u8 hz
    refine ⟨UInt8.ofNat z.toNat, ?_⟩
    rw [h1]
    congr 2
    rw [UInt8.toNat_ofNat']
    omega
  refine ⟨(List.range n).map fun i => match cs[i]? with | some (Value.int _ z) => UInt8.ofNat z.toNat | _ => 0, by simp, ?_⟩
  congr 1
  apply Array.ext_getElem?
  intro i
  by_cases hi : i < n
  · obtain ⟨z, hz⟩ := hcell i hi
    rw [hz]
    simp only [Lib.byteCells, List.getElem?_toArray, List.getElem?_map, List.getElem?_range hi, Option.map_some, hz]
    congr 3
    rw [Int.toNat_natCast]
    simp
  · rw [Array.getElem?_eq_none (by omega), Array.getElem?_eq_none (by simp [Lib.byteCells]; omega)]
end

end Go.Proofs.Ytifjpjbjlgeifaa
