/-
  AN ARRAY OF TWO NUMBERS BY VALUE, opened: its cells are numbers.
-/
import Derived.Test.YtkacplgfkokdcaaMem
import Derived.ProofKit
import Derived.OpenShut
set_option linter.unusedVariables false
namespace Go.Proofs.Ytkacplgfkokdcaa
open Go.ChangeShapes Go.WideShapes Go.ChangeAt Go.RowKit

section
variable {H : Type} {enc : TypeId × Value → H} {P : Program} {W : World} {base : Nat} {sp : Nat → Bool} {held : Bool}

theorem open_pair {t e : TypeId} {v : Value} {d : DataW H} {p : List MemPlace} (ht : P.underlying t = some (.array 2 e)) (he : P.underlying e = some (.int .i64)) (hce : P.cellsOf e = 1) (hct : P.cellsOf t = 2)
    (hv : Value.okWide P W .any base t v) (h : DataW.Trod enc P W 0 sp held t v d p) : ∃ x y : Int, v = .agg #[.int .i64 x, .int .i64 y] ∧ (-9223372036854775808 ≤ x ∧ x ≤ 9223372036854775807) ∧ (-9223372036854775808 ≤ y ∧ y ≤ 9223372036854775807) := by
  obtain ⟨cs, rfl, hs⟩ : ∃ cs, v = .agg cs ∧ cs.size = P.cellsOf t := by
    simp only [Value.okWide, ht] at hv
    obtain ⟨cs, h1, h2, _⟩ := hv
    exact ⟨cs, h1, h2⟩
  obtain ⟨fuel, hf⟩ := h
  obtain ⟨xs, m, _, _, _, hl, hel⟩ := DataW.trod_array ht hf
  rw [hct] at hs
  have hcell : ∀ i, i < 2 → ∃ z : Int, cs[i]? = some (.int .i64 z) ∧ -9223372036854775808 ≤ z ∧ z ≤ 9223372036854775807 := by
    intro i hi
    have hE := hel i hi
    rw [hce, Nat.mul_one, List.getElem?_eq_getElem (by omega)] at hE
    obtain ⟨z, e1, _, hz⟩ := DataW.trod_int he hE
    have h0 : (((Value.agg cs).cells.toList.drop i).take 1)[0]? = some (.int .i64 z) := by rw [e1]; rfl
    have h1 : cs[i]? = some (.int .i64 z) := by simpa [Value.cells] using h0
    exact ⟨z, h1, bounds_i64 hz⟩
  obtain ⟨x, hx, bx⟩ := hcell 0 (by omega)
  obtain ⟨y, hy, b_y⟩ := hcell 1 (by omega)
  refine ⟨x, y, ?_, bx, b_y⟩
  congr 1
  apply Array.ext_getElem?
  intro i
  match i with
  | 0 => rw [hx]; rfl
  | 1 => rw [hy]; rfl
  | i + 2 => rw [Array.getElem?_eq_none (by omega), Array.getElem?_eq_none (by simp)]
end

end Go.Proofs.Ytkacplgfkokdcaa
