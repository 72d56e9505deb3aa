/-
  THE WALK over slices.Reverse at a row that fills one block.
-/
import Derived.Test.YtifjpjbjlgeifaaHexDec
import Derived.Test.YtifjpjbjlgeifaaArr
import Derived.Deep.RegionWith
import Derived.RegionTactic
import Derived.Sort.WalkB12
set_option linter.unusedVariables false
namespace Go.Proofs.Ytifjpjbjlgeifaa
open Go.RowKit

/-- The first k and the last k of a row have changed places. -/
def Turn (cs ds : Array Value) (n k : Nat) : Prop := ds.size = n ∧ ∀ i : Nat, i < n → ds[i]? = if i < k ∨ n - 1 - k < i then cs[n - 1 - i]? else cs[i]?

theorem Turn.start (cs : Array Value) {n : Nat} (h : cs.size = n) : Turn cs cs n 0 := by
  refine ⟨h, fun i hi => ?_⟩
  rw [if_neg (by omega)]

theorem Turn.next {cs ds : Array Value} {n k j : Nat} {u v : Value} (h : Turn cs ds n k) (hn : cs.size = n) (hkj : k + j + 1 = n) (hlt : k < j) (hu : ds[k]? = some u) (hv : ds[j]? = some v) :
    Turn cs ((ds.setIfInBounds k v).setIfInBounds j u) n (k + 1) := by
  refine ⟨by simp [h.1], fun i hi => ?_⟩
  have e1 := h.2 k (by omega)
  have e2 := h.2 j (by omega)
  rw [if_neg (by omega)] at e1 e2
  rw [Array.getElem?_setIfInBounds, Array.getElem?_setIfInBounds]
  by_cases h1 : j = i
  · subst h1
    rw [if_pos rfl, if_pos (by simp [h.1]; omega), if_pos (by omega), show n - 1 - j = k by omega, ← e1, hu]
  · rw [if_neg h1]
    by_cases h2 : k = i
    · subst h2
      rw [if_pos rfl, if_pos (by simp [h.1]; omega), if_pos (by omega), show n - 1 - k = j by omega, ← e2, hv]
    · rw [if_neg h2, h.2 i hi]
      by_cases h3 : i < k ∨ n - 1 - k < i
      · rw [if_pos h3, if_pos (by omega)]
      · rw [if_neg h3, if_neg (by omega)]

theorem Turn.fin {cs ds : Array Value} {n k : Nat} (h : Turn cs ds n k) (hn : cs.size = n) (hk : n ≤ 2 * k + 1) : ds = cs.reverse := by
  apply Array.ext_getElem?
  intro i
  by_cases hi : i < n
  · rw [h.2 i hi, Array.getElem?_reverse (by omega)]
    split
    · rw [hn]
    · rw [hn]; congr 1; omega
  · rw [Array.getElem?_eq_none (by rw [h.1]; omega), Array.getElem?_eq_none (by simp; omega)]

set_option maxHeartbeats 1000000 in
theorem reverse_any (g n : Nat) (t : TypeId) (cs : Array Value) (w : World) (h : Blk w g t cs) (hn : cs.size = n) (hm : n ≤ 1000000) (hi : ∀ (i : Nat) u, cs[i]? = some u → ∃ m : Int, u = .int .u8 m) (c : Nat) :
    Calls Try.prog 21 #[.slice (some ⟨g, 0, none⟩) n c] w fun e w' => e = .returned (.tuple #[]) ∧ w.grownBy w' (some g) ∧ Blk w' g t cs.reverse := by
  have H := Lib.hid h
  clear h
  go_enter Try.func21, Try.ntmps21
  go_wp2
  go_loopw [2, 3] (fun i j wr => ∃ k : Nat, ∃ jj : Int, k + jj + 1 = (n : Int) ∧ (k : Int) ≤ jj + 2 ∧ i = .int .i64 k ∧ j = .int .i64 jj ∧ w.grownBy wr (some g) ∧ ∃ ds, Hid (Turn cs ds n k) ∧ Hid (Blk wr g t ds)) (fun i j wr => n - 2 * (intOf i).toNat)
  case atStart => exact ⟨0, n - 1, by omega, by omega, rfl, rfl, World.grownBy.refl _ _, cs, Lib.hid (Turn.start cs hn), H⟩
  case round =>
    obtain ⟨k, jj, hkj, hkk, rfl, rfl, hg, ds, HT, HD⟩ := hrel
    by_cases hlt : (k : Int) < jj
    · obtain ⟨j, rfl⟩ : ∃ j : Nat, jj = j := ⟨jj.toNat, by omega⟩
      obtain ⟨u, hu⟩ : ∃ u, ds[k]? = some u := ⟨ds[k]'(by rw [HT.out.1]; omega), Array.getElem?_eq_getElem _⟩
      obtain ⟨v, hv⟩ : ∃ v, ds[j]? = some v := ⟨ds[j]'(by rw [HT.out.1]; omega), Array.getElem?_eq_getElem _⟩
      obtain ⟨u, rfl⟩ : ∃ m : Int, u = .int .u8 m := hi k u (by have := HT.out.2 k (by omega); rw [if_neg (by omega)] at this; rw [← this]; exact hu)
      obtain ⟨v, rfl⟩ : ∃ m : Int, v = .int .u8 m := hi j v (by have := HT.out.2 j (by omega); rw [if_neg (by omega)] at this; rw [← this]; exact hv)
      have h1 : wr.drew.cell? ⟨g, k, none⟩ = some (.int .u8 u) := (HD.out.cell k).trans hu
      have h2 : wr.drew.cell? ⟨g, j, none⟩ = some (.int .u8 v) := (HD.out.cell j).trans hv
      have f1 : wr.drew.frozen? ⟨g, k, none⟩ = false := HD.out.frozen k
      have f2 : wr.drew.frozen? ⟨g, j, none⟩ = false := HD.out.frozen j
      have f3 : (wr.setCell ⟨g, k, none⟩ (.int .u8 v)).drew.frozen? ⟨g, j, none⟩ = false := (HD.out.set_ k (.int .u8 v)).frozen j
      have c3 : (wr.setCell ⟨g, k, none⟩ (.int .u8 v)).drew.cell? ⟨g, j, none⟩ = some (.int .u8 v) := ((HD.out.set_ k (.int .u8 v)).cell j).trans (by rw [Array.getElem?_setIfInBounds, if_neg (by omega), hv])
      have HT' := Lib.hid (HT.out.next hn (by omega) (by omega) hu hv)
      have HU := Lib.hid hu
      have HV := Lib.hid hv
      clear hu hv
      have hj0 : (j : Int) < (n : Int) := by omega
      have hk0 : (k : Int) < (n : Int) := by omega
      have mixed : Try.prog.follows Departure.mixedOrders = true := by kernel_rfl
      go_wp2_with fail
      go_big_region_o
      all_goals go_wp2

      go_roundw
      case measure => simp [intOf]; omega
      case rel =>
        refine ⟨k + 1, (j : Int) - 1, by omega, by omega, by simp, rfl, only_setCell (only_setCell (only_drewN hg 1) (.inl rfl) (.int .u8 v)) (.inl rfl) (.int .u8 u), _, HT', Lib.hid ((HD.out.drew.set_ k (.int .u8 v)).set_ j (.int .u8 u))⟩
    · go_wp2
      go_end0
      have := HT.out.fin hn (by omega)
      exact ⟨rfl, hg, this ▸ HD.out⟩

end Go.Proofs.Ytifjpjbjlgeifaa
