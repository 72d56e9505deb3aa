/-
  PLAIN LEAN: what Decode reads of a text: the head ahead of the last 1, the numbers behind it.
-/
import Derived.Test.YtkacplgfkokdcaaBechEncR
set_option linter.unusedVariables false
namespace Go.Proofs.Ytkacplgfkokdcaa
open Go.RowKit

/-- A text, cut at its last 1. -/
def lastOne : List UInt8 → Option (List UInt8 × List UInt8)
  | [] => none
  | c :: l => match lastOne l with
    | some x => some (c :: x.1, x.2)
    | none => if c = 49 then some ([], l) else none

theorem lastOne_none : ∀ {l : List UInt8}, lastOne l = none → ∀ v ∈ l, v ≠ 49
  | [], _, v, hv => absurd hv (by simp)
  | c :: l, h, v, hv => by
    simp only [lastOne] at h
    cases hl : lastOne l with
    | some x => rw [hl] at h; simp at h
    | none =>
      rw [hl] at h
      have hc : c ≠ 49 := by intro e; simp [e] at h
      rcases List.mem_cons.1 hv with rfl | hv
      · exact hc
      · exact lastOne_none hl v hv
theorem lastOne_some : ∀ {l : List UInt8} {x}, lastOne l = some x → l = x.1 ++ 49 :: x.2 ∧ ∀ v ∈ x.2, v ≠ 49
  | [], x, h => by simp [lastOne] at h
  | c :: l, x, h => by
    simp only [lastOne] at h
    cases hl : lastOne l with
    | some y =>
      rw [hl] at h
      simp only [Option.some.injEq] at h
      subst h
      obtain ⟨h1, h2⟩ := lastOne_some hl
      exact ⟨by rw [h1]; rfl, h2⟩
    | none =>
      rw [hl] at h
      by_cases hc : c = 49
      · simp [hc] at h
        subst h
        exact ⟨by rw [hc]; rfl, lastOne_none hl⟩
      · simp [hc] at h
theorem lastOne_not : ∀ {l : List UInt8}, (∀ v ∈ l, v ≠ 49) → lastOne l = none
  | [], _ => rfl
  | c :: l, h => by
    simp only [lastOne]
    rw [lastOne_not fun v hv => h v (by simp [hv])]
    simp [h c (by simp)]
theorem lastOne_at : ∀ (h : List UInt8) {r : List UInt8}, (∀ v ∈ r, v ≠ 49) → lastOne (h ++ 49 :: r) = some (h, r)
  | [], r, hr => by
    show lastOne (49 :: r) = _
    simp only [lastOne]
    rw [lastOne_not hr]
    simp
  | c :: h, r, hr => by
    show lastOne (c :: (h ++ 49 :: r)) = _
    simp only [lastOne]
    rw [lastOne_at h hr]

/-- The head and data of a text. -/
def decL (l : List UInt8) : Option (List UInt8 × List UInt8) :=
  match lastOne l with
  | none => none
  | some x => if 6 ≤ x.2.length then (tailR x.1 x.2).map fun d => (x.1, d) else none

theorem decL_none {l : List UInt8} (h : lastOne l = none) : decL l = none := by unfold decL; rw [h]
theorem decL_short {l : List UInt8} {x} (h : lastOne l = some x) (h6 : ¬ 6 ≤ x.2.length) : decL l = none := by
  unfold decL; rw [h]; simp [h6]
theorem decL_head {l : List UInt8} {x} (h : lastOne l = some x) (hh : headOk x.1 = false) : decL l = none := by
  unfold decL; rw [h]
  show (if 6 ≤ x.2.length then (tailR x.1 x.2).map fun d => (x.1, d) else none) = none
  rw [tailR_bad hh]
  split <;> rfl
theorem decL_tail {l : List UInt8} {x} (h : lastOne l = some x) (h6 : 6 ≤ x.2.length) : decL l = (tailR x.1 x.2).map fun d => (x.1, d) := by
  unfold decL; rw [h]; simp [h6]

/-- Where the last 1 stands, in bytes of a text. -/
theorem getB (s : ByteArray) (j : Nat) (hj : j < s.data.toList.length) : s.data[j]! = s.data.toList[j] := by
  have : j < s.data.size := by simpa using hj
  rw [getElem!_pos s.data j this, Array.getElem_toList]
theorem last_none {s : ByteArray} (h : lastOne s.data.toList = none) : Lib.lastIndexByte s 49 = -1 := by
  rcases Lib.lastIdx_spec s 49 s.size with ⟨h1, _⟩ | ⟨i, hi, _, h2, _⟩
  · exact h1
  · have hl : i < s.data.toList.length := by rw [← size_list]; exact hi
    have := lastOne_none h _ (List.getElem_mem hl)
    rw [getB s i hl] at h2
    exact absurd (UInt8.toNat_inj.1 (by show _ = 49; omega)) this
theorem last_some {s : ByteArray} {x} (h : lastOne s.data.toList = some x) : Lib.lastIndexByte s 49 = (x.1.length : Int) := by
  obtain ⟨e, hn⟩ := lastOne_some h
  have hlen : s.size = x.1.length + (x.2.length + 1) := by rw [size_list, e]; simp
  have hat : s.data[x.1.length]! = 49 := by
    rw [getB s _ (by rw [← size_list, hlen]; omega)]
    simp [e]
  rcases Lib.lastIdx_spec s 49 s.size with ⟨_, h1⟩ | ⟨i, hi, he, h2, h3⟩
  · have := h1 x.1.length (by omega)
    rw [hat] at this
    exact absurd rfl this
  · show Lib.lastIdx s 49 s.size = _
    rw [he]
    by_cases hlt : i < x.1.length
    · have := h3 x.1.length hlt (by omega)
      rw [hat] at this
      exact absurd rfl this
    · by_cases hgt : x.1.length < i
      · exfalso
        have hl : i < s.data.toList.length := by rw [← size_list]; exact hi
        rw [getB s i hl] at h2
        have hm : s.data.toList[i] ∈ x.2 := by
          have : s.data.toList[i]? = x.2[i - x.1.length - 1]? := by
            rw [e, List.getElem?_append_right (by omega)]
            obtain ⟨k, hk⟩ : ∃ k, i - x.1.length = k + 1 := ⟨i - x.1.length - 1, by omega⟩
            rw [hk, List.getElem?_cons_succ]
            rfl
          rw [List.getElem?_eq_getElem hl] at this
          exact List.mem_of_getElem? this.symm
        exact hn _ hm (UInt8.toNat_inj.1 (by show _ = 49; omega))
      · have : i = x.1.length := by omega
        rw [this]

theorem cut_head {s : ByteArray} {h r : List UInt8} (e : s.data.toList = h ++ 49 :: r) : s.extract 0 h.length = ⟨h.toArray⟩ := by
  apply ByteArray.ext
  apply Array.toList_inj.1
  simp [e]
theorem cut_tail {s : ByteArray} {h r : List UInt8} (e : s.data.toList = h ++ 49 :: r) : s.extract (h.length + 1) s.size = ⟨r.toArray⟩ := by
  apply ByteArray.ext
  apply Array.toList_inj.1
  have hl : s.data.size = h.length + (r.length + 1) := by
    have := congrArg List.length e
    simpa using this
  simp only [ByteArray.data_extract, Array.toList_extract]
  rw [List.extract_eq_take_drop]
  have : s.size = h.length + 1 + r.length := by
    show s.data.size = _
    omega
  rw [this]
  have e2 : h ++ 49 :: r = (h ++ [49]) ++ r := by simp
  rw [e, e2, List.drop_left' (by simp)]
  exact List.take_of_length_le (by omega)

theorem numsOf_snoc {p x : List UInt8} {c : UInt8} {v : Nat} (hp : numsOf p = some x) (hc : placeL c = some v) : numsOf (p ++ [c]) = some (x ++ [UInt8.ofNat v]) := by
  rw [numsOf_append, hp]
  simp [numsOf, hc]
theorem numsOf_bad : ∀ {r : List UInt8} {c : UInt8}, c ∈ r → placeL c = none → numsOf r = none
  | [], c, h, _ => absurd h (by simp)
  | b :: r, c, h, hc => by
    simp only [numsOf]
    rcases List.mem_cons.1 h with rfl | h
    · rw [hc]
    · rw [numsOf_bad h hc]
      cases placeL b <;> rfl
theorem tailP_nums {h r : List UInt8} (e : numsOf r = none) : tailP h r = none := by unfold tailP; rw [e]
theorem tailP_some {h r x : List UInt8} (e : numsOf r = some x) (h1 : bMore 1 (headL h ++ x) = 734539939) (h2 : x.length ≤ 86) : tailP h r = some (x.take (x.length - 6)) := by
  unfold tailP; rw [e]; simp only [h1, h2, and_self, if_true]
theorem tailP_not {h r x : List UInt8} (e : numsOf r = some x) (h1 : ¬ (bMore 1 (headL h ++ x) = 734539939 ∧ x.length ≤ 86)) : tailP h r = none := by
  unfold tailP; rw [e]; simp only [h1, if_false]
theorem tailR_nums {h r : List UInt8} (e : numsOf (r.take (r.length - 6)) = none) : tailR h r = none := by unfold tailR; rw [e]
theorem tailR_some {h r x : List UInt8} (e : numsOf (r.take (r.length - 6)) = some x) (h1 : encL h x = some (h ++ [49] ++ r)) : tailR h r = some x := by
  unfold tailR; rw [e]; simp only [h1, if_true]
theorem tailR_not {h r x : List UInt8} (e : numsOf (r.take (r.length - 6)) = some x) (h1 : ¬ encL h x = some (h ++ [49] ++ r)) : tailR h r = none := by
  unfold tailR; rw [e]; simp only [h1, if_false]

theorem index_letters (c : UInt8) : Lib.indexByte (⟨#[113, 112, 122, 114, 121, 57, 120, 56, 103, 102, 50, 116, 118, 100, 119, 48, 115, 51, 106, 110, 53, 52, 107, 104, 99, 101, 54, 109, 117, 97, 55, 108]⟩ : ByteArray).data.toList c = (match placeL c with | some n => (n : Int) | none => -1) := by
  have : ∀ n : Fin 256, Lib.indexByte (⟨#[113, 112, 122, 114, 121, 57, 120, 56, 103, 102, 50, 116, 118, 100, 119, 48, 115, 51, 106, 110, 53, 52, 107, 104, 99, 101, 54, 109, 117, 97, 55, 108]⟩ : ByteArray).data.toList (UInt8.ofNat n.1) = (match placeL (UInt8.ofNat n.1) with | some n => (n : Int) | none => -1) := by decide +kernel
  have h := this ⟨c.toNat, UInt8.toNat_lt c⟩
  simpa using h

/-- What Decode answers. -/
def DecEnd (r : Option (List UInt8 × List UInt8)) (w : World) (e : Ending) (w' : World) : Prop :=
  (match r with
    | some x => ∃ A c, e = .returned (.tuple #[.string ⟨x.1.toArray⟩, .slice A x.2.length c, .int .i64 0]) ∧ x.2.length ≤ c ∧ c ≤ maxLen ∧ RdB w' w'.heap.size A x.2.length x.2
    | none => e = .returned (.tuple #[.string ⟨#[]⟩, .slice none 0 0, .int .i64 3])) ∧ Below w.heap.size w w'

theorem RdB.take {w : World} {B : Nat} {A : Option Addr} {n : Nat} {bs : List UInt8} (h : RdB w B A n bs) {k : Nat} (hk : k ≤ n) : RdB w B A k (bs.take k) := by
  have hl := h.len
  refine ⟨by rw [Lib.byteCells_length, List.length_take]; omega, fun h0 => ?_⟩
  obtain ⟨ad, rfl, hb, hc⟩ := h.2 (by omega)
  refine ⟨ad, rfl, hb, fun j u hu => hc j u ?_⟩
  simp only [Lib.byteCells, List.getElem?_map] at hu ⊢
  by_cases hj : j < k
  · rwa [List.getElem?_take_of_lt hj] at hu
  · rw [List.getElem?_eq_none (by rw [List.length_take]; omega)] at hu
    cases hu
theorem RdB.cut {w : World} {B : Nat} {A : Option Addr} {n : Nat} {bs : List UInt8} (h : RdB w B A n bs) {k cap : Nat} (hk : k ≤ n) (hc : n ≤ cap) :
    RdB w B (if cap = k then A else A.map (·.add (k * 1))) (n - k) (bs.drop k) := by
  have := Reads.cut h hk hc
  unfold RdB
  rw [show Lib.byteCells (bs.drop k) = (Lib.byteCells bs).drop (k * 1) by rw [Nat.mul_one]; simp [Lib.byteCells, List.map_drop]]
  exact this
theorem own_cap {w : World} {base : Nat} {e : TypeId} {A : Option Addr} {n c : Nat} {xs : List Value} (h : w.ownsRow base e 1 (.slice A n c) n xs) : n ≤ c ∧ c ≤ maxLen := by
  rcases h.2 with ⟨hv, h0⟩ | ⟨g, cap, cur, hv, _, _, h1, h2, _⟩
  · injection hv with _ _ hc; omega
  · injection hv with _ _ hc; omega
theorem own_nil (w : World) (base : Nat) (e : TypeId) : w.ownsRow base e 1 (.slice none 0 0) 0 [] := ⟨rfl, .inl ⟨rfl, rfl⟩⟩

end Go.Proofs.Ytkacplgfkokdcaa
