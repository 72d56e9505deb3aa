/-
  PLAIN LEAN: where a text's sign stands; a text gone through byte by byte.
-/
import Derived.Test.YtggadilgkcjbjaaGreatDoorAsmRefP
set_option linter.unusedVariables false
namespace Go.Proofs.YtggadilgkcjbjaaGreatDoor

theorem list_at {L : List UInt8} {k : Nat} (hk : L[k]? = some 60) (hp : ∀ i c, i < k → L[i]? = some c → c ≠ 60) :
    L.takeWhile (· != 60) = L.take k ∧ L.dropWhile (· != 60) = L.drop k ∧ (60 : UInt8) ∈ L := by
  obtain ⟨hlt, he⟩ := List.getElem?_eq_some_iff.1 hk
  have hn : (60 : UInt8) ∉ L.take k := by
    intro hm
    obtain ⟨i, hi⟩ := List.mem_iff_getElem?.1 hm
    rw [List.getElem?_take] at hi
    split at hi
    · rename_i h
      exact hp i 60 h hi rfl
    · cases hi
  have hs : L = L.take k ++ 60 :: L.drop (k + 1) := by
    conv => lhs; rw [← List.take_append_drop k L]
    rw [List.drop_eq_getElem_cons hlt, he]
  have hd : L.drop k = 60 :: L.drop (k + 1) := by rw [List.drop_eq_getElem_cons hlt, he]
  refine ⟨?_, ?_, List.mem_of_getElem? hk⟩
  · conv => lhs; rw [hs]
    exact take_stop hn
  · conv => lhs; rw [hs]
    rw [drop_stop hn, hd]
theorem list_no {L : List UInt8} (hp : ∀ i c, i < L.length → L[i]? = some c → c ≠ 60) : (60 : UInt8) ∉ L := by
  intro hm
  obtain ⟨i, hi⟩ := List.mem_iff_getElem?.1 hm
  exact hp i 60 (List.getElem?_eq_some_iff.1 hi).1 hi rfl

/-- The reference's pushed, when the sign stands at k. -/
theorem refPushed_at {L : List UInt8} {k : Nat} (hk : L[k]? = some 60) (hp : ∀ i c, i < k → L[i]? = some c → c ≠ 60) :
    refPushedL L = if L.getLast? = some 62 then
      (match hexDec (L.drop (k + 1)).dropLast with
        | none => none
        | some b => if k = 0 then some (pushL b) else (numR (L.take k)).map fun n => (UInt8.ofNat n, b)) else none := by
  obtain ⟨h1, h2, h3⟩ := list_at hk hp
  unfold refPushedL
  rw [h1, h2, List.drop_drop]
  by_cases hl : L.getLast? = some 62
  · rw [if_pos ⟨h3, hl⟩, if_pos hl, show k + 1 = k + 1 from rfl]
    cases hexDec (L.drop (k + 1)).dropLast with
    | none => rfl
    | some b =>
      simp only
      by_cases h0 : k = 0
      · rw [if_pos h0, if_pos (by rw [h0, List.take_zero])]
      · rw [if_neg h0, if_neg]
        intro e
        have := congrArg List.length e
        have hlt := (List.getElem?_eq_some_iff.1 hk).1
        rw [List.length_take, List.length_nil] at this
        omega
  · rw [if_neg (fun h => hl h.2), if_neg hl]
theorem refPushed_no {L : List UInt8} (hp : ∀ i c, i < L.length → L[i]? = some c → c ≠ 60) : refPushedL L = none := by
  unfold refPushedL
  rw [if_neg (fun h => list_no hp h.1)]

theorem last_at {L : List UInt8} (h : 0 < L.length) : L.getLast? = L[L.length - 1]? := List.getLast?_eq_getElem? ..
theorem mid_cut {L : List UInt8} {k : Nat} : (L.drop (k + 1)).dropLast = (L.take (L.length - 1)).drop (k + 1) := by
  rw [List.dropLast_eq_take, List.length_drop, List.drop_take]
  congr 1
  omega

/-! ### Figures, one after the other -/
theorem numR_some {L : List UInt8} {n : Nat} (h1 : 1 ≤ n) (h2 : n ≤ 77) (h : dec3 n = L) : numR L = some n := by rw [← h]; exact numR_dec h1 h2
theorem numR_none {L : List UInt8} (h : ∀ n, 1 ≤ n → n ≤ 77 → dec3 n ≠ L) : numR L = none := by
  unfold numR
  rw [List.find?_eq_none.2, Option.map_none]
  intro k hk
  have := h (k + 1) (by omega) (by simp at hk; omega)
  simpa using this

/-! ### Words, one after the other -/
theorem isText_some {L : List UInt8} {o : Nat} (ho : o < 256) (h : isText L o = true) : ((List.range 256).find? (isText L)).map (fun o => ((UInt8.ofNat o, []) : Wd)) = some (UInt8.ofNat o, []) := by
  cases hf : (List.range 256).find? (isText L) with
  | none =>
    rw [List.find?_eq_none] at hf
    exact absurd h (hf o (by simpa using ho))
  | some p =>
    have h1 := List.find?_some hf
    unfold isText at h h1
    simp only [Bool.and_eq_true, decide_eq_true_eq] at h h1
    have a1 := word_text h.1
    have a2 := word_text h1.1
    rw [h.2] at a1
    rw [h1.2, a1] at a2
    rw [Option.map_some, a2]
theorem isText_none {L : List UInt8} (h : ∀ o, o < 256 → isText L o = false) : ((List.range 256).find? (isText L)).map (fun o => ((UInt8.ofNat o, []) : Wd)) = none := by
  rw [List.find?_eq_none.2, Option.map_none]
  intro o ho
  rw [h o (by simpa using ho)]
  simp

/-! ### A text gone through -/
/-- What is still to come. -/
theorem parse_stop {L a r : List UInt8} {ws : List Wd} (h : (partsL L).mapM wordL = ((partsL (a ++ 32 :: r)).mapM wordL).map (ws ++ ·)) (ha : (32 : UInt8) ∉ a) :
    (partsL L).mapM wordL = if a = [] then ((partsL r).mapM wordL).map (ws ++ ·) else match wordL a with | none => none | some x => ((partsL r).mapM wordL).map ((ws ++ [x]) ++ ·) := by
  rw [h, partsL_stop ha]
  by_cases h0 : a = []
  · rw [if_pos h0, if_pos h0, List.nil_append]
  · rw [if_neg h0, if_neg h0, List.singleton_append, List.mapM_cons]
    cases wordL a with
    | none => rfl
    | some x => cases (partsL r).mapM wordL with
      | none => rfl
      | some y => simp
theorem parse_last {L a : List UInt8} {ws : List Wd} (h : (partsL L).mapM wordL = ((partsL a).mapM wordL).map (ws ++ ·)) (ha : (32 : UInt8) ∉ a) :
    (partsL L).mapM wordL = if a = [] then some ws else match wordL a with | none => none | some x => some (ws ++ [x]) := by
  rw [h, partsL_one ha]
  by_cases h0 : a = []
  · rw [if_pos h0, if_pos h0, List.mapM_nil]
    simp
  · rw [if_neg h0, if_neg h0, List.mapM_cons, List.mapM_nil]
    cases wordL a with
    | none => rfl
    | some x => rfl

end Go.Proofs.YtggadilgkcjbjaaGreatDoor
