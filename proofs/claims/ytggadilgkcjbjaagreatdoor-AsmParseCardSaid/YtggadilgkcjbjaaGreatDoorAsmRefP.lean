/-
  PLAIN LEAN: the reference's way from a text to its word is the program's.
-/
import Derived.Test.YtggadilgkcjbjaaGreatDoorAsmBuildP
import Derived.Test.YtggadilgkcjbjaaGreatDoorAsmCutP
set_option linter.unusedVariables false
namespace Go.Proofs.YtggadilgkcjbjaaGreatDoor

/-- The number that figures say, from 1 to 77, the first one. -/
def numR (s : List UInt8) : Option Nat := ((List.range 77).find? fun k => decide (dec3 (k + 1) = s)).map (· + 1)
/-- The reference's pushed. -/
def refPushedL (s : List UInt8) : Option Wd :=
  if 60 ∈ s ∧ s.getLast? = some 62 then
    match hexDec ((s.dropWhile (· != 60)).drop 1).dropLast with
    | none => none
    | some b => if s.takeWhile (· != 60) = [] then some (pushL b) else (numR (s.takeWhile (· != 60))).map fun n => (UInt8.ofNat n, b)
  else none
/-- Is this the word without a push that has this text? -/
def isText (s : List UInt8) (o : Nat) : Bool := (layL (UInt8.ofNat o, [])).isSome && decide (textL (UInt8.ofNat o, []) = s)
/-- The reference's word. -/
def refWordL (s : List UInt8) : Option Wd :=
  match refPushedL s with
  | some w => if (layL w).isSome ∧ textL w = s then some w else none
  | none => ((List.range 256).find? (isText s)).map fun o => (UInt8.ofNat o, [])

theorem numR_dec {n : Nat} (h1 : 1 ≤ n) (h2 : n ≤ 77) : numR (dec3 n) = some n := by
  have : ∀ k : Fin 77, numR (dec3 (k.1 + 1)) = some (k.1 + 1) := by decide +kernel
  have := this ⟨n - 1, by omega⟩
  simp only at this
  rwa [show n - 1 + 1 = n by omega] at this
set_option maxRecDepth 100000 in
theorem small_lt : ∀ o : Fin 256, ¬ (1 ≤ o.1 ∧ o.1 ≤ 77) → (layL (UInt8.ofNat o.1, [])).isSome → (60 : UInt8) ∉ textL (UInt8.ofNat o.1, []) := by decide +kernel

theorem refWordL_eq (s : List UInt8) : refWordL s = wordL s := by
  cases hw : wordL s with
  | none =>
    have hno : ∀ x, (layL x).isSome → textL x ≠ s := by
      rintro x h rfl
      rw [word_text h] at hw
      cases hw
    unfold refWordL
    cases hp : refPushedL s with
    | some w => exact if_neg (fun h => hno w h.1 h.2)
    | none =>
      simp only
      rw [List.find?_eq_none.2, Option.map_none]
      intro o _
      unfold isText
      simp only [Bool.and_eq_true, decide_eq_true_eq, not_and]
      exact fun h => hno _ h
  | some x =>
    obtain ⟨ht, hl⟩ := wordL_text hw
    by_cases hb : 1 ≤ x.1.toNat ∧ x.1.toNat ≤ 77
    · have hp : refPushedL s = some x := by
        have htx := textL_push hb.1 hb.2
        rw [ht] at htx
        obtain ⟨a, ha⟩ : ∃ a, a = (if shortL x then [] else dec3 x.1.toNat) := ⟨_, rfl⟩
        rw [← ha] at htx
        have hn : (60 : UInt8) ∉ a := by
          rw [ha]
          split
          · simp
          · intro hc
            have := dec3_mem (by omega) hc
            simp at this
        unfold refPushedL
        have hlast : s.getLast? = some 62 := by rw [htx, ← List.cons_append, ← List.append_assoc, List.getLast?_concat]
        rw [if_pos ⟨by rw [htx]; simp, hlast⟩]
        rw [htx, take_stop hn, drop_stop hn, List.drop_succ_cons, List.drop_zero, List.dropLast_concat, hexDec_enc]
        simp only
        by_cases hs : shortL x
        · rw [if_pos hs] at ha
          rw [if_pos ha]
          unfold shortL pushesL at hs
          rw [if_pos hb.2] at hs
          simpa using hs
        · rw [if_neg hs] at ha
          rw [if_neg (by rw [ha]; exact dec3_ne (by omega)), ha, numR_dec hb.1 hb.2]
          simp
      unfold refWordL
      rw [hp]
      exact if_pos ⟨hl, ht⟩
    · have hx := layL_small hl hb
      have hlt : (60 : UInt8) ∉ s := by
        have := small_lt ⟨x.1.toNat, UInt8.toNat_lt _⟩ hb
        simp only at this
        rw [← hx, ht] at this
        exact this hl
      have hp : refPushedL s = none := by
        unfold refPushedL
        rw [if_neg (fun h => hlt h.1)]
      unfold refWordL
      rw [hp]
      simp only
      cases hf : (List.range 256).find? (isText s) with
      | none =>
        exfalso
        rw [List.find?_eq_none] at hf
        have := hf x.1.toNat (by simpa using UInt8.toNat_lt x.1)
        unfold isText at this
        rw [← hx, ht, hl] at this
        simp at this
      | some o =>
        have h1 := List.find?_some hf
        have h2 := List.mem_of_find?_eq_some hf
        unfold isText at h1
        simp only [Bool.and_eq_true, decide_eq_true_eq] at h1
        have h3 := word_text h1.1
        rw [h1.2, hw] at h3
        rw [Option.map_some, ← h3]

/-! ### A text gone through -/
theorem partsL_stop {a : List UInt8} (h : (32 : UInt8) ∉ a) (r : List UInt8) : partsL (a ++ 32 :: r) = (if a = [] then [] else [a]) ++ partsL r := by
  unfold partsL
  rw [splitL_stop h, List.filter_cons]
  by_cases ha : a = []
  · rw [if_neg (by simp [ha]), if_pos ha, List.nil_append]
  · rw [if_pos (by simpa using ha), if_neg ha]; rfl
theorem partsL_one {a : List UInt8} (h : (32 : UInt8) ∉ a) : partsL a = if a = [] then [] else [a] := by
  unfold partsL
  rw [splitL_one h]
  by_cases ha : a = []
  · rw [if_pos ha, ha]; rfl
  · rw [if_neg ha]; simp [ha]

end Go.Proofs.YtggadilgkcjbjaaGreatDoor
