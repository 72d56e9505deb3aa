/-
  PLAIN LEAN: words of a script: told apart, laid again, pushed.
-/
import Derived.Lib.ItoaMem
set_option linter.unusedVariables false
namespace Go.Proofs.YtggadilgkcjbjaaGreatDoor
open Go.Lib

/-- A word: its operation, and what it pushes. -/
abbrev Wd := UInt8 × List UInt8

/-- How many bytes a word pushes out of the script, and how many ahead of these tell it. -/
def toldL : List UInt8 → Option (Nat × Nat)
  | [] => none
  | op :: r => if 0 < op.toNat ∧ op.toNat ≤ 75 then some (op.toNat, 1)
    else if op.toNat = 76 then (match r with | x :: _ => some (x.toNat, 2) | [] => none)
    else if op.toNat = 77 then (match r with | x :: y :: _ => some (x.toNat + 256 * y.toNat, 3) | _ => none)
    else some (0, 1)

theorem toldL_head {b : List UInt8} {n h : Nat} (e : toldL b = some (n, h)) : 1 ≤ h ∧ h ≤ b.length ∧ h ≤ 3 ∧ n ≤ 65535 := by
  cases b with
  | nil => cases e
  | cons op r =>
    simp only [toldL] at e
    split at e
    · simp only [Option.some.injEq, Prod.mk.injEq] at e
      rename_i h1
      simp only [List.length_cons]
      omega
    · split at e
      · cases r with
        | nil => cases e
        | cons x r =>
          simp only [Option.some.injEq, Prod.mk.injEq] at e
          have := UInt8.toNat_lt x
          simp only [List.length_cons]
          omega
      · split at e
        · match r, e with
          | x :: y :: r, e =>
            simp only [Option.some.injEq, Prod.mk.injEq] at e
            have := UInt8.toNat_lt x
            have := UInt8.toNat_lt y
            simp only [List.length_cons]
            omega
          | [], e => cases e
          | [_], e => cases e
        · simp only [Option.some.injEq, Prod.mk.injEq] at e
          simp only [List.length_cons]
          omega

/-- The word at the beginning, and what lies behind it. -/
def nextL (b : List UInt8) : Option (Wd × List UInt8) :=
  match b with
  | [] => none
  | op :: r => match toldL (op :: r) with
    | none => none
    | some x => if (op :: r).length - x.2 < x.1 then none else some ((op, ((op :: r).drop x.2).take x.1), (op :: r).drop (x.2 + x.1))

theorem nextL_short {b : List UInt8} {w : Wd} {r : List UInt8} (h : nextL b = some (w, r)) : r.length < b.length := by
  cases b with
  | nil => cases h
  | cons op t =>
    simp only [nextL] at h
    cases ht : toldL (op :: t) with
    | none => rw [ht] at h; cases h
    | some x =>
      rw [ht] at h
      have := toldL_head (n := x.1) (h := x.2) ht
      simp only at h
      split at h
      · cases h
      · simp only [Option.some.injEq, Prod.mk.injEq] at h
        rw [← h.2, List.length_drop]
        simp only [List.length_cons]
        omega

/-- All words of a script. -/
def allN : Nat → List UInt8 → Option (List Wd)
  | 0, b => if b = [] then some [] else none
  | n + 1, b => if b = [] then some [] else match nextL b with
    | none => none
    | some x => (allN n x.2).map (x.1 :: ·)
def allL (b : List UInt8) : Option (List Wd) := allN b.length b

theorem allN_enough : ∀ (n m : Nat) (b : List UInt8), b.length ≤ n → b.length ≤ m → allN n b = allN m b
  | 0, m, b, h1, _ => by
    have : b = [] := List.eq_nil_of_length_eq_zero (by omega)
    subst this
    cases m <;> rfl
  | n + 1, 0, b, _, h2 => by
    have : b = [] := List.eq_nil_of_length_eq_zero (by omega)
    subst this
    rfl
  | n + 1, m + 1, b, h1, h2 => by
    simp only [allN]
    by_cases hb : b = []
    · simp [hb]
    · rw [if_neg hb, if_neg hb]
      cases hn : nextL b with
      | none => rfl
      | some x =>
        have := nextL_short (w := x.1) (r := x.2) hn
        simp only
        rw [allN_enough n m x.2 (by omega) (by omega)]
theorem allL_nil : allL [] = some [] := rfl
theorem allL_bad {b : List UInt8} (hb : b ≠ []) (h : nextL b = none) : allL b = none := by
  cases b with
  | nil => exact absurd rfl hb
  | cons c r => simp only [allL, List.length_cons, allN, if_neg hb, h]
theorem allL_next {b : List UInt8} {w : Wd} {r : List UInt8} (h : nextL b = some (w, r)) : allL b = (allL r).map (w :: ·) := by
  have hs := nextL_short h
  cases b with
  | nil => cases h
  | cons c t =>
    simp only [allL, List.length_cons, allN]
    rw [if_neg (by simp), h]
    simp only
    rw [allN_enough t.length r.length r (by simp at hs; omega) (Nat.le_refl _)]

/-- A word's bytes. -/
def layL (w : Wd) : Option (List UInt8) :=
  if 0 < w.1.toNat ∧ w.1.toNat ≤ 75 then (if w.2.length = w.1.toNat then some (w.1 :: w.2) else none)
  else if w.1.toNat = 76 then (if w.2.length ≤ 255 then some (w.1 :: UInt8.ofNat w.2.length :: w.2) else none)
  else if w.1.toNat = 77 then (if w.2.length ≤ 65535 then some (w.1 :: UInt8.ofNat w.2.length :: UInt8.ofNat (w.2.length / 256) :: w.2) else none)
  else (if w.2.length = 0 then some [w.1] else none)
/-- The script of words. -/
def buildL : List Wd → Option (List UInt8)
  | [] => some []
  | w :: l => match layL w, buildL l with
    | some x, some y => some (x ++ y)
    | _, _ => none

/-- The word that pushes a thing. -/
def pushL (b : List UInt8) : Wd :=
  if b.length = 1 ∧ 1 ≤ (b.headD 0).toNat ∧ (b.headD 0).toNat ≤ 16 then (UInt8.ofNat (80 + (b.headD 0).toNat), [])
  else if b.length = 1 ∧ (b.headD 0).toNat = 129 then (79, [])
  else if b.length ≤ 75 then (UInt8.ofNat b.length, b)
  else if b.length ≤ 255 then (76, b)
  else (77, b)
/-- What a word pushes. -/
def pushesL (w : Wd) : Option (List UInt8) :=
  if w.1.toNat ≤ 77 then some w.2
  else if w.1.toNat = 79 then some [129]
  else if 80 < w.1.toNat ∧ w.1.toNat ≤ 96 then some [UInt8.ofNat (w.1.toNat - 80)]
  else none
/-- Does it push as short as can be? -/
def shortL (w : Wd) : Bool :=
  match pushesL w with
  | none => true
  | some b => decide (pushL b = w)

end Go.Proofs.YtggadilgkcjbjaaGreatDoor
