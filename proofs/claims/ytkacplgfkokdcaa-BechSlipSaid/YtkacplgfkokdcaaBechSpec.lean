/-
  PLAIN LEAN: a word of bech: what is written, what is read; the check is linear where it is asked.
-/
import Derived.Test.YtkacplgfkokdcaaBechPlain
set_option linter.unusedVariables false
namespace Go.Proofs.Ytkacplgfkokdcaa

/-! ### The check is linear -/
theorem bTurn_xor (t i a b : Nat) : bTurn t i (a ^^^ b) = a ^^^ bTurn t i b := by
  unfold bTurn
  split
  · rw [Nat.xor_assoc]
  · rfl

theorem bFold_xor (t a b : Nat) : ∀ k, bFold t (a ^^^ b) k = a ^^^ bFold t b k
  | 0 => rfl
  | k + 1 => by
    show bTurn t k (bFold t (a ^^^ b) k) = a ^^^ bTurn t k (bFold t b k)
    rw [bFold_xor t a b k, bTurn_xor]

theorem bStep_val (c v : Nat) : bStep c v = (v % 32) ^^^ bStep c 0 := by
  unfold bStep
  rw [Nat.xor_comm (c % 33554432 * 32) (v % 32), bFold_xor]
  simp

theorem xor_mul32 (a b : Nat) : (a ^^^ b) * 32 = (a * 32) ^^^ (b * 32) := by
  have := Nat.shiftLeft_xor_distrib (a := a) (b := b) (i := 5)
  simpa [Nat.shiftLeft_eq] using this
theorem xor_mod25 (a b : Nat) : (a ^^^ b) % 33554432 = (a % 33554432) ^^^ (b % 33554432) := Nat.xor_mod_two_pow (n := 25)
theorem xor_div25 (a b : Nat) : (a ^^^ b) / 33554432 = (a / 33554432) ^^^ (b / 33554432) := by
  have := Nat.shiftRight_xor_distrib (a := a) (b := b) (i := 25)
  simpa [Nat.shiftRight_eq_div_pow] using this

theorem bStep_low (x y v : Nat) (hy : y < 33554432) : bStep (x ^^^ y) v = (y * 32) ^^^ bStep x v := by
  unfold bStep
  rw [xor_div25, xor_mod25, Nat.div_eq_of_lt hy, Nat.mod_eq_of_lt hy, Nat.xor_zero, xor_mul32, Nat.xor_comm (x % 33554432 * 32) (y * 32), Nat.xor_assoc, bFold_xor]

/-- Numbers below 32, as one. -/
def packed5 (l : List UInt8) : Nat := l.foldl (fun a v => a * 32 + v.toNat) 0

theorem packed5_snoc (l : List UInt8) (v : UInt8) : packed5 (l ++ [v]) = packed5 l * 32 + v.toNat := by simp [packed5]

def Small5 (l : List UInt8) : Prop := ∀ v ∈ l, v.toNat < 32

theorem snoc_ind {P : List UInt8 → Prop} (h0 : P []) (hs : ∀ l v, P l → P (l ++ [v])) (l : List UInt8) : P l := by
  have : ∀ m : List UInt8, P m.reverse := by
    intro m
    induction m with
    | nil => exact h0
    | cons v m ih => rw [List.reverse_cons]; exact hs _ _ ih
  have := this l.reverse
  rwa [List.reverse_reverse] at this

theorem packed5_lt (l : List UInt8) : Small5 l → packed5 l < 32 ^ l.length := by
  refine snoc_ind (P := fun l => Small5 l → packed5 l < 32 ^ l.length) ?_ ?_ l
  · intro _; simp [packed5]
  · intro l v ih h
    have h1 := ih (fun u hu => h u (by simp [hu]))
    have h2 := h v (by simp)
    rw [packed5_snoc, List.length_append, List.length_singleton, Nat.pow_succ]
    omega

theorem mul32_add (a v : Nat) (hv : v < 32) : v ^^^ (a * 32) = a * 32 + v := by
  have h := Nat.shiftLeft_add_eq_or_of_lt (i := 5) (b := v) (by simpa using hv) a
  have h2 : a <<< 5 ^^^ v = a <<< 5 ||| v := by
    apply Nat.eq_of_testBit_eq
    intro i
    rw [Nat.testBit_xor, Nat.testBit_or, Nat.testBit_shiftLeft]
    by_cases hi : i < 5
    · simp [show ¬ 5 ≤ i by omega]
    · have : v.testBit i = false := Nat.testBit_lt_two_pow (Nat.lt_of_lt_of_le hv (by
        have := Nat.pow_le_pow_right (n := 2) (by omega) (show 5 ≤ i by omega)
        simpa using this))
      simp [this]
  rw [Nat.xor_comm, show a * 32 = a <<< 5 by rw [Nat.shiftLeft_eq], h2, ← h]

/-- Up to six numbers more: laid over what noughts would give. -/
theorem bMore_tail (x : Nat) (l : List UInt8) : l.length ≤ 6 → Small5 l → bMore x l = packed5 l ^^^ bMore x (List.replicate l.length 0) := by
  refine snoc_ind (P := fun l => l.length ≤ 6 → Small5 l → bMore x l = packed5 l ^^^ bMore x (List.replicate l.length 0)) ?_ ?_ l
  · intro _ _; simp [packed5]
  · intro l v ih hl hs
    have hl' : l.length ≤ 5 := by simpa using hl
    have hs' : Small5 l := fun u hu => hs u (by simp [hu])
    have hv := hs v (by simp)
    have hp := packed5_lt l hs'
    have hp' : packed5 l < 33554432 := by
      have : 32 ^ l.length ≤ 32 ^ 5 := Nat.pow_le_pow_right (by omega) hl'
      omega
    rw [bMore_snoc, ih (by omega) hs', List.length_append, List.length_singleton, List.replicate_succ', bMore_snoc, Nat.xor_comm (packed5 l), bStep_low _ _ _ hp', bStep_val _ v.toNat, Nat.mod_eq_of_lt hv, packed5_snoc, ← mul32_add _ _ hv]
    rw [← Nat.xor_assoc, Nat.xor_comm (packed5 l * 32) v.toNat]
    rfl

/-! ### The letters -/
def letL : List UInt8 := [113, 112, 122, 114, 121, 57, 120, 56, 103, 102, 50, 116, 118, 100, 119, 48, 115, 51, 106, 110, 53, 52, 107, 104, 99, 101, 54, 109, 117, 97, 55, 108]
def letter (n : Nat) : UInt8 := letL.getD n 0
def placeL (c : UInt8) : Option Nat := letL.idxOf? c

theorem place_letter : ∀ n, n < 32 → placeL (letter n) = some n := by decide
theorem place_some {c : UInt8} {n : Nat} (h : placeL c = some n) : n < 32 ∧ letter n = c := by
  have : ∀ m : Fin 256, ∀ n, placeL (UInt8.ofNat m.val) = some n → n < 32 ∧ letter n = UInt8.ofNat m.val := by
    intro m n h
    have h1 := List.idxOf?_eq_some_iff.1 h
    obtain ⟨hlt, he, _⟩ := h1
    refine ⟨hlt, ?_⟩
    unfold letter
    rw [List.getD_eq_getElem?_getD, List.getElem?_eq_getElem hlt]
    simpa using he
  have h2 := this ⟨c.toNat, c.toNat_lt⟩ n (by simpa using h)
  simpa using h2
theorem letter_ne_one (n : Nat) (h : n < 32) : letter n ≠ 49 := by
  have : ∀ n, n < 32 → letter n ≠ 49 := by decide
  exact this n h

end Go.Proofs.Ytkacplgfkokdcaa
