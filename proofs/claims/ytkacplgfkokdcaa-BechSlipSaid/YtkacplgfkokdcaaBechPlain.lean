/-
  PLAIN LEAN: the check of numbers 0 to 31.
-/
import Derived.Laws.BitsAllLaws
namespace Go.Proofs.Ytkacplgfkokdcaa

/-- The five numbers of the check. -/
def bGen (i : Nat) : Nat := if i = 0 then 996825010 else if i = 1 then 642813549 else if i = 2 then 513874426 else if i = 3 then 1027748829 else 705979059

/-- The i-th number is laid over c where bit i of t is set. -/
def bTurn (t i c : Nat) : Nat := if t / 2 ^ i % 2 = 1 then c ^^^ bGen i else c

def bFold (t c : Nat) : Nat → Nat
  | 0 => c
  | k + 1 => bTurn t k (bFold t c k)

/-- The check with a number more. -/
def bStep (c v : Nat) : Nat := bFold (c / 33554432) ((c % 33554432 * 32) ^^^ (v % 32)) 5

/-- The check with numbers more. -/
def bMore (c : Nat) (l : List UInt8) : Nat := l.foldl (fun c v => bStep c v.toNat) c

theorem bGen_lt (i : Nat) : bGen i < 1073741824 := by unfold bGen; split <;> (try split) <;> (try split) <;> (try split) <;> omega

theorem xor_lt30 {a b : Nat} (ha : a < 1073741824) (hb : b < 1073741824) : a ^^^ b < 1073741824 := Nat.xor_lt_two_pow (n := 30) ha hb

theorem bTurn_lt {t i c : Nat} (h : c < 1073741824) : bTurn t i c < 1073741824 := by
  unfold bTurn
  split
  · exact xor_lt30 h (bGen_lt i)
  · exact h

theorem bFold_lt {t c : Nat} (h : c < 1073741824) : ∀ k, bFold t c k < 1073741824
  | 0 => h
  | k + 1 => bTurn_lt (bFold_lt h k)

theorem bStep_lt (c v : Nat) : bStep c v < 1073741824 := bFold_lt (xor_lt30 (by omega) (by omega)) 5

theorem bMore_snoc (c : Nat) (l : List UInt8) (v : UInt8) : bMore c (l ++ [v]) = bStep (bMore c l) v.toNat := by simp [bMore]
theorem bMore_append (c : Nat) (l m : List UInt8) : bMore c (l ++ m) = bMore (bMore c l) m := by simp [bMore]

theorem bMore_lt (l : List UInt8) : ∀ (c : Nat), c < 1073741824 → bMore c l < 1073741824 := by
  induction l with
  | nil => intro c h; exact h
  | cons v l ih => intro c _; exact ih _ (bStep_lt c v.toNat)

end Go.Proofs.Ytkacplgfkokdcaa
