/-
  The walks over 'value' of hexes and of its reference: what a byte is worth as a digit.
-/
import Derived.Test.YtifjpjbjlgeifaaProg
import Derived.Test.YtifjpjbjlgeifaaHexPlain
import Derived.Test.YtifjpjbjlgeifaaMem
import Derived.WalkKit
import Derived.WalkSpells
import Derived.Handy
import Derived.Lib.Hide
set_option linter.unusedVariables false
namespace Go.Proofs.Ytifjpjbjlgeifaa
open Go.RowKit

theorem ret_int {k : IntKind} {a b : Int} (h : a = b) : Ending.returned (.int k a) = .returned (.int k b) := by rw [h]
theorem ret2_int {k : IntKind} {a b : Int} {v : Value} (h : a = b) : Ending.returned (.tuple #[.int k a, v]) = .returned (.tuple #[.int k b, v]) := by rw [h]
theorem ret_str {a b : ByteArray} (h : a = b) : Ending.returned (.string a) = .returned (.string b) := by rw [h]

set_option maxHeartbeats 400000 in
theorem value_figure (m : Int) (w : World) (h1 : 48 ≤ m) (h2 : m ≤ 57) :
    Calls Try.prog 19 #[.int .u8 m] w fun e w' => e = .returned (.tuple #[.int .u8 (m - 48), .bool true]) ∧ w = w' := by
  go_enter Try.func19, Try.ntmps19
  go_wp2
  go_ret2
  exact ⟨rfl, rfl⟩

set_option maxHeartbeats 400000 in
theorem value_letter (m : Int) (w : World) (h1 : 97 ≤ m) (h2 : m ≤ 102) :
    Calls Try.prog 19 #[.int .u8 m] w fun e w' => e = .returned (.tuple #[.int .u8 (m - 87), .bool true]) ∧ w = w' := by
  go_enter Try.func19, Try.ntmps19
  go_wp2
  go_ret2
  exact ⟨ret2_int (by omega), rfl⟩

set_option maxHeartbeats 400000 in
theorem value_no (m : Int) (w : World) (h1 : m < 48 ∨ 57 < m) (h2 : m < 97 ∨ 102 < m) :
    Calls Try.prog 19 #[.int .u8 m] w fun e w' => e = .returned (.tuple #[.int .u8 0, .bool false]) ∧ w = w' := by
  rcases h1 with h1 | h1
  · have h3 : m < 97 := by omega
    clear h2
    go_enter Try.func19, Try.ntmps19
    go_wp2
    all_goals (go_ret2; exact ⟨rfl, rfl⟩)
  · rcases h2 with h2 | h2
    · go_enter Try.func19, Try.ntmps19
      go_wp2
      all_goals (go_ret2; exact ⟨rfl, rfl⟩)
    · go_enter Try.func19, Try.ntmps19
      go_wp2
      all_goals (go_ret2; exact ⟨rfl, rfl⟩)

/-- hexes.value at a digit. -/
theorem value_some (c : UInt8) (x : Nat) (h : hexVal c = some x) (w : World) :
    Calls Try.prog 19 #[.int .u8 (c.toNat : Int)] w fun e w' => e = .returned (.tuple #[.int .u8 (x : Int), .bool true]) ∧ w = w' := by
  unfold hexVal at h
  split at h
  · injection h with h
    have := value_figure (c.toNat : Int) w (by omega) (by omega)
    rw [show ((c.toNat : Int) - 48) = (x : Int) by omega] at this
    exact this
  · split at h
    · injection h with h
      have := value_letter (c.toNat : Int) w (by omega) (by omega)
      rw [show ((c.toNat : Int) - 87) = (x : Int) by omega] at this
      exact this
    · cases h

/-- hexes.value at another byte. -/
theorem value_none (c : UInt8) (h : hexVal c = none) (w : World) :
    Calls Try.prog 19 #[.int .u8 (c.toNat : Int)] w fun e w' => e = .returned (.tuple #[.int .u8 0, .bool false]) ∧ w = w' := by
  unfold hexVal at h
  split at h
  · cases h
  · split at h
    · cases h
    · exact value_no _ w (by omega) (by omega)

/-! ### The reference: the digits gone through -/

def hexDigits : ByteArray := ⟨#[48, 49, 50, 51, 52, 53, 54, 55, 56, 57, 97, 98, 99, 100, 101, 102]⟩

theorem hexDigits_get (i : Nat) (hi : i < 16) : ∃ h : i < (⟨#[48, 49, 50, 51, 52, 53, 54, 55, 56, 57, 97, 98, 99, 100, 101, 102]⟩ : ByteArray).size, (⟨#[48, 49, 50, 51, 52, 53, 54, 55, 56, 57, 97, 98, 99, 100, 101, 102]⟩ : ByteArray)[i] = hexDig i := by
  refine ⟨hi, ?_⟩
  have : ∀ j : Fin 16, (⟨#[48, 49, 50, 51, 52, 53, 54, 55, 56, 57, 97, 98, 99, 100, 101, 102]⟩ : ByteArray)[j.1]'(j.2) = hexDig j.1 := by decide
  exact this ⟨i, hi⟩

def NotAt (c : UInt8) (k : Nat) : Prop := ∀ j, j < k → hexDig j ≠ c

set_option maxHeartbeats 400000 in
theorem refValue (c : UInt8) (w : World) :
    Calls Try.prog 20 #[.int .u8 (c.toNat : Int)] w fun e w' => e = .returned (.int .i64 (match hexVal c with | some x => (x : Int) | none => -1)) ∧ w = w' := by
  obtain ⟨r, hr⟩ : ∃ r : Int, r = (match hexVal c with | some x => (x : Int) | none => -1) := ⟨_, rfl⟩
  rw [← hr]
  have HR := Lib.hid hr
  clear hr
  go_enter Try.func20, Try.ntmps20
  go_wp2
  go_loop [3] (fun i => ∃ k : Nat, k ≤ 16 ∧ i = .int .i64 k ∧ NotAt c k) (fun i => 16 - (intOf i).toNat)
  case atStart => exact ⟨0, by omega, rfl, fun j hj => by omega⟩
  case round =>
    obtain ⟨k, hk, rfl, hno⟩ := hrel
    by_cases hlt : k < 16
    · obtain ⟨hp, hg⟩ := hexDigits_get k hlt
      have HG := Lib.hid hg
      clear hg
      by_cases he : hexDig k = c
      · have ht : ((((⟨#[48, 49, 50, 51, 52, 53, 54, 55, 56, 57, 97, 98, 99, 100, 101, 102]⟩ : ByteArray)[k]'hp).toNat : Int) == (c.toNat : Int)) = true := by
          rw [HG.out, he]; simp
        have HE := Lib.hid he
        clear he
        go_wp2
        go_ret
        refine ⟨ret_int ?_, rfl⟩
        rw [HR.out, ← HE.out, hexVal_dig k hlt]
      · have ht : ((((⟨#[48, 49, 50, 51, 52, 53, 54, 55, 56, 57, 97, 98, 99, 100, 101, 102]⟩ : ByteArray)[k]'hp).toNat : Int) == (c.toNat : Int)) = false := by
          rw [HG.out]
          simp only [beq_eq_false_iff_ne, ne_eq, Int.natCast_inj]
          exact fun h => he (UInt8.toNat_inj.1 h)
        have HE := Lib.hid he
        clear he
        go_wp2
        go_round
        case rel =>
          refine ⟨k + 1, by omega, by go_num, fun j hj => ?_⟩
          rcases Nat.lt_or_ge j k with h | h
          · exact hno j h
          · obtain rfl : j = k := by omega
            exact HE.out
        case measure => simp [intOf]; omega
    · go_wp2
      go_ret
      refine ⟨ret_int ?_, rfl⟩
      rw [HR.out]
      cases hv : hexVal c with
      | none => rfl
      | some x => exact absurd (hexDig_val c x hv) (hno x (by have := hexVal_lt c x hv; omega))

end Go.Proofs.Ytifjpjbjlgeifaa
