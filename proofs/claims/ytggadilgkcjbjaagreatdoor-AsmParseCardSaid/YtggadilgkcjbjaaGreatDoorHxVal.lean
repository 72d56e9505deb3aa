/-
  The walks over 'value' of hexes and of its reference: what a byte is worth as a digit.
-/
import Derived.Test.YtggadilgkcjbjaaGreatDoorProg
import Derived.Test.YtggadilgkcjbjaaGreatDoorHexPlain
import Derived.Test.YtggadilgkcjbjaaGreatDoorMem
import Derived.WalkKit
import Derived.WalkSpells
import Derived.Handy
import Derived.Lib.Hide
set_option linter.unusedVariables false
namespace Go.Proofs.YtggadilgkcjbjaaGreatDoor
open Go.RowKit

theorem ret_int {k : IntKind} {a b : Int} (h : a = b) : Ending.returned (.int k a) = .returned (.int k b) := by rw [h]
theorem ret2_int {k : IntKind} {a b : Int} {v : Value} (h : a = b) : Ending.returned (.tuple #[.int k a, v]) = .returned (.tuple #[.int k b, v]) := by rw [h]
theorem ret_str {a b : ByteArray} (h : a = b) : Ending.returned (.string a) = .returned (.string b) := by rw [h]

set_option maxHeartbeats 400000 in
theorem value_figure (m : Int) (w : World) (h1 : 48 ≤ m) (h2 : m ≤ 57) :
    Calls Tryz.prog 78 #[.int .u8 m] w fun e w' => e = .returned (.tuple #[.int .u8 (m - 48), .bool true]) ∧ w = w' := by
  go_enter Tryz.func78, Tryz.ntmps78
  go_wp2
  go_ret2
  exact ⟨rfl, rfl⟩

set_option maxHeartbeats 400000 in
theorem value_letter (m : Int) (w : World) (h1 : 97 ≤ m) (h2 : m ≤ 102) :
    Calls Tryz.prog 78 #[.int .u8 m] w fun e w' => e = .returned (.tuple #[.int .u8 (m - 87), .bool true]) ∧ w = w' := by
  go_enter Tryz.func78, Tryz.ntmps78
  go_wp2
  go_ret2
  exact ⟨ret2_int (by omega), rfl⟩

set_option maxHeartbeats 400000 in
theorem value_no (m : Int) (w : World) (h1 : m < 48 ∨ 57 < m) (h2 : m < 97 ∨ 102 < m) :
    Calls Tryz.prog 78 #[.int .u8 m] w fun e w' => e = .returned (.tuple #[.int .u8 0, .bool false]) ∧ w = w' := by
  rcases h1 with h1 | h1
  · have h3 : m < 97 := by omega
    clear h2
    go_enter Tryz.func78, Tryz.ntmps78
    go_wp2
    all_goals (go_ret2; exact ⟨rfl, rfl⟩)
  · rcases h2 with h2 | h2
    · go_enter Tryz.func78, Tryz.ntmps78
      go_wp2
      all_goals (go_ret2; exact ⟨rfl, rfl⟩)
    · go_enter Tryz.func78, Tryz.ntmps78
      go_wp2
      all_goals (go_ret2; exact ⟨rfl, rfl⟩)

/-- hexes.value at a digit. -/
theorem value_some (c : UInt8) (x : Nat) (h : hexVal c = some x) (w : World) :
    Calls Tryz.prog 78 #[.int .u8 (c.toNat : Int)] w fun e w' => e = .returned (.tuple #[.int .u8 (x : Int), .bool true]) ∧ w = w' := by
  unfold hexVal at h
  split at h
  · injection h with h
    have := value_figure (c.toNat : Int) w (by omega) (by omega)
    rw [show ((c.toNat : Int) - 48) = (x : Int) by omega] at this
    exact this
  · split at h
    · injection h with h
      have := value_letter (c.toNat : Int) w (by omega) (by omega)
      rw [show ((c.toNat : Int) - 87) = (x : Int) by omega] at this
      exact this
    · cases h

/-- hexes.value at another byte. -/
theorem value_none (c : UInt8) (h : hexVal c = none) (w : World) :
    Calls Tryz.prog 78 #[.int .u8 (c.toNat : Int)] w fun e w' => e = .returned (.tuple #[.int .u8 0, .bool false]) ∧ w = w' := by
  unfold hexVal at h
  split at h
  · cases h
  · split at h
    · cases h
    · exact value_no _ w (by omega) (by omega)

/-! ### The reference: the digits gone through -/

def hexDigits : ByteArray := ⟨#[48, 49, 50, 51, 52, 53, 54, 55, 56, 57, 97, 98, 99, 100, 101, 102]⟩

theorem hexDigits_get (i : Nat) (hi : i < 16) : ∃ h : i < (⟨#[48, 49, 50, 51, 52, 53, 54, 55, 56, 57, 97, 98, 99, 100, 101, 102]⟩ : ByteArray).size, (⟨#[48, 49, 50, 51, 52, 53, 54, 55, 56, 57, 97, 98, 99, 100, 101, 102]⟩ : ByteArray)[i] = hexDig i := by
  refine ⟨hi, ?_⟩
  have : ∀ j : Fin 16, (⟨#[48, 49, 50, 51, 52, 53, 54, 55, 56, 57, 97, 98, 99, 100, 101, 102]⟩ : ByteArray)[j.1]'(j.2) = hexDig j.1 := by decide
  exact this ⟨i, hi⟩
end Go.Proofs.YtggadilgkcjbjaaGreatDoor
