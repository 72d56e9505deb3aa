/-
  The walk over Op of asm.
-/
import Derived.Test.YtggadilgkcjbjaaGreatDoorAsmNames
set_option linter.unusedVariables false
namespace Go.Proofs.YtggadilgkcjbjaaGreatDoor
open Go.RowKit

/-- Is this the operation of this name? -/
def isOp (s : ByteArray) (m : Nat) : Bool := !(nameB m).toList.isEmpty && decide (nameB m = s)
/-- A name's operation. -/
def opB (s : ByteArray) : Option Nat := (List.range 256).find? (isOp s)
def OpEnd (r : Option Nat) (w : World) (e : Ending) (w' : World) : Prop :=
  e = .returned (.tuple #[.int .u8 ((r.getD 0 : Nat) : Int), .bool r.isSome]) ∧ w' = w

theorem opB_some {s : ByteArray} {k : Nat} (hk : k < 256) (h : isOp s k = true) (hp : ∀ j, j < k → isOp s j = false) : opB s = some k := by
  unfold opB
  rw [List.find?_range_eq_some]
  exact ⟨h, by simpa using hk, fun j hj => by simp [hp j hj]⟩
theorem opB_none {s : ByteArray} (hp : ∀ j, j < 256 → isOp s j = false) : opB s = none := by
  unfold opB
  rw [List.find?_eq_none]
  intro j hj
  simp [hp j (by simpa using hj)]

set_option maxRecDepth 100000 in
set_option maxHeartbeats 1000000 in
theorem op_any (s : ByteArray) (w : World) :
    Calls Tryz.prog 38 #[.string s] w (OpEnd (opB s) w) := by
  obtain ⟨E, hE⟩ : ∃ E : Ending → World → Prop, E = OpEnd (opB s) w := ⟨_, rfl⟩
  rw [← hE]
  have HE := Lib.hid hE
  clear hE
  go_enter Tryz.func38, Tryz.ntmps38
  go_wp2
  go_loopw [7] (fun a wr => ∃ k : Nat, a = .int .i64 k ∧ k ≤ 256 ∧ Hid (∀ j, j < k → isOp s j = false) ∧ wr = w) (fun a _ => 256 - (intOf a).toNat)
  case atStart => exact ⟨0, rfl, by omega, fun j h => by omega, rfl⟩
  case round =>
    obtain ⟨k, rfl, hk, hpast, rfl⟩ := hrel
    by_cases hlt : k < 256
    · have hwy : IntKind.u8.wrap (k : Int) = (k : Int) := by simp [IntKind.wrap, IntKind.signed, IntKind.bits]; omega
      go_wp2_with fail
      refine (name_any k _ hlt).mono ?_
      rintro e w1 ⟨rfl, rfl⟩
      by_cases hs : nameB k = ⟨#[]⟩
      · have HI : Hid (∀ j, j < k + 1 → isOp s j = false) := by
          intro j hj
          rcases Nat.lt_succ_iff_lt_or_eq.1 hj with h | h
          · exact hpast.out j h
          · subst h
            unfold isOp
            rw [hs, empty_of_size rfl]
            rfl
        rw [show decide (nameB k ≠ ⟨#[]⟩) = false by rw [hs]; rfl]
        clear hs
        go_wp2
        go_roundw
        case rel => exact ⟨k + 1, by simp, by omega, HI, trivial⟩
        case measure => simp [intOf]; omega
      · rw [show decide (nameB k ≠ ⟨#[]⟩) = true from decide_eq_true hs]
        by_cases hn : nameB k = s
        · have HF : Hid (opB s = some k) := opB_some hlt (by unfold isOp; rw [nonempty_of_size (size_pos_of_ne hs), decide_eq_true hn]; rfl) hpast.out
          rw [hn]
          clear hs hn
          go_wp2
          rw [HE.out, HF.out]
          exact ⟨rfl, rfl⟩
        · have HI : Hid (∀ j, j < k + 1 → isOp s j = false) := by
            intro j hj
            rcases Nat.lt_succ_iff_lt_or_eq.1 hj with h | h
            · exact hpast.out j h
            · subst h
              unfold isOp
              rw [decide_eq_false hn, Bool.and_false]
          have hq : ((nameB k).toList == s.toList) = false := by
            rw [beq_eq_false_iff_ne]
            intro h
            apply hn
            rw [toList_data, toList_data] at h
            rcases h1 : nameB k with ⟨a⟩
            rcases s with ⟨b⟩
            rw [h1] at h
            simp only at h
            congr 1
            exact Array.toList_inj.1 h
          obtain ⟨t, ht⟩ : ∃ t, t = nameB k := ⟨_, rfl⟩
          rw [← ht] at hq ⊢
          clear hs hn ht
          go_wp2
          go_roundw
          case rel => exact ⟨k + 1, by simp, by omega, HI, trivial⟩
          case measure => simp [intOf]; omega
    · have HF : Hid (opB s = none) := opB_none (fun j h => hpast.out j (by omega))
      go_wp2
      rw [HE.out, HF.out]
      exact ⟨rfl, rfl⟩

end Go.Proofs.YtggadilgkcjbjaaGreatDoor
