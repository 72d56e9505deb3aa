/-
  The walk over Name of asm.
-/
import Derived.Test.YtggadilgkcjbjaaGreatDoorAsmName
set_option linter.unusedVariables false
namespace Go.Proofs.YtggadilgkcjbjaaGreatDoor
open Go.RowKit

/-- An operation's name; empty: it has none. -/
def nameB (m : Nat) : ByteArray := if movingB m ≠ ⟨#[]⟩ then movingB m else if reckoningB m ≠ ⟨#[]⟩ then reckoningB m else checkingB m

theorem size_pos_of_ne {s : ByteArray} (h : s ≠ ⟨#[]⟩) : 0 < s.size := by
  rcases s with ⟨a⟩
  rcases Nat.eq_zero_or_pos a.size with h0 | h0
  · exact absurd (by rw [Array.eq_empty_of_size_eq_zero h0]) h
  · exact h0

set_option maxRecDepth 100000 in
set_option maxHeartbeats 1000000 in
theorem name_any (m : Nat) (w : World) (hm : m < 256) :
    Calls Tryz.prog 23 #[.int .u8 (m : Int)] w fun e w' => e = .returned (.tuple #[.string (nameB m), .bool (decide (nameB m ≠ ⟨#[]⟩))]) ∧ w' = w := by
  obtain ⟨E, hE⟩ : ∃ E : Ending → World → Prop, E = fun e w' => e = .returned (.tuple #[.string (nameB m), .bool (decide (nameB m ≠ ⟨#[]⟩))]) ∧ w' = w := ⟨_, rfl⟩
  rw [← hE]
  have HE := Lib.hid hE
  clear hE
  have i0 : ∀ w, (Instr.index 72 (.agg #[.func (.func 47) #[] #[], .func (.func 48) #[] #[], .func (.func 49) #[] #[]]) (.int .i64 0)).run Tryz.prog w = .ok (.func (.func 47) #[] #[]) w := fun _ => by kernel_rfl
  have i1 : ∀ w, (Instr.index 72 (.agg #[.func (.func 47) #[] #[], .func (.func 48) #[] #[], .func (.func 49) #[] #[]]) (.int .i64 1)).run Tryz.prog w = .ok (.func (.func 48) #[] #[]) w := fun _ => by kernel_rfl
  have i2 : ∀ w, (Instr.index 72 (.agg #[.func (.func 47) #[] #[], .func (.func 48) #[] #[], .func (.func 49) #[] #[]]) (.int .i64 2)).run Tryz.prog w = .ok (.func (.func 49) #[] #[]) w := fun _ => by kernel_rfl
  go_enter Tryz.func23, Tryz.ntmps23
  go_wp2
  go_loopw [8] (fun a wr => ∃ k : Nat, a = .int .i64 k ∧ k ≤ 3 ∧ Hid ((1 ≤ k → movingB m = ⟨#[]⟩) ∧ (2 ≤ k → reckoningB m = ⟨#[]⟩) ∧ (3 ≤ k → checkingB m = ⟨#[]⟩)) ∧ wr = w) (fun a _ => 3 - (intOf a).toNat)
  case atStart => exact ⟨0, rfl, by omega, ⟨fun h => by omega, fun h => by omega, fun h => by omega⟩, rfl⟩
  case round =>
    obtain ⟨k, rfl, hk, hpast, rfl⟩ := hrel
    obtain h0 | h1 | h2 | h3 : k = 0 ∨ k = 1 ∨ k = 2 ∨ k = 3 := by omega
    · subst h0
      go_wp2_with fail
      refine (moving_any m _ hm).mono ?_
      rintro e w1 ⟨rfl, rfl⟩
      by_cases hs : movingB m = ⟨#[]⟩
      · have HS := Lib.hid hs
        rw [hs]
        clear hs
        go_wp2
        go_roundw
        case rel => exact ⟨1, by simp, by omega, ⟨fun _ => HS.out, fun h => by omega, fun h => by omega⟩, trivial⟩
        case measure => simp [intOf]
      · have HN : Hid (nameB m = movingB m) := by
          show _ = _
          unfold nameB
          rw [if_pos (show _ from hs)]
        have HB : Hid (decide (nameB m ≠ ⟨#[]⟩) = true) := by show _ = _; rw [HN.out]; exact decide_eq_true hs
        have hq : (movingB m).toList.isEmpty = false := nonempty_of_size (size_pos_of_ne hs)
        obtain ⟨s, hss⟩ : ∃ s, s = movingB m := ⟨_, rfl⟩
        rw [← hss] at hq ⊢
        have HSS := Lib.hid hss
        clear hss hs
        go_wp2
        rw [HE.out, HB.out, HN.out, ← HSS.out]
        exact ⟨rfl, rfl⟩
    · subst h1
      go_wp2_with fail
      refine (reckoning_any m _ hm).mono ?_
      rintro e w1 ⟨rfl, rfl⟩
      by_cases hs : reckoningB m = ⟨#[]⟩
      · have HS := Lib.hid hs
        rw [hs]
        clear hs
        go_wp2
        go_roundw
        case rel => exact ⟨2, by simp, by omega, ⟨fun _ => hpast.out.1 (by omega), fun _ => HS.out, fun h => by omega⟩, trivial⟩
        case measure => simp [intOf]
      · have HN : Hid (nameB m = reckoningB m) := by
          show _ = _
          unfold nameB
          rw [if_neg (by rw [hpast.out.1 (by omega)]; decide), if_pos (show _ from hs)]
        have HB : Hid (decide (nameB m ≠ ⟨#[]⟩) = true) := by show _ = _; rw [HN.out]; exact decide_eq_true hs
        have hq : (reckoningB m).toList.isEmpty = false := nonempty_of_size (size_pos_of_ne hs)
        obtain ⟨s, hss⟩ : ∃ s, s = reckoningB m := ⟨_, rfl⟩
        rw [← hss] at hq ⊢
        have HSS := Lib.hid hss
        clear hss hs
        go_wp2
        rw [HE.out, HB.out, HN.out, ← HSS.out]
        exact ⟨rfl, rfl⟩
    · subst h2
      go_wp2_with fail
      refine (checking_any m _ hm).mono ?_
      rintro e w1 ⟨rfl, rfl⟩
      by_cases hs : checkingB m = ⟨#[]⟩
      · have HS := Lib.hid hs
        rw [hs]
        clear hs
        go_wp2
        go_roundw
        case rel => exact ⟨3, by simp, by omega, ⟨fun _ => hpast.out.1 (by omega), fun _ => hpast.out.2.1 (by omega), fun _ => HS.out⟩, trivial⟩
        case measure => simp [intOf]
      · have HN : Hid (nameB m = checkingB m) := by
          show _ = _
          unfold nameB
          rw [if_neg (by rw [hpast.out.1 (by omega)]; decide), if_neg (by rw [hpast.out.2.1 (by omega)]; decide)]
        have HB : Hid (decide (nameB m ≠ ⟨#[]⟩) = true) := by show _ = _; rw [HN.out]; exact decide_eq_true hs
        have hq : (checkingB m).toList.isEmpty = false := nonempty_of_size (size_pos_of_ne hs)
        obtain ⟨s, hss⟩ : ∃ s, s = checkingB m := ⟨_, rfl⟩
        rw [← hss] at hq ⊢
        have HSS := Lib.hid hss
        clear hss hs
        go_wp2
        rw [HE.out, HB.out, HN.out, ← HSS.out]
        exact ⟨rfl, rfl⟩
    · subst h3
      have HN : Hid (nameB m = ⟨#[]⟩) := by
        show _ = _
        unfold nameB
        rw [if_neg (by rw [hpast.out.1 (by omega)]; decide), if_neg (by rw [hpast.out.2.1 (by omega)]; decide)]
        exact hpast.out.2.2 (by omega)
      have HB : Hid (decide (nameB m ≠ ⟨#[]⟩) = false) := by show _ = _; rw [HN.out]; rfl
      go_wp2
      rw [HE.out, HB.out, HN.out]
      exact ⟨rfl, rfl⟩

end Go.Proofs.YtggadilgkcjbjaaGreatDoor
