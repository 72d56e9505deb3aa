/-
  The walk over the reference's Name.
-/
import Derived.Test.YtggadilgkcjbjaaGreatDoorAsmEnt
import Derived.Test.YtggadilgkcjbjaaGreatDoorAsmNum
set_option linter.unusedVariables false
namespace Go.Proofs.YtggadilgkcjbjaaGreatDoor
open Go.RowKit

theorem ent_none {m : Nat} (hm : m < 256) (h : ∀ k j, k < 61 → entL[k]? = some j → j ≠ m) : nameB m = ⟨#[]⟩ := by
  apply Classical.byContradiction
  intro hne
  have := (ent_mem hm).2 (name_ne hne)
  obtain ⟨k, hk⟩ := List.mem_iff_getElem?.1 this
  have hlt := (List.getElem?_eq_some_iff.1 hk).1
  rw [ent_length] at hlt
  exact h k m hlt hk rfl
set_option maxRecDepth 100000 in
set_option maxHeartbeats 1000000 in
theorem refName_any (m : Nat) (w : World) (hm : m < 256) :
    Calls Tryz.prog 33 #[.int .u8 (m : Int)] w fun e w' => e = .returned (.tuple #[.string (nameB m), .bool (decide (nameB m ≠ ⟨#[]⟩))]) ∧ Below w.heap.size w w' := by
  obtain ⟨E, hE⟩ : ∃ E : Ending → World → Prop, E = fun e w' => e = .returned (.tuple #[.string (nameB m), .bool (decide (nameB m ≠ ⟨#[]⟩))]) ∧ Below w.heap.size w w' := ⟨_, rfl⟩
  rw [← hE]
  have HE := Lib.hid hE
  clear hE
  go_enter Tryz.func33, Tryz.ntmps33
  go_wp2_with fail
  refine (entries_any w).mono ?_
  rintro e w1 ⟨g, rfl, hb1, HC⟩
  go_wp2
  go_loopw [5] (fun a wr => ∃ k : Nat, a = .int .i64 k ∧ k ≤ 61 ∧ Hid (∀ i j, i < k → entL[i]? = some j → j ≠ m) ∧ wr = w1) (fun a _ => 61 - (intOf a).toNat)
  case atStart => exact ⟨0, rfl, by omega, fun i j h => by omega, rfl⟩
  case round =>
    obtain ⟨k, rfl, hk, hpast, rfl⟩ := hrel
    by_cases hlt : k < 61
    · obtain ⟨j, hj⟩ : ∃ j, entL[k]? = some j := ⟨_, List.getElem?_eq_getElem (by rw [ent_length]; exact hlt)⟩
      obtain ⟨hc0, hc1⟩ := HC.out k j hj
      obtain ⟨hj1, hj2⟩ := ent_lt hj
      by_cases he : j = m
      · have HN : Hid (nameB m = ⟨(nameL j).toArray⟩) := by show _ = _; rw [he]; rfl
        have HB : Hid (decide (nameB m ≠ ⟨#[]⟩) = true) := by
          show _ = _
          apply decide_eq_true
          intro e
          rw [he] at hj2
          exact hj2 (name_no e)
        have h1 : ((j : Int) == (m : Int)) = true := by rw [beq_iff_eq, he]
        clear hj he hj2
        go_wp2
        rw [HE.out, HB.out, HN.out]
        exact ⟨rfl, hb1⟩
      · have HP : Hid (∀ i j, i < k + 1 → entL[i]? = some j → j ≠ m) := by
          intro i j' hi hj'
          rcases Nat.lt_succ_iff_lt_or_eq.1 hi with h | h
          · exact hpast.out i j' h hj'
          · subst h
            rw [hj] at hj'
            cases hj'
            exact he
        have h1 : ((j : Int) == (m : Int)) = false := by rw [beq_eq_false_iff_ne]; omega
        clear hj he hj2
        go_wp2
        go_roundw
        case rel => exact ⟨k + 1, by simp, by omega, HP, trivial⟩
        case measure => simp [intOf]; omega
    · have HN : Hid (nameB m = ⟨#[]⟩) := ent_none hm (fun i j hi h => hpast.out i j (by omega) h)
      have HB : Hid (decide (nameB m ≠ ⟨#[]⟩) = false) := by show _ = _; rw [HN.out]; rfl
      go_wp2
      rw [HE.out, HB.out, HN.out]
      exact ⟨rfl, hb1⟩

end Go.Proofs.YtggadilgkcjbjaaGreatDoor
