/-
  The walks over the reference's Name and Op.
-/
import Derived.Test.YtggadilgkcjbjaaDoorAsmEnt
import Derived.Test.YtggadilgkcjbjaaDoorAsmNum
set_option linter.unusedVariables false
namespace Go.Proofs.YtggadilgkcjbjaaDoor
open Go.RowKit

theorem ent_none {m : Nat} (hm : m < 256) (h : ∀ k j, k < 61 → entL[k]? = some j → j ≠ m) : nameB m = ⟨#[]⟩ := by
  apply Classical.byContradiction
  intro hne
  have := (ent_mem hm).2 (name_ne hne)
  obtain ⟨k, hk⟩ := List.mem_iff_getElem?.1 this
  have hlt := (List.getElem?_eq_some_iff.1 hk).1
  rw [ent_length] at hlt
  exact h k m hlt hk rfl
theorem ent_op_none {s : ByteArray} (h : ∀ k j, k < 61 → entL[k]? = some j → nameB j ≠ s) : opB s = none := by
  cases ho : opB s with
  | none => rfl
  | some o =>
    exfalso
    unfold opB at ho
    have h1 := List.find?_some ho
    have h2 := List.mem_of_find?_eq_some ho
    simp only [List.mem_range] at h2
    unfold isOp at h1
    simp only [Bool.and_eq_true, decide_eq_true_eq] at h1
    have hne : nameL o ≠ [] := by
      intro e
      have := h1.1
      unfold nameL at e
      rw [toList_data, e] at this
      simp at this
    have := (ent_mem h2).2 hne
    obtain ⟨k, hk⟩ := List.mem_iff_getElem?.1 this
    have hlt := (List.getElem?_eq_some_iff.1 hk).1
    rw [ent_length] at hlt
    exact h k o hlt hk h1.2
/-- A name leads to its operation. -/
theorem op_name {m : Nat} (hm : m < 256) (h : nameB m ≠ ⟨#[]⟩) : opB (nameB m) = some m := by
  have hself : isOp (nameB m) m = true := by
    unfold isOp
    rw [nonempty_of_size (size_pos_of_ne h), decide_eq_true rfl]
    rfl
  cases ho : opB (nameB m) with
  | none =>
    unfold opB at ho
    rw [List.find?_eq_none] at ho
    exact absurd hself (ho m (by simpa using hm))
  | some k =>
    unfold opB at ho
    have h1 := List.find?_some ho
    have h2 := List.mem_of_find?_eq_some ho
    simp only [List.mem_range] at h2
    unfold isOp at h1
    simp only [Bool.and_eq_true, decide_eq_true_eq] at h1
    have e := h1.2
    have hk : nameB k ≠ ⟨#[]⟩ := by rw [e]; exact h
    have a1 := small_name ⟨k, h2⟩ (name_ne hk)
    have a2 := small_name ⟨m, hm⟩ (name_ne h)
    simp only at a1 a2
    have b1 := word_text a1.2
    have b2 := word_text a2.2
    rw [a1.1] at b1
    rw [a2.1] at b2
    have e2 : nameL k = nameL m := by unfold nameL; rw [e]
    rw [e2, b2] at b1
    have h3 := congrArg (fun x : Option Wd => x.map fun y => y.1.toNat) b1
    simp only [Option.map_some, Option.some.injEq] at h3
    rw [ofNat_toNat' hm, ofNat_toNat' h2] at h3
    rw [h3]

set_option maxRecDepth 100000 in
set_option maxHeartbeats 1000000 in
theorem refName_any (m : Nat) (w : World) (hm : m < 256) :
    Calls Tryd.prog 11 #[.int .u8 (m : Int)] w fun e w' => e = .returned (.tuple #[.string (nameB m), .bool (decide (nameB m ≠ ⟨#[]⟩))]) ∧ Below w.heap.size w w' := by
  obtain ⟨E, hE⟩ : ∃ E : Ending → World → Prop, E = fun e w' => e = .returned (.tuple #[.string (nameB m), .bool (decide (nameB m ≠ ⟨#[]⟩))]) ∧ Below w.heap.size w w' := ⟨_, rfl⟩
  rw [← hE]
  have HE := Lib.hid hE
  clear hE
  go_enter Tryd.func11, Tryd.ntmps11
  go_wp2_with fail
  refine (entries_any w).mono ?_
  rintro e w1 ⟨g, rfl, hb1, HC⟩
  go_wp2
  go_loopw [5] (fun a wr => ∃ k : Nat, a = .int .i64 k ∧ k ≤ 61 ∧ Hid (∀ i j, i < k → entL[i]? = some j → j ≠ m) ∧ wr = w1) (fun a _ => 61 - (intOf a).toNat)
  case atStart => exact ⟨0, rfl, by omega, fun i j h => by omega, rfl⟩
  case round =>
    obtain ⟨k, rfl, hk, hpast, rfl⟩ := hrel
    by_cases hlt : k < 61
    · obtain ⟨j, hj⟩ : ∃ j, entL[k]? = some j := ⟨_, List.getElem?_eq_getElem (by rw [ent_length]; exact hlt)⟩
      obtain ⟨hc0, hc1⟩ := HC.out k j hj
      obtain ⟨hj1, hj2⟩ := ent_lt hj
      by_cases he : j = m
      · have HN : Hid (nameB m = ⟨(nameL j).toArray⟩) := by show _ = _; rw [he]; rfl
        have HB : Hid (decide (nameB m ≠ ⟨#[]⟩) = true) := by
          show _ = _
          apply decide_eq_true
          intro e
          rw [he] at hj2
          exact hj2 (name_no e)
        have h1 : ((j : Int) == (m : Int)) = true := by rw [beq_iff_eq, he]
        clear hj he hj2
        go_wp2
        rw [HE.out, HB.out, HN.out]
        exact ⟨rfl, hb1⟩
      · have HP : Hid (∀ i j, i < k + 1 → entL[i]? = some j → j ≠ m) := by
          intro i j' hi hj'
          rcases Nat.lt_succ_iff_lt_or_eq.1 hi with h | h
          · exact hpast.out i j' h hj'
          · subst h
            rw [hj] at hj'
            cases hj'
            exact he
        have h1 : ((j : Int) == (m : Int)) = false := by rw [beq_eq_false_iff_ne]; omega
        clear hj he hj2
        go_wp2
        go_roundw
        case rel => exact ⟨k + 1, by simp, by omega, HP, trivial⟩
        case measure => simp [intOf]; omega
    · have HN : Hid (nameB m = ⟨#[]⟩) := ent_none hm (fun i j hi h => hpast.out i j (by omega) h)
      have HB : Hid (decide (nameB m ≠ ⟨#[]⟩) = false) := by show _ = _; rw [HN.out]; rfl
      go_wp2
      rw [HE.out, HB.out, HN.out]
      exact ⟨rfl, hb1⟩

set_option maxRecDepth 100000 in
set_option maxHeartbeats 1000000 in
theorem refOp_any (s : ByteArray) (w : World) :
    Calls Tryd.prog 12 #[.string s] w fun e w' => e = .returned (.tuple #[.int .u8 (((opB s).getD 0 : Nat) : Int), .bool (opB s).isSome]) ∧ Below w.heap.size w w' := by
  obtain ⟨E, hE⟩ : ∃ E : Ending → World → Prop, E = fun e w' => e = .returned (.tuple #[.int .u8 (((opB s).getD 0 : Nat) : Int), .bool (opB s).isSome]) ∧ Below w.heap.size w w' := ⟨_, rfl⟩
  rw [← hE]
  have HE := Lib.hid hE
  clear hE
  go_enter Tryd.func12, Tryd.ntmps12
  go_wp2_with fail
  refine (entries_any w).mono ?_
  rintro e w1 ⟨g, rfl, hb1, HC⟩
  go_wp2
  go_loopw [5] (fun a wr => ∃ k : Nat, a = .int .i64 k ∧ k ≤ 61 ∧ Hid (∀ i j, i < k → entL[i]? = some j → nameB j ≠ s) ∧ wr = w1) (fun a _ => 61 - (intOf a).toNat)
  case atStart => exact ⟨0, rfl, by omega, fun i j h => by omega, rfl⟩
  case round =>
    obtain ⟨k, rfl, hk, hpast, rfl⟩ := hrel
    by_cases hlt : k < 61
    · obtain ⟨j, hj⟩ : ∃ j, entL[k]? = some j := ⟨_, List.getElem?_eq_getElem (by rw [ent_length]; exact hlt)⟩
      obtain ⟨hc0, hc1⟩ := HC.out k j hj
      obtain ⟨hj1, hj2⟩ := ent_lt hj
      rw [← name_str] at hc1
      by_cases he : nameB j = s
      · have HN : Hid (opB s = some j) := by
          show _ = _
          rw [← he]
          refine op_name hj1 (fun e => hj2 ?_)
          exact name_no e
        rw [he] at hc1
        clear hj he hj2
        go_wp2
        rw [HE.out, HN.out]
        exact ⟨rfl, hb1⟩
      · have HP : Hid (∀ i j, i < k + 1 → entL[i]? = some j → nameB j ≠ s) := by
          intro i j' hi hj'
          rcases Nat.lt_succ_iff_lt_or_eq.1 hi with h | h
          · exact hpast.out i j' h hj'
          · subst h
            rw [hj] at hj'
            cases hj'
            exact he
        obtain ⟨t, ht⟩ : ∃ t, t = nameB j := ⟨_, rfl⟩
        rw [← ht] at hc1 he
        have h1 := str_ne he
        clear hj he hj2 ht
        go_wp2
        go_roundw
        case rel => exact ⟨k + 1, by simp, by omega, HP, trivial⟩
        case measure => simp [intOf]; omega
    · have HN : Hid (opB s = none) := ent_op_none (fun i j hi h => hpast.out i j (by omega) h)
      go_wp2
      rw [HE.out, HN.out]
      exact ⟨rfl, hb1⟩

end Go.Proofs.YtggadilgkcjbjaaDoor
