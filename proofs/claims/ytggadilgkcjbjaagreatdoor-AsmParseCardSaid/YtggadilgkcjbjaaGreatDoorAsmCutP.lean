/-
  PLAIN LEAN: a text cut at a byte; a suffix of one byte; a text split at blanks, as the library tells it.
-/
import Derived.Test.YtggadilgkcjbjaaGreatDoorAsmPlain
import Derived.Test.YtggadilgkcjbjaaGreatDoorAsmBuildP
import Derived.Lib.CutLaws
import Derived.Lib.SplitLaws
import Derived.Lib.IndexBytes
set_option linter.unusedVariables false
namespace Go.Proofs.YtggadilgkcjbjaaGreatDoor
open Go.Lib

theorem index_cases (c : UInt8) : ∀ s : List UInt8, (c ∉ s ∧ index s [c] = -1) ∨ ∃ a r, s = a ++ c :: r ∧ c ∉ a ∧ index s [c] = a.length
  | [] => .inl ⟨by simp, by rw [index_one]; rfl⟩
  | b :: l => by
    by_cases hb : b = c
    · subst hb
      exact .inr ⟨[], l, rfl, by simp, by rw [index_one, indexByte]; simp⟩
    · have hb' : (b == c) = false := by simpa using hb
      rcases index_cases c l with ⟨h1, h2⟩ | ⟨a, r, h1, h2, h3⟩
      · rw [index_one] at h2
        refine .inl ⟨by simp [h1]; exact fun e => hb e.symm, ?_⟩
        rw [index_one, indexByte]
        simp [hb', h2]
      · rw [index_one] at h3
        refine .inr ⟨b :: a, r, by rw [h1]; rfl, by simp [h2]; exact fun e => hb e.symm, ?_⟩
        rw [index_one, indexByte]
        simp only [hb', h3]
        simp
theorem take_all {s : List UInt8} (h : (60 : UInt8) ∉ s) : s.takeWhile (· != 60) = s := by
  induction s with
  | nil => rfl
  | cons c a ih =>
    simp only [List.mem_cons, not_or] at h
    rw [List.takeWhile_cons, if_pos (by simpa using fun e => h.1 e.symm), ih h.2]
theorem drop_all {s : List UInt8} (h : (60 : UInt8) ∉ s) : s.dropWhile (· != 60) = [] := by
  induction s with
  | nil => rfl
  | cons c a ih =>
    simp only [List.mem_cons, not_or] at h
    rw [List.dropWhile_cons, if_pos (by simpa using fun e => h.1 e.symm), ih h.2]
theorem cut_lt (s : List UInt8) : cut s [60] = (s.takeWhile (· != 60), (s.dropWhile (· != 60)).drop 1, decide (60 ∈ s)) := by
  unfold cut
  rcases index_cases 60 s with ⟨h1, h2⟩ | ⟨a, r, h1, h2, h3⟩
  · rw [h2, if_neg (by omega)]
    rw [take_all h1, drop_all h1, decide_eq_false h1]
    rfl
  · rw [h3, if_pos (by omega)]
    subst h1
    rw [take_stop h2, drop_stop h2, decide_eq_true (by simp)]
    simp
theorem contains_lt (s : List UInt8) : decide (0 ≤ indexByte s 60) = decide (60 ∈ s) := by
  rw [← index_one]
  rcases index_cases 60 s with ⟨h1, h2⟩ | ⟨a, r, h1, h2, h3⟩
  · rw [h2, decide_eq_false h1]; rfl
  · rw [h3, decide_eq_true (by omega), decide_eq_true (by rw [h1]; simp)]
theorem suffix_one (r : List UInt8) : hasSuffix r [62] = decide (r.getLast? = some 62) ∧ trimSuffix r [62] = if r.getLast? = some 62 then r.dropLast else r := by
  have h : hasSuffix r [62] = decide (r.getLast? = some 62) := by
    unfold hasSuffix
    rw [Bool.eq_iff_iff, List.isSuffixOf_iff_suffix, decide_eq_true_eq]
    constructor
    · rintro ⟨t, rfl⟩
      simp
    · intro e
      obtain ⟨l, rfl⟩ := List.getLast?_eq_some_iff.1 e
      exact ⟨l, rfl⟩
  refine ⟨h, ?_⟩
  unfold trimSuffix
  rw [h]
  by_cases hr : r.getLast? = some 62
  · rw [if_pos (by simpa using hr), if_pos hr, List.dropLast_eq_take]
    rfl
  · rw [if_neg (by simpa using hr), if_neg hr]

theorem splitK_eq : ∀ (k : Nat) (s : List UInt8), s.count 32 = k → splitK [32] 0 k s = splitL s
  | 0, s, h => by
    rw [splitK, splitL_one (List.count_eq_zero.1 h)]
  | k + 1, s, h => by
    rcases index_cases 32 s with ⟨h1, h2⟩ | ⟨a, r, h1, h2, h3⟩
    · rw [List.count_eq_zero.2 h1] at h; omega
    · have hc : r.count 32 = k := by
        rw [h1, List.count_append, List.count_eq_zero.2 h2, List.count_cons_self] at h
        omega
      rw [splitK, h3, if_neg (by simp)]
      subst h1
      rw [splitL_stop h2]
      simp
      exact splitK_eq k r hc
theorem split_eq (s : ByteArray) : ((splitB ⟨#[32]⟩ 0 (countB s ⟨#[32]⟩) s).map (·.data.toList)) = splitL s.data.toList := by
  rw [splitB_data]
  have hc : countB s ⟨#[32]⟩ = s.data.toList.count 32 := count_one 32 s.data.toList
  exact splitK_eq _ _ hc.symm
theorem split_len (s : ByteArray) : (splitL s.data.toList).length = countB s ⟨#[32]⟩ + 1 := by
  rw [← split_eq, List.length_map]
  exact splitB_all _ (by decide) 0 _ s rfl
theorem splitL_mem : ∀ (s : List UInt8) (p : List UInt8), p ∈ splitL s → p.length ≤ s.length
  | [], p, h => by simp [splitL] at h; rw [h]; simp
  | c :: r, p, h => by
    rw [splitL] at h
    split at h
    · rcases List.mem_cons.1 h with rfl | h
      · simp
      · have := splitL_mem r p h
        simp
        omega
    · cases hr : splitL r with
      | nil => exact absurd hr (splitL_ne r)
      | cons x y =>
        rw [hr] at h
        simp only at h
        rcases List.mem_cons.1 h with rfl | h
        · have := splitL_mem r x (by rw [hr]; simp)
          simp
          omega
        · have := splitL_mem r p (by rw [hr]; simp [h])
          simp
          omega
theorem splitL_length (s : List UInt8) : (splitL s).length ≤ s.length + 1 := by
  induction s with
  | nil => simp [splitL]
  | cons c r ih =>
    rw [splitL]
    split
    · simp; omega
    · cases hr : splitL r with
      | nil => exact absurd hr (splitL_ne r)
      | cons x y =>
        rw [hr] at ih
        simp at ih ⊢
        omega

end Go.Proofs.YtggadilgkcjbjaaGreatDoor
