/-
  PLAIN LEAN: a text squeezed: single blanks between its words.
-/
import Derived.Test.YtggadilgkcjbjaaGreatDoorAsmBuildP
set_option linter.unusedVariables false
namespace Go.Proofs.YtggadilgkcjbjaaGreatDoor

/-- A byte more: a blank only behind another byte. -/
def sqz (t : List UInt8) (c : UInt8) : List UInt8 := if c ≠ 32 ∨ (t ≠ [] ∧ t.getLast? ≠ some 32) then t ++ [c] else t
/-- Without the blanks at its end. -/
def trimR (t : List UInt8) : List UInt8 := (t.reverse.dropWhile (· == 32)).reverse

theorem trimR_nil : trimR [] = [] := rfl
theorem trimR_blank (t : List UInt8) : trimR (t ++ [32]) = trimR t := by
  unfold trimR
  rw [List.reverse_append, List.reverse_singleton, List.singleton_append, List.dropWhile_cons, if_pos (by decide)]
theorem trimR_stop {t : List UInt8} (h : t.getLast? ≠ some 32) : trimR t = t := by
  rcases List.eq_nil_or_concat t with rfl | ⟨l, c, rfl⟩
  · rfl
  · have hc : c ≠ 32 := by
      intro e
      apply h
      rw [e]
      simp
    unfold trimR
    rw [List.concat_eq_append, List.reverse_append, List.reverse_singleton, List.singleton_append, List.dropWhile_cons, if_neg (by simpa using hc)]
    simp

theorem splitL_self {s : List UInt8} (h : splitL s = [[]]) : s = [] := by
  cases s with
  | nil => rfl
  | cons c r =>
    rw [splitL] at h
    split at h
    · simp only [List.cons.injEq, true_and] at h
      exact absurd h (splitL_ne r)
    · split at h <;> simp at h
theorem last_cons {d : UInt8} {r : List UInt8} (h : r ≠ []) : (d :: r).getLast? = r.getLast? := by
  cases r with
  | nil => exact absurd rfl h
  | cons x y => rw [List.getLast?_cons_cons]
theorem splitL_snoc {c : UInt8} (hc : c ≠ 32) : ∀ s : List UInt8, ∃ a b, splitL s = a ++ [b] ∧ splitL (s ++ [c]) = a ++ [b ++ [c]] ∧ (b = [] ↔ (s = [] ∨ s.getLast? = some 32))
  | [] => ⟨[], [], rfl, by rw [List.nil_append, splitL, if_neg hc]; rfl, by simp⟩
  | d :: r => by
    obtain ⟨a, b, h1, h2, h3⟩ := splitL_snoc hc r
    by_cases hd : d = 32
    · refine ⟨[] :: a, b, ?_, ?_, ?_⟩
      · rw [splitL, if_pos hd, h1]; rfl
      · rw [List.cons_append, splitL, if_pos hd, h2]; rfl
      · rw [h3]
        by_cases hr : r = []
        · subst hr; simp [hd]
        · rw [last_cons hr]; simp [hr]
    · cases a with
      | nil =>
        refine ⟨[], d :: b, ?_, ?_, ?_⟩
        · rw [splitL, if_neg hd, h1]; rfl
        · rw [List.cons_append, splitL, if_neg hd, h2]; rfl
        · refine ⟨fun e => (by cases e), ?_⟩
          rintro (e | e)
          · cases e
          · exfalso
            by_cases hr : r = []
            · subst hr
              simp at e
              exact hd e
            · rw [last_cons hr] at e
              have hb := h3.2 (.inr e)
              rw [hb] at h1
              exact hr (splitL_self h1)
      | cons x y =>
        refine ⟨(d :: x) :: y, b, ?_, ?_, ?_⟩
        · rw [splitL, if_neg hd, h1]; rfl
        · rw [List.cons_append, splitL, if_neg hd, h2]; rfl
        · have hr : r ≠ [] := by
            rintro rfl
            rw [splitL] at h1
            simp at h1
          rw [last_cons hr, h3]
          simp [hr]

theorem join_snoc (x sep : List UInt8) : ∀ (q : List (List UInt8)), q ≠ [] → Lib.join (q ++ [x]) sep = Lib.join q sep ++ sep ++ x
  | [], h => absurd rfl h
  | [y], _ => by rw [List.singleton_append, join_more, Lib.join_one, Lib.join_one]
  | y :: z :: r, _ => by
    have ih := join_snoc x sep (z :: r) (by simp)
    rw [List.cons_append, List.cons_append, join_more, join_more, ← List.cons_append, ih]
    simp
theorem join_last : ∀ (q : List (List UInt8)), q ≠ [] → (∀ t ∈ q, t ≠ [] ∧ (32 : UInt8) ∉ t) → Lib.join q [32] ≠ [] ∧ (Lib.join q [32]).getLast? ≠ some 32 := by
  intro q hq h
  have key : ∃ a b, Lib.join q [32] = a ++ b ∧ b ∈ q := by
    rcases List.eq_nil_or_concat q with rfl | ⟨l, c, rfl⟩
    · exact absurd rfl hq
    · by_cases hl : l = []
      · subst hl
        exact ⟨[], c, by rw [List.concat_eq_append, List.nil_append, Lib.join_one]; rfl, by simp⟩
      · exact ⟨Lib.join l [32] ++ [32], c, by rw [List.concat_eq_append, join_snoc _ _ _ hl], by simp⟩
  obtain ⟨a, b, e, hb⟩ := key
  obtain ⟨h1, h2⟩ := h b hb
  rw [e]
  refine ⟨by simp [h1], fun hl => ?_⟩
  rcases List.eq_nil_or_concat b with rfl | ⟨l, c, rfl⟩
  · exact h1 rfl
  · rw [List.concat_eq_append, ← List.append_assoc, List.getLast?_concat] at hl
    cases hl
    exact h2 (by simp)

theorem splitL_no : ∀ (s : List UInt8), ∀ t ∈ splitL s, (32 : UInt8) ∉ t
  | [], t, h => by simp [splitL] at h; rw [h]; simp
  | c :: r, t, h => by
    rw [splitL] at h
    split at h
    · rcases List.mem_cons.1 h with rfl | h
      · simp
      · exact splitL_no r t h
    · rename_i hc
      cases hr : splitL r with
      | nil => exact absurd hr (splitL_ne r)
      | cons x y =>
        rw [hr] at h
        rcases List.mem_cons.1 h with rfl | h
        · have := splitL_no r x (by rw [hr]; simp)
          simp only [List.mem_cons, not_or]
          exact ⟨fun e => hc e.symm, this⟩
        · exact splitL_no r t (by rw [hr]; simp [h])
theorem partsL_plain {s t : List UInt8} (h : t ∈ partsL s) : t ≠ [] ∧ (32 : UInt8) ∉ t := by
  unfold partsL at h
  rw [List.mem_filter] at h
  exact ⟨by simpa using h.2, splitL_no s t h.1⟩

theorem sqz_fold_rev : ∀ (r : List UInt8), r.reverse.foldl sqz [] = Lib.join (partsL r.reverse) [32] ++ (if partsL r.reverse ≠ [] ∧ r.reverse.getLast? = some 32 then [32] else [])
  | [] => by rw [List.reverse_nil, show partsL [] = [] from rfl, Lib.join_nil]; rfl
  | c :: r => by
    have ih := sqz_fold_rev r
    rw [List.reverse_cons, List.foldl_append, List.foldl_cons, List.foldl_nil, ih]
    obtain ⟨p, hp⟩ : ∃ p, p = r.reverse := ⟨_, rfl⟩
    rw [← hp]
    clear ih hp
    by_cases hc : c = 32
    · subst hc
      rw [partsL_end, List.getLast?_concat]
      by_cases hP : partsL p = []
      · rw [hP, Lib.join_nil]
        rfl
      · obtain ⟨j1, j2⟩ := join_last _ hP (fun t ht => partsL_plain ht)
        rw [if_pos (c := partsL p ≠ [] ∧ some (32 : UInt8) = some 32) ⟨hP, rfl⟩]
        by_cases hl : p.getLast? = some 32
        · rw [if_pos ⟨hP, hl⟩]
          unfold sqz
          rw [if_neg]
          simp
        · rw [if_neg (fun h => hl h.2), List.append_nil]
          unfold sqz
          rw [if_pos (.inr ⟨j1, j2⟩)]
    · obtain ⟨a, b, h1, h2, h3⟩ := splitL_snoc hc p
      obtain ⟨q, hq⟩ : ∃ q, q = a.filter (· ≠ []) := ⟨_, rfl⟩
      have e2 : partsL (p ++ [c]) = q ++ [b ++ [c]] := by
        unfold partsL
        rw [h2, List.filter_append, ← hq]
        simp
      have e1 : partsL p = q ++ (if b ≠ [] then [b] else []) := by
        unfold partsL
        rw [h1, List.filter_append, ← hq]
        by_cases hb : b = []
        · subst hb; simp
        · simp [hb]
      rw [List.getLast?_concat, if_neg (c := _ ∧ some c = some 32) (fun h => hc (Option.some.inj h.2)), List.append_nil, e2]
      unfold sqz
      rw [if_pos (.inl hc)]
      by_cases hb : b = []
      · rw [if_neg (by simp [hb]), List.append_nil] at e1
        rw [e1, hb, List.nil_append]
        by_cases hQ : q = []
        · rw [hQ, Lib.join_nil, List.nil_append, if_neg (fun h => h.1 rfl), List.nil_append, List.nil_append, Lib.join_one]
        · have hl : p.getLast? = some 32 := by
            rcases h3.1 hb with rfl | h
            · exfalso
              rw [splitL] at h1
              have : a = [] := by
                cases a with
                | nil => rfl
                | cons x y => simp at h1
              rw [this] at hq
              exact hQ hq
            · exact h
          rw [if_pos ⟨hQ, hl⟩, join_snoc _ _ _ hQ]
      · rw [if_pos hb] at e1
        have hl : p.getLast? ≠ some 32 := fun h => hb (h3.2 (.inr h))
        rw [if_neg (fun h => hl h.2), List.append_nil, e1]
        by_cases hQ : q = []
        · rw [hQ, List.nil_append, List.nil_append, Lib.join_one, Lib.join_one]
        · rw [join_snoc _ _ _ hQ, join_snoc _ _ _ hQ, List.append_assoc]
/-- The law's text: the words with single blanks. -/
theorem sqz_fold (s : List UInt8) : trimR (s.foldl sqz []) = Lib.join (partsL s) [32] := by
  have h := sqz_fold_rev s.reverse
  rw [List.reverse_reverse] at h
  rw [h]
  have key : trimR (Lib.join (partsL s) [32]) = Lib.join (partsL s) [32] := by
    by_cases hP : partsL s = []
    · rw [hP, Lib.join_nil]; rfl
    · exact trimR_stop (join_last _ hP (fun t ht => partsL_plain ht)).2
  split
  · rw [trimR_blank, key]
  · rw [List.append_nil, key]
theorem sqz_len (t : List UInt8) (c : UInt8) : (sqz t c).length ≤ t.length + 1 := by
  unfold sqz
  split <;> simp

end Go.Proofs.YtggadilgkcjbjaaGreatDoor
