/-
  PLAIN LEAN: the words of a script that is built; a script whose words are built again; blanks between words.
-/
import Derived.Test.YtggadilgkcjbjaaGreatDoorAsmPlain
import Derived.Lib.Join
set_option linter.unusedVariables false
namespace Go.Proofs.YtggadilgkcjbjaaGreatDoor

theorem ofNat_toNat' {n : Nat} (h : n < 256) : (UInt8.ofNat n).toNat = n := by rw [UInt8.toNat_ofNat', Nat.mod_eq_of_lt (by omega)]

/-- A word that is laid is the next one. -/
theorem next_lay {x : Wd} {l r : List UInt8} (h : layL x = some l) : nextL (l ++ r) = some (x, r) := by
  obtain ⟨op, b⟩ := x
  unfold layL at h
  simp only at h
  split at h
  · rename_i h1
    split at h
    · rename_i h2
      cases h
      have ht : toldL (op :: (b ++ r)) = some (op.toNat, 1) := by simp only [toldL]; rw [if_pos h1]
      simp only [List.cons_append, nextL, ht]
      rw [if_neg (by simp [← h2]), ← h2]
      simp
      rw [Nat.add_comm 1, List.drop_succ_cons]
      simp
    · cases h
  · split at h
    · rename_i h0 h1
      split at h
      · rename_i h2
        cases h
        have ht : toldL (op :: UInt8.ofNat b.length :: (b ++ r)) = some (b.length, 2) := by simp only [toldL]; rw [if_neg h0, if_pos h1]; rw [ofNat_toNat' (by omega)]
        simp only [List.cons_append, nextL, ht]
        rw [if_neg (by simp)]
        simp
        rw [Nat.add_comm 2, List.drop_succ_cons, List.drop_succ_cons]
        simp
      · cases h
    · split at h
      · rename_i h00 h0 h1
        split at h
        · rename_i h2
          cases h
          have ht : toldL (op :: UInt8.ofNat b.length :: UInt8.ofNat (b.length / 256) :: (b ++ r)) = some (b.length, 3) := by
            simp only [toldL]
            rw [if_neg h00, if_neg h0, if_pos h1]
            rw [ofNat_toNat' (n := b.length / 256) (by omega), UInt8.toNat_ofNat']
            congr 2
            omega
          simp only [List.cons_append, nextL, ht]
          rw [if_neg (by simp)]
          simp
          rw [Nat.add_comm 3, List.drop_succ_cons, List.drop_succ_cons, List.drop_succ_cons]
          simp
        · cases h
      · rename_i h00 h0 h1
        split at h
        · rename_i h2
          cases h
          have hb := List.eq_nil_of_length_eq_zero h2
          subst hb
          have ht : toldL (op :: r) = some (0, 1) := by simp only [toldL]; rw [if_neg h00, if_neg h0, if_neg h1]
          simp only [List.cons_append, List.nil_append, nextL, ht]
          rw [if_neg (by simp)]
          simp
        · cases h

theorem told_lay {op : UInt8} {t : List UInt8} {n h : Nat} (ht : toldL (op :: t) = some (n, h)) (hl : n ≤ (op :: t).length - h) :
    layL (op, ((op :: t).drop h).take n) = some ((op :: t).take (h + n)) := by
  have hop := UInt8.toNat_lt op
  simp only [toldL] at ht
  split at ht
  · rename_i h1
    cases ht
    unfold layL
    simp only
    rw [if_pos h1, List.drop_succ_cons, List.drop_zero, List.length_take, if_pos (by simp at hl; omega), Nat.add_comm 1, List.take_succ_cons]
  · split at ht
    · rename_i h0 h1
      cases t with
      | nil => cases ht
      | cons x t =>
        simp only [Option.some.injEq, Prod.mk.injEq] at ht
        obtain ⟨rfl, rfl⟩ := ht
        have hx := UInt8.toNat_lt x
        have hlen : (t.take x.toNat).length = x.toNat := by rw [List.length_take]; simp at hl; omega
        unfold layL
        simp only
        rw [if_neg h0, if_pos h1, List.drop_succ_cons, List.drop_succ_cons, List.drop_zero, hlen, if_pos (by omega), Nat.add_comm 2, List.take_succ_cons, List.take_succ_cons, ofNat_self]
    · split at ht
      · rename_i h00 h0 h1
        match t, ht with
        | x :: y :: t, ht =>
          simp only [Option.some.injEq, Prod.mk.injEq] at ht
          obtain ⟨rfl, rfl⟩ := ht
          have hx := UInt8.toNat_lt x
          have hy := UInt8.toNat_lt y
          have hlen : (t.take (x.toNat + 256 * y.toNat)).length = x.toNat + 256 * y.toNat := by rw [List.length_take]; simp at hl; omega
          unfold layL
          simp only
          rw [if_neg h00, if_neg h0, if_pos h1, List.drop_succ_cons, List.drop_succ_cons, List.drop_succ_cons, List.drop_zero, hlen, if_pos (by omega), Nat.add_comm 3, List.take_succ_cons, List.take_succ_cons, List.take_succ_cons]
          have e1 : UInt8.ofNat (x.toNat + 256 * y.toNat) = x := by
            apply UInt8.toNat_inj.1
            rw [UInt8.toNat_ofNat']
            omega
          have e2 : UInt8.ofNat ((x.toNat + 256 * y.toNat) / 256) = y := by
            rw [show (x.toNat + 256 * y.toNat) / 256 = y.toNat by omega, ofNat_self]
          rw [e1, e2]
        | [], ht => cases ht
        | [_], ht => cases ht
      · rename_i h00 h0 h1
        cases ht
        unfold layL
        simp only
        rw [if_neg h00, if_neg h0, if_neg h1]
        simp
/-- The next word, laid, is what stood there. -/
theorem lay_next {b r : List UInt8} {x : Wd} (h : nextL b = some (x, r)) : ∃ l, layL x = some l ∧ b = l ++ r := by
  cases b with
  | nil => cases h
  | cons op t =>
    simp only [nextL] at h
    cases ht : toldL (op :: t) with
    | none => rw [ht] at h; cases h
    | some y =>
      rw [ht] at h
      simp only at h
      split at h
      · cases h
      · rename_i h1
        simp only [Option.some.injEq, Prod.mk.injEq] at h
        obtain ⟨rfl, rfl⟩ := h
        exact ⟨_, told_lay (n := y.1) (h := y.2) ht (by omega), (List.take_append_drop _ _).symm⟩

/-- All of what is built. -/
theorem all_build : ∀ {ws : List Wd} {b : List UInt8}, buildL ws = some b → allL b = some ws
  | [], b, h => by
    simp only [buildL, Option.some.injEq] at h
    subst h
    rfl
  | x :: ws, b, h => by
    rw [buildL_cons] at h
    cases hx : layL x with
    | none => rw [hx] at h; cases h
    | some l =>
      rw [hx] at h
      simp only at h
      cases hr : buildL ws with
      | none => rw [hr] at h; cases h
      | some r =>
        rw [hr] at h
        simp only [Option.map_some, Option.some.injEq] at h
        subst h
        rw [allL_next (next_lay hx), all_build hr]
        rfl
/-- What is read, built again. -/
theorem build_allN : ∀ (n : Nat) {b : List UInt8} {ws : List Wd}, b.length ≤ n → allL b = some ws → buildL ws = some b ∧ ∀ x ∈ ws, (layL x).isSome
  | 0, b, ws, hn, h => by
    have : b = [] := List.eq_nil_of_length_eq_zero (by omega)
    subst this
    rw [allL_nil] at h
    cases h
    exact ⟨rfl, by simp⟩
  | n + 1, b, ws, hn, h => by
    by_cases hb : b = []
    · subst hb
      rw [allL_nil] at h
      cases h
      exact ⟨rfl, by simp⟩
    · cases hx : nextL b with
      | none => rw [allL_bad hb hx] at h; cases h
      | some y =>
        obtain ⟨x, r⟩ := y
        rw [allL_next hx] at h
        obtain ⟨l, hl, rfl⟩ := lay_next hx
        have hs := nextL_short hx
        cases hr : allL r with
        | none => rw [hr] at h; cases h
        | some ws' =>
          rw [hr] at h
          simp only [Option.map_some, Option.some.injEq] at h
          subst h
          obtain ⟨h1, h2⟩ := build_allN n (by omega) hr
          refine ⟨?_, ?_⟩
          · rw [buildL_cons, hl]
            simp only
            rw [h1]
            rfl
          · intro z hz
            rcases List.mem_cons.1 hz with rfl | hz
            · rw [hl]; rfl
            · exact h2 z hz
theorem build_all {b : List UInt8} {ws : List Wd} (h : allL b = some ws) : buildL ws = some b ∧ ∀ x ∈ ws, (layL x).isSome := build_allN b.length (Nat.le_refl _) h

/-! ### Blanks -/
/-- The pieces between blanks. -/
def splitL : List UInt8 → List (List UInt8)
  | [] => [[]]
  | c :: r => if c = 32 then [] :: splitL r else match splitL r with
    | h :: t => (c :: h) :: t
    | [] => [[c]]
/-- The words of a text. -/
def partsL (s : List UInt8) : List (List UInt8) := (splitL s).filter (· ≠ [])
theorem splitL_ne (s : List UInt8) : splitL s ≠ [] := by
  cases s with
  | nil => simp [splitL]
  | cons c r =>
    unfold splitL
    split
    · simp
    · split <;> simp
theorem splitL_stop {a : List UInt8} (h : (32 : UInt8) ∉ a) (r : List UInt8) : splitL (a ++ 32 :: r) = a :: splitL r := by
  induction a with
  | nil => rw [List.nil_append, splitL, if_pos rfl]
  | cons c a ih =>
    simp only [List.mem_cons, not_or] at h
    rw [List.cons_append, splitL, if_neg (fun e => h.1 e.symm), ih h.2]
theorem splitL_one {a : List UInt8} (h : (32 : UInt8) ∉ a) : splitL a = [a] := by
  induction a with
  | nil => rfl
  | cons c a ih =>
    simp only [List.mem_cons, not_or] at h
    rw [splitL, if_neg (fun e => h.1 e.symm), ih h.2]
theorem partsL_blank (s : List UInt8) : partsL (32 :: s) = partsL s := by
  unfold partsL
  rw [splitL, if_pos rfl]
  simp
theorem splitL_end (s : List UInt8) : splitL (s ++ [32]) = splitL s ++ [[]] := by
  induction s with
  | nil => rfl
  | cons c s ih =>
    rw [List.cons_append, splitL, splitL]
    split
    · rw [ih]; rfl
    · rw [ih]
      cases h : splitL s with
      | nil => exact absurd h (splitL_ne s)
      | cons x y => rfl
theorem partsL_end (s : List UInt8) : partsL (s ++ [32]) = partsL s := by
  unfold partsL
  rw [splitL_end, List.filter_append]
  simp
theorem join_more (x y sep : List UInt8) (r : List (List UInt8)) : Lib.join (x :: y :: r) sep = x ++ sep ++ Lib.join (y :: r) sep := by
  rw [Lib.join_cons, Lib.join_cons]
  simp [Lib.joinTail]
/-- Words with blanks between them. -/
theorem partsL_join : ∀ (ts : List (List UInt8)), (∀ t ∈ ts, t ≠ [] ∧ (32 : UInt8) ∉ t) → partsL (Lib.join ts [32]) = ts
  | [], _ => by rw [Lib.join_nil]; rfl
  | [x], h => by
    have hx := h x (by simp)
    rw [Lib.join_one]
    unfold partsL
    rw [splitL_one hx.2]
    simp [hx.1]
  | x :: y :: r, h => by
    have hx := h x (by simp)
    have ih := partsL_join (y :: r) (fun t ht => h t (by simp at ht ⊢; right; exact ht))
    rw [join_more, List.append_assoc, List.singleton_append]
    unfold partsL at ih ⊢
    rw [splitL_stop hx.2, List.filter_cons, if_pos (by simpa using hx.1), ih]

/-- The script of a text. -/
def parseL (s : List UInt8) : Option (List UInt8) :=
  match (partsL s).mapM wordL with
  | none => none
  | some ws => buildL ws
/-- The text of a script. -/
def printL (b : List UInt8) : Option (List UInt8) := (allL b).map fun ws => Lib.join (ws.map textL) [32]

theorem mapM_back : ∀ (ws : List Wd), (∀ x ∈ ws, (layL x).isSome) → (ws.map textL).mapM wordL = some ws
  | [], _ => rfl
  | x :: ws, h => by
    rw [List.map_cons, List.mapM_cons, word_text (h x (by simp)), mapM_back ws (fun y hy => h y (by simp [hy]))]
    rfl
theorem parse_parts {b : List UInt8} {ws : List Wd} (h : allL b = some ws) {s : List UInt8} (hs : partsL s = ws.map textL) : parseL s = some b := by
  obtain ⟨h1, h2⟩ := build_all h
  unfold parseL
  rw [hs, mapM_back ws h2]
  exact h1
/-- A script's text leads to the script, blanks around it or not. -/
theorem parse_print {b s : List UInt8} (h : printL b = some s) : parseL s = some b ∧ parseL (32 :: 32 :: (s ++ [32])) = some b := by
  unfold printL at h
  cases ha : allL b with
  | none => rw [ha] at h; cases h
  | some ws =>
    rw [ha] at h
    simp only [Option.map_some, Option.some.injEq] at h
    have hp : partsL s = ws.map textL := by
      rw [← h]
      apply partsL_join
      intro t ht
      obtain ⟨x, hx, rfl⟩ := List.mem_map.1 ht
      exact text_plain ((build_all ha).2 x hx)
    exact ⟨parse_parts ha hp, parse_parts ha (by rw [partsL_blank, partsL_blank, partsL_end, hp])⟩
theorem mapM_texts : ∀ {ps : List (List UInt8)} {ws : List Wd}, ps.mapM wordL = some ws → ws.map textL = ps ∧ ∀ x ∈ ws, (layL x).isSome
  | [], ws, h => by
    cases h
    exact ⟨rfl, by simp⟩
  | p :: ps, ws, h => by
    rw [List.mapM_cons] at h
    cases hp : wordL p with
    | none => rw [hp] at h; cases h
    | some x =>
      rw [hp] at h
      cases hr : ps.mapM wordL with
      | none => rw [hr] at h; cases h
      | some ws' =>
        rw [hr] at h
        cases h
        obtain ⟨h1, h2⟩ := mapM_texts hr
        obtain ⟨h3, h4⟩ := wordL_text hp
        refine ⟨by rw [List.map_cons, h1, h3], ?_⟩
        intro z hz
        rcases List.mem_cons.1 hz with rfl | hz
        · exact h4
        · exact h2 z hz
theorem build_some : ∀ {ws : List Wd}, (∀ x ∈ ws, (layL x).isSome) → ∃ b, buildL ws = some b
  | [], _ => ⟨_, rfl⟩
  | x :: ws, h => by
    obtain ⟨r, hr⟩ := build_some (ws := ws) (fun y hy => h y (by simp [hy]))
    obtain ⟨l, hl⟩ := Option.isSome_iff_exists.1 (h x (by simp))
    exact ⟨l ++ r, by rw [buildL_cons, hl]; simp only; rw [hr]; rfl⟩
theorem parse_some {s : List UInt8} {ws : List Wd} (h : (partsL s).mapM wordL = some ws) : ∃ b, buildL ws = some b ∧ parseL s = some b := by
  obtain ⟨h1, h2⟩ := mapM_texts h
  obtain ⟨b, hb⟩ := build_some h2
  exact ⟨b, hb, by unfold parseL; rw [h]; exact hb⟩
/-- A text that is read, printed: its words with single blanks. -/
theorem print_parse {s b : List UInt8} (h : parseL s = some b) : printL b = some (Lib.join (partsL s) [32]) := by
  unfold parseL at h
  cases hm : (partsL s).mapM wordL with
  | none => rw [hm] at h; cases h
  | some ws =>
    rw [hm] at h
    simp only at h
    unfold printL
    rw [all_build h, Option.map_some, (mapM_texts hm).1]

end Go.Proofs.YtggadilgkcjbjaaGreatDoor
