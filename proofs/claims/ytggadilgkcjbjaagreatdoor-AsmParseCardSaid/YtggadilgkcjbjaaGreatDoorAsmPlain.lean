/-
  PLAIN LEAN: the text of a script's words, and the words of a text.
-/
import Derived.Test.YtggadilgkcjbjaaGreatDoorAsmOp
import Derived.Test.YtggadilgkcjbjaaGreatDoorHexPlain
import Derived.Lib.ItoaMem
set_option linter.unusedVariables false
namespace Go.Proofs.YtggadilgkcjbjaaGreatDoor

/-- The figures of a number below 1000. -/
def dec3 (n : Nat) : List UInt8 :=
  if n < 10 then [UInt8.ofNat (48 + n)]
  else if n < 100 then [UInt8.ofNat (48 + n / 10), UInt8.ofNat (48 + n % 10)]
  else [UInt8.ofNat (48 + n / 100), UInt8.ofNat (48 + n / 10 % 10), UInt8.ofNat (48 + n % 10)]
theorem dec3_eq {n : Nat} (h : n < 1000) : Lib.decDigits n = dec3 n := by
  unfold dec3
  by_cases h1 : n < 10
  · rw [if_pos h1, Lib.decDigits_one h1]
  · rw [if_neg h1]
    by_cases h2 : n < 100
    · rw [if_pos h2, Lib.decDigits_two h1 h2]
    · rw [if_neg h2, Lib.decDigits, dif_neg h1, Lib.decDigits_two (by omega) (by omega)]
      simp only [List.cons_append, List.nil_append]
      congr 3
      omega

/-- The number that figures say, at most so many. -/
def numL (most : Nat) (s : List UInt8) : Option Nat := (List.range (most + 1)).find? fun n => decide (dec3 n = s)
/-- An operation's name. -/
def nameL (m : Nat) : List UInt8 := (nameB m).data.toList

/-- The text of a word that pushes. -/
def pushTextL (x : Wd) : List UInt8 :=
  if x.1.toNat = 0 ∧ x.2 = [] then [48]
  else if x.1.toNat = 79 then [45, 49]
  else if 80 < x.1.toNat then dec3 (x.1.toNat - 80)
  else if shortL x then 60 :: (hexEnc x.2 ++ [62])
  else dec3 x.1.toNat ++ 60 :: (hexEnc x.2 ++ [62])
/-- A word's text. -/
def textL (x : Wd) : List UInt8 :=
  if (pushesL x).isSome then pushTextL x
  else if nameL x.1.toNat ≠ [] then nameL x.1.toNat
  else 111 :: 112 :: dec3 x.1.toNat

/-- The word of a text that tells what is pushed. -/
def pushedL (s : List UInt8) : Option Wd :=
  let op := s.takeWhile (· != 60)
  let r := (s.dropWhile (· != 60)).drop 1
  if r.getLast? = some 62 then
    match hexDec r.dropLast with
    | none => none
    | some b => if op = [] then some (pushL b) else (numL 77 op).map fun n => (UInt8.ofNat n, b)
  else none
/-- The word of a text. -/
def wordL (s : List UInt8) : Option Wd :=
  if 60 ∈ s then
    match pushedL s with
    | none => none
    | some w => if (layL w).isSome ∧ textL w = s then some w else none
  else if s = [45, 49] then some (79, [])
  else match numL 16 s with
    | some n => some (if 0 < n then UInt8.ofNat (80 + n) else 0, [])
    | none => match opB ⟨s.toArray⟩ with
      | some o => some (UInt8.ofNat o, [])
      | none =>
        if s.take 2 = [111, 112] then
          match numL 255 (s.drop 2) with
          | none => none
          | some n => if textL (UInt8.ofNat n, []) = s then some (UInt8.ofNat n, []) else none
        else none

/-! ### Figures -/
theorem dec3_num : ∀ n : Fin 256, Lib.decNat (dec3 n.1) = some n.1 := by decide +kernel
theorem dec3_inj {a b : Nat} (ha : a < 256) (hb : b < 256) (h : dec3 a = dec3 b) : a = b := by
  have h1 := dec3_num ⟨a, ha⟩
  have h2 := dec3_num ⟨b, hb⟩
  simp only at h1 h2
  rw [h, h2] at h1
  exact (Option.some.inj h1).symm
theorem dec3_digs : ∀ n : Fin 256, dec3 n.1 ≠ [] ∧ (dec3 n.1).all (fun c => decide (48 ≤ c.toNat ∧ c.toNat ≤ 57)) = true := by decide +kernel
theorem dec3_mem {n : Nat} (h : n < 256) {c : UInt8} (hc : c ∈ dec3 n) : 48 ≤ c.toNat ∧ c.toNat ≤ 57 := by
  have := List.all_eq_true.1 (dec3_digs ⟨n, h⟩).2 c hc
  simpa using this
theorem dec3_ne {n : Nat} (h : n < 256) : dec3 n ≠ [] := (dec3_digs ⟨n, h⟩).1
theorem dec3_length (n : Nat) : (dec3 n).length ≤ 3 := by
  unfold dec3
  split
  · simp
  · split <;> simp
theorem numL_some {most n : Nat} {s : List UInt8} (h : numL most s = some n) : n ≤ most ∧ dec3 n = s := by
  unfold numL at h
  have h1 := List.find?_some h
  have h2 := List.mem_of_find?_eq_some h
  simp only [List.mem_range] at h2
  exact ⟨by omega, by simpa using h1⟩
theorem numL_dec {most n : Nat} (h : n ≤ most) (hm : most < 256) : numL most (dec3 n) = some n := by
  cases hx : numL most (dec3 n) with
  | none =>
    unfold numL at hx
    rw [List.find?_eq_none] at hx
    have := hx n (by simp; omega)
    simp at this
  | some m =>
    obtain ⟨h1, h2⟩ := numL_some hx
    rw [dec3_inj (by omega) (by omega) h2]
theorem numL_none {most : Nat} {s : List UInt8} (h : ∀ n, n ≤ most → dec3 n ≠ s) : numL most s = none := by
  unfold numL
  rw [List.find?_eq_none]
  intro n hn
  simp only [List.mem_range] at hn
  simpa using h n (by omega)

theorem hexDig_low {n : Nat} (h : n < 16) : 48 ≤ (hexDig n).toNat := by rw [hexDig_toNat n h]; split <;> omega
theorem hexEnc_no (l : List UInt8) {c : UInt8} (hc : c.toNat < 48) : c ∉ hexEnc l := by
  induction l with
  | nil => simp [hexEnc]
  | cons b l ih =>
    have hb := UInt8.toNat_lt b
    simp only [hexEnc, List.mem_cons, not_or]
    refine ⟨?_, ?_, ih⟩
    · intro e
      have := hexDig_low (n := b.toNat / 16) (by omega)
      rw [← e] at this
      omega
    · intro e
      have := hexDig_low (n := b.toNat % 16) (by omega)
      rw [← e] at this
      omega

/-! ### Cutting -/
theorem take_stop {a r : List UInt8} (h : (60 : UInt8) ∉ a) : (a ++ 60 :: r).takeWhile (· != 60) = a := by
  induction a with
  | nil => simp
  | cons c a ih =>
    simp only [List.mem_cons, not_or] at h
    rw [List.cons_append, List.takeWhile_cons, if_pos (by simpa using fun e => h.1 e.symm), ih h.2]
theorem drop_stop {a r : List UInt8} (h : (60 : UInt8) ∉ a) : (a ++ 60 :: r).dropWhile (· != 60) = 60 :: r := by
  induction a with
  | nil => simp
  | cons c a ih =>
    simp only [List.mem_cons, not_or] at h
    rw [List.cons_append, List.dropWhile_cons, if_pos (by simpa using fun e => h.1 e.symm), ih h.2]
theorem pushedL_of {a b : List UInt8} (h : (60 : UInt8) ∉ a) : pushedL (a ++ 60 :: (hexEnc b ++ [62])) = if a = [] then some (pushL b) else (numL 77 a).map fun n => (UInt8.ofNat n, b) := by
  unfold pushedL
  simp only [take_stop h, drop_stop h, List.drop_succ_cons, List.drop_zero, List.getLast?_append, List.getLast?_singleton, List.dropLast_concat, hexDec_enc]
  simp

/-! ### A word's text leads to the word -/
set_option maxRecDepth 100000 in
theorem small_back : ∀ o : Fin 256, (layL (UInt8.ofNat o.1, [])).isSome → wordL (textL (UInt8.ofNat o.1, [])) = some (UInt8.ofNat o.1, []) := by decide +kernel
set_option maxRecDepth 100000 in
theorem small_plain : ∀ o : Fin 256, (layL (UInt8.ofNat o.1, [])).isSome → textL (UInt8.ofNat o.1, []) ≠ [] ∧ (32 : UInt8) ∉ textL (UInt8.ofNat o.1, []) := by decide +kernel
set_option maxRecDepth 100000 in
theorem small_lay : ∀ o : Fin 256, (60 : UInt8) ∉ textL (UInt8.ofNat o.1, []) → (layL (UInt8.ofNat o.1, [])).isSome := by decide +kernel
set_option maxRecDepth 100000 in
theorem small_name : ∀ o : Fin 256, nameL o.1 ≠ [] → textL (UInt8.ofNat o.1, []) = nameL o.1 ∧ (layL (UInt8.ofNat o.1, [])).isSome := by decide +kernel
theorem small_num : ∀ n : Fin 17, textL (if 0 < n.1 then UInt8.ofNat (80 + n.1) else 0, []) = dec3 n.1 ∧ (layL (if 0 < n.1 then UInt8.ofNat (80 + n.1) else 0, [])).isSome := by decide +kernel

theorem ofNat_self (o : UInt8) : UInt8.ofNat o.toNat = o := by simp
theorem layL_small {x : Wd} (h : (layL x).isSome) (h2 : ¬ (1 ≤ x.1.toNat ∧ x.1.toNat ≤ 77)) : x = (UInt8.ofNat x.1.toNat, []) := by
  unfold layL at h
  rw [if_neg (by omega), if_neg (by omega), if_neg (by omega)] at h
  obtain ⟨o, b⟩ := x
  simp only at h ⊢
  split at h
  · rename_i h3
    rw [List.eq_nil_of_length_eq_zero h3, ofNat_self]
  · cases h
theorem textL_push {x : Wd} (h1 : 1 ≤ x.1.toNat) (h2 : x.1.toNat ≤ 77) : textL x = (if shortL x then [] else dec3 x.1.toNat) ++ 60 :: (hexEnc x.2 ++ [62]) := by
  have hp : (pushesL x).isSome = true := by unfold pushesL; rw [if_pos h2]; rfl
  unfold textL
  rw [if_pos hp]
  unfold pushTextL
  rw [if_neg (by omega), if_neg (by omega), if_neg (by omega)]
  split <;> rfl
theorem word_text {x : Wd} (h : (layL x).isSome) : wordL (textL x) = some x := by
  by_cases hb : 1 ≤ x.1.toNat ∧ x.1.toNat ≤ 77
  · obtain ⟨a, ha, hn, hr⟩ : ∃ a, textL x = a ++ 60 :: (hexEnc x.2 ++ [62]) ∧ (60 : UInt8) ∉ a ∧ (if a = [] then some (pushL x.2) else (numL 77 a).map fun n => (UInt8.ofNat n, x.2)) = some x := by
      refine ⟨_, textL_push hb.1 hb.2, ?_, ?_⟩
      · split
        · simp
        · intro hc
          have := dec3_mem (by omega) hc
          simp at this
      · split
        · rename_i hs
          rw [if_pos rfl]
          unfold shortL pushesL at hs
          rw [if_pos hb.2] at hs
          simpa using hs
        · rw [if_neg (dec3_ne (by omega)), numL_dec hb.2 (by omega)]
          simp
    unfold wordL
    rw [if_pos (by rw [ha]; simp)]
    have hp : pushedL (textL x) = some x := by rw [ha, pushedL_of hn, hr]
    rw [hp]
    simp only
    rw [if_pos ⟨h, trivial⟩]
  · have hx := layL_small h hb
    rw [hx] at h ⊢
    exact small_back ⟨x.1.toNat, UInt8.toNat_lt _⟩ h
theorem text_plain {x : Wd} (h : (layL x).isSome) : textL x ≠ [] ∧ (32 : UInt8) ∉ textL x := by
  by_cases hb : 1 ≤ x.1.toNat ∧ x.1.toNat ≤ 77
  · rw [textL_push hb.1 hb.2]
    refine ⟨by simp, ?_⟩
    simp only [List.mem_append, List.mem_cons, not_or]
    refine ⟨?_, by decide, ?_, by decide, List.not_mem_nil⟩
    · split
      · simp
      · intro hc
        have := dec3_mem (by omega) hc
        simp at this
    · exact hexEnc_no x.2 (by decide)
  · have hx := layL_small h hb
    rw [hx] at h ⊢
    exact small_plain ⟨x.1.toNat, UInt8.toNat_lt _⟩ h

/-! ### A text that is read -/
theorem wordL_text {s : List UInt8} {x : Wd} (h : wordL s = some x) : textL x = s ∧ (layL x).isSome := by
  unfold wordL at h
  split at h
  · cases hp : pushedL s with
    | none => rw [hp] at h; cases h
    | some w =>
      rw [hp] at h
      simp only at h
      split at h
      · rename_i h2
        cases h
        exact ⟨h2.2, h2.1⟩
      · cases h
  · rename_i hlt
    split at h
    · rename_i h2
      cases h
      rw [h2]
      decide +kernel
    · cases hn : numL 16 s with
      | some n =>
        rw [hn] at h
        simp only [Option.some.injEq] at h
        obtain ⟨h1, h2⟩ := numL_some hn
        have := small_num ⟨n, by omega⟩
        simp only at this
        rw [← h, ← h2]
        exact this
      | none =>
        rw [hn] at h
        simp only at h
        cases ho : opB ⟨s.toArray⟩ with
        | some o =>
          rw [ho] at h
          simp only [Option.some.injEq] at h
          unfold opB at ho
          have h1 := List.find?_some ho
          have h2 := List.mem_of_find?_eq_some ho
          simp only [List.mem_range] at h2
          unfold isOp at h1
          simp only [Bool.and_eq_true, decide_eq_true_eq] at h1
          have hs : nameL o = s := by unfold nameL; rw [h1.2]
          have hne : nameL o ≠ [] := by
            intro e
            have := h1.1
            unfold nameL at e
            rw [toList_data, e] at this
            simp at this
          have := small_name ⟨o, h2⟩ hne
          simp only at this
          rw [← h, ← hs]
          exact this
        | none =>
          rw [ho] at h
          simp only at h
          split at h
          · cases hm : numL 255 (s.drop 2) with
            | none => rw [hm] at h; cases h
            | some n =>
              rw [hm] at h
              simp only at h
              split at h
              · rename_i h3
                cases h
                refine ⟨h3, ?_⟩
                have := small_lay ⟨n, by have := (numL_some hm).1; omega⟩
                simp only at this
                apply this
                rw [h3]
                exact hlt
              · cases h
          · cases h

end Go.Proofs.YtggadilgkcjbjaaGreatDoor
