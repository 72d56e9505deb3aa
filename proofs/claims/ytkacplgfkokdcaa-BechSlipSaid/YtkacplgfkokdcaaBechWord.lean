/-
  PLAIN LEAN: words of bech: what is written of a head and data; what is read of a text, by the check and by writing anew: the same.
-/
import Derived.Test.YtkacplgfkokdcaaBechSpec
set_option linter.unusedVariables false
namespace Go.Proofs.Ytkacplgfkokdcaa

def isLow (c : UInt8) : Bool := decide (97 ≤ c.toNat) && decide (c.toNat ≤ 122)
def headOk (h : List UInt8) : Bool := h.all isLow && (decide (1 ≤ h.length) && decide (h.length ≤ 20))
def smallB (v : UInt8) : Bool := decide (v.toNat ≤ 31)
def dataOk (d : List UInt8) : Bool := d.all smallB && decide (d.length ≤ 80)
def headL (h : List UInt8) : List UInt8 := h.map (fun c => UInt8.ofNat (c.toNat / 32)) ++ [0] ++ h.map (fun c => UInt8.ofNat (c.toNat % 32))
def nought6 : List UInt8 := [0, 0, 0, 0, 0, 0]
/-- What the check lacks of its aim. -/
def lackOf (h d : List UInt8) : Nat := bMore 1 (headL h ++ d ++ nought6) ^^^ 734539939
def digits6 (x : Nat) : List Nat := [x / 33554432 % 32, x / 1048576 % 32, x / 32768 % 32, x / 1024 % 32, x / 32 % 32, x % 32]
def six (x : Nat) : List UInt8 := (digits6 x).map letter
def lettersOf (d : List UInt8) : List UInt8 := d.map fun v => letter v.toNat
def encW (h d : List UInt8) : List UInt8 := h ++ [49] ++ lettersOf d ++ six (lackOf h d)
def encL (h d : List UInt8) : Option (List UInt8) := if headOk h && dataOk d then some (encW h d) else none

/-- The numbers of letters. -/
def numsOf : List UInt8 → Option (List UInt8)
  | [] => some []
  | c :: r => match placeL c, numsOf r with
    | some n, some l => some (UInt8.ofNat n :: l)
    | _, _ => none

theorem numsOf_append : ∀ (p q : List UInt8), numsOf (p ++ q) = (numsOf p).bind fun x => (numsOf q).map (x ++ ·)
  | [], q => by cases h : numsOf q <;> simp [numsOf, h]
  | c :: r, q => by
    simp only [List.cons_append, numsOf, numsOf_append r q]
    cases placeL c <;> cases numsOf r <;> cases numsOf q <;> simp

theorem numsOf_some : ∀ {r l : List UInt8}, numsOf r = some l → Small5 l ∧ l.length = r.length ∧ lettersOf l = r
  | [], l, h => by
    simp only [numsOf, Option.some.injEq] at h
    subst h
    exact ⟨fun v hv => absurd hv (by simp), rfl, rfl⟩
  | c :: r, l, h => by
    simp only [numsOf] at h
    cases hc : placeL c with
    | none => rw [hc] at h; simp at h
    | some n =>
      cases hr : numsOf r with
      | none => rw [hc, hr] at h; simp at h
      | some m =>
        rw [hc, hr] at h
        simp only [Option.some.injEq] at h
        subst h
        obtain ⟨h1, h2, h3⟩ := numsOf_some hr
        obtain ⟨hn, hl⟩ := place_some hc
        have ht : (UInt8.ofNat n).toNat = n := by rw [UInt8.toNat_ofNat']; omega
        refine ⟨fun v hv => ?_, by simp [h2], ?_⟩
        · rcases List.mem_cons.1 hv with rfl | hv
          · rw [ht]; exact hn
          · exact h1 v hv
        · show letter (UInt8.ofNat n).toNat :: lettersOf m = c :: r
          rw [ht, hl, h3]

theorem numsOf_letters : ∀ {d : List UInt8}, Small5 d → numsOf (lettersOf d) = some d
  | [], _ => rfl
  | v :: d, h => by
    have h1 := place_letter v.toNat (h v (by simp))
    have h2 := numsOf_letters (d := d) fun u hu => h u (by simp [hu])
    show (match placeL (letter v.toNat), numsOf (lettersOf d) with | some n, some l => some (UInt8.ofNat n :: l) | _, _ => none) = _
    rw [h1, h2]
    simp

theorem lettersOf_append (a b : List UInt8) : lettersOf (a ++ b) = lettersOf a ++ lettersOf b := by simp [lettersOf]

/-- Six numbers below 32 are the digits of what they are as one. -/
theorem digits_packed {l : List UInt8} (hl : l.length = 6) (hs : Small5 l) : digits6 (packed5 l) = l.map (·.toNat) := by
  match l, hl with
  | [a, b, c, d, e, f], _ =>
    have h1 := hs a (by simp)
    have h2 := hs b (by simp)
    have h3 := hs c (by simp)
    have h4 := hs d (by simp)
    have h5 := hs e (by simp)
    have h6 := hs f (by simp)
    simp only [packed5, digits6, List.foldl_cons, List.foldl_nil, List.map_cons, List.map_nil, List.cons.injEq, and_true]
    refine ⟨?_, ?_, ?_, ?_, ?_, ?_⟩ <;> omega

theorem packed_digits {x : Nat} (hx : x < 1073741824) : packed5 ((digits6 x).map UInt8.ofNat) = x := by
  have t : ∀ n, n < 32 → (UInt8.ofNat n).toNat = n := fun n h => by rw [UInt8.toNat_ofNat']; omega
  simp only [packed5, digits6, List.map_cons, List.map_nil, List.foldl_cons, List.foldl_nil]
  rw [t _ (by omega), t _ (by omega), t _ (by omega), t _ (by omega), t _ (by omega), t _ (by omega)]
  omega

theorem digits_small (x : Nat) : Small5 ((digits6 x).map UInt8.ofNat) := by
  intro v hv
  simp only [digits6, List.map_cons, List.map_nil, List.mem_cons, List.not_mem_nil, or_false] at hv
  rcases hv with rfl | rfl | rfl | rfl | rfl | rfl <;> (rw [UInt8.toNat_ofNat']; omega)

theorem six_letters (x : Nat) : six x = lettersOf ((digits6 x).map UInt8.ofNat) := by
  have t : ∀ n, n < 32 → letter n = letter (UInt8.ofNat n).toNat := fun n h => by rw [UInt8.toNat_ofNat', Nat.mod_eq_of_lt (by omega)]
  simp only [six, lettersOf, digits6, List.map_cons, List.map_nil]
  rw [t _ (by omega : x / 33554432 % 32 < 32), t _ (by omega : x / 1048576 % 32 < 32), t _ (by omega : x / 32768 % 32 < 32), t _ (by omega : x / 1024 % 32 < 32), t _ (by omega : x / 32 % 32 < 32), t _ (by omega : x % 32 < 32)]

theorem six_packed {l : List UInt8} (hl : l.length = 6) (hs : Small5 l) : six (packed5 l) = lettersOf l := by
  unfold six
  rw [digits_packed hl hs]
  simp [lettersOf]

theorem lackOf_lt (h d : List UInt8) : lackOf h d < 1073741824 := xor_lt30 (bMore_lt _ _ (by omega)) (by omega)

theorem xor_cancel {a b c : Nat} (h : a ^^^ b = c) : a = b ^^^ c := by
  rw [← h, Nat.xor_comm a b, ← Nat.xor_assoc, Nat.xor_self, Nat.zero_xor]

/-- The check of a head, data and six numbers more is the aim just if the six are what is lacking. -/
theorem check_aim {h d c : List UInt8} (hl : c.length = 6) (hs : Small5 c) : bMore 1 (headL h ++ (d ++ c)) = 734539939 ↔ packed5 c = lackOf h d := by
  have e : bMore 1 (headL h ++ (d ++ c)) = packed5 c ^^^ bMore 1 (headL h ++ d ++ nought6) := by
    rw [← List.append_assoc, bMore_append, bMore_tail _ c (by omega) hs, hl, bMore_append 1 (headL h ++ d) nought6]
    rfl
  rw [e]
  unfold lackOf
  constructor
  · intro hh
    exact xor_cancel hh
  · intro hh
    rw [hh, Nat.xor_comm (bMore 1 _) 734539939, Nat.xor_assoc, Nat.xor_self, Nat.xor_zero]

theorem small_all {d : List UInt8} : d.all smallB = true ↔ Small5 d := by
  rw [List.all_eq_true]
  constructor
  · intro h v hv
    have := h v hv
    simp [smallB] at this
    omega
  · intro h v hv
    have := h v hv
    simp [smallB]
    omega

/-- Behind the 1: by the check. -/
def tailP (h r : List UInt8) : Option (List UInt8) :=
  match numsOf r with
  | none => none
  | some x => if bMore 1 (headL h ++ x) = 734539939 ∧ x.length ≤ 86 then some (x.take (x.length - 6)) else none
/-- Behind the 1: by writing anew. -/
def tailR (h r : List UInt8) : Option (List UInt8) :=
  match numsOf (r.take (r.length - 6)) with
  | none => none
  | some d => if encL h d = some (h ++ [49] ++ r) then some d else none

theorem tail_same {h r : List UInt8} (hh : headOk h = true) (hr : 6 ≤ r.length) : tailP h r = tailR h r := by
  obtain ⟨r0, r6, rfl, h6⟩ : ∃ r0 r6, r = r0 ++ r6 ∧ r6.length = 6 := ⟨r.take (r.length - 6), r.drop (r.length - 6), (List.take_append_drop _ _).symm, by simp; omega⟩
  unfold tailP tailR
  have ht : (r0 ++ r6).take ((r0 ++ r6).length - 6) = r0 := by
    rw [List.length_append, h6, Nat.add_sub_cancel, List.take_left']
    rfl
  rw [ht, numsOf_append]
  cases hd : numsOf r0 with
  | none => simp
  | some d =>
    obtain ⟨hsd, hld, hle⟩ := numsOf_some hd
    cases hc : numsOf r6 with
    | none =>
      simp only [Option.bind_some, Option.map_none]
      rw [if_neg]
      intro he
      unfold encL at he
      split at he
      · simp only [Option.some.injEq, encW] at he
        rw [hle, List.append_assoc, List.append_assoc, List.append_assoc] at he
        have he2 := List.append_cancel_left (List.append_cancel_left (List.append_cancel_left he))
        rw [six_letters] at he2
        have := numsOf_letters (digits_small (lackOf h d))
        rw [he2, hc] at this
        cases this
      · cases he
    | some c =>
      obtain ⟨hsc, hlc, hce⟩ := numsOf_some hc
      have hl6 : c.length = 6 := by omega
      simp only [Option.bind_some, Option.map_some]
      have htk : (d ++ c).take ((d ++ c).length - 6) = d := by
        rw [List.length_append, hl6, Nat.add_sub_cancel, List.take_left']
        rfl
      rw [htk]
      have hiff : (bMore 1 (headL h ++ (d ++ c)) = 734539939 ∧ (d ++ c).length ≤ 86) ↔ encL h d = some (h ++ [49] ++ (r0 ++ r6)) := by
        rw [check_aim hl6 hsc]
        constructor
        · rintro ⟨h1, h2⟩
          have hd80 : d.length ≤ 80 := by rw [List.length_append, hl6] at h2; omega
          have hok : dataOk d = true := by
            unfold dataOk
            rw [small_all.2 hsd]
            simpa using hd80
          unfold encL
          rw [hh, hok]
          simp only [Bool.and_self, if_true, Option.some.injEq, encW]
          rw [← h1, six_packed hl6 hsc, hle, hce]
          simp
        · intro he
          unfold encL at he
          split at he
          · rename_i hb
            simp only [Option.some.injEq, encW] at he
            rw [hle, List.append_assoc, List.append_assoc, List.append_assoc] at he
            have he2 := List.append_cancel_left (List.append_cancel_left (List.append_cancel_left he))
            have h80 : d.length ≤ 80 := by
              simp [dataOk] at hb
              omega
            refine ⟨?_, by rw [List.length_append, hl6]; omega⟩
            rw [six_letters] at he2
            have h3 := numsOf_letters (digits_small (lackOf h d))
            rw [he2, hc] at h3
            simp only [Option.some.injEq] at h3
            rw [h3, packed_digits (lackOf_lt h d)]
          · cases he
      by_cases hP : bMore 1 (headL h ++ (d ++ c)) = 734539939 ∧ (d ++ c).length ≤ 86
      · rw [if_pos hP, if_pos (hiff.1 hP)]
      · rw [if_neg hP, if_neg (fun hx => hP (hiff.2 hx))]

/-- A head that may not be is not written anew. -/
theorem tailR_bad {h r : List UInt8} (hh : headOk h = false) : tailR h r = none := by
  unfold tailR
  cases numsOf (r.take (r.length - 6)) with
  | none => rfl
  | some d => simp [encL, hh]

/-- What is written is read. -/
theorem tailR_enc {h d r : List UInt8} (he : encL h d = some (h ++ [49] ++ r)) : tailR h r = some d ∧ 6 ≤ r.length := by
  have he0 := he
  unfold encL at he
  split at he
  · rename_i hb
    have hs : Small5 d := by
      simp [dataOk] at hb
      exact small_all.1 (by rw [List.all_eq_true]; exact hb.2.1)
    simp only [Option.some.injEq, encW] at he
    rw [List.append_assoc, List.append_assoc, List.append_assoc] at he
    have he2 := List.append_cancel_left (List.append_cancel_left he)
    subst he2
    have h6 : (six (lackOf h d)).length = 6 := rfl
    refine ⟨?_, by rw [List.length_append]; omega⟩
    unfold tailR
    have ht : (lettersOf d ++ six (lackOf h d)).take ((lettersOf d ++ six (lackOf h d)).length - 6) = lettersOf d := by
      rw [List.length_append, h6, Nat.add_sub_cancel, List.take_left']
      rfl
    rw [ht, numsOf_letters hs]
    simp only [he0, if_true]
  · cases he

end Go.Proofs.Ytkacplgfkokdcaa
