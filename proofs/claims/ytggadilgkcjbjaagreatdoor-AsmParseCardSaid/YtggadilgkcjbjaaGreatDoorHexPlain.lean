/-
  PLAIN LEAN: bytes as hexadecimal digits: what is written ('hexEnc'), what is read ('hexDec'), and that the one undoes the other.
-/
namespace Go.Proofs.YtggadilgkcjbjaaGreatDoor

/-- The digit of a number below 16. -/
def hexDig (n : Nat) : UInt8 := if n < 10 then UInt8.ofNat (48 + n) else UInt8.ofNat (87 + n)

/-- The digits of bytes. -/
def hexEnc : List UInt8 → List UInt8
  | [] => []
  | c :: r => hexDig (c.toNat / 16) :: hexDig (c.toNat % 16) :: hexEnc r

/-- The number of a digit. -/
def hexVal (c : UInt8) : Option Nat :=
  if 48 ≤ c.toNat ∧ c.toNat ≤ 57 then some (c.toNat - 48) else if 97 ≤ c.toNat ∧ c.toNat ≤ 102 then some (c.toNat - 87) else none

/-- The bytes of digits. -/
def hexDec : List UInt8 → Option (List UInt8)
  | [] => some []
  | [_] => none
  | a :: b :: r =>
    match hexVal a, hexVal b, hexDec r with
    | some x, some y, some l => some (UInt8.ofNat (x * 16 + y) :: l)
    | _, _, _ => none

theorem hexEnc_length (l : List UInt8) : (hexEnc l).length = 2 * l.length := by
  induction l with
  | nil => rfl
  | cons c r ih => simp [hexEnc, ih]; omega

theorem hexEnc_append (a b : List UInt8) : hexEnc (a ++ b) = hexEnc a ++ hexEnc b := by
  induction a with
  | nil => rfl
  | cons c r ih => simp [hexEnc, ih]

theorem hexEnc_snoc (a : List UInt8) (c : UInt8) : hexEnc (a ++ [c]) = hexEnc a ++ [hexDig (c.toNat / 16), hexDig (c.toNat % 16)] := by
  rw [hexEnc_append]; rfl

theorem hexDig_toNat (n : Nat) (h : n < 16) : (hexDig n).toNat = if n < 10 then 48 + n else 87 + n := by
  unfold hexDig
  split
  · rw [UInt8.toNat_ofNat']; omega
  · rw [UInt8.toNat_ofNat']; omega

theorem hexVal_dig (n : Nat) (h : n < 16) : hexVal (hexDig n) = some n := by
  unfold hexVal
  rw [hexDig_toNat n h]
  by_cases h10 : n < 10
  · rw [if_pos h10, if_pos (by omega)]; simp
  · rw [if_neg h10, if_neg (by omega), if_pos (by omega)]; simp

theorem hexVal_lt (c : UInt8) (n : Nat) (h : hexVal c = some n) : n < 16 := by
  unfold hexVal at h
  split at h
  · injection h with h; omega
  · split at h
    · injection h with h; omega
    · cases h

theorem hexDig_val (c : UInt8) (n : Nat) (h : hexVal c = some n) : hexDig n = c := by
  have hl := hexVal_lt c n h
  apply UInt8.toNat_inj.1
  rw [hexDig_toNat n hl]
  unfold hexVal at h
  split at h
  · injection h with h
    rw [if_pos (by omega)]; omega
  · split at h
    · injection h with h
      rw [if_neg (by omega)]; omega
    · cases h

theorem hexDec_enc (l : List UInt8) : hexDec (hexEnc l) = some l := by
  induction l with
  | nil => rfl
  | cons c r ih =>
    have h1 := c.toNat_lt
    simp only [hexEnc, hexDec, hexVal_dig _ (show c.toNat / 16 < 16 by omega), hexVal_dig _ (show c.toNat % 16 < 16 by omega), ih]
    congr 2
    apply UInt8.toNat_inj.1
    rw [UInt8.toNat_ofNat']; omega

theorem hexDec_some_enc : ∀ (n : Nat) (s l : List UInt8), s.length ≤ n → hexDec s = some l → hexEnc l = s
  | _, [], l, _, h => by simp [hexDec] at h; subst h; rfl
  | _, [_], l, _, h => by simp [hexDec] at h
  | 0, _ :: _ :: _, l, hn, _ => by simp at hn
  | n + 1, a :: b :: r, l, hn, h => by
    unfold hexDec at h
    cases ha : hexVal a with
    | none => simp [ha] at h
    | some x =>
      cases hb : hexVal b with
      | none => simp [ha, hb] at h
      | some y =>
        cases hr : hexDec r with
        | none => simp [ha, hb, hr] at h
        | some t =>
          simp only [ha, hb, hr, Option.some.injEq] at h
          subst h
          have hx := hexVal_lt a x ha
          have hy := hexVal_lt b y hb
          have hc : (UInt8.ofNat (x * 16 + y)).toNat = x * 16 + y := by rw [UInt8.toNat_ofNat']; omega
          have ih := hexDec_some_enc n r t (by simp at hn; omega) hr
          simp only [hexEnc, hc, ih]
          rw [show (x * 16 + y) / 16 = x by omega, show (x * 16 + y) % 16 = y by omega, hexDig_val a x ha, hexDig_val b y hb]

theorem hexEnc_dec {s l : List UInt8} (h : hexDec s = some l) : hexEnc l = s := hexDec_some_enc s.length s l (Nat.le_refl _) h

theorem hexDec_length {s l : List UInt8} (h : hexDec s = some l) : s.length = 2 * l.length := by
  rw [← hexEnc_dec h, hexEnc_length]

theorem hexDec_odd {s : List UInt8} (h : s.length % 2 = 1) : hexDec s = none := by
  cases hd : hexDec s with
  | none => rfl
  | some l => have := hexDec_length hd; omega

/-- No digit that is written is a great letter. -/
theorem hexDec_small {s l : List UInt8} (h : hexDec s = some l) : ∀ c ∈ s, ¬ (65 ≤ c.toNat ∧ c.toNat ≤ 70) := by
  have key : ∀ (m : List UInt8), ∀ c ∈ hexEnc m, ¬ (65 ≤ c.toNat ∧ c.toNat ≤ 70) := by
    intro m
    induction m with
    | nil => intro c hc; simp [hexEnc] at hc
    | cons x r ih =>
      have hx := x.toNat_lt
      intro c hc
      simp only [hexEnc, List.mem_cons] at hc
      rcases hc with rfl | rfl | hc
      · rw [hexDig_toNat _ (by omega)]; split <;> omega
      · rw [hexDig_toNat _ (by omega)]; split <;> omega
      · exact ih c hc
  rw [← hexEnc_dec h]
  exact key l

end Go.Proofs.YtggadilgkcjbjaaGreatDoor
