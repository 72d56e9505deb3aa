/-
  PLAIN LEAN: an amount that is written is read as it was, also without noughts at its end.
-/
import Derived.Test.YtpnghjfcfeaemaaDoorMonPlain
set_option linter.unusedVariables false
namespace Go.Proofs.YtpnghjfcfeaemaaDoor
open Go.Lib

/-- The number that figures say. -/
def num10 (l : List UInt8) : Nat := l.foldl (fun n c => 10 * n + (c.toNat - 48)) 0
theorem num10_snoc (l : List UInt8) (c : UInt8) : num10 (l ++ [c]) = 10 * num10 l + (c.toNat - 48) := by simp [num10]
theorem valL_snoc (l : List UInt8) (c : UInt8) : valL (l ++ [c]) = stepV (valL l) c := by simp [valL]

theorem list_snoc_ind {P : List UInt8 → Prop} (h0 : P []) (hs : ∀ l c, P l → P (l ++ [c])) (l : List UInt8) : P l := by
  have : ∀ n (l : List UInt8), l.length = n → P l := by
    intro n
    induction n with
    | zero => intro l hl; rw [List.length_eq_zero_iff.1 hl]; exact h0
    | succ n ih =>
      intro l hl
      have hne : l ≠ [] := by intro e; rw [e] at hl; cases hl
      rw [← List.dropLast_concat_getLast hne]
      exact hs _ _ (ih _ (by rw [List.length_dropLast, hl]; rfl))
  exact this _ l rfl

theorem valL_min (l : List UInt8) : valL l = min (num10 l) 2100000000000001 := by
  refine list_snoc_ind (P := fun l => valL l = min (num10 l) 2100000000000001) ?_ ?_ l
  · rfl
  · intro l c ih
    rw [valL_snoc, num10_snoc, ih]
    unfold stepV
    omega
theorem num10_append (a b : List UInt8) : num10 (a ++ b) = num10 a * 10 ^ b.length + num10 b := by
  refine list_snoc_ind (P := fun b => num10 (a ++ b) = num10 a * 10 ^ b.length + num10 b) ?_ ?_ b
  · simp [num10]
  · intro b c ih
    rw [← List.append_assoc, num10_snoc, num10_snoc, ih, List.length_append, List.length_singleton, Nat.pow_succ]
    have : num10 a * (10 ^ b.length * 10) = 10 * (num10 a * 10 ^ b.length) := by rw [Nat.mul_comm (10 ^ b.length) 10, Nat.mul_left_comm]
    omega
theorem num10_zeros (k : Nat) : num10 (List.replicate k 48) = 0 := by
  induction k with
  | zero => rfl
  | succ k ih => rw [List.replicate_succ', num10_snoc, ih]; rfl
theorem dg_toNat {d : Nat} (h : d < 10) : (UInt8.ofNat (48 + d)).toNat = 48 + d := by rw [UInt8.toNat_ofNat', Nat.mod_eq_of_lt (by omega)]
theorem num10_dec (u : Nat) : num10 (decDigits u) = u := by
  induction u using Nat.strongRecOn with
  | _ u ih =>
    rw [decDigits]
    by_cases h : u < 10
    · rw [dif_pos h]
      show 10 * 0 + ((UInt8.ofNat (48 + u)).toNat - 48) = u
      rw [dg_toNat h]
      omega
    · rw [dif_neg h, num10_snoc, ih (u / 10) (by omega), dg_toNat (by omega)]
      omega
theorem isDig_dg {d : Nat} (h : d < 10) : isDig (UInt8.ofNat (48 + d)) = true := by
  unfold isDig
  rw [dg_toNat h]
  simp
  omega
theorem dec_all (u : Nat) : (decDigits u).all isDig = true := by
  induction u using Nat.strongRecOn with
  | _ u ih =>
    rw [decDigits]
    by_cases h : u < 10
    · rw [dif_pos h, List.all_cons, isDig_dg h]
      rfl
    · rw [dif_neg h, List.all_append, ih (u / 10) (by omega), List.all_cons, isDig_dg (Nat.mod_lt u (by omega : 0 < 10))]
      rfl
theorem dec_ne (u : Nat) : decDigits u ≠ [] := by
  intro e
  have := decDigits_length u
  rw [e] at this
  have h2 := nDigits_pos u
  simp at this
  omega
theorem head_app {a b : List UInt8} (h : a ≠ []) : (a ++ b).head? = a.head? := by
  cases a with
  | nil => exact absurd rfl h
  | cons x y => rfl
theorem dec_head {u : Nat} (h : 1 ≤ u) : (decDigits u).head? ≠ some 48 := by
  induction u using Nat.strongRecOn with
  | _ u ih =>
    rw [decDigits]
    by_cases h10 : u < 10
    · rw [dif_pos h10]
      intro e
      have e2 : UInt8.ofNat (48 + u) = 48 := by simpa using e
      have := congrArg UInt8.toNat e2
      rw [dg_toNat h10] at this
      have h48 : (48 : UInt8).toNat = 48 := rfl
      omega
    · rw [dif_neg h10, head_app (dec_ne _)]
      exact ih (u / 10) (by omega) (by omega)
theorem dec_first (u : Nat) : ¬ (1 < (decDigits u).length ∧ (decDigits u).head? = some 48) := by
  rintro ⟨h1, h2⟩
  by_cases h : 1 ≤ u
  · exact dec_head h h2
  · have : u = 0 := by omega
    subst this
    rw [decDigits_one (by omega)] at h1
    simp at h1
theorem dec_fig (u : Nat) : figB (decDigits u) = true := by
  unfold figB
  rw [dec_all]
  simp [dec_ne u]
theorem all_ne {l : List UInt8} (h : l.all isDig = true) : ∀ v ∈ l, v ≠ 46 := fun v hv => dig_ne (List.all_eq_true.1 h v hv)

theorem form_dot {u : Nat} {q : List UInt8} (hq : figB q = true) (h8 : q.length ≤ 8) : formP (decDigits u ++ 46 :: q) = some (decDigits u, q) := by
  unfold formP
  rw [cutDot_at _ (all_ne (dec_all u))]
  simp only
  rw [if_neg (by rw [dec_fig]; simp only [Bool.true_eq_false, false_or]; exact dec_first u), if_neg (by rw [hq]; simp; omega)]
theorem form_int (u : Nat) : formP (decDigits u) = some (decDigits u, []) := by
  unfold formP
  rw [cutDot_not (all_ne (dec_all u))]
  simp only
  rw [if_neg (by rw [dec_fig]; simp only [Bool.true_eq_false, false_or]; exact dec_first u), if_neg (by simp)]

/-- The eight figures behind the point. -/
def pad8 (p : Nat) : List UInt8 := List.replicate (8 - (decDigits p).length) 48 ++ decDigits p
theorem printL_pad (v : Nat) : printL v = decDigits (v / 100000000) ++ 46 :: pad8 (v % 100000000) := by
  unfold printL pad8
  simp
theorem pad8_length {p : Nat} (h : p < 100000000) : (pad8 p).length = 8 := by
  have := dec_len8 h
  unfold pad8
  rw [List.length_append, List.length_replicate]
  omega
theorem pad8_all (p : Nat) : (pad8 p).all isDig = true := by
  unfold pad8
  rw [List.all_append, dec_all]
  simp
  exact .inr (by decide)
theorem pad8_num (p : Nat) : num10 (pad8 p) = p := by
  unfold pad8
  rw [num10_append, num10_zeros, num10_dec]
  omega

/-- What a number written says. -/
def backV (v : Nat) : Nat × Nat := if 2100000000000000 < v then (0, 31) else (v, 0)
theorem val_print {v : Nat} : valL (decDigits (v / 100000000) ++ pad8 (v % 100000000)) = min v 2100000000000001 := by
  rw [valL_min, num10_append, num10_dec, pad8_num, pad8_length (by omega)]
  congr 1
  omega
theorem parse_of {l w q : List UInt8} {v : Nat} (hf : formP l = some (w, q)) (hv : w ++ q ++ List.replicate (8 - q.length) 48 = decDigits (v / 100000000) ++ pad8 (v % 100000000)) : parseV l = backV v := by
  unfold parseV backV
  rw [hf]
  simp only
  rw [hv, val_print]
  by_cases h : 2100000000000000 < v
  · rw [if_pos (by omega), if_pos h]
  · rw [if_neg (by omega), if_neg h, Nat.min_eq_left (by omega)]
theorem parse_print (v : Nat) : parseV (printL v) = backV v := by
  have h8 := pad8_length (p := v % 100000000) (by omega)
  refine parse_of (w := decDigits (v / 100000000)) (q := pad8 (v % 100000000)) ?_ ?_
  · rw [printL_pad]
    refine form_dot ?_ (by omega)
    unfold figB
    rw [pad8_all]
    cases hp : pad8 (v % 100000000) with
    | nil => rw [hp] at h8; cases h8
    | cons x y => rfl
  · rw [h8]
    simp

theorem printL_length (v : Nat) : (printL v).length = (decDigits (v / 100000000)).length + 9 := by
  rw [printL_pad, List.length_append, List.length_cons, pad8_length (by omega)]

/-- Where the noughts at the end begin: behind the point. -/
theorem strip_at {v k : Nat} (hk : k ≤ (printL v).length) (hz : ∀ j, k ≤ j → j < (printL v).length → (printL v)[j]? = some 48) : (decDigits (v / 100000000)).length < k := by
  by_cases h : (decDigits (v / 100000000)).length < k
  · exact h
  · exfalso
    have := hz (decDigits (v / 100000000)).length (by omega) (by rw [printL_length]; omega)
    rw [printL_pad] at this
    simp at this
theorem strip_take {v k j : Nat} (hj : k = (decDigits (v / 100000000)).length + 1 + j) : (printL v).take k = decDigits (v / 100000000) ++ 46 :: (pad8 (v % 100000000)).take j := by
  rw [printL_pad, hj, List.take_append, List.take_of_length_le (by omega), show (decDigits (v / 100000000)).length + 1 + j - (decDigits (v / 100000000)).length = j + 1 by omega, List.take_succ_cons]
theorem strip_zeros {v k j : Nat} (hj : k = (decDigits (v / 100000000)).length + 1 + j) (hj8 : j ≤ 8) (hz : ∀ i, k ≤ i → i < (printL v).length → (printL v)[i]? = some 48) :
    (pad8 (v % 100000000)).take j ++ List.replicate (8 - j) 48 = pad8 (v % 100000000) := by
  have h8 := pad8_length (p := v % 100000000) (by omega)
  have : (pad8 (v % 100000000)).drop j = List.replicate (8 - j) 48 := by
    apply List.ext_getElem?
    intro i
    by_cases hi : i < 8 - j
    · have h1 := hz (k + i) (by omega) (by rw [printL_length]; omega)
      rw [printL_pad, List.getElem?_append_right (by omega), show k + i - (decDigits (v / 100000000)).length = (j + i) + 1 by omega, List.getElem?_cons_succ] at h1
      rw [List.getElem?_drop, h1, List.getElem?_replicate, if_pos hi]
    · rw [List.getElem?_eq_none (by rw [List.length_drop, h8]; omega), List.getElem?_eq_none (by rw [List.length_replicate]; omega)]
  rw [← this, List.take_append_drop]
/-- Without the noughts: as it was. -/
theorem parse_strip {v k : Nat} (hk : k ≤ (printL v).length) (hz : ∀ j, k ≤ j → j < (printL v).length → (printL v)[j]? = some 48) (hn : (printL v)[k - 1]? ≠ some 46) : parseV ((printL v).take k) = backV v := by
  have hw := strip_at hk hz
  obtain ⟨j, hj⟩ : ∃ j, k = (decDigits (v / 100000000)).length + 1 + j := ⟨k - (decDigits (v / 100000000)).length - 1, by omega⟩
  have hj8 : j ≤ 8 := by rw [printL_length] at hk; omega
  have h8 := pad8_length (p := v % 100000000) (by omega)
  have hj0 : j ≠ 0 := by
    intro e
    apply hn
    rw [printL_pad, hj, e]
    simp
  have hlen : ((pad8 (v % 100000000)).take j).length = j := by rw [List.length_take]; omega
  rw [strip_take hj]
  refine parse_of (w := decDigits (v / 100000000)) (q := (pad8 (v % 100000000)).take j) (form_dot ?_ (by omega)) ?_
  · unfold figB
    have : ((pad8 (v % 100000000)).take j).all isDig = true := by
      rw [List.all_eq_true]
      exact fun x hx => List.all_eq_true.1 (pad8_all _) x (List.mem_of_mem_take hx)
    rw [this]
    cases hp : (pad8 (v % 100000000)).take j with
    | nil => rw [hp] at hlen; exact absurd hlen.symm hj0
    | cons x y => rfl
  · rw [hlen, List.append_assoc, strip_zeros hj hj8 hz]
theorem parse_strip_dot {v k : Nat} (hk : k ≤ (printL v).length) (hz : ∀ j, k ≤ j → j < (printL v).length → (printL v)[j]? = some 48) (hn : (printL v)[k - 1]? = some 46) : parseV ((printL v).take (k - 1)) = backV v := by
  have hw := strip_at hk hz
  obtain ⟨j, hj⟩ : ∃ j, k = (decDigits (v / 100000000)).length + 1 + j := ⟨k - (decDigits (v / 100000000)).length - 1, by omega⟩
  have hj8 : j ≤ 8 := by rw [printL_length] at hk; omega
  have h8 := pad8_length (p := v % 100000000) (by omega)
  have hj0 : j = 0 := by
    by_cases h0 : j = 0
    · exact h0
    · exfalso
      have hm : (printL v)[k - 1]? = (pad8 (v % 100000000))[j - 1]? := by
        rw [printL_pad, List.getElem?_append_right (by omega), show k - 1 - (decDigits (v / 100000000)).length = (j - 1) + 1 by omega, List.getElem?_cons_succ]
      rw [hm] at hn
      exact all_ne (pad8_all _) _ (List.mem_of_getElem? hn) rfl
  subst hj0
  have ht : (printL v).take (k - 1) = decDigits (v / 100000000) := by
    rw [printL_pad, show k - 1 = (decDigits (v / 100000000)).length by omega, List.take_left' rfl]
  rw [ht]
  refine parse_of (w := decDigits (v / 100000000)) (q := []) (form_int _) ?_
  have := strip_zeros hj (by omega) hz
  simp only [List.take_zero, List.nil_append] at this
  simp only [List.append_nil, List.length_nil, Nat.sub_zero]
  rw [← this]

end Go.Proofs.YtpnghjfcfeaemaaDoor
