/-
  PLAIN LEAN: amounts: their sums, how they are written and read.
-/
import Derived.Lib.ItoaMem
set_option linter.unusedVariables false
namespace Go.Proofs.YtpnghjfcfeaemaaDoor
open Go.Lib

/-! ### Sums -/
def sumL (l : List Nat) : Option Nat := if l.sum ≤ 2100000000000000 then some l.sum else none

theorem sum_take_le (l : List Nat) (k : Nat) : (l.take k).sum ≤ l.sum := by
  have := List.sum_append (l₁ := l.take k) (l₂ := l.drop k)
  rw [List.take_append_drop] at this
  omega
theorem sum_take_succ (l : List Nat) (k : Nat) (hk : k < l.length) : (l.take (k + 1)).sum = (l.take k).sum + l[k] := by
  rw [List.take_succ_eq_append_getElem hk, List.sum_append]
  simp
theorem sumL_none {l : List Nat} {k : Nat} (h : 2100000000000000 < (l.take k).sum) : sumL l = none := by
  unfold sumL
  have := sum_take_le l k
  rw [if_neg (by omega)]
theorem sumL_some {l : List Nat} (h : l.sum ≤ 2100000000000000) : sumL l = some l.sum := by
  unfold sumL; rw [if_pos h]

/-! ### How a number is written -/
def figsL (n least : Nat) : List UInt8 := if h : n = 0 ∧ least = 0 then [] else figsL (n / 10) (least - 1) ++ [UInt8.ofNat (48 + n % 10)]
termination_by n + least
decreasing_by omega

theorem figsL_stop : figsL 0 0 = [] := by rw [figsL]; simp
theorem figsL_go {n least : Nat} (h : ¬ (n = 0 ∧ least = 0)) : figsL n least = figsL (n / 10) (least - 1) ++ [UInt8.ofNat (48 + n % 10)] := by
  rw [figsL, dif_neg h]
theorem figsL_zero {n : Nat} (h : 0 < n) : figsL n 0 = figsL n 1 := by
  rw [figsL_go (n := n) (least := 0) (by omega), figsL_go (n := n) (least := 1) (by omega)]
theorem figsL_one (n : Nat) : figsL n 1 = decDigits n := by
  induction n using Nat.strongRecOn with
  | _ n ih =>
    rw [figsL_go (by omega), decDigits]
    by_cases h : n < 10
    · rw [dif_pos h, Nat.div_eq_of_lt h, Nat.mod_eq_of_lt h, show 1 - 1 = 0 from rfl, figsL_stop]
      rfl
    · rw [dif_neg h, show 1 - 1 = 0 from rfl, figsL_zero (by omega), ih (n / 10) (by omega)]
theorem figsL_pad : ∀ (k n : Nat), n < 10 ^ (k + 1) → figsL n (k + 1) = List.replicate (k + 1 - (decDigits n).length) 48 ++ decDigits n
  | 0, n, h => by
    have h10 : n < 10 := by simpa using h
    rw [figsL_one, decDigits_one h10]
    simp
  | k + 1, n, h => by
    rw [figsL_go (by omega), show k + 1 + 1 - 1 = k + 1 by omega]
    have hq : n / 10 < 10 ^ (k + 1) := by
      rw [Nat.pow_succ] at h
      omega
    rw [figsL_pad k (n / 10) hq]
    by_cases hn : n < 10
    · rw [Nat.div_eq_of_lt hn, decDigits_one (i := 0) (by omega), decDigits_one hn, Nat.mod_eq_of_lt hn]
      simp only [List.length_singleton]
      rw [show k + 1 + 1 - 1 = (k + 1 - 1) + 1 by omega, List.replicate_succ']
      simp
    · rw [decDigits.eq_def n, dif_neg hn, List.length_append, List.length_singleton, List.append_assoc, show k + 1 + 1 - ((decDigits (n / 10)).length + 1) = k + 1 - (decDigits (n / 10)).length by omega]

/-- An amount, written. -/
def printL (v : Nat) : List UInt8 := decDigits (v / 100000000) ++ [46] ++ (List.replicate (8 - (decDigits (v % 100000000)).length) 48 ++ decDigits (v % 100000000))
theorem printL_figs (v : Nat) : figsL (v / 100000000) 1 ++ [46] ++ figsL (v % 100000000) 8 = printL v := by
  unfold printL
  rw [figsL_one, figsL_pad 7 _ (by omega)]
theorem nDigits_le : ∀ (k u : Nat), u < 10 ^ (k + 1) → nDigits u ≤ k + 1
  | 0, u, h => by
    rw [nDigits_small (by simpa using h)]
    omega
  | k + 1, u, h => by
    by_cases h10 : u < 10
    · rw [nDigits_small h10]
      omega
    · rw [nDigits_big h10]
      have := nDigits_le k (u / 10) (by rw [Nat.pow_succ] at h; omega)
      omega
theorem dec_len8 {p : Nat} (h : p < 100000000) : (decDigits p).length ≤ 8 := by
  rw [decDigits_length]
  exact nDigits_le 7 p (by omega)

/-! ### How an amount is read -/
def isDig (c : UInt8) : Bool := decide (48 ≤ c.toNat) && decide (c.toNat ≤ 57)
def figB (l : List UInt8) : Bool := l.all isDig && !l.isEmpty

/-- A text, cut at its first point. -/
def cutDot : List UInt8 → List UInt8 × List UInt8 × Bool
  | [] => ([], [], false)
  | c :: l => if c = 46 then ([], l, true) else (c :: (cutDot l).1, (cutDot l).2)

def formP (l : List UInt8) : Option (List UInt8 × List UInt8) :=
  if figB (cutDot l).1 = false ∨ (1 < (cutDot l).1.length ∧ (cutDot l).1.head? = some 48) then none
  else if (cutDot l).2.2 = true ∧ (figB (cutDot l).2.1 = false ∨ 8 < (cutDot l).2.1.length) then none
  else some ((cutDot l).1, (cutDot l).2.1)

/-- How many figures stand at the beginning. -/
def lead : List UInt8 → Nat
  | [] => 0
  | c :: l => if isDig c then lead l + 1 else 0
def formR (l : List UInt8) : Option (List UInt8 × List UInt8) :=
  if lead l = 0 ∨ (1 < lead l ∧ l.head? = some 48) then none
  else if lead l = l.length then some (l, [])
  else if l[lead l]? = some 46 ∧ lead (l.drop (lead l + 1)) = (l.drop (lead l + 1)).length ∧ 1 ≤ (l.drop (lead l + 1)).length ∧ (l.drop (lead l + 1)).length ≤ 8 then some (l.take (lead l), l.drop (lead l + 1))
  else none

def stepV (n : Nat) (c : UInt8) : Nat := min (10 * n + (c.toNat - 48)) 2100000000000001
def valL (l : List UInt8) : Nat := l.foldl stepV 0
/-- What a text reads as: the number, and why not. -/
def parseV (l : List UInt8) : Nat × Nat :=
  match formP l with
  | none => (0, 3)
  | some x => if 2100000000000000 < valL (x.1 ++ x.2 ++ List.replicate (8 - x.2.length) 48) then (0, 31) else (valL (x.1 ++ x.2 ++ List.replicate (8 - x.2.length) 48), 0)

theorem cutDot_false : ∀ {l : List UInt8}, (cutDot l).2.2 = false → cutDot l = (l, [], false) ∧ ∀ v ∈ l, v ≠ 46
  | [], _ => ⟨rfl, fun v hv => absurd hv (by simp)⟩
  | c :: l, h => by
    by_cases hc : c = 46
    · simp [cutDot, hc] at h
    · simp only [cutDot, hc, if_false] at h ⊢
      obtain ⟨h1, h2⟩ := cutDot_false h
      rw [h1]
      refine ⟨rfl, fun v hv => ?_⟩
      rcases List.mem_cons.1 hv with rfl | hv
      · exact hc
      · exact h2 v hv
theorem cutDot_true : ∀ {l : List UInt8}, (cutDot l).2.2 = true → l = (cutDot l).1 ++ 46 :: (cutDot l).2.1 ∧ ∀ v ∈ (cutDot l).1, v ≠ 46
  | [], h => by cases h
  | c :: l, h => by
    by_cases hc : c = 46
    · simp only [cutDot, hc, if_true]
      exact ⟨rfl, fun v hv => absurd hv (by simp)⟩
    · simp only [cutDot, hc, if_false] at h ⊢
      obtain ⟨h1, h2⟩ := cutDot_true h
      refine ⟨by rw [List.cons_append, ← h1], fun v hv => ?_⟩
      rcases List.mem_cons.1 hv with rfl | hv
      · exact hc
      · exact h2 v hv
theorem cutDot_at : ∀ (a : List UInt8) {b : List UInt8}, (∀ v ∈ a, v ≠ 46) → cutDot (a ++ 46 :: b) = (a, b, true)
  | [], b, _ => by simp [cutDot]
  | c :: a, b, h => by
    have hc : c ≠ 46 := h c (by simp)
    simp only [List.cons_append, cutDot, hc, if_false]
    rw [cutDot_at a fun v hv => h v (by simp [hv])]
theorem cutDot_not : ∀ {a : List UInt8}, (∀ v ∈ a, v ≠ 46) → cutDot a = (a, [], false)
  | [], _ => rfl
  | c :: a, h => by
    have hc : c ≠ 46 := h c (by simp)
    simp only [cutDot, hc, if_false]
    rw [cutDot_not fun v hv => h v (by simp [hv])]

theorem dig_ne {c : UInt8} (h : isDig c = true) : c ≠ 46 := by
  intro e
  rw [e] at h
  exact absurd h (by decide)
theorem lead_le : ∀ (l : List UInt8), lead l ≤ l.length
  | [] => Nat.le_refl _
  | c :: l => by
    have := lead_le l
    simp only [lead, List.length_cons]
    split <;> omega
theorem lead_all : ∀ {l : List UInt8}, l.all isDig = true ↔ lead l = l.length
  | [] => by simp [lead]
  | c :: l => by
    have ih := lead_all (l := l)
    have hle := lead_le l
    simp only [List.all_cons, lead, List.length_cons, Bool.and_eq_true, ih]
    constructor
    · rintro ⟨h1, h2⟩
      rw [if_pos h1, h2]
    · intro h
      split at h
      · rename_i h1
        exact ⟨h1, by omega⟩
      · omega
/-- Figures, then what is no figure: so many lead. -/
theorem lead_cut : ∀ {a b : List UInt8} {c : UInt8}, a.all isDig = true → isDig c = false → lead (a ++ c :: b) = a.length
  | [], b, c, _, hc => by simp [lead, hc]
  | d :: a, b, c, ha, hc => by
    simp only [List.all_cons, Bool.and_eq_true] at ha
    have ih := lead_cut (b := b) ha.2 hc
    simp only [List.cons_append, lead, ha.1, if_true, ih, List.length_cons]
theorem lead_split : ∀ (l : List UInt8), lead l < l.length → ∃ a c b, l = a ++ c :: b ∧ a.all isDig = true ∧ isDig c = false ∧ a.length = lead l
  | [], h => by simp [lead] at h
  | d :: l, h => by
    by_cases hd : isDig d = true
    · simp only [lead, hd, if_true, List.length_cons] at h
      obtain ⟨a, c, b, e, ha, hc, hl⟩ := lead_split l (by omega)
      refine ⟨d :: a, c, b, by rw [e]; rfl, by simp [hd, ha], hc, ?_⟩
      simp only [lead, hd, if_true, List.length_cons, hl]
    · have hd2 : isDig d = false := by simpa using hd
      exact ⟨[], d, l, rfl, rfl, hd2, by simp [lead, hd2]⟩

theorem formR_bad {l : List UInt8} (h : lead l = 0 ∨ (1 < lead l ∧ l.head? = some 48)) : formR l = none := by unfold formR; rw [if_pos h]
theorem formR_int {l : List UInt8} (h : ¬ (lead l = 0 ∨ (1 < lead l ∧ l.head? = some 48))) (h1 : lead l = l.length) : formR l = some (l, []) := by unfold formR; rw [if_neg h, if_pos h1]
theorem formR_dot {l : List UInt8} (h : ¬ (lead l = 0 ∨ (1 < lead l ∧ l.head? = some 48))) (h1 : ¬ lead l = l.length)
    (h2 : l[lead l]? = some 46 ∧ lead (l.drop (lead l + 1)) = (l.drop (lead l + 1)).length ∧ 1 ≤ (l.drop (lead l + 1)).length ∧ (l.drop (lead l + 1)).length ≤ 8) : formR l = some (l.take (lead l), l.drop (lead l + 1)) := by
  unfold formR; rw [if_neg h, if_neg h1, if_pos h2]
theorem formR_not {l : List UInt8} (h1 : ¬ lead l = l.length)
    (h2 : ¬ (l[lead l]? = some 46 ∧ lead (l.drop (lead l + 1)) = (l.drop (lead l + 1)).length ∧ 1 ≤ (l.drop (lead l + 1)).length ∧ (l.drop (lead l + 1)).length ≤ 8)) : formR l = none := by
  unfold formR
  by_cases h : lead l = 0 ∨ (1 < lead l ∧ l.head? = some 48)
  · rw [if_pos h]
  · rw [if_neg h, if_neg h1, if_neg h2]
theorem formP_bad {l : List UInt8} (h : figB (cutDot l).1 = false ∨ (1 < (cutDot l).1.length ∧ (cutDot l).1.head? = some 48)) : formP l = none := by unfold formP; rw [if_pos h]
theorem formP_part {l : List UInt8} (h : (cutDot l).2.2 = true ∧ (figB (cutDot l).2.1 = false ∨ 8 < (cutDot l).2.1.length)) : formP l = none := by
  unfold formP
  by_cases h0 : figB (cutDot l).1 = false ∨ (1 < (cutDot l).1.length ∧ (cutDot l).1.head? = some 48)
  · rw [if_pos h0]
  · rw [if_neg h0, if_pos h]
theorem formP_ok {l : List UInt8} (h0 : ¬ (figB (cutDot l).1 = false ∨ (1 < (cutDot l).1.length ∧ (cutDot l).1.head? = some 48))) (h : ¬ ((cutDot l).2.2 = true ∧ (figB (cutDot l).2.1 = false ∨ 8 < (cutDot l).2.1.length))) : formP l = some ((cutDot l).1, (cutDot l).2.1) := by
  unfold formP; rw [if_neg h0, if_neg h]

theorem figB_of {l : List UInt8} (h : l.all isDig = true) (h0 : l ≠ []) : figB l = true := by unfold figB; rw [h]; simp [h0]
theorem figB_not {l : List UInt8} (h : ¬ l.all isDig = true) : figB l = false := by unfold figB; rw [Bool.not_eq_true] at h; rw [h]; rfl

theorem form_same (l : List UInt8) : formR l = formP l := by
  cases hb : (cutDot l).2.2 with
  | false =>
    obtain ⟨hcut, hno⟩ := cutDot_false hb
    by_cases hall : l.all isDig = true
    · have hl := lead_all.1 hall
      by_cases h0 : l = []
      · subst h0
        rw [formR_bad (.inl rfl), formP_bad (.inl (by decide))]
      · have hlen : l.length ≠ 0 := by simpa using h0
        have hf := figB_of hall h0
        by_cases hz : 1 < l.length ∧ l.head? = some 48
        · rw [formR_bad (.inr (by rw [hl]; exact hz)), formP_bad (.inr (by rw [hcut]; exact hz))]
        · rw [formR_int (by rw [hl]; rintro (h | h); exact hlen h; exact hz h) hl, formP_ok (by rw [hcut]; rintro (h | h); exact absurd (hf.symm.trans h) (by simp); exact hz h) (by rw [hb]; rintro ⟨h, _⟩; cases h), hcut]
    · have hf := figB_not hall
      have hlt : lead l < l.length := Nat.lt_of_le_of_ne (lead_le l) fun e => hall (lead_all.2 e)
      obtain ⟨a, c, b, e, ha, hc, hla⟩ := lead_split l hlt
      have hat : l[lead l]? = some c := by rw [← hla, e]; simp
      have hcn : c ≠ 46 := hno c (by rw [e]; simp)
      rw [formP_bad (.inl (by rw [hcut]; exact hf)), formR_not (by omega) (by rw [hat]; rintro ⟨h, _⟩; exact hcn (Option.some.inj h))]
  | true =>
    obtain ⟨he, hno⟩ := cutDot_true hb
    obtain ⟨wh, hw⟩ : ∃ wh, (cutDot l).1 = wh := ⟨_, rfl⟩
    obtain ⟨pt, hp⟩ : ∃ pt, (cutDot l).2.1 = pt := ⟨_, rfl⟩
    rw [hw, hp] at he
    rw [hw] at hno
    by_cases hall : wh.all isDig = true
    · have hl : lead l = wh.length := by rw [he]; exact lead_cut hall (by decide)
      have hlen : l.length = wh.length + (pt.length + 1) := by rw [he]; simp
      have hdrop : l.drop (lead l + 1) = pt := by rw [hl, he]; simp
      have htake : l.take (lead l) = wh := by rw [hl, he]; simp
      have hat : l[lead l]? = some 46 := by rw [hl, he]; simp
      by_cases h0 : wh = []
      · rw [formR_bad (.inl (by rw [hl, h0]; rfl)), formP_bad (.inl (by rw [hw, h0]; decide))]
      · have hwl : wh.length ≠ 0 := by simpa using h0
        have hf := figB_of hall h0
        have hhd : l.head? = wh.head? := by
          rw [he]
          cases wh with
          | nil => exact absurd rfl h0
          | cons x y => rfl
        by_cases hz : 1 < wh.length ∧ wh.head? = some 48
        · rw [formR_bad (.inr (by rw [hl, hhd]; exact hz)), formP_bad (.inr (by rw [hw]; exact hz))]
        · have hR0 : ¬ (lead l = 0 ∨ (1 < lead l ∧ l.head? = some 48)) := by rw [hl, hhd]; rintro (h | h); exact hwl h; exact hz h
          have hP0 : ¬ (figB (cutDot l).1 = false ∨ (1 < (cutDot l).1.length ∧ (cutDot l).1.head? = some 48)) := by rw [hw]; rintro (h | h); exact absurd (hf.symm.trans h) (by simp); exact hz h
          by_cases hpa : pt.all isDig = true
          · have hpl := lead_all.1 hpa
            by_cases hp0 : pt = []
            · rw [formR_not (by omega) (by rw [hdrop, hp0]; rintro ⟨_, _, h, _⟩; exact absurd h (by simp)), formP_part ⟨hb, .inl (by rw [hp, hp0]; decide)⟩]
            · have hpn : pt.length ≠ 0 := by simpa using hp0
              have hpf := figB_of hpa hp0
              by_cases h8 : 8 < pt.length
              · rw [formR_not (by omega) (by rw [hdrop]; rintro ⟨_, _, _, h⟩; omega), formP_part ⟨hb, .inr (by rw [hp]; exact h8)⟩]
              · rw [formR_dot hR0 (by omega) ⟨hat, by rw [hdrop]; exact hpl, by rw [hdrop]; omega, by rw [hdrop]; omega⟩, formP_ok hP0 (by rw [hp]; rintro ⟨_, h | h⟩; exact absurd (hpf.symm.trans h) (by simp); exact h8 h), hdrop, htake, hw, hp]
          · have hpf := figB_not hpa
            rw [formR_not (by omega) (by rw [hdrop]; rintro ⟨_, h, _⟩; exact hpa (lead_all.2 h)), formP_part ⟨hb, .inl (by rw [hp]; exact hpf)⟩]
    · have hf := figB_not hall
      have hlt : lead wh < wh.length := Nat.lt_of_le_of_ne (lead_le wh) fun e => hall (lead_all.2 e)
      obtain ⟨a, c, b, e, ha, hc, hla⟩ := lead_split wh hlt
      have hl : lead l = a.length := by rw [he, e, List.append_assoc]; exact lead_cut ha hc
      have hat : l[lead l]? = some c := by rw [hl, he, e]; simp
      have hcn : c ≠ 46 := hno c (by rw [e]; simp)
      have hll : lead l < l.length := by rw [hl, he, e]; simp
      rw [formP_bad (.inl (by rw [hw]; exact hf)), formR_not (by omega) (by rw [hat]; rintro ⟨h, _⟩; exact hcn (Option.some.inj h))]

end Go.Proofs.YtpnghjfcfeaemaaDoor
