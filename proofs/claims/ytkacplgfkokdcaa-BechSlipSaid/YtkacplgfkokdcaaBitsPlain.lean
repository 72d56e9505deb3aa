/-
  PLAIN LEAN: rows of bits: numbers of some bits as one row, and that row cut into numbers of others; bytes spread into numbers of five bits, and gathered.
-/
namespace Go.Proofs.Ytkacplgfkokdcaa

/-- The number that n bits of f from place a on say, the highest first. -/
def num (f : Nat → Nat) (a : Nat) : Nat → Nat
  | 0 => 0
  | n + 1 => num f a n * 2 + f (a + n)

/-- The i-th bit of bytes of e bits each. -/
def bitAt (e : Nat) (l : List UInt8) (i : Nat) : Nat :=
  match l[i / e]? with
  | some u => u.toNat / 2 ^ (e - 1 - i % e) % 2
  | none => 0

/-- So many numbers of 'to' bits. -/
def packL (f : Nat → Nat) (to many : Nat) : List UInt8 := (List.range many).map fun i => UInt8.ofNat (num f (i * to) to)

def spreadL (b : List UInt8) : List UInt8 := packL (bitAt 8 b) 5 ((b.length * 8 + 4) / 5)

def gatherL (l : List UInt8) : Option (List UInt8) :=
  if (∀ u ∈ l, u.toNat ≤ 31) ∧ l.length * 5 % 8 < 5 ∧ num (bitAt 5 l) (l.length * 5 / 8 * 8) (l.length * 5 % 8) = 0 then some (packL (bitAt 5 l) 8 (l.length * 5 / 8)) else none

theorem bitAt_le (e : Nat) (l : List UInt8) (i : Nat) : bitAt e l i ≤ 1 := by
  unfold bitAt
  split <;> omega

section
variable {f g : Nat → Nat}

theorem num_lt (hf : ∀ i, f i ≤ 1) (a : Nat) : ∀ n, num f a n < 2 ^ n
  | 0 => by simp [num]
  | n + 1 => by
    have h1 := num_lt hf a n
    have h2 := hf (a + n)
    rw [Nat.pow_succ]
    simp only [num]
    omega

theorem num_add (a m : Nat) : ∀ n, num f a (m + n) = num f a m * 2 ^ n + num f (a + m) n
  | 0 => by simp [num]
  | n + 1 => by
    have ih := num_add a m n
    rw [← Nat.add_assoc]
    simp only [num, ih, Nat.pow_succ, Nat.add_assoc, Nat.add_mul, Nat.mul_assoc]

theorem num_congr (a : Nat) : ∀ n, (∀ i, i < n → f (a + i) = g (a + i)) → num f a n = num g a n
  | 0, _ => rfl
  | n + 1, h => by
    simp only [num]
    rw [num_congr a n fun i hi => h i (by omega), h n (by omega)]

theorem num_zero (a : Nat) : ∀ n, (∀ i, i < n → f (a + i) = 0) → num f a n = 0
  | 0, _ => rfl
  | n + 1, h => by
    simp only [num]
    rw [num_zero a n fun i hi => h i (by omega), h n (by omega)]

theorem zero_num (hf : ∀ i, f i ≤ 1) (a : Nat) : ∀ n, num f a n = 0 → ∀ i, i < n → f (a + i) = 0
  | 0, _, _, hi => by omega
  | n + 1, h, i, hi => by
    simp only [num] at h
    rcases Nat.lt_or_ge i n with h1 | h1
    · exact zero_num hf a n (by omega) i h1
    · obtain rfl : i = n := by omega
      omega

/-- The bits of two numbers that are alike are alike. -/
theorem num_inj (hf : ∀ i, f i ≤ 1) (hg : ∀ i, g i ≤ 1) (a b : Nat) : ∀ n, num f a n = num g b n → ∀ i, i < n → f (a + i) = g (b + i)
  | 0, _, _, hi => by omega
  | n + 1, h, i, hi => by
    simp only [num] at h
    have h1 := hf (a + n)
    have h2 := hg (b + n)
    rcases Nat.lt_or_ge i n with h3 | h3
    · exact num_inj hf hg a b n (by omega) i h3
    · obtain rfl : i = n := by omega
      omega
end

/-- A number's own bits say it. -/
theorem num_own (v e : Nat) : ∀ n, n ≤ e → v < 2 ^ e → num (fun i => v / 2 ^ (e - 1 - i) % 2) 0 n = v / 2 ^ (e - n)
  | 0, _, h => by simp [num, Nat.div_eq_of_lt h]
  | n + 1, hn, h => by
    have ih := num_own v e n (by omega) h
    simp only [num, ih, Nat.zero_add]
    have e1 : e - n = e - (n + 1) + 1 := by omega
    have e2 : e - 1 - n = e - (n + 1) := by omega
    rw [e1, e2, Nat.pow_succ, ← Nat.div_div_eq_div_mul]
    omega

/-- The k-th number of l. -/
theorem num_item {e : Nat} {l : List UInt8} {k : Nat} (he : 0 < e) (hk : k < l.length) (hv : l[k].toNat < 2 ^ e) : num (bitAt e l) (k * e) e = l[k].toNat := by
  have h1 : num (bitAt e l) (k * e) e = num (fun i => l[k].toNat / 2 ^ (e - 1 - i) % 2) 0 e := by
    have key : ∀ n, n ≤ e → num (bitAt e l) (k * e) n = num (fun i => l[k].toNat / 2 ^ (e - 1 - i) % 2) 0 n := by
      intro n
      induction n with
      | zero => intro _; rfl
      | succ n ih =>
        intro hn
        simp only [num]
        rw [ih (by omega)]
        congr 1
        unfold bitAt
        have e1 : (k * e + n) / e = k := by rw [Nat.mul_comm, Nat.mul_add_div he, Nat.div_eq_of_lt (by omega), Nat.add_zero]
        have e2 : (k * e + n) % e = n := by rw [Nat.mul_comm, Nat.mul_add_mod, Nat.mod_eq_of_lt (by omega)]
        rw [e1, e2, List.getElem?_eq_getElem hk, Nat.zero_add]
    exact key e (Nat.le_refl _)
  rw [h1, num_own _ e e (Nat.le_refl _) hv]
  simp

theorem bitAt_end {e : Nat} {l : List UInt8} {i : Nat} (he : 0 < e) (h : l.length * e ≤ i) : bitAt e l i = 0 := by
  unfold bitAt
  rw [List.getElem?_eq_none]
  exact (Nat.le_div_iff_mul_le he).2 h

theorem packL_length (f : Nat → Nat) (to many : Nat) : (packL f to many).length = many := by simp [packL]

theorem packL_succ (f : Nat → Nat) (to many : Nat) : packL f to (many + 1) = packL f to many ++ [UInt8.ofNat (num f (many * to) to)] := by
  simp [packL, List.range_succ]

theorem packL_get {f : Nat → Nat} (hf : ∀ i, f i ≤ 1) {to many i : Nat} (ht : to ≤ 8) (hi : i < many) : ∃ h : i < (packL f to many).length, ((packL f to many)[i]'h).toNat = num f (i * to) to := by
  refine ⟨by rw [packL_length]; exact hi, ?_⟩
  have h1 := num_lt hf (i * to) to
  have h2 : 2 ^ to ≤ 2 ^ 8 := Nat.pow_le_pow_right (by omega) ht
  simp [packL]
  omega

/-- A bit of what is packed is the row's own bit. -/
theorem bitAt_pack {f : Nat → Nat} (hf : ∀ i, f i ≤ 1) {to many i : Nat} (ht0 : 0 < to) (ht : to ≤ 8) (hi : i < many * to) : bitAt to (packL f to many) i = f i := by
  have hd : i / to < many := (Nat.div_lt_iff_lt_mul ht0).2 hi
  obtain ⟨hl, hv⟩ := packL_get hf ht hd
  have hlt := num_lt hf (i / to * to) to
  have h1 := num_item (e := to) (l := packL f to many) ht0 hl (by rw [hv]; exact hlt)
  rw [hv] at h1
  have hm : i % to < to := Nat.mod_lt _ ht0
  have := num_inj (fun i => bitAt_le to (packL f to many) i) hf (i / to * to) (i / to * to) to h1 (i % to) hm
  rw [show i / to * to + i % to = i from by rw [Nat.mul_comm]; exact Nat.div_add_mod i to] at this
  exact this

theorem list_ext_nat {a b : List UInt8} (hl : a.length = b.length) (h : ∀ i (h1 : i < a.length) (h2 : i < b.length), a[i].toNat = b[i].toNat) : a = b :=
  List.ext_getElem hl fun i h1 h2 => UInt8.toNat_inj.1 (h i h1 h2)

/-- Bits that are spread are gathered as they were, and only those. -/
theorem gather_iff (l : List UInt8) (h31 : ∀ u ∈ l, u.toNat ≤ 31) :
    spreadL (packL (bitAt 5 l) 8 (l.length * 5 / 8)) = l ↔ l.length * 5 % 8 < 5 ∧ num (bitAt 5 l) (l.length * 5 / 8 * 8) (l.length * 5 % 8) = 0 := by
  obtain ⟨n, hn⟩ : ∃ n, n = l.length := ⟨_, rfl⟩
  obtain ⟨m, hm⟩ : ∃ m, m = n * 5 / 8 := ⟨_, rfl⟩
  obtain ⟨r, hr⟩ : ∃ r, r = n * 5 % 8 := ⟨_, rfl⟩
  rw [← hn, ← hm, ← hr]
  have hnm : n * 5 = m * 8 + r := by omega
  have hf := bitAt_le 5 l
  have hbits : ∀ i, i < m * 8 → bitAt 8 (packL (bitAt 5 l) 8 m) i = bitAt 5 l i := fun i hi => bitAt_pack hf (by omega) (by omega) hi
  have hzero : ∀ i, m * 8 ≤ i → bitAt 8 (packL (bitAt 5 l) 8 m) i = 0 := fun i hi => bitAt_end (by omega) (by rw [packL_length]; exact hi)
  have hg := bitAt_le 8 (packL (bitAt 5 l) 8 m)
  have hlen : (spreadL (packL (bitAt 5 l) 8 m)).length = (m * 8 + 4) / 5 := by unfold spreadL; rw [packL_length, packL_length]
  have hitem : ∀ i (h : i < n), num (bitAt 5 l) (i * 5) 5 = (l[i]'(by omega)).toNat := fun i h => num_item (by omega) (by omega) (by have := h31 (l[i]'(by omega)) (List.getElem_mem _); omega)
  constructor
  · intro h
    have h5 : (m * 8 + 4) / 5 = n := by rw [← hlen, h, hn]
    have hr5 : r < 5 := by omega
    refine ⟨hr5, ?_⟩
    rcases Nat.eq_zero_or_pos n with h0 | h0
    · subst h0
      have : r = 0 := by omega
      rw [this]; rfl
    · -- the last number
      have hlast : num (bitAt 8 (packL (bitAt 5 l) 8 m)) ((n - 1) * 5) 5 = num (bitAt 5 l) ((n - 1) * 5) 5 := by
        obtain ⟨h1, h2⟩ := packL_get hg (to := 5) (many := (m * 8 + 4) / 5) (i := n - 1) (by omega) (by omega)
        rw [← h2, hitem (n - 1) (by omega)]
        have : ∀ (a b : List UInt8) (i : Nat) (ha : i < a.length) (hb : i < b.length), a = b → a[i].toNat = b[i].toNat := by
          intro a b i ha hb e; subst e; rfl
        refine this _ _ _ h1 (by omega) ?_
        have h' := h
        unfold spreadL at h'
        rw [packL_length] at h'
        exact h'
      have := num_inj hg hf ((n - 1) * 5) ((n - 1) * 5) 5 hlast
      apply num_zero
      intro i hi
      have h3 := this (5 - r + i) (by omega)
      have h4 : (n - 1) * 5 + (5 - r + i) = m * 8 + i := by omega
      rw [h4, hzero _ (by omega)] at h3
      exact h3.symm
  · rintro ⟨hr5, hz⟩
    have hz' := zero_num hf (m * 8) r hz
    have hall : ∀ i, i < n * 5 → bitAt 8 (packL (bitAt 5 l) 8 m) i = bitAt 5 l i := by
      intro i hi
      rcases Nat.lt_or_ge i (m * 8) with h1 | h1
      · exact hbits i h1
      · rw [hzero i h1]
        have := hz' (i - m * 8) (by omega)
        rw [show m * 8 + (i - m * 8) = i by omega] at this
        exact this.symm
    have h5 : (m * 8 + 4) / 5 = n := by omega
    refine list_ext_nat (by rw [hlen, h5, hn]) fun i h1 h2 => ?_
    have hi : i < n := by omega
    obtain ⟨h3, h4⟩ := packL_get hg (to := 5) (many := (m * 8 + 4) / 5) (i := i) (by omega) (by omega)
    have h6 : ((spreadL (packL (bitAt 5 l) 8 m))[i]'h1).toNat = num (bitAt 8 (packL (bitAt 5 l) 8 m)) (i * 5) 5 := by
      rw [← h4]
      simp only [spreadL, packL_length]
    rw [h6, ← hitem i hi]
    exact num_congr _ _ fun j hj => hall _ (by omega)

theorem spread_small (b : List UInt8) : ∀ u ∈ spreadL b, u.toNat ≤ 31 := by
  intro u hu
  unfold spreadL packL at hu
  simp only [List.mem_map] at hu
  obtain ⟨i, _, rfl⟩ := hu
  have := num_lt (bitAt_le 8 b) (i * 5) 5
  rw [UInt8.toNat_ofNat']
  omega

/-- THERE AND BACK. -/
theorem gather_spread (b : List UInt8) : gatherL (spreadL b) = some b := by
  obtain ⟨n, hn⟩ : ∃ n, n = b.length := ⟨_, rfl⟩
  have hl : (spreadL b).length = (n * 8 + 4) / 5 := by unfold spreadL; rw [packL_length, hn]
  have hf := bitAt_le 8 b
  have hbits : ∀ i, i < (n * 8 + 4) / 5 * 5 → bitAt 5 (spreadL b) i = bitAt 8 b i := by
    intro i hi
    unfold spreadL
    rw [← hn]
    exact bitAt_pack hf (by omega) (by omega) hi
  unfold gatherL
  rw [hl]
  have hm : (n * 8 + 4) / 5 * 5 / 8 = n := by omega
  rw [hm, if_pos]
  · congr 1
    refine list_ext_nat (by rw [packL_length, hn]) fun i h1 h2 => ?_
    obtain ⟨h3, h4⟩ := packL_get (bitAt_le 5 (spreadL b)) (to := 8) (many := n) (i := i) (by omega) (by omega)
    rw [h4, num_congr (g := bitAt 8 b) _ _ fun j hj => hbits _ (by omega)]
    exact num_item (by omega) h2 (by have := b[i].toNat_lt; omega)
  · refine ⟨spread_small b, by omega, ?_⟩
    apply num_zero
    intro i hi
    rw [hbits _ (by omega)]
    exact bitAt_end (by omega) (by omega)

theorem gather_some {l b : List UInt8} (h : gatherL l = some b) : spreadL b = l ∧ b.length = l.length * 5 / 8 := by
  unfold gatherL at h
  split at h
  · rename_i hc
    injection h with h
    subst h
    exact ⟨(gather_iff l hc.1).2 hc.2, packL_length _ _ _⟩
  · cases h

/-! ### What 'bits' holds -/

/-- What is held behind a number more. -/
def putHeld (held v n : Nat) : Nat := held * 2 ^ n % 65536 + v

theorem putHeld_eq (held v : Nat) {n : Nat} (hn : n ≤ 16) : putHeld held v n = held % 2 ^ (16 - n) * 2 ^ n + v := by
  unfold putHeld
  have : (65536 : Nat) = 2 ^ (16 - n) * 2 ^ n := by rw [← Nat.pow_add]; rw [show 16 - n + n = 16 by omega]
  rw [this, Nat.mul_mod_mul_right]

theorem putHeld_lt {held v n : Nat} (hn : n ≤ 16) (hv : v < 2 ^ n) : putHeld held v n < 65536 := by
  rw [putHeld_eq held v hn]
  have h1 : held % 2 ^ (16 - n) < 2 ^ (16 - n) := Nat.mod_lt _ (Nat.two_pow_pos _)
  have h2 : (65536 : Nat) = 2 ^ (16 - n) * 2 ^ n := by rw [← Nat.pow_add]; rw [show 16 - n + n = 16 by omega]
  rw [h2]
  calc held % 2 ^ (16 - n) * 2 ^ n + v < held % 2 ^ (16 - n) * 2 ^ n + 2 ^ n := by omega
    _ = (held % 2 ^ (16 - n) + 1) * 2 ^ n := by rw [Nat.add_mul, Nat.one_mul]
    _ ≤ 2 ^ (16 - n) * 2 ^ n := Nat.mul_le_mul_right _ (by omega)

theorem mul_add_mod_mul (x y m v : Nat) (hv : v < m) : (x * m + v) % (y * m) = x % y * m + v := by
  rcases Nat.eq_zero_or_pos y with hy | hy
  · subst hy; simp
  · have h1 : x * m + v = y * m * (x / y) + (x % y * m + v) := by
      have := Nat.div_add_mod x y
      calc x * m + v = (y * (x / y) + x % y) * m + v := by rw [this]
        _ = y * m * (x / y) + (x % y * m + v) := by rw [Nat.add_mul, Nat.mul_right_comm, Nat.add_assoc]
    rw [h1, Nat.mul_add_mod]
    apply Nat.mod_eq_of_lt
    have h2 : x % y < y := Nat.mod_lt _ hy
    calc x % y * m + v < x % y * m + m := by omega
      _ = (x % y + 1) * m := by rw [Nat.add_mul, Nat.one_mul]
      _ ≤ y * m := Nat.mul_le_mul_right _ (by omega)

theorem putHeld_mod {held v n many : Nat} (hn : many + n ≤ 16) (hv : v < 2 ^ n) : putHeld held v n % 2 ^ (many + n) = held % 2 ^ many * 2 ^ n + v := by
  rw [putHeld_eq held v (by omega), Nat.pow_add, mul_add_mod_mul _ _ _ _ hv]
  rw [Nat.mod_mod_of_dvd _ (Nat.pow_dvd_pow 2 (by omega))]

/-- A number is taken off. -/
theorem take_val {f : Nat → Nat} (hf : ∀ i, f i ≤ 1) {H a to rest : Nat} (h : H % 2 ^ (to + rest) = num f a (to + rest)) : H / 2 ^ rest % 2 ^ to = num f a to ∧ H % 2 ^ rest = num f (a + to) rest := by
  rw [num_add] at h
  have h1 := num_lt hf (a + to) rest
  have hp : 0 < 2 ^ rest := Nat.two_pow_pos _
  constructor
  · have : H % 2 ^ (to + rest) / 2 ^ rest = H / 2 ^ rest % 2 ^ to := by
      rw [Nat.add_comm, Nat.pow_add, Nat.mod_mul_right_div_self]
    rw [← this, h, Nat.add_comm, Nat.add_mul_div_right _ _ hp, Nat.div_eq_of_lt h1, Nat.zero_add]
  · have : H % 2 ^ (to + rest) % 2 ^ rest = H % 2 ^ rest := Nat.mod_mod_of_dvd _ (Nat.pow_dvd_pow 2 (by omega))
    rw [← this, h, Nat.add_comm, Nat.add_mul_mod_self_right, Nat.mod_eq_of_lt h1]

theorem num_snoc_item {e : Nat} {l : List UInt8} {k a many : Nat} (he : 0 < e) (hk : k < l.length) (hv : l[k].toNat < 2 ^ e) (ha : a + many = k * e) :
    num (bitAt e l) a (many + e) = num (bitAt e l) a many * 2 ^ e + l[k].toNat := by
  rw [num_add, ha, num_item he hk hv]

end Go.Proofs.Ytkacplgfkokdcaa
