/-
  PLAIN LEAN: a word of which one letter is another one is no word.
-/
import Derived.Test.YtkacplgfkokdcaaBechLawB
set_option linter.unusedVariables false
namespace Go.Proofs.Ytkacplgfkokdcaa
open Go.RowKit

theorem bStep_eq (c v : Nat) : bStep c v = (c % 33554432 * 32) ^^^ ((v % 32) ^^^ bFold (c / 33554432) 0 5) := by
  unfold bStep
  have := bFold_xor (c / 33554432) ((c % 33554432 * 32) ^^^ (v % 32)) 0 5
  rw [Nat.xor_zero] at this
  rw [this, Nat.xor_assoc]

theorem gen_apart : ∀ t t' : Fin 32, bFold t.1 0 5 % 32 = bFold t'.1 0 5 % 32 → t = t' := by decide +kernel

theorem xor_left {a b c : Nat} (h : a ^^^ b = a ^^^ c) : b = c := by
  have : a ^^^ (a ^^^ b) = a ^^^ (a ^^^ c) := by rw [h]
  rwa [← Nat.xor_assoc, ← Nat.xor_assoc, Nat.xor_self, Nat.zero_xor, Nat.zero_xor] at this

theorem xor_mod5 (a b : Nat) : (a ^^^ b) % 32 = (a % 32) ^^^ (b % 32) := Nat.xor_mod_two_pow (n := 5)

theorem bStep_inj {c c' v : Nat} (h1 : c < 1073741824) (h2 : c' < 1073741824) (h : bStep c v = bStep c' v) : c = c' := by
  rw [bStep_eq, bStep_eq] at h
  have hm := congrArg (· % 32) h
  simp only [xor_mod5, Nat.mul_mod_left, Nat.zero_xor] at hm
  have hg := xor_left hm
  have ht := gen_apart ⟨c / 33554432, by omega⟩ ⟨c' / 33554432, by omega⟩ hg
  have ht2 : c / 33554432 = c' / 33554432 := congrArg Fin.val ht
  rw [ht2, Nat.xor_comm, Nat.xor_comm (c' % 33554432 * 32)] at h
  have := xor_left h
  omega

theorem bMore_inj (q : List UInt8) : ∀ {c c' : Nat}, c < 1073741824 → c' < 1073741824 → bMore c q = bMore c' q → c = c' := by
  induction q with
  | nil => intro c c' _ _ h; exact h
  | cons v q ih =>
    intro c c' h1 h2 h
    exact bStep_inj h1 h2 (ih (bStep_lt c v.toNat) (bStep_lt c' v.toNat) h)

/-- One number is another one: the check is another one. -/
theorem bMore_slip {c : Nat} {p q : List UInt8} {v v' : UInt8} (h : bMore c (p ++ v :: q) = bMore c (p ++ v' :: q)) : v.toNat % 32 = v'.toNat % 32 := by
  rw [bMore_append, bMore_append] at h
  have := bMore_inj q (bStep_lt (bMore c p) v.toNat) (bStep_lt (bMore c p) v'.toNat) h
  rw [bStep_val, bStep_val (bMore c p) v'.toNat, Nat.xor_comm, Nat.xor_comm (v'.toNat % 32)] at this
  exact xor_left this

theorem slip_none {h d l : List UInt8} {a n : Nat} (he : encL h d = some l) (h1 : h.length < a) (h2 : a < l.length) (hn : n < 32) (hne : ¬ letter n = l[a]'h2) : decL (l.set a (letter n)) = none := by
  have hh : headOk h = true := by
    unfold encL at he
    split at he
    · rename_i hb; simp at hb; exact hb.1
    · cases he
  obtain ⟨r, e, hr1, hrl, hs, he2⟩ := encL_shape he
  obtain ⟨htr, h6⟩ := tailR_enc he2
  obtain ⟨j, hj⟩ : ∃ j, a = h.length + 1 + j := ⟨a - h.length - 1, by omega⟩
  have hl : l.length = h.length + (r.length + 1) := by rw [e]; simp
  have hjr : j < r.length := by omega
  have hset : l.set a (letter n) = h ++ 49 :: r.set j (letter n) := by
    rw [e, List.set_append_right _ _ (by omega), show a - h.length = j + 1 by omega, List.set_cons_succ]
  have hla : l[a]'h2 = r[j]'hjr := by
    have : l[a]? = r[j]? := by
      rw [e, List.getElem?_append_right (by omega), show a - h.length = j + 1 by omega, List.getElem?_cons_succ]
    rw [List.getElem?_eq_getElem h2, List.getElem?_eq_getElem hjr] at this
    exact Option.some.inj this
  have hno : ∀ v ∈ r.set j (letter n), v ≠ 49 := by
    intro v hv
    rcases List.mem_or_eq_of_mem_set hv with hv | rfl
    · exact hr1 v hv
    · exact letter_ne_one n hn
  have h6' : 6 ≤ (r.set j (letter n)).length := by rw [List.length_set]; exact h6
  rw [decL_tail (x := (h, r.set j (letter n))) (by rw [hset]; exact lastOne_at h hno) h6']
  show (tailR h (r.set j (letter n))).map _ = none
  rw [← tail_same hh h6']
  rw [← tail_same hh h6] at htr
  unfold tailP at htr
  cases hx : numsOf r with
  | none => rw [hx] at htr; cases htr
  | some x =>
    rw [hx] at htr
    simp only at htr
    split at htr
    · rename_i haim
      obtain ⟨hsx, hlx, hex⟩ := numsOf_some hx
      have hnt : (UInt8.ofNat n).toNat = n := by rw [UInt8.toNat_ofNat', Nat.mod_eq_of_lt (by omega)]
      have hjx : j < x.length := by omega
      have hsx' : Small5 (x.set j (UInt8.ofNat n)) := by
        intro v hv
        rcases List.mem_or_eq_of_mem_set hv with hv | rfl
        · exact hsx v hv
        · rw [hnt]; exact hn
      have hr' : r.set j (letter n) = lettersOf (x.set j (UInt8.ofNat n)) := by
        rw [← hex]
        unfold lettersOf
        rw [List.map_set, hnt]
      have hx' : numsOf (r.set j (letter n)) = some (x.set j (UInt8.ofNat n)) := by rw [hr']; exact numsOf_letters hsx'
      rw [tailP_not hx']
      · rfl
      · intro hc
        have hb : bMore 1 (headL h ++ x) = bMore 1 (headL h ++ x.set j (UInt8.ofNat n)) := by rw [hc.1, haim.1]
        have hsp : x = x.take j ++ x[j]'hjx :: x.drop (j + 1) := by
          rw [List.getElem_cons_drop, List.take_append_drop]
        have hsp' : x.set j (UInt8.ofNat n) = x.take j ++ UInt8.ofNat n :: x.drop (j + 1) := List.set_eq_take_append_cons_drop.trans (if_pos hjx)
        rw [hsp', ← List.append_assoc] at hb
        conv at hb => lhs; rw [hsp, ← List.append_assoc]
        have hv := bMore_slip hb
        rw [hnt, Nat.mod_eq_of_lt hn, Nat.mod_eq_of_lt (hsx _ (List.getElem_mem hjx))] at hv
        apply hne
        have hrj : r[j]'hjr = letter (x[j]'hjx).toNat := by
          have : r[j]? = (lettersOf x)[j]? := by rw [hex]
          rw [List.getElem?_eq_getElem hjr] at this
          unfold lettersOf at this
          rw [List.getElem?_map, List.getElem?_eq_getElem hjx] at this
          exact Option.some.inj this
        rw [hla, hrj, hv]
    · cases htr

end Go.Proofs.Ytkacplgfkokdcaa
