/-
  PLAIN LEAN: a word that is written is read as it was; an address leads to its script.
-/
import Derived.Test.YtkacplgfkokdcaaBechLawA
set_option linter.unusedVariables false
namespace Go.Proofs.Ytkacplgfkokdcaa
open Go.RowKit

theorem encL_shape {h d l : List UInt8} (he : encL h d = some l) : ∃ r, l = h ++ 49 :: r ∧ (∀ v ∈ r, v ≠ 49) ∧ r.length = d.length + 6 ∧ Small5 d ∧ encL h d = some (h ++ [49] ++ r) := by
  have he0 := he
  unfold encL at he
  split at he
  · rename_i hb
    have hs : Small5 d := by
      simp [dataOk] at hb
      exact small_all.1 (by rw [List.all_eq_true]; exact hb.2.1)
    simp only [Option.some.injEq, encW] at he
    refine ⟨lettersOf d ++ six (lackOf h d), by rw [← he]; simp, ?_, ?_, hs, ?_⟩
    · intro v hv
      rcases List.mem_append.1 hv with hv | hv
      · obtain ⟨u, hu, rfl⟩ := List.mem_map.1 hv
        exact letter_ne_one _ (hs u hu)
      · rw [six_letters] at hv
        obtain ⟨u, hu, rfl⟩ := List.mem_map.1 hv
        exact letter_ne_one _ (digits_small _ u hu)
    · rw [List.length_append]
      simp [lettersOf, six, digits6]
    · rw [he0, ← he]
      simp
  · cases he

theorem decL_enc {h d l : List UInt8} (he : encL h d = some l) : decL l = some (h, d) := by
  obtain ⟨r, e, hn, hl, hs, he2⟩ := encL_shape he
  obtain ⟨ht, h6⟩ := tailR_enc he2
  have h1 : lastOne l = some (h, r) := by rw [e]; exact lastOne_at h hn
  rw [decL_tail h1 h6]
  show (tailR h r).map _ = _
  rw [ht]
  rfl
theorem encL_length {h d l : List UInt8} (he : encL h d = some l) : l.length = h.length + d.length + 7 := by
  obtain ⟨r, e, _, hl, _, _⟩ := encL_shape he
  rw [e]
  simp
  omega

theorem script_address {bs l : List UInt8} (he : addrL bs = some l) : scriptL l = some bs := by
  match bs, he with
  | [], he => cases he
  | [_], he => cases he
  | v0 :: v1 :: p, he =>
    by_cases hc : 2 ≤ p.length ∧ p.length ≤ 40 ∧ v1.toNat = p.length ∧ (v0.toNat = 0 ∨ (80 < v0.toNat ∧ v0.toNat ≤ 96))
    · rw [addrL_some hc] at he
      have hd := decL_enc he
      have hv : (UInt8.ofNat (verOf v0.toNat)).toNat = verOf v0.toNat := by
        rw [UInt8.toNat_ofNat', Nat.mod_eq_of_lt]
        unfold verOf
        split <;> omega
      have hv16 : verOf v0.toNat ≤ 16 := by
        unfold verOf
        split <;> omega
      rw [scriptL_some hd ⟨rfl, by rw [hv]; exact hv16⟩ (gather_spread p) ⟨hc.1, hc.2.1⟩]
      have h0 : byteOf (UInt8.ofNat (verOf v0.toNat)).toNat = v0.toNat := by
        rw [hv]
        unfold byteOf verOf
        by_cases hz : v0.toNat = 0
        · simp [hz]
        · simp only [hz, if_false]
          have hc4 := hc.2.2.2
          rw [if_neg (by omega)]
          omega
      rw [h0, ← hc.2.2.1]
      simp
    · rw [addrL_not hc] at he
      cases he

end Go.Proofs.Ytkacplgfkokdcaa
