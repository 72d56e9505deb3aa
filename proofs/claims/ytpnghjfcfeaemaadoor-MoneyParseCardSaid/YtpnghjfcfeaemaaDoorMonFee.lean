/-
  The walks over Fee of money and of the reference.
-/
import Derived.Test.YtpnghjfcfeaemaaDoorMonSum
set_option linter.unusedVariables false
namespace Go.Proofs.YtpnghjfcfeaemaaDoor
open Go.RowKit

/-- What a weight costs at a rate: the number, and why not. -/
def feeV (p r : Nat) : Nat × Nat := if 2100000000000000 < r ∨ (0 < r ∧ 2100000000000000 / r < p) then (0, 31) else (p * r, 0)
theorem fee_le {p r : Nat} (h : ¬ (0 < r ∧ 2100000000000000 / r < p)) : p * r ≤ 2100000000000000 := by
  by_cases h0 : r = 0
  · subst h0; omega
  · have h1 : p ≤ 2100000000000000 / r := by omega
    exact Nat.le_trans (Nat.mul_le_mul_right r h1) (Nat.div_mul_le_self _ _)
theorem feeV_bad {p r : Nat} (h : 2100000000000000 < r ∨ (0 < r ∧ 2100000000000000 / r < p)) : feeV p r = (0, 31) := by unfold feeV; rw [if_pos h]
theorem feeV_ok {p r : Nat} (h : ¬ (2100000000000000 < r ∨ (0 < r ∧ 2100000000000000 / r < p))) : feeV p r = (p * r, 0) := by unfold feeV; rw [if_neg h]

/-- What Fee answers. -/
def FeeEnd (x : Nat × Nat) (w : World) (e : Ending) (w' : World) : Prop := e = .returned (.tuple #[.int .u64 (x.1 : Int), .int .i64 (x.2 : Int)]) ∧ Below w.heap.size w w'

set_option maxHeartbeats 1000000 in
theorem fee_neg (x : Int) (r : Nat) (w : World) (hx : x < 0) : Calls Tryd.prog 18 #[.int .i64 x, .int .u64 (r : Int)] w (FeeEnd (0, 1) w) := by
  go_enter Tryd.func18, Tryd.ntmps18
  go_wp2
  go_ret2
  exact ⟨rfl, Below.refl _ _⟩
set_option maxHeartbeats 1000000 in
theorem refFee_neg (x : Int) (r : Nat) (w : World) (hx : x < 0) : Calls Tryd.prog 19 #[.int .i64 x, .int .u64 (r : Int)] w (FeeEnd (0, 1) w) := by
  go_enter Tryd.func19, Tryd.ntmps19
  go_wp2
  go_ret2
  exact ⟨rfl, Below.refl _ _⟩

set_option maxHeartbeats 1000000 in
theorem fee_pos (W r : Nat) (w : World) (hW : W < 9223372036854775808) (hr : r < 18446744073709551616) : Calls Tryd.prog 18 #[.int .i64 (W : Int), .int .u64 (r : Int)] w (FeeEnd (feeV ((W + 3) / 4) r) w) := by
  obtain ⟨E, hE⟩ : ∃ E, E = FeeEnd (feeV ((W + 3) / 4) r) w := ⟨_, rfl⟩
  rw [← hE]
  have HE := Lib.hid hE
  clear hE
  have hw1 : IntKind.u64.wrap (W : Int) = (W : Int) := by rw [IntKind.wrap_u64]; omega
  have hw2 : IntKind.u64.wrap ((W : Int) + 3) = (W : Int) + 3 := by rw [IntKind.wrap_u64]; omega
  have hneg : ¬ (W : Int) < 0 := by omega
  go_enter Tryd.func18, Tryd.ntmps18
  go_wp2_with fail
  refine (check_any r _).mono ?_
  rintro e w1 ⟨rfl, rfl⟩
  by_cases h1 : 2100000000000000 < r
  · have HF := Lib.hid (feeV_bad (p := (W + 3) / 4) (.inl h1))
    rw [if_pos h1]
    go_wp2
    rw [HE.out, HF.out]
    exact ⟨rfl, Below.refl _ _⟩
  · rw [if_neg h1]
    by_cases h0 : r = 0
    · subst h0
      have HF : Hid (feeV ((W + 3) / 4) 0 = (0, 0)) := feeV_ok (by omega)
      go_wp2
      rw [HE.out, HF.out]
      exact ⟨rfl, Below.refl _ _⟩
    · have h0' : (0 : Int) < (r : Int) := by omega
      have h0'' : ¬ (r : Int) = 0 := by omega
      by_cases h2 : 2100000000000000 / r < (W + 3) / 4
      · have HF := Lib.hid (feeV_bad (p := (W + 3) / 4) (r := r) (.inr ⟨by omega, h2⟩))
        have h2' : (2100000000000000 : Int) / (r : Int) < ((W : Int) + 3) / 4 := by
          have : ((2100000000000000 / r : Nat) : Int) < (((W + 3) / 4 : Nat) : Int) := by exact_mod_cast h2
          simpa using this
        clear h2
        go_wp2
        rw [HE.out, HF.out]
        exact ⟨rfl, Below.refl _ _⟩
      · have hok : ¬ (2100000000000000 < r ∨ (0 < r ∧ 2100000000000000 / r < (W + 3) / 4)) := by rintro (h | h); exact h1 h; exact h2 h.2
        have HF := Lib.hid (feeV_ok hok)
        have hle := fee_le (p := (W + 3) / 4) (r := r) (fun h => h2 h.2)
        have HV : Hid (((W : Int) + 3) / 4 * (r : Int) = (((W + 3) / 4 * r : Nat) : Int)) := by show _ = _; push_cast; rfl
        have h2' : ¬ (2100000000000000 : Int) / (r : Int) < ((W : Int) + 3) / 4 := by
          intro h
          apply h2
          have : ((2100000000000000 / r : Nat) : Int) < (((W + 3) / 4 : Nat) : Int) := by simpa using h
          exact_mod_cast this
        have hw3 : IntKind.u64.wrap (((W : Int) + 3) / 4 * (r : Int)) = ((W : Int) + 3) / 4 * (r : Int) := by rw [HV.out, IntKind.wrap_u64]; omega
        clear h2 hok hle
        go_wp2
        rw [HE.out, HF.out]
        exact ⟨by show _ = Ending.returned (.tuple #[.int .u64 (((W + 3) / 4 * r : Nat) : Int), .int .i64 ((0 : Nat) : Int)]); rw [← HV.out]; rfl, Below.refl _ _⟩

set_option maxHeartbeats 1000000 in
theorem refFee_pos (W r : Nat) (w : World) (hW : W < 9223372036854775808) (hr : r < 18446744073709551616) : Calls Tryd.prog 19 #[.int .i64 (W : Int), .int .u64 (r : Int)] w (FeeEnd (feeV ((W + 3) / 4) r) w) := by
  obtain ⟨E, hE⟩ : ∃ E, E = FeeEnd (feeV ((W + 3) / 4) r) w := ⟨_, rfl⟩
  rw [← hE]
  have HE := Lib.hid hE
  clear hE
  obtain ⟨p, hp⟩ : ∃ p, p = (W + 3) / 4 := ⟨_, rfl⟩
  rw [← hp] at HE
  have hw1 : IntKind.u64.wrap (W : Int) = (W : Int) := by rw [IntKind.wrap_u64]; omega
  have hneg : ¬ (W : Int) < 0 := by omega
  by_cases hrem : W % 4 = 0
  · 
    have hrem' : ¬ (0 : Int) < (W : Int) % 4 := by omega
    have HP : Hid ((W : Int) / 4 = (p : Int)) := by show _ = _; omega
    clear hp hrem
    by_cases h1 : 2100000000000000 < r
    · have HF := Lib.hid (feeV_bad (p := p) (.inl h1))
      have h1' : (2100000000000000 : Int) < (r : Int) := by omega
      go_enter Tryd.func19, Tryd.ntmps19
      go_wp2
      rw [HE.out, HF.out]
      exact ⟨rfl, Below.refl _ _⟩
    have h1' : ¬ (2100000000000000 : Int) < (r : Int) := by omega
    by_cases h0 : r = 0
    · subst h0
      have HF : Hid (feeV p 0 = (0, 0)) := feeV_ok (by omega)
      go_enter Tryd.func19, Tryd.ntmps19
      go_wp2
      rw [HE.out, HF.out]
      exact ⟨rfl, Below.refl _ _⟩
    have h0' : (0 : Int) < (r : Int) := by omega
    have h0'' : ¬ (r : Int) = 0 := by omega
    by_cases h2 : 2100000000000000 / r < p
    · have HF := Lib.hid (feeV_bad (p := p) (r := r) (.inr ⟨by omega, h2⟩))
      have h2' : (2100000000000000 : Int) / (r : Int) < (W : Int) / 4 := by
        have : ((2100000000000000 / r : Nat) : Int) < (p : Int) := by exact_mod_cast h2
        rw [HP.out]
        simpa using this
      clear h2
      go_enter Tryd.func19, Tryd.ntmps19
      go_wp2
      rw [HE.out, HF.out]
      exact ⟨rfl, Below.refl _ _⟩
    have hok : ¬ (2100000000000000 < r ∨ (0 < r ∧ 2100000000000000 / r < p)) := by rintro (h | h); exact h1 h; exact h2 h.2
    have HF := Lib.hid (feeV_ok hok)
    have hle := fee_le (p := p) (r := r) (fun h => h2 h.2)
    have HV : Hid (((W : Int) / 4) * (r : Int) = ((p * r : Nat) : Int)) := by show _ = _; rw [HP.out]; push_cast; rfl
    have h2' : ¬ (2100000000000000 : Int) / (r : Int) < (W : Int) / 4 := by
      intro h
      apply h2
      rw [HP.out] at h
      have : ((2100000000000000 / r : Nat) : Int) < (p : Int) := by simpa using h
      exact_mod_cast this
    have hw3 : IntKind.u64.wrap (((W : Int) / 4) * (r : Int)) = ((W : Int) / 4) * (r : Int) := by rw [HV.out, IntKind.wrap_u64]; omega
    clear h2 hok hle
    go_enter Tryd.func19, Tryd.ntmps19
    go_wp2
    rw [HE.out, HF.out]
    exact ⟨by show _ = Ending.returned (.tuple #[.int .u64 ((p * r : Nat) : Int), .int .i64 ((0 : Nat) : Int)]); rw [← HV.out]; rfl, Below.refl _ _⟩
  · 
    have hrem' : (0 : Int) < (W : Int) % 4 := by omega
    have hw2 : IntKind.u64.wrap ((W : Int) / 4 + 1) = (W : Int) / 4 + 1 := by rw [IntKind.wrap_u64]; omega
    have HP : Hid ((W : Int) / 4 + 1 = (p : Int)) := by show _ = _; omega
    clear hp hrem
    by_cases h1 : 2100000000000000 < r
    · have HF := Lib.hid (feeV_bad (p := p) (.inl h1))
      have h1' : (2100000000000000 : Int) < (r : Int) := by omega
      go_enter Tryd.func19, Tryd.ntmps19
      go_wp2
      rw [HE.out, HF.out]
      exact ⟨rfl, Below.refl _ _⟩
    have h1' : ¬ (2100000000000000 : Int) < (r : Int) := by omega
    by_cases h0 : r = 0
    · subst h0
      have HF : Hid (feeV p 0 = (0, 0)) := feeV_ok (by omega)
      go_enter Tryd.func19, Tryd.ntmps19
      go_wp2
      rw [HE.out, HF.out]
      exact ⟨rfl, Below.refl _ _⟩
    have h0' : (0 : Int) < (r : Int) := by omega
    have h0'' : ¬ (r : Int) = 0 := by omega
    by_cases h2 : 2100000000000000 / r < p
    · have HF := Lib.hid (feeV_bad (p := p) (r := r) (.inr ⟨by omega, h2⟩))
      have h2' : (2100000000000000 : Int) / (r : Int) < (W : Int) / 4 + 1 := by
        have : ((2100000000000000 / r : Nat) : Int) < (p : Int) := by exact_mod_cast h2
        rw [HP.out]
        simpa using this
      clear h2
      go_enter Tryd.func19, Tryd.ntmps19
      go_wp2
      rw [HE.out, HF.out]
      exact ⟨rfl, Below.refl _ _⟩
    have hok : ¬ (2100000000000000 < r ∨ (0 < r ∧ 2100000000000000 / r < p)) := by rintro (h | h); exact h1 h; exact h2 h.2
    have HF := Lib.hid (feeV_ok hok)
    have hle := fee_le (p := p) (r := r) (fun h => h2 h.2)
    have HV : Hid (((W : Int) / 4 + 1) * (r : Int) = ((p * r : Nat) : Int)) := by show _ = _; rw [HP.out]; push_cast; rfl
    have h2' : ¬ (2100000000000000 : Int) / (r : Int) < (W : Int) / 4 + 1 := by
      intro h
      apply h2
      rw [HP.out] at h
      have : ((2100000000000000 / r : Nat) : Int) < (p : Int) := by simpa using h
      exact_mod_cast this
    have hw3 : IntKind.u64.wrap (((W : Int) / 4 + 1) * (r : Int)) = ((W : Int) / 4 + 1) * (r : Int) := by rw [HV.out, IntKind.wrap_u64]; omega
    clear h2 hok hle
    go_enter Tryd.func19, Tryd.ntmps19
    go_wp2
    rw [HE.out, HF.out]
    exact ⟨by show _ = Ending.returned (.tuple #[.int .u64 ((p * r : Nat) : Int), .int .i64 ((0 : Nat) : Int)]); rw [← HV.out]; rfl, Below.refl _ _⟩

end Go.Proofs.YtpnghjfcfeaemaaDoor
