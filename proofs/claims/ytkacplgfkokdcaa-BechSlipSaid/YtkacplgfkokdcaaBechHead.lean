/-
  The walks over what a head and data may be, over the letters' numbers.
-/
import Derived.Test.YtkacplgfkokdcaaBechStep
import Derived.Test.YtkacplgfkokdcaaRefBits
import Derived.Test.YtkacplgfkokdcaaBechWord
set_option linter.unusedVariables false
namespace Go.Proofs.Ytkacplgfkokdcaa
open Go.RowKit

theorem ret_bool {a b : Bool} (h : a = b) : Ending.returned (.bool a) = .returned (.bool b) := by rw [h]

theorem all_more {p : UInt8 → Bool} {l : List UInt8} {k : Nat} (hk : k < l.length) (h : (l.take k).all p = true) (hp : p l[k] = true) : (l.take (k + 1)).all p = true := by
  rw [List.take_succ_eq_append_getElem hk]
  rw [List.all_append, h]
  simp [hp]
theorem all_not {p : UInt8 → Bool} {l : List UInt8} {k : Nat} (hk : k < l.length) (hp : p l[k] = false) : l.all p = false := by
  rw [List.all_eq_false]
  exact ⟨l[k], List.getElem_mem _, by rw [hp]; simp⟩

set_option maxHeartbeats 1000000 in
theorem isHead_any (s : ByteArray) (w : World) (hs : s.size ≤ 1000000) :
    Calls Try.prog 29 #[.string s] w fun e w' => e = .returned (.bool (headOk s.data.toList)) ∧ Below w.heap.size w w' := by
  have hlen := size_list s
  have HL := Lib.hid hlen
  obtain ⟨r, hr⟩ : ∃ r, r = headOk s.data.toList := ⟨_, rfl⟩
  rw [← hr]
  have HR := Lib.hid hr
  clear hr hlen
  go_enter Try.func29, Try.ntmps29
  go_wp2
  go_loopw [6] (fun i wr => ∃ k : Nat, k ≤ s.size ∧ i = .int .i64 k ∧ Hid ((s.data.toList.take k).all isLow = true) ∧ Below w.heap.size w wr) (fun i _ => s.size - (intOf i).toNat)
  case atStart => exact ⟨0, by omega, rfl, rfl, Below.refl _ _⟩
  case round =>
    obtain ⟨k, hk, rfl, hA, hb⟩ := hrel
    by_cases hlt : k < s.size
    · have hkl : k < s.data.toList.length := by rw [← HL.out]; exact hlt
      have hg := get_list s k hlt
      obtain ⟨m, hm⟩ : ∃ m : Nat, s[k].toNat = m := ⟨_, rfl⟩
      have HM : Hid ((s.data.toList[k]'hkl).toNat = m) := by
        show (s.data.toList[k]'hkl).toNat = m
        rw [← hg]; exact hm
      clear hg
      by_cases h1 : m < 97
      · have h1' : (m : Int) < 97 := by omega
        go_wp2
        go_ret
        refine ⟨ret_bool ?_, hb⟩
        rw [HR.out]
        unfold headOk
        rw [all_not hkl (by unfold isLow; rw [HM.out]; simp; omega)]
        rfl
      · have h1' : ¬ (m : Int) < 97 := by omega
        by_cases h2 : 122 < m
        · have h2' : (122 : Int) < (m : Int) := by omega
          go_wp2
          go_ret
          refine ⟨ret_bool ?_, hb⟩
          rw [HR.out]
          unfold headOk
          rw [all_not hkl (by unfold isLow; rw [HM.out]; simp; omega)]
          rfl
        · have h2' : ¬ (122 : Int) < (m : Int) := by omega
          have HN := Lib.hid (all_more hkl hA.out (by unfold isLow; rw [HM.out]; simp; omega))
          go_wp2
          go_roundw
          case rel => exact ⟨k + 1, by omega, by go_num, HN, hb⟩
          case measure => simp [intOf]; omega
    · have HF : Hid (s.data.toList.all isLow = true) := by
        have := hA.out
        rw [List.take_of_length_le (by rw [← HL.out]; omega)] at this
        exact this
      clear hA
      by_cases h0 : s.size = 0
      · have he := empty_of_size h0
        go_wp2
        go_ret
        refine ⟨ret_bool ?_, hb⟩
        rw [HR.out]
        unfold headOk
        rw [HF.out, ← HL.out, h0]
        rfl
      · have he := nonempty_of_size (s := s) (by omega)
        by_cases h20 : s.size ≤ 20
        · have h20' : (s.size : Int) ≤ 20 := by omega
          go_wp2
          go_ret
          refine ⟨ret_bool ?_, hb⟩
          rw [HR.out]
          unfold headOk
          rw [HF.out, ← HL.out]
          simp
          omega
        · have h20' : ¬ (s.size : Int) ≤ 20 := by omega
          go_wp2
          go_ret
          refine ⟨ret_bool ?_, hb⟩
          rw [HR.out]
          unfold headOk
          rw [HF.out, ← HL.out]
          simp
          omega

set_option maxHeartbeats 1000000 in
theorem isData_any (A : Option Addr) (n c : Nat) (bs : List UInt8) (w : World) (h : RdB w w.heap.size A n bs) (hn : n ≤ 1000000) :
    Calls Try.prog 33 #[.slice A n c] w fun e w' => e = .returned (.bool (dataOk bs)) ∧ Below w.heap.size w w' := by
  have HL := Lib.hid h.len
  have H := Lib.hid h
  obtain ⟨r, hr⟩ : ∃ r, r = dataOk bs := ⟨_, rfl⟩
  rw [← hr]
  have HR := Lib.hid hr
  clear hr h
  go_enter Try.func33, Try.ntmps33
  go_wp2
  go_loopw [7] (fun i wr => ∃ k : Nat, k ≤ n ∧ i = .int .i64 k ∧ Hid ((bs.take k).all smallB = true) ∧ Below w.heap.size w wr) (fun i _ => n - (intOf i).toNat)
  case atStart => exact ⟨0, by omega, rfl, rfl, Below.refl _ _⟩
  case round =>
    obtain ⟨k, hk, rfl, hA, hb⟩ := hrel
    by_cases hlt : k < n
    · have hkl : k < bs.length := by rw [HL.out]; exact hlt
      obtain ⟨ad, rfl, hadlt, hcell⟩ := (RdB.below H.out hb).at_ hlt
      obtain ⟨m, hm⟩ : ∃ m : Nat, (bs[k]'hkl).toNat = m := ⟨_, rfl⟩
      rw [hm] at hcell
      have HM := Lib.hid hm
      clear hm
      by_cases h1 : 31 < m
      · have h1' : (31 : Int) < (m : Int) := by omega
        go_wp2
        go_ret
        refine ⟨ret_bool ?_, hb⟩
        rw [HR.out]
        unfold dataOk
        rw [all_not hkl (by unfold smallB; rw [HM.out]; simp; omega)]
        rfl
      · have h1' : ¬ (31 : Int) < (m : Int) := by omega
        have HN := Lib.hid (all_more hkl hA.out (by unfold smallB; rw [HM.out]; simp; omega))
        go_wp2
        go_roundw
        case rel => exact ⟨k + 1, by omega, by go_num, HN, hb⟩
        case measure => simp [intOf]; omega
    · have HF : Hid (bs.all smallB = true) := by
        have := hA.out
        rw [List.take_of_length_le (by rw [HL.out]; omega)] at this
        exact this
      clear hA
      by_cases h80 : n ≤ 80
      · have h80' : (n : Int) ≤ 80 := by omega
        go_wp2
        go_ret
        refine ⟨ret_bool ?_, hb⟩
        rw [HR.out]
        unfold dataOk
        rw [HF.out, HL.out]
        simp
        omega
      · have h80' : ¬ (n : Int) ≤ 80 := by omega
        go_wp2
        go_ret
        refine ⟨ret_bool ?_, hb⟩
        rw [HR.out]
        unfold dataOk
        rw [HF.out, HL.out]
        simp
        omega

end Go.Proofs.Ytkacplgfkokdcaa
