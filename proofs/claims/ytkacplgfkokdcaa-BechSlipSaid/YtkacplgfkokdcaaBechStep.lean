/-
  The walks over 'step', 'more' and Check of bech, and over the reference's Check.
-/
import Derived.Test.YtkacplgfkokdcaaProg
import Derived.Test.YtkacplgfkokdcaaBechPlain
import Derived.Test.YtkacplgfkokdcaaMem
import Derived.WalkKit
import Derived.WalkSpells
import Derived.Handy
import Derived.Lib.Hide
import Derived.BigQuiet
import Derived.Deep.QuietTactic
set_option linter.unusedVariables false
namespace Go.Proofs.Ytkacplgfkokdcaa
open Go.RowKit

theorem ret_int {k : IntKind} {a b : Int} (h : a = b) : Ending.returned (.int k a) = .returned (.int k b) := by rw [h]
theorem ret2_int {k : IntKind} {a b : Int} {v : Value} (h : a = b) : Ending.returned (.tuple #[.int k a, v]) = .returned (.tuple #[.int k b, v]) := by rw [h]
theorem ret_str {a b : ByteArray} (h : a = b) : Ending.returned (.string a) = .returned (.string b) := by rw [h]

theorem mask25 (c : Nat) (hc : c < 4294967296) : bits .and .u32 (c : Int) 33554431 = (c : Int) % 33554432 := by
  have h := u32_and_nat c 33554431 hc (by omega)
  rw [show ((33554431 : Nat) : Int) = 33554431 by rfl, show c &&& 33554431 = c % 33554432 from Nat.and_two_pow_sub_one_eq_mod c 25] at h
  rw [h]; omega

theorem xor0 (c v : Nat) : bits .xor .u32 ((c : Int) % 33554432 * 32) ((v : Int) % 32) = (((c % 33554432 * 32) ^^^ (v % 32) : Nat) : Int) := by
  have h := u32_xor_nat (c % 33554432 * 32) (v % 32) (by omega) (by omega)
  rw [← h]
  congr 1

theorem topBit (T k : Nat) (hT : T < 128) : bits .and .u32 ((T : Int) / 2 ^ k) 1 = ((T / 2 ^ k % 2 : Nat) : Int) := by
  have hle : T / 2 ^ k ≤ T := Nat.div_le_self _ _
  have h := u32_and_nat (T / 2 ^ k) 1 (by omega) (by omega)
  rw [nat_mask1] at h
  rw [← h]
  congr 1

set_option maxHeartbeats 400000 in
theorem step_any (c v : Nat) (w : World) (hc : c < 4294967296) (hv : v < 256) :
    Calls Try.prog 39 #[.int .u32 (c : Int), .int .u8 (v : Int)] w fun e w' => e = .returned (.int .u32 (bStep c v : Nat)) ∧ Below w.heap.size w w' := by
  obtain ⟨r, hr⟩ : ∃ r, r = bStep c v := ⟨_, rfl⟩
  rw [← hr]
  obtain ⟨c0, hc0⟩ : ∃ c0, (c % 33554432 * 32) ^^^ (v % 32) = c0 := ⟨_, rfl⟩
  have e1 := mask25 c hc
  have e2 := xor0 c v
  rw [hc0] at e2
  obtain ⟨T, hT⟩ : ∃ T, c / 33554432 = T := ⟨_, rfl⟩
  have hTi : (c : Int) / 33554432 = (T : Int) := by omega
  have hTb : T < 128 := by omega
  have hc0b : c0 < 1073741824 := by rw [← hc0]; exact xor_lt30 (by omega) (by omega)
  have HR : Hid (r = bFold T c0 5) := by rw [hr]; unfold bStep; rw [hc0, hT]; exact rfl
  clear hr hc0 hT
  go_enter Try.func39, Try.ntmps39
  go_wp2
  clear e1 e2 hTi
  go_loop [0, 18] (fun x i => ∃ (k : Nat), k ≤ 5 ∧ i = .int .i64 k ∧ x = .int .u32 (bFold T c0 k : Nat)) (fun _ i => 5 - (intOf i).toNat)
  case atStart => exact ⟨0, by omega, rfl, rfl⟩
  case round =>
    obtain ⟨k, hk, rfl, rfl⟩ := hrel
    by_cases hlt : k < 5
    · have hb := bFold_lt (t := T) hc0b k
      obtain ⟨x, hx⟩ : ∃ x, bFold T c0 k = x := ⟨_, rfl⟩
      rw [hx] at hb
      have hget : ([.int .u32 996825010, .int .u32 642813549, .int .u32 513874426, .int .u32 1027748829, .int .u32 705979059] : List Value)[k]'(by simpa using hlt) = .int .u32 (bGen k : Nat) := by
        rcases (show k = 0 ∨ k = 1 ∨ k = 2 ∨ k = 3 ∨ k = 4 by omega) with rfl | rfl | rfl | rfl | rfl <;> rfl
      have hbt := topBit T k hTb
      by_cases hbit : T / 2 ^ k % 2 = 1
      · have HN : Hid (x ^^^ bGen k = bFold T c0 (k + 1)) := by show _ = bTurn T k (bFold T c0 k); unfold bTurn; rw [if_pos hbit, hx]
        have ht : (bits .and .u32 ((T : Int) / 2 ^ k) 1 != 0) = true := by rw [hbt, hbit]; rfl
        have hxx : bits .xor .u32 (x : Int) (bGen k : Nat) = ((x ^^^ bGen k : Nat) : Int) := u32_xor_nat _ _ (by omega) (by have := bGen_lt k; omega)
        clear hbit hbt
        go_wp2
        go_roundw
        case rel => exact ⟨k + 1, by omega, by go_num, by rw [← HN.out]⟩
        case measure => simp [intOf]; omega
      · have HN : Hid (x = bFold T c0 (k + 1)) := by show _ = bTurn T k (bFold T c0 k); unfold bTurn; rw [if_neg hbit, hx]
        have ht : (bits .and .u32 ((T : Int) / 2 ^ k) 1 != 0) = false := by rw [hbt, show T / 2 ^ k % 2 = 0 by omega]; rfl
        clear hbit hbt
        go_wp2
        go_roundw
        case rel => exact ⟨k + 1, by omega, by go_num, by rw [← HN.out, hx]⟩
        case measure => simp [intOf]; omega
    · obtain rfl : k = 5 := by omega
      go_wp2
      go_ret
      exact ⟨ret_int (by rw [HR.out]), (Below.refl _ _).alloc (Nat.le_refl _) _⟩
set_option maxHeartbeats 400000 in
theorem more_any (c : Nat) (A : Option Addr) (n cap : Nat) (bs : List UInt8) (w : World) (hc : c < 1073741824) (h : RdB w w.heap.size A n bs) (hn : n ≤ 1000000) :
    Calls Try.prog 25 #[.int .u32 (c : Int), .slice A n cap] w fun e w' => e = .returned (.int .u32 (bMore c bs : Nat)) ∧ Below w.heap.size w w' := by
  obtain ⟨r, hr⟩ : ∃ r, r = bMore c bs := ⟨_, rfl⟩
  rw [← hr]
  have HR := Lib.hid hr
  have H := Lib.hid h
  clear hr h
  go_enter Try.func25, Try.ntmps25
  go_wp2
  go_loopw [0, 9] (fun x i wr => ∃ (k y : Nat), k ≤ n ∧ i = .int .i64 k ∧ x = .int .u32 (y : Int) ∧ Hid (y = bMore c (bs.take k)) ∧ y < 1073741824 ∧ Below w.heap.size w wr) (fun _ i _ => n - (intOf i).toNat)
  case atStart => exact ⟨0, c, by omega, rfl, rfl, rfl, hc, Below.refl _ _⟩
  case round =>
    obtain ⟨k, y, hk, rfl, rfl, hy, hyb, hb⟩ := hrel
    by_cases hlt : k < n
    · obtain ⟨ad, rfl, hadlt, hcell⟩ := (RdB.below H.out hb).at_ hlt
      have hm1 : (bs[k]'(by rw [H.out.len]; exact hlt)).toNat < 256 := UInt8.toNat_lt _
      obtain ⟨m, hm⟩ : ∃ m : Nat, (bs[k]'(by rw [H.out.len]; exact hlt)).toNat = m := ⟨_, rfl⟩
      rw [hm] at hcell hm1
      have HM := Lib.hid hm
      clear hm
      go_wp2_with fail
      refine (step_any y m _ (by omega) hm1).mono ?_
      rintro e w1 ⟨rfl, hb1⟩
      have HN : Hid (bStep y m = bMore c (bs.take (k + 1))) := by
        show bStep y m = _
        rw [List.take_succ_eq_append_getElem (by rw [H.out.len]; exact hlt), bMore_snoc, HM.out, hy.out]
      have hlt2 := bStep_lt y m
      go_wp2
      go_roundw
      case rel => exact ⟨k + 1, _, by omega, by go_num, rfl, HN.out, hlt2, hb.trans (hb1.mono hb.size)⟩
      case measure => simp [intOf]; omega
    · go_wp2
      go_ret
      refine ⟨ret_int ?_, hb⟩
      rw [HR.out, hy.out, List.take_of_length_le (by rw [H.out.len]; omega)]

/-- bech.Check. -/
theorem check_any (A : Option Addr) (n cap : Nat) (bs : List UInt8) (w : World) (h : RdB w w.heap.size A n bs) (hn : n ≤ 1000000) :
    Calls Try.prog 11 #[.slice A n cap] w fun e w' => e = .returned (.int .u32 (bMore 1 bs : Nat)) ∧ Below w.heap.size w w' := by
  have H := Lib.hid h
  clear h
  go_enter Try.func11, Try.ntmps11
  go_wp2_with fail
  refine (more_any 1 A n cap bs _ (by omega) H.out hn).mono ?_
  rintro e w1 ⟨rfl, hb1⟩
  go_wp2
  go_ret
  exact ⟨rfl, hb1⟩

theorem xor1 (c v : Nat) : bits .xor .u32 ((c : Int) % 33554432 * 32) ((v : Int) % 32) = (((c % 33554432 * 32) ^^^ (v % 32) : Nat) : Int) := xor0 c v

set_option maxHeartbeats 1000000 in
theorem refCheck_any (A : Option Addr) (n cap : Nat) (bs : List UInt8) (w : World) (h : RdB w w.heap.size A n bs) (hn : n ≤ 1000000) :
    Calls Try.prog 12 #[.slice A n cap] w fun e w' => e = .returned (.int .u32 (bMore 1 bs : Nat)) ∧ Below w.heap.size w w' := by
  obtain ⟨r, hr⟩ : ∃ r, r = bMore 1 bs := ⟨_, rfl⟩
  rw [← hr]
  have HR := Lib.hid hr
  have H := Lib.hid h
  clear hr h
  have hb0 : Below w.heap.size w (w.alloc (.cells #[.int .u32 996825010, .int .u32 642813549, .int .u32 513874426, .int .u32 1027748829, .int .u32 705979059] 24)) := (Below.refl _ _).alloc (Nat.le_refl _) _
  go_enter Try.func12, Try.ntmps12
  go_wp2
  go_loop [4, 5] (fun x i => ∃ (k y : Nat), k ≤ n ∧ i = .int .i64 k ∧ x = .int .u32 (y : Int) ∧ Hid (y = bMore 1 (bs.take k)) ∧ y < 1073741824) (fun _ i => n - (intOf i).toNat)
  case atStart => exact ⟨0, 1, by omega, rfl, rfl, rfl, by omega⟩
  case round =>
    obtain ⟨k, y, hk, rfl, rfl, hy, hyb⟩ := hrel
    by_cases hlt : k < n
    · obtain ⟨ad, rfl, hadlt, hcell⟩ := (RdB.below H.out hb0).at_ hlt
      have hm1 : (bs[k]'(by rw [H.out.len]; exact hlt)).toNat < 256 := UInt8.toNat_lt _
      obtain ⟨m, hm⟩ : ∃ m : Nat, (bs[k]'(by rw [H.out.len]; exact hlt)).toNat = m := ⟨_, rfl⟩
      rw [hm] at hcell hm1
      have HM := Lib.hid hm
      clear hm
      obtain ⟨c0, hc0⟩ : ∃ c0, (y % 33554432 * 32) ^^^ (m % 32) = c0 := ⟨_, rfl⟩
      have e2 := xor0 y m
      rw [hc0] at e2
      obtain ⟨T, hT⟩ : ∃ T, y / 33554432 = T := ⟨_, rfl⟩
      have hTi : (y : Int) / 33554432 = (T : Int) := by omega
      have hTb : T < 128 := by omega
      have hc0b : c0 < 1073741824 := by rw [← hc0]; exact xor_lt30 (by omega) (by omega)
      have HS : Hid (bStep y m = bFold T c0 5) := by unfold bStep; rw [hc0, hT]; exact rfl
      clear hc0 hT
      go_wp2
      clear e2 hTi
      go_loop [4, 6, 7] (fun x u i => ∃ (j z : Nat), j ≤ 5 ∧ i = .int .i64 j ∧ u = .int .u32 ((T / 2 ^ j : Nat) : Int) ∧ x = .int .u32 (z : Int) ∧ Hid (z = bFold T c0 j) ∧ z < 1073741824) (fun _ _ i => 5 - (intOf i).toNat)
      case atStart => exact ⟨0, c0, by omega, rfl, by simp, rfl, rfl, hc0b⟩
      case round =>
        obtain ⟨j, z, hj, rfl, rfl, rfl, hz, hzb⟩ := hrel
        obtain ⟨U, hU⟩ : ∃ U, T / 2 ^ j = U := ⟨_, rfl⟩
        rw [hU]
        have HU : Hid (U / 2 = T / 2 ^ (j + 1)) := by show _ = _; rw [← hU, Nat.pow_succ, Nat.div_div_eq_div_mul]
        have hUb : U < 128 := by have := Nat.div_le_self T (2 ^ j); omega
        by_cases hl5 : j < 5
        · have hget : ([.int .u32 996825010, .int .u32 642813549, .int .u32 513874426, .int .u32 1027748829, .int .u32 705979059] : List Value)[j]'(by simpa using hl5) = .int .u32 (bGen j : Nat) := by
            rcases (show j = 0 ∨ j = 1 ∨ j = 2 ∨ j = 3 ∨ j = 4 by omega) with rfl | rfl | rfl | rfl | rfl <;> rfl
          by_cases hbit : U % 2 = 1
          · have HN : Hid (z ^^^ bGen j = bFold T c0 (j + 1)) := by show _ = bTurn T j (bFold T c0 j); unfold bTurn; rw [hU, if_pos hbit, hz.out]
            have hN2 : z ^^^ bGen j < 1073741824 := xor_lt30 hzb (bGen_lt j)
            have ht : ((U : Int) % 2 == 1) = true := by rw [beq_iff_eq]; omega
            have hxx : bits .xor .u32 (z : Int) (bGen j : Nat) = ((z ^^^ bGen j : Nat) : Int) := u32_xor_nat _ _ (by omega) (by have := bGen_lt j; omega)
            clear hbit hU
            go_wp2
            go_roundw
            case rel => exact ⟨j + 1, _, by omega, by go_num, by rw [← HU.out]; go_num, rfl, HN.out, hN2⟩
            case measure => simp [intOf]; omega
          · have HN : Hid (z = bFold T c0 (j + 1)) := by show _ = bTurn T j (bFold T c0 j); unfold bTurn; rw [hU, if_neg hbit, hz.out]
            have ht : ((U : Int) % 2 == 1) = false := by rw [beq_eq_false_iff_ne]; omega
            clear hbit hU
            go_wp2
            go_roundw
            case rel => exact ⟨j + 1, _, by omega, by go_num, by rw [← HU.out]; go_num, rfl, HN.out, hzb⟩
            case measure => simp [intOf]; omega
        · obtain rfl : j = 5 := by omega
          clear hU
          have HN : Hid (z = bMore 1 (bs.take (k + 1))) := by
            show z = _
            rw [List.take_succ_eq_append_getElem (by rw [H.out.len]; exact hlt), bMore_snoc, HM.out, ← hy.out, HS.out, hz.out]
          go_wp2
          go_roundw
          case rel => exact ⟨k + 1, _, by omega, by go_num, rfl, HN.out, hzb⟩
          case measure => simp [intOf]; omega
    · go_wp2
      go_ret
      refine ⟨ret_int ?_, hb0⟩
      rw [HR.out, hy.out, List.take_of_length_le (by rw [H.out.len]; omega)]

end Go.Proofs.Ytkacplgfkokdcaa
