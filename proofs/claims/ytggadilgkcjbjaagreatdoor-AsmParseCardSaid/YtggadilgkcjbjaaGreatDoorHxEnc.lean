/-
  The walks over Encode of hexes and of its reference: the digits of bytes.
-/
import Derived.Test.YtggadilgkcjbjaaGreatDoorHxVal
import Derived.Test.YtggadilgkcjbjaaGreatDoorHxBuild
import Derived.Test.YtggadilgkcjbjaaGreatDoorShelf
import Derived.BigQuiet
import Derived.Deep.QuietTactic
set_option linter.unusedVariables false
namespace Go.Proofs.YtggadilgkcjbjaaGreatDoor
open Go.RowKit

theorem hexCells_next {bs : List UInt8} {k m : Nat} (hlt : k < bs.length) (hm1 : m < 256) (hm : bs[k].toNat = m) (p1 : m / 16 < (⟨#[48, 49, 50, 51, 52, 53, 54, 55, 56, 57, 97, 98, 99, 100, 101, 102]⟩ : ByteArray).size) (p2 : m % 16 < (⟨#[48, 49, 50, 51, 52, 53, 54, 55, 56, 57, 97, 98, 99, 100, 101, 102]⟩ : ByteArray).size) :
    Lib.byteCells (hexEnc (bs.take (k + 1))) = Lib.byteCells (hexEnc (bs.take k)) ++ [Value.int .u8 (((⟨#[48, 49, 50, 51, 52, 53, 54, 55, 56, 57, 97, 98, 99, 100, 101, 102]⟩ : ByteArray)[m / 16]).toNat : Int)] ++ [Value.int .u8 (((⟨#[48, 49, 50, 51, 52, 53, 54, 55, 56, 57, 97, 98, 99, 100, 101, 102]⟩ : ByteArray)[m % 16]).toNat : Int)] := by
  obtain ⟨_, e1⟩ := hexDigits_get (m / 16) (by omega)
  obtain ⟨_, e2⟩ := hexDigits_get (m % 16) (by omega)
  rw [e1, e2, List.take_succ_eq_append_getElem hlt, hexEnc_snoc, Lib.byteCells_append, hm, List.append_assoc]
  rfl

set_option maxHeartbeats 400000 in
theorem encode_any (A : Option Addr) (n c : Nat) (bs : List UInt8) (w : World) (h : RdB w w.heap.size A n bs) (hn : n ≤ 1000000) :
    Calls Tryz.prog 45 #[.slice A n c] w fun e w' => e = .returned (.string ⟨(hexEnc bs).toArray⟩) ∧ Below w.heap.size w w' := by
  have h0 : Lib.IsBuilder 52 5 w.heap.size w.heap.size (Lib.byteCells (hexEnc (bs.take 0))) (w.alloc (.cells #[.pointer none, .slice none 0 0] 52)) := Lib.fresh_isBuilder 52 5 w
  have b0 : Below w.heap.size w (w.alloc (.cells #[.pointer none, .slice none 0 0] 52)) := (Below.refl _ w).alloc (Nat.le_refl _) _
  have H := Lib.hid h
  have H0 := Lib.hid h0
  clear h h0
  go_enter Tryz.func45, Tryz.ntmps45
  go_wp2
  go_loopw [8] (fun i wr => ∃ k : Nat, k ≤ n ∧ i = .int .i64 k ∧ Hid (Lib.IsBuilder 52 5 w.heap.size w.heap.size (Lib.byteCells (hexEnc (bs.take k))) wr) ∧ Below w.heap.size w wr) (fun i _ => n - (intOf i).toNat)
  case atStart => exact ⟨0, Nat.zero_le _, rfl, H0, b0⟩
  case round =>
    obtain ⟨k, hk, rfl, hI, hb⟩ := hrel
    by_cases hlt : k < n
    · obtain ⟨ad, rfl, hadlt, hcell⟩ := (RdB.below H.out hb).at_ hlt
      have hm1 : (bs[k]'(by rw [H.out.len]; exact hlt)).toNat < 256 := UInt8.toNat_lt _
      obtain ⟨m, hm⟩ : ∃ m : Nat, (bs[k]'(by rw [H.out.len]; exact hlt)).toNat = m := ⟨_, rfl⟩
      rw [hm] at hcell hm1
      have HM := Lib.hid hm
      clear hm
      have e1 : 0 ≤ (m : Int) / 16 ∧ (m : Int) / 16 < 16 := by omega
      have e2 : 0 ≤ (m : Int) % 16 ∧ (m : Int) % 16 < 16 := by omega
      go_wp2_with fail
      refine (writeByte_any _ _ _ _ _ hI.out (by rw [Lib.byteCells_length, hexEnc_length, List.length_take]; omega) hb.size).mono ?_
      rintro e w1 ⟨rfl, hI1, hb1⟩
      have HI1 := Lib.hid hI1
      clear hI hI1
      go_wp2_with fail
      refine (writeByte_any _ _ _ _ _ HI1.out (by rw [List.length_append, Lib.byteCells_length, hexEnc_length, List.length_take]; simp; omega) (Nat.le_trans hb.size hb1.size)).mono ?_
      rintro e w2 ⟨rfl, hI2, hb2⟩
      have HI2 := Lib.hid hI2
      clear HI1 hI2
      go_wp2
      go_roundw
      case rel =>
        refine ⟨k + 1, by omega, by go_num, ?_, hb.trans (hb1.trans hb2)⟩
        have := HI2.out
        rw [← hexCells_next (by rw [H.out.len]; exact hlt) hm1 HM.out] at this
        exact this
      case measure => simp [intOf]; omega
    · go_wp2_with fail
      have hI' : Lib.IsBuilder 52 5 w.heap.size w.heap.size (Lib.byteCells (hexEnc bs)) wr := by
        have := hI.out
        rw [List.take_of_length_le (by rw [H.out.len]; omega)] at this
        exact this
      refine (Tryz.Builder_String_any _ _ _ _ hI' hb.size).mono ?_
      rintro e w1 ⟨rfl, hb1⟩
      go_wp2
      go_ret
      exact ⟨rfl, hb.trans hb1⟩
end Go.Proofs.YtggadilgkcjbjaaGreatDoor
