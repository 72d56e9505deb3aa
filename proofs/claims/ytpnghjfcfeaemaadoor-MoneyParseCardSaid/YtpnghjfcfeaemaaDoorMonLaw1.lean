/-
  The walks over the live question of money and over the laws MoneySum, MoneyPrint, MoneyFee.
-/
import Derived.Test.YtpnghjfcfeaemaaDoorMonParse
set_option linter.unusedVariables false
namespace Go.Proofs.YtpnghjfcfeaemaaDoor
open Go.RowKit

theorem rdq_lit (w : World) (cs : Array Value) (l : List Nat) (n : Nat) (hn : cs.size = n) (hb : cs.toList = numCells l) (hl : ∀ v ∈ l, v < 18446744073709551616) (hm : n ≤ maxLen) : RdQ (w.alloc (.cells cs 23)) (w.alloc (.cells cs 23)).heap.size (some ⟨w.heap.size, 0, none⟩) n l := by
  have h := World.ownsRow_lit (base := w.heap.size) (e := 23) (size := 1) w cs n (Nat.le_refl _) hm (by simpa using hn)
  rw [hb] at h
  exact ⟨Reads.of_own h, hl⟩

theorem print_live : printL 150000330 = [49, 46, 53, 48, 48, 48, 48, 51, 51, 48] := by
  simp [printL, Lib.decDigits]

set_option maxHeartbeats 1000000 in
theorem alive_any (w : World) (ht : Tab w) : Calls Tryd.prog 9 #[] w fun e w' => e = .returned (.bool true) ∧ Below w.heap.size w w' := by
  have H1 : Hid (parseV (⟨#[49, 46, 53]⟩ : ByteArray).data.toList = (150000000, 0)) := by show _ = _; decide
  have H2 : Hid (parseV (⟨#[48, 49, 46, 53]⟩ : ByteArray).data.toList = (0, 3)) := by show _ = _; decide
  have H3 := Lib.hid print_live
  have H4 : Hid (sumL [1, 2] = some 3) := by show _ = _; decide
  go_enter Tryd.func9, Tryd.ntmps9
  go_wp2_with fail
  refine (parse_any _ _ (by decide)).mono ?_
  rw [H1.out]
  rintro e w1 ⟨rfl, hb1⟩
  go_wp2_with fail
  refine (parse_any _ _ (by decide)).mono ?_
  rw [H2.out]
  rintro e w2 ⟨rfl, hb2⟩
  have hb02 : Below w.heap.size w w2 := hb1.trans (hb2.mono hb1.size)
  go_wp2_with fail
  refine (sum_any _ _ _ [1, 2] _ (rdq_lit w2 #[.int .u64 1, .int .u64 2] [1, 2] 2 rfl rfl (by decide) (by unfold maxLen; omega)) (by omega)).mono ?_
  rw [H4.out]
  rintro e w3 ⟨rfl, hb3⟩
  have hb03 : Below w.heap.size w w3 := hb02.trans ((((Below.refl w2.heap.size w2).alloc (Nat.le_refl _) _).trans (hb3.mono (by simp))).mono hb02.size)
  go_wp2_with fail
  refine (print_any 150000330 _ (by omega) (ht.below hb03 ht.lt)).mono ?_
  rw [H3.out]
  rintro e w4 ⟨rfl, hb4⟩
  have hb04 : Below w.heap.size w w4 := hb03.trans (hb4.mono hb03.size)
  go_wp2
  go_ret
  exact ⟨rfl, hb04⟩

set_option maxHeartbeats 1000000 in
theorem lawSum (A : Option Addr) (n c : Nat) (l : List Nat) (v : Nat) (w : World) (ht : Tab w) (h : RdQ w w.heap.size A n l) (hc : n ≤ maxLen) :
    Calls Tryd.prog 3 #[.slice A n c, .int .u64 (v : Int)] w fun e w' => e = .returned (.bool true) ∧ Below w.heap.size w w' := by
  have H := Lib.hid h
  clear h
  by_cases hn : 200 < n
  · have hn' : (200 : Int) < (n : Int) := by omega
    go_enter Tryd.func3, Tryd.ntmps3
    go_wp2_with fail
    refine (alive_any _ ht).mono ?_
    rintro e w1 ⟨rfl, hb1⟩
    go_wp2
    go_ret
    exact ⟨rfl, hb1⟩
  · have hn' : ¬ (200 : Int) < (n : Int) := by omega
    go_enter Tryd.func3, Tryd.ntmps3
    go_wp2_with fail
    refine (sum_any A n c l _ H.out (by omega)).mono ?_
    rintro e w1 ⟨rfl, hb1⟩
    go_wp2_with fail
    refine (refSum_any A n c l _ ((H.out.below hb1).more hb1.size) (by omega)).mono ?_
    rintro e w2 ⟨rfl, hb2⟩
    have hb02 : Below w.heap.size w w2 := hb1.trans (hb2.mono hb1.size)
    clear hb1 hb2
    go_wp2_with fail
    refine (alive_any _ (ht.below hb02 ht.lt)).mono ?_
    rintro e w3 ⟨rfl, hb3⟩
    have hb03 : Below w.heap.size w w3 := hb02.trans (hb3.mono hb02.size)
    go_wp2_with fail
    refine (check_any v _).mono ?_
    rintro e w4 ⟨rfl, rfl⟩
    obtain ⟨q, hq⟩ : ∃ q : Int, q = if 2100000000000000 < v then 31 else 0 := ⟨_, rfl⟩
    have HQ := Lib.hid hq
    rw [← hq]
    clear hq
    go_wp2_with fail
    refine (refCheck_any v _).mono ?_
    rw [← HQ.out]
    rintro e w5 ⟨rfl, rfl⟩
    go_wp2
    go_ret
    exact ⟨rfl, hb03⟩

set_option maxHeartbeats 1000000 in
theorem lawPrint (v : Nat) (w : World) (ht : Tab w) (hv : v < 18446744073709551616) :
    Calls Tryd.prog 4 #[.int .u64 (v : Int)] w fun e w' => e = .returned (.bool true) ∧ Below w.heap.size w w' := by
  go_enter Tryd.func4, Tryd.ntmps4
  go_wp2_with fail
  refine (alive_any _ ht).mono ?_
  rintro e w1 ⟨rfl, hb1⟩
  go_wp2_with fail
  refine (print_any v _ hv (ht.below hb1 ht.lt)).mono ?_
  rintro e w2 ⟨rfl, hb2⟩
  have hb02 : Below w.heap.size w w2 := hb1.trans (hb2.mono hb1.size)
  obtain ⟨P, hP⟩ : ∃ P : ByteArray, P = ⟨(printL v).toArray⟩ := ⟨_, rfl⟩
  have HP := Lib.hid hP
  rw [← hP]
  clear hP
  go_wp2_with fail
  refine (refPrint_any v _ hv).mono ?_
  rw [← HP.out]
  rintro e w3 ⟨rfl, hb3⟩
  have hb03 : Below w.heap.size w w3 := hb02.trans (hb3.mono hb02.size)
  go_wp2
  go_ret
  exact ⟨rfl, hb03⟩

set_option maxHeartbeats 1000000 in
theorem lawFee (x : Int) (r : Nat) (w : World) (ht : Tab w) (hx : x ≤ 9223372036854775807) (hr : r < 18446744073709551616) :
    Calls Tryd.prog 8 #[.int .i64 x, .int .u64 (r : Int)] w fun e w' => e = .returned (.bool true) ∧ Below w.heap.size w w' := by
  obtain ⟨y, h1, h2⟩ : ∃ y, (∀ w, Calls Tryd.prog 18 #[.int .i64 x, .int .u64 (r : Int)] w (FeeEnd y w)) ∧ (∀ w, Calls Tryd.prog 19 #[.int .i64 x, .int .u64 (r : Int)] w (FeeEnd y w)) := by
    by_cases h0 : x < 0
    · exact ⟨_, fun w => fee_neg x r w h0, fun w => refFee_neg x r w h0⟩
    · obtain ⟨W, rfl⟩ : ∃ W : Nat, x = W := ⟨x.toNat, by omega⟩
      exact ⟨_, fun w => fee_pos W r w (by omega) hr, fun w => refFee_pos W r w (by omega) hr⟩
  have H1 := Lib.hid h1
  have H2 := Lib.hid h2
  clear h1 h2
  go_enter Tryd.func8, Tryd.ntmps8
  go_wp2_with fail
  refine (H1.out _).mono ?_
  rintro e w1 ⟨rfl, hb1⟩
  go_wp2_with fail
  refine (H2.out _).mono ?_
  rintro e w2 ⟨rfl, hb2⟩
  have hb02 : Below w.heap.size w w2 := hb1.trans (hb2.mono hb1.size)
  go_wp2_with fail
  refine (alive_any _ (ht.below hb02 ht.lt)).mono ?_
  rintro e w3 ⟨rfl, hb3⟩
  have hb03 : Below w.heap.size w w3 := hb02.trans (hb3.mono hb02.size)
  go_wp2
  go_ret
  exact ⟨rfl, hb03⟩

end Go.Proofs.YtpnghjfcfeaemaaDoor
