/-
  The walks over the reference's bit, packed, Spread and Gather.
-/
import Derived.Test.YtkacplgfkokdcaaSpread
set_option linter.unusedVariables false
namespace Go.Proofs.Ytkacplgfkokdcaa
open Go.RowKit

theorem bitAt_some {e : Nat} {l : List UInt8} {i k p : Nat} (h1 : i / e = k) (h2 : i % e = p) (hk : k < l.length) : bitAt e l i = l[k].toNat / 2 ^ (e - 1 - p) % 2 := by
  unfold bitAt
  rw [h1, h2, List.getElem?_eq_getElem hk]

theorem bitAt_none {e : Nat} {l : List UInt8} {i k : Nat} (h1 : i / e = k) (hk : l.length ≤ k) : bitAt e l i = 0 := by
  unfold bitAt
  rw [h1, List.getElem?_eq_none hk]

set_option maxHeartbeats 1000000 in
theorem bit_five (A : Option Addr) (n cap : Nat) (bs : List UInt8) (i : Nat) (w : World) (h : RdB w w.heap.size A n bs) (hi : i ≤ 100000000) (hn : n ≤ 1000000) :
    Calls Try.prog 42 #[.slice A n cap, .int .i64 5, .int .i64 (i : Int)] w fun e w' => e = .returned (.int .u8 (bitAt 5 bs i : Nat)) ∧ Below w.heap.size w w' := by
  have HL := Lib.hid h.len
  have H := Lib.hid h
  clear h
  obtain ⟨r, hr⟩ : ∃ r, r = bitAt 5 bs i := ⟨_, rfl⟩
  rw [← hr]
  obtain ⟨k, hk⟩ : ∃ k, i / 5 = k := ⟨_, rfl⟩
  obtain ⟨p, hp⟩ : ∃ p, i % 5 = p := ⟨_, rfl⟩
  have hki : (i : Int) / 5 = (k : Int) := by omega
  have hpi : (i : Int) % 5 = (p : Int) := by omega
  have hp5 : p < 5 := by omega
  by_cases hlt : k < n
  · have HR : Hid (r = (bs[k]'(by rw [HL.out]; exact hlt)).toNat / 2 ^ (5 - 1 - p) % 2) := hr.trans (bitAt_some hk hp (by rw [HL.out]; exact hlt))
    obtain ⟨ad, rfl, hadlt, hcell⟩ := H.out.at_ hlt
    obtain ⟨m, hm⟩ : ∃ m : Nat, (bs[k]'(by rw [HL.out]; exact hlt)).toNat = m := ⟨_, rfl⟩
    have hm1 : m < 256 := by rw [← hm]; exact UInt8.toNat_lt _
    rw [hm] at hcell
    rw [hm] at HR
    have hkn : (k : Int) < (n : Int) := by omega
    have hw1 : IntKind.i64.wrap (k : Int) = (k : Int) := IntWalk.i64_in _ (by omega)
    have hw2 : (i : Int).tmod 5 = (p : Int) := by rw [Int.tmod_eq_emod_of_nonneg (by omega)]; exact hpi
    clear hr hk hp hm
    rcases (show p = 0 ∨ p = 1 ∨ p = 2 ∨ p = 3 ∨ p = 4 by omega) with rfl | rfl | rfl | rfl | rfl
    · go_enter Try.func42, Try.ntmps42
      go_wp2_with fail
      go_quiet (fail)
      go_wp2
      go_ret
      exact ⟨ret_int (by rw [HR.out]; simp), below_drewN (Below.refl _ _) _⟩
    · go_enter Try.func42, Try.ntmps42
      go_wp2_with fail
      go_quiet (fail)
      go_wp2
      go_ret
      exact ⟨ret_int (by rw [HR.out]; simp), below_drewN (Below.refl _ _) _⟩
    · go_enter Try.func42, Try.ntmps42
      go_wp2_with fail
      go_quiet (fail)
      go_wp2
      go_ret
      exact ⟨ret_int (by rw [HR.out]; simp), below_drewN (Below.refl _ _) _⟩
    · go_enter Try.func42, Try.ntmps42
      go_wp2_with fail
      go_quiet (fail)
      go_wp2
      go_ret
      exact ⟨ret_int (by rw [HR.out]; simp), below_drewN (Below.refl _ _) _⟩
    · go_enter Try.func42, Try.ntmps42
      go_wp2_with fail
      go_quiet (fail)
      go_wp2
      go_ret
      exact ⟨ret_int (by rw [HR.out]; simp), below_drewN (Below.refl _ _) _⟩
  · have HR := Lib.hid (hr.trans (bitAt_none hk (by rw [HL.out]; omega)))
    clear hr hk hp
    go_enter Try.func42, Try.ntmps42
    go_wp2
    go_ret
    exact ⟨ret_int (by rw [HR.out]; rfl), Below.refl _ _⟩

set_option maxHeartbeats 1000000 in
theorem bit_eight (A : Option Addr) (n cap : Nat) (bs : List UInt8) (i : Nat) (w : World) (h : RdB w w.heap.size A n bs) (hi : i ≤ 100000000) (hn : n ≤ 1000000) :
    Calls Try.prog 42 #[.slice A n cap, .int .i64 8, .int .i64 (i : Int)] w fun e w' => e = .returned (.int .u8 (bitAt 8 bs i : Nat)) ∧ Below w.heap.size w w' := by
  have HL := Lib.hid h.len
  have H := Lib.hid h
  clear h
  obtain ⟨r, hr⟩ : ∃ r, r = bitAt 8 bs i := ⟨_, rfl⟩
  rw [← hr]
  obtain ⟨k, hk⟩ : ∃ k, i / 8 = k := ⟨_, rfl⟩
  obtain ⟨p, hp⟩ : ∃ p, i % 8 = p := ⟨_, rfl⟩
  have hki : (i : Int) / 8 = (k : Int) := by omega
  have hpi : (i : Int) % 8 = (p : Int) := by omega
  have hp5 : p < 8 := by omega
  by_cases hlt : k < n
  · have HR : Hid (r = (bs[k]'(by rw [HL.out]; exact hlt)).toNat / 2 ^ (8 - 1 - p) % 2) := hr.trans (bitAt_some hk hp (by rw [HL.out]; exact hlt))
    obtain ⟨ad, rfl, hadlt, hcell⟩ := H.out.at_ hlt
    obtain ⟨m, hm⟩ : ∃ m : Nat, (bs[k]'(by rw [HL.out]; exact hlt)).toNat = m := ⟨_, rfl⟩
    have hm1 : m < 256 := by rw [← hm]; exact UInt8.toNat_lt _
    rw [hm] at hcell
    rw [hm] at HR
    have hkn : (k : Int) < (n : Int) := by omega
    have hw1 : IntKind.i64.wrap (k : Int) = (k : Int) := IntWalk.i64_in _ (by omega)
    have hw2 : (i : Int).tmod 8 = (p : Int) := by rw [Int.tmod_eq_emod_of_nonneg (by omega)]; exact hpi
    clear hr hk hp hm
    rcases (show p = 0 ∨ p = 1 ∨ p = 2 ∨ p = 3 ∨ p = 4 ∨ p = 5 ∨ p = 6 ∨ p = 7 by omega) with rfl | rfl | rfl | rfl | rfl | rfl | rfl | rfl
    · go_enter Try.func42, Try.ntmps42
      go_wp2_with fail
      go_quiet (fail)
      go_wp2
      go_ret
      exact ⟨ret_int (by rw [HR.out]; simp), below_drewN (Below.refl _ _) _⟩
    · go_enter Try.func42, Try.ntmps42
      go_wp2_with fail
      go_quiet (fail)
      go_wp2
      go_ret
      exact ⟨ret_int (by rw [HR.out]; simp), below_drewN (Below.refl _ _) _⟩
    · go_enter Try.func42, Try.ntmps42
      go_wp2_with fail
      go_quiet (fail)
      go_wp2
      go_ret
      exact ⟨ret_int (by rw [HR.out]; simp), below_drewN (Below.refl _ _) _⟩
    · go_enter Try.func42, Try.ntmps42
      go_wp2_with fail
      go_quiet (fail)
      go_wp2
      go_ret
      exact ⟨ret_int (by rw [HR.out]; simp), below_drewN (Below.refl _ _) _⟩
    · go_enter Try.func42, Try.ntmps42
      go_wp2_with fail
      go_quiet (fail)
      go_wp2
      go_ret
      exact ⟨ret_int (by rw [HR.out]; simp), below_drewN (Below.refl _ _) _⟩
    · go_enter Try.func42, Try.ntmps42
      go_wp2_with fail
      go_quiet (fail)
      go_wp2
      go_ret
      exact ⟨ret_int (by rw [HR.out]; simp), below_drewN (Below.refl _ _) _⟩
    · go_enter Try.func42, Try.ntmps42
      go_wp2_with fail
      go_quiet (fail)
      go_wp2
      go_ret
      exact ⟨ret_int (by rw [HR.out]; simp), below_drewN (Below.refl _ _) _⟩
    · go_enter Try.func42, Try.ntmps42
      go_wp2_with fail
      go_quiet (fail)
      go_wp2
      go_ret
      exact ⟨ret_int (by rw [HR.out]; simp), below_drewN (Below.refl _ _) _⟩
  · have HR := Lib.hid (hr.trans (bitAt_none hk (by rw [HL.out]; omega)))
    clear hr hk hp
    go_enter Try.func42, Try.ntmps42
    go_wp2
    go_ret
    exact ⟨ret_int (by rw [HR.out]; rfl), Below.refl _ _⟩

/-- bit, at five or eight bits. -/
theorem bit_any (A : Option Addr) (n cap e : Nat) (bs : List UInt8) (i : Nat) (w : World) (h : RdB w w.heap.size A n bs) (hi : i ≤ 100000000) (hn : n ≤ 1000000) (he : e = 5 ∨ e = 8) :
    Calls Try.prog 42 #[.slice A n cap, .int .i64 (e : Int), .int .i64 (i : Int)] w fun e' w' => e' = .returned (.int .u8 (bitAt e bs i : Nat)) ∧ Below w.heap.size w w' := by
  rcases he with rfl | rfl
  · exact bit_five A n cap bs i w h hi hn
  · exact bit_eight A n cap bs i w h hi hn

/-- What 'packed' has of one number behind k bits. -/
theorem num_step {f : Nat → Nat} (hf : ∀ i, f i ≤ 1) (a k : Nat) (hk : k < 8) : num f a (k + 1) < 256 := by
  have h1 := num_lt hf a (k + 1)
  have h2 : 2 ^ (k + 1) ≤ 2 ^ 8 := Nat.pow_le_pow_right (by omega) (by omega)
  omega

set_option maxHeartbeats 1000000 in
theorem packed_85 (A : Option Addr) (n cap many : Nat) (bs : List UInt8) (w : World) (h : RdB w w.heap.size A n bs) (hn : n ≤ 1000000) (hm : many ≤ 2000000) :
    Calls Try.prog 27 #[.slice A n cap, .int .i64 8, .int .i64 5, .int .i64 (many : Int)] w (SliceEnd (packL (bitAt 8 bs) 5 many) w) := by
  have H := Lib.hid h
  clear h
  have HF := Lib.hid (bitAt_le 8 bs)
  obtain ⟨f, hf⟩ : ∃ f, f = bitAt 8 bs := ⟨_, rfl⟩
  rw [← hf] at HF ⊢
  have HFE := Lib.hid hf
  clear hf
  have HOWN0 := Lib.hid (World.ownsRow_lit (base := w.heap.size) (e := 5) (size := 1) w #[] 0 (Nat.le_refl _) (by unfold maxLen; omega) rfl)
  have hb0 : Below w.heap.size w (w.alloc (.cells #[] 5)) := (Below.refl _ _).alloc (Nat.le_refl _) _
  go_enter Try.func27, Try.ntmps27
  go_wp2
  go_loopw [9, 10] (fun v i wr => ∃ (k : Nat) (A1 : Option Addr) (c1 : Nat), k ≤ many ∧ i = .int .i64 k ∧ v = .slice A1 k c1 ∧ Hid (wr.ownsRow w.heap.size 5 1 (.slice A1 k c1) k (Lib.byteCells (packL f 5 k))) ∧ Below w.heap.size w wr) (fun _ i _ => many - (intOf i).toNat)
  case atStart => exact ⟨0, _, _, by omega, rfl, rfl, HOWN0, hb0⟩
  case round =>
    obtain ⟨k, A1, c1, hk, rfl, rfl, hown, hb⟩ := hrel
    by_cases hlt : k < many
    · go_wp2
      go_loopw [11, 12] (fun v i wi => ∃ (j x : Nat), j ≤ 5 ∧ i = .int .i64 j ∧ v = .int .u8 (x : Int) ∧ Hid (x = num f (k * 5) j) ∧ Hid (wi.ownsRow w.heap.size 5 1 (.slice A1 k c1) k (Lib.byteCells (packL f 5 k))) ∧ Below w.heap.size w wi) (fun _ i _ => 5 - (intOf i).toNat)
      case atStart => exact ⟨0, 0, by omega, rfl, rfl, rfl, hown, hb⟩
      case round =>
        obtain ⟨j, x, hj, rfl, rfl, hx, hown2, hb2⟩ := hrel
        by_cases hlt2 : j < 5
        · have hN := num_step HF.out (k * 5) j (by omega)
          have hbt := HF.out (k * 5 + j)
          have hN' : 2 * x + f (k * 5 + j) < 256 := by rw [hx.out]; simp only [num] at hN; omega
          clear hN
          go_wp2_with fail
          rw [show ((k : Int) * 5 + (j : Int)) = ((k * 5 + j : Nat) : Int) by omega]
          refine (bit_eight A n cap bs (k * 5 + j) _ ((H.out.below hb2).more hb2.size) (by omega) hn).mono ?_
          rintro e w3 ⟨rfl, hb3⟩
          rw [← HFE.out]
          obtain ⟨y, hy⟩ : ∃ y, f (k * 5 + j) = y := ⟨_, rfl⟩
          rw [hy] at hN' hbt
          rw [hy]
          have HX : Hid (x * 2 + y = num f (k * 5) (j + 1)) := by show _ = num f (k * 5) j * 2 + f (k * 5 + j); rw [hy, hx.out]
          have HOWN3 := Lib.hid (own_below hown2.out hb3)
          clear hy hown2
          go_wp2
          go_roundw
          case rel => exact ⟨j + 1, x * 2 + y, by omega, by go_num, by go_num, HX.out, HOWN3.out, hb2.trans (hb3.mono hb2.size)⟩
          case measure => simp [intOf]; omega
        · obtain rfl : j = 5 := by omega
          have hxlt : x < 256 := by rw [hx.out]; have := num_lt HF.out (k * 5) 5; omega
          go_wp2_with (at_builtin; refine wpList_push wr _ Try.underlying22 infoByte rfl rfl _ _ rfl w.heap.size _ _ _ rfl hown2.out rfl rfl (by unfold maxLen; omega) (by omega) hb2.size ?_)
          intro A4 c4 w4 hown4 hb4
          have HOWN4 : Hid (w4.ownsRow w.heap.size 5 1 (.slice A4 (k + 1) c4) (k + 1) (Lib.byteCells (packL f 5 (k + 1)))) := by
            rw [packL_succ, Lib.byteCells_append]
            have e : Lib.byteCells [UInt8.ofNat (num f (k * 5) 5)] = [.int .u8 (x : Int)] := by rw [← hx.out]; simp [Lib.byteCells]; omega
            rw [e]
            exact hown4
          clear hown4 hown hown2
          go_wp2
          go_roundw
          case rel => exact ⟨k + 1, A4, c4, by omega, by go_num, rfl, HOWN4, hb2.trans hb4⟩
          case measure => simp [intOf]; omega
    · obtain rfl : k = many := by omega
      go_wp2
      go_ret
      exact sliceEnd_mk rfl (packL_length _ _ _) hown.out hb

set_option maxHeartbeats 1000000 in
theorem packed_58 (A : Option Addr) (n cap many : Nat) (bs : List UInt8) (w : World) (h : RdB w w.heap.size A n bs) (hn : n ≤ 1000000) (hm : many ≤ 2000000) :
    Calls Try.prog 27 #[.slice A n cap, .int .i64 5, .int .i64 8, .int .i64 (many : Int)] w (SliceEnd (packL (bitAt 5 bs) 8 many) w) := by
  have H := Lib.hid h
  clear h
  have HF := Lib.hid (bitAt_le 5 bs)
  obtain ⟨f, hf⟩ : ∃ f, f = bitAt 5 bs := ⟨_, rfl⟩
  rw [← hf] at HF ⊢
  have HFE := Lib.hid hf
  clear hf
  have HOWN0 := Lib.hid (World.ownsRow_lit (base := w.heap.size) (e := 5) (size := 1) w #[] 0 (Nat.le_refl _) (by unfold maxLen; omega) rfl)
  have hb0 : Below w.heap.size w (w.alloc (.cells #[] 5)) := (Below.refl _ _).alloc (Nat.le_refl _) _
  go_enter Try.func27, Try.ntmps27
  go_wp2
  go_loopw [9, 10] (fun v i wr => ∃ (k : Nat) (A1 : Option Addr) (c1 : Nat), k ≤ many ∧ i = .int .i64 k ∧ v = .slice A1 k c1 ∧ Hid (wr.ownsRow w.heap.size 5 1 (.slice A1 k c1) k (Lib.byteCells (packL f 8 k))) ∧ Below w.heap.size w wr) (fun _ i _ => many - (intOf i).toNat)
  case atStart => exact ⟨0, _, _, by omega, rfl, rfl, HOWN0, hb0⟩
  case round =>
    obtain ⟨k, A1, c1, hk, rfl, rfl, hown, hb⟩ := hrel
    by_cases hlt : k < many
    · go_wp2
      go_loopw [11, 12] (fun v i wi => ∃ (j x : Nat), j ≤ 8 ∧ i = .int .i64 j ∧ v = .int .u8 (x : Int) ∧ Hid (x = num f (k * 8) j) ∧ Hid (wi.ownsRow w.heap.size 5 1 (.slice A1 k c1) k (Lib.byteCells (packL f 8 k))) ∧ Below w.heap.size w wi) (fun _ i _ => 8 - (intOf i).toNat)
      case atStart => exact ⟨0, 0, by omega, rfl, rfl, rfl, hown, hb⟩
      case round =>
        obtain ⟨j, x, hj, rfl, rfl, hx, hown2, hb2⟩ := hrel
        by_cases hlt2 : j < 8
        · have hN := num_step HF.out (k * 8) j (by omega)
          have hbt := HF.out (k * 8 + j)
          have hN' : 2 * x + f (k * 8 + j) < 256 := by rw [hx.out]; simp only [num] at hN; omega
          clear hN
          go_wp2_with fail
          rw [show ((k : Int) * 8 + (j : Int)) = ((k * 8 + j : Nat) : Int) by omega]
          refine (bit_five A n cap bs (k * 8 + j) _ ((H.out.below hb2).more hb2.size) (by omega) hn).mono ?_
          rintro e w3 ⟨rfl, hb3⟩
          rw [← HFE.out]
          obtain ⟨y, hy⟩ : ∃ y, f (k * 8 + j) = y := ⟨_, rfl⟩
          rw [hy] at hN' hbt
          rw [hy]
          have HX : Hid (x * 2 + y = num f (k * 8) (j + 1)) := by show _ = num f (k * 8) j * 2 + f (k * 8 + j); rw [hy, hx.out]
          have HOWN3 := Lib.hid (own_below hown2.out hb3)
          clear hy hown2
          go_wp2
          go_roundw
          case rel => exact ⟨j + 1, x * 2 + y, by omega, by go_num, by go_num, HX.out, HOWN3.out, hb2.trans (hb3.mono hb2.size)⟩
          case measure => simp [intOf]; omega
        · obtain rfl : j = 8 := by omega
          have hxlt : x < 256 := by rw [hx.out]; have := num_lt HF.out (k * 8) 8; omega
          go_wp2_with (at_builtin; refine wpList_push wr _ Try.underlying22 infoByte rfl rfl _ _ rfl w.heap.size _ _ _ rfl hown2.out rfl rfl (by unfold maxLen; omega) (by omega) hb2.size ?_)
          intro A4 c4 w4 hown4 hb4
          have HOWN4 : Hid (w4.ownsRow w.heap.size 5 1 (.slice A4 (k + 1) c4) (k + 1) (Lib.byteCells (packL f 8 (k + 1)))) := by
            rw [packL_succ, Lib.byteCells_append]
            have e : Lib.byteCells [UInt8.ofNat (num f (k * 8) 8)] = [.int .u8 (x : Int)] := by rw [← hx.out]; simp [Lib.byteCells]; omega
            rw [e]
            exact hown4
          clear hown4 hown hown2
          go_wp2
          go_roundw
          case rel => exact ⟨k + 1, A4, c4, by omega, by go_num, rfl, HOWN4, hb2.trans hb4⟩
          case measure => simp [intOf]; omega
    · obtain rfl : k = many := by omega
      go_wp2
      go_ret
      exact sliceEnd_mk rfl (packL_length _ _ _) hown.out hb

end Go.Proofs.Ytkacplgfkokdcaa
