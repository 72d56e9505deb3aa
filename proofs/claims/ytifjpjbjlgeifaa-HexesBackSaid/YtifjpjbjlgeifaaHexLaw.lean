/-
  The walks over the laws of hexes: the live question, and HexesEncode, HexesDecode, HexesOnly: each returns true, and writes nothing that was there.
-/
import Derived.Test.YtifjpjbjlgeifaaHexDec
set_option linter.unusedVariables false
namespace Go.Proofs.Ytifjpjbjlgeifaa
open Go.RowKit

/-- Decode at a text that has bytes. -/
theorem dec_some (s : ByteArray) (l : List UInt8) (w : World) (h : hexDec s.data.toList = some l) (hs : s.size ≤ 1000000) :
    Calls Try.prog 11 #[.string s] w fun e w' => ∃ (A : Option Addr) (c : Nat), e = .returned (.tuple #[.slice A l.length c, .int .i64 0]) ∧ RdB w' w'.heap.size A l.length l ∧ Below w.heap.size w w' := by
  refine (decode_any s w hs).mono ?_
  rintro e w' ⟨hb, hm⟩
  rw [h] at hm
  obtain ⟨A, c, he, ho⟩ := hm
  exact ⟨A, c, he, RdB.of_own ho, hb⟩
theorem dec_none (s : ByteArray) (w : World) (h : hexDec s.data.toList = none) (hs : s.size ≤ 1000000) :
    Calls Try.prog 11 #[.string s] w fun e w' => e = .returned (.tuple #[.slice none 0 0, .int .i64 3]) ∧ Below w.heap.size w w' := by
  refine (decode_any s w hs).mono ?_
  rintro e w' ⟨hb, hm⟩
  rw [h] at hm
  exact ⟨hm, hb⟩
theorem refDec_some (s : ByteArray) (l : List UInt8) (w : World) (h : hexDec s.data.toList = some l) (hs : s.size ≤ 1000000) :
    Calls Try.prog 12 #[.string s] w fun e w' => ∃ (A : Option Addr) (c : Nat), e = .returned (.tuple #[.slice A l.length c, .int .i64 0]) ∧ RdB w' w'.heap.size A l.length l ∧ Below w.heap.size w w' := by
  refine (refDecode_any s w hs).mono ?_
  rintro e w' ⟨hb, hm⟩
  rw [h] at hm
  obtain ⟨A, c, he, ho⟩ := hm
  exact ⟨A, c, he, RdB.of_own ho, hb⟩
theorem refDec_none (s : ByteArray) (w : World) (h : hexDec s.data.toList = none) (hs : s.size ≤ 1000000) :
    Calls Try.prog 12 #[.string s] w fun e w' => e = .returned (.tuple #[.slice none 0 0, .int .i64 3]) ∧ Below w.heap.size w w' := by
  refine (refDecode_any s w hs).mono ?_
  rintro e w' ⟨hb, hm⟩
  rw [h] at hm
  exact ⟨hm, hb⟩

/-- 'string(b)' at this dump. -/
theorem strOf {w : World} {B n : Nat} {A : Option Addr} {bs : List UInt8} (h : RdB w B A n bs) (c : Nat) : (convert 22 9 (.slice A n c)).run Try.prog w = .ok (.string ⟨bs.toArray⟩) w :=
  h.convert c 22 5 9 Try.underlying22 Try.underlying5 Try.underlying9

set_option maxHeartbeats 1000000 in
theorem alive_any (w : World) : Calls Try.prog 8 #[] w fun e w' => e = .returned (.bool true) ∧ Below w.heap.size w w' := by
  go_enter Try.func8, Try.ntmps8
  go_wp2_with fail
  refine (dec_some ⟨#[48, 49, 97, 98]⟩ [1, 171] w (by decide) (by decide)).mono ?_
  rintro e w1 ⟨A, c, rfl, hr1, hb1⟩
  have HR1 := Lib.hid hr1
  clear hr1
  go_wp2_with fail
  refine (dec_none ⟨#[48, 65, 66, 49]⟩ w1 (by decide) (by decide)).mono ?_
  rintro e w2 ⟨rfl, hb2⟩
  have hlit : RdB (w2.alloc (.cells #[.int .u8 1, .int .u8 171] 5)) (w2.alloc (.cells #[.int .u8 1, .int .u8 171] 5)).heap.size (some ⟨w2.heap.size, 0, none⟩) 2 [1, 171] :=
    RdB.of_own (base := w2.heap.size) (e := 5) (c := 2) (World.ownsRow_lit (base := w2.heap.size) (e := 5) (size := 1) w2 #[.int .u8 1, .int .u8 171] 2 (Nat.le_refl _) (by unfold maxLen; omega) rfl)
  have HLIT := Lib.hid hlit
  clear hlit
  have hb2' : Below w2.heap.size w2 (w2.alloc (.cells #[.int .u8 1, .int .u8 171] 5)) := (Below.refl _ _).alloc (Nat.le_refl _) _
  have HR2 := Lib.hid ((HR1.out.below hb2).below' hb2' hb2.size)
  clear HR1
  go_wp2_with fail
  refine (encode_any _ _ _ _ _ HLIT.out (by decide)).mono ?_
  rintro e w3 ⟨rfl, hb3⟩
  have hc : (convert 22 9 (.slice A 2 c)).run Try.prog w3 = .ok (.string ⟨#[1, 171]⟩) w3 := strOf (HR2.out.below' hb3 (Nat.le_trans hb2.size hb2'.size)) c
  have hE : hexEnc [1, 171] = [48, 49, 97, 98] := by decide
  go_wp2
  go_ret
  exact ⟨rfl, (hb1.trans ((hb2.mono hb1.size).trans ((hb2'.mono (Nat.le_trans hb1.size hb2.size)).trans (hb3.mono (Nat.le_trans hb1.size (Nat.le_trans hb2.size hb2'.size))))))⟩

theorem byteCells_one (bs : List UInt8) : ∀ u ∈ Lib.byteCells bs, u.oneCell' = true := by
  intro u hu
  simp only [Lib.byteCells, List.mem_map] at hu
  obtain ⟨b, _, rfl⟩ := hu
  rfl

set_option maxHeartbeats 1000000 in
theorem lawEncode (A : Option Addr) (n c : Nat) (bs : List UInt8) (w : World) (h : RdB w w.heap.size A n bs) (hc : n ≤ maxLen) :
    Calls Try.prog 3 #[.slice A n c] w fun e w' => e = .returned (.bool true) ∧ Below w.heap.size w w' := by
  have H := Lib.hid h
  clear h
  by_cases hn : 300 < n
  · have hn' : (300 : Int) < (n : Int) := by omega
    go_enter Try.func3, Try.ntmps3
    go_wp2_with fail
    refine (alive_any _).mono ?_
    rintro e w1 ⟨rfl, hb1⟩
    go_wp2
    go_ret
    exact ⟨rfl, hb1⟩
  · have hn' : (n : Int) ≤ 300 := by omega
    obtain ⟨i0, hi, hz0, hz1, hz2⟩ := info_parts infoByte
    have HOWN := Lib.hid (World.ownsRow_lit (base := w.heap.size) (e := 5) (size := 1) w #[] 0 (Nat.le_refl _) (by unfold maxLen; omega) rfl)
    have hb0 : Below w.heap.size w (w.alloc (.cells #[] 5)) := (Below.refl _ _).alloc (Nat.le_refl _) _
    go_enter Try.func3, Try.ntmps3
    go_wp2_with (at_builtin; refine wpList_append_any (w.alloc (.cells #[] 5)) rfl _ _ 22 rfl w.heap.size 5 i0 (.int .u8 0) 1 1 Try.underlying22 hi hz0 hz1 hz2 rfl (by decide) _ _ _ rfl HOWN.out w.heap.size A n c (Lib.byteCells bs) rfl (H.out.below hb0) (byteCells_one bs) (by unfold maxLen; omega) (by omega) hb0.size ?_)
    intro v w1 hown hg _
    have hb1 : Below w.heap.size w w1 := hb0.grown hg hb0.size (fun k hk => by simp [Value.ownBlock] at hk; omega)
    obtain ⟨A', c', rfl⟩ : ∃ A' c', v = .slice A' n c' := by
      rcases hown.2 with ⟨hv, h0⟩ | ⟨g, cap, cur, hv, _⟩
      · subst h0; exact ⟨none, 0, hv⟩
      · exact ⟨_, _, hv⟩
    have HO := Lib.hid (RdB.of_own hown)
    clear hown hg hb0
    go_wp2_with fail
    refine (alive_any _).mono ?_
    rintro e w2 ⟨rfl, hb2⟩
    go_wp2_with fail
    refine (encode_any _ _ _ bs _ ((HO.out.below hb2).more hb2.size) (by omega)).mono ?_
    rintro e w3 ⟨rfl, hb3⟩
    have hb23 : Below w1.heap.size w1 w3 := hb2.trans (hb3.mono hb2.size)
    go_wp2_with fail
    refine (refEncode_any _ _ _ bs _ ((H.out.below (hb1.trans (hb23.mono hb1.size))).more (Nat.le_trans hb1.size hb23.size)) (by omega)).mono ?_
    rintro e w4 ⟨rfl, hb4⟩
    have hb14 : Below w1.heap.size w1 w4 := hb23.trans (hb4.mono hb23.size)
    have hb04 : Below w.heap.size w w4 := hb1.trans (hb14.mono hb1.size)
    have hc1 := strOf (HO.out.below hb14) c'
    have hc2 := strOf (H.out.below hb04) c
    go_wp2
    go_ret
    exact ⟨rfl, hb04⟩

/-- HexesDecode. -/
theorem lawDecode (s : ByteArray) (w : World) (hm : s.size ≤ maxLen) :
    Calls Try.prog 4 #[.string s] w fun e w' => e = .returned (.bool true) ∧ Below w.heap.size w w' := by
  by_cases hn : 300 < s.size
  · have hn' : (300 : Int) < (s.size : Int) := by omega
    go_enter Try.func4, Try.ntmps4
    go_wp2_with fail
    refine (alive_any _).mono ?_
    rintro e w1 ⟨rfl, hb1⟩
    go_wp2
    go_ret
    exact ⟨rfl, hb1⟩
  · have hn' : (s.size : Int) ≤ 300 := by omega
    cases hd : hexDec s.data.toList with
    | none =>
      have HD := Lib.hid hd
      clear hd
      go_enter Try.func4, Try.ntmps4
      go_wp2_with fail
      refine (dec_none s _ HD.out (by omega)).mono ?_
      rintro e w1 ⟨rfl, hb1⟩
      go_wp2_with fail
      refine (refDec_none s _ HD.out (by omega)).mono ?_
      rintro e w2 ⟨rfl, hb2⟩
      go_wp2_with fail
      refine (alive_any _).mono ?_
      rintro e w3 ⟨rfl, hb3⟩
      have hc := strOf (RdB.none_ w3 0) 0
      go_wp2
      go_ret
      exact ⟨rfl, hb1.trans ((hb2.mono hb1.size).trans (hb3.mono (Nat.le_trans hb1.size hb2.size)))⟩
    | some l =>
      have HD := Lib.hid hd
      clear hd
      go_enter Try.func4, Try.ntmps4
      go_wp2_with fail
      refine (dec_some s l _ HD.out (by omega)).mono ?_
      rintro e w1 ⟨A1, c1, rfl, hr1, hb1⟩
      have HR1 := Lib.hid hr1
      clear hr1
      go_wp2_with fail
      refine (refDec_some s l _ HD.out (by omega)).mono ?_
      rintro e w2 ⟨A2, c2, rfl, hr2, hb2⟩
      have HR2 := Lib.hid hr2
      clear hr2
      go_wp2_with fail
      refine (alive_any _).mono ?_
      rintro e w3 ⟨rfl, hb3⟩
      have hc1 := strOf ((HR1.out.below hb2).below' hb3 hb2.size) c1
      have hc2 := strOf (HR2.out.below hb3) c2
      go_wp2
      go_ret
      exact ⟨rfl, hb1.trans ((hb2.mono hb1.size).trans (hb3.mono (Nat.le_trans hb1.size hb2.size)))⟩

/-- HexesOnly. -/
theorem lawOnly (s : ByteArray) (w : World) (hm : s.size ≤ maxLen) :
    Calls Try.prog 5 #[.string s] w fun e w' => e = .returned (.bool true) ∧ Below w.heap.size w w' := by
  by_cases hn : 300 < s.size
  · have hn' : (300 : Int) < (s.size : Int) := by omega
    go_enter Try.func5, Try.ntmps5
    go_wp2_with fail
    refine (alive_any _).mono ?_
    rintro e w1 ⟨rfl, hb1⟩
    go_wp2
    go_ret
    exact ⟨rfl, hb1⟩
  · have hn' : (s.size : Int) ≤ 300 := by omega
    cases hd : hexDec s.data.toList with
    | none =>
      have HD := Lib.hid hd
      clear hd
      go_enter Try.func5, Try.ntmps5
      go_wp2_with fail
      refine (dec_none s _ HD.out (by omega)).mono ?_
      rintro e w1 ⟨rfl, hb1⟩
      go_wp2_with fail
      refine (alive_any _).mono ?_
      rintro e w3 ⟨rfl, hb3⟩
      go_wp2
      go_ret
      exact ⟨rfl, hb1.trans (hb3.mono hb1.size)⟩
    | some l =>
      have HE := Lib.hid (hexEnc_dec hd)
      have HV := Lib.hid (hexDec_length hd)
      have HS := Lib.hid (hexDec_small hd)
      have HD := Lib.hid hd
      have hev : ((s.size : Int) % 2 == 0) = true := by
        rw [beq_iff_eq]
        have := HV.out
        rw [← size_list] at this
        omega
      have HL := Lib.hid (show l.length ≤ 300 by have := HV.out; rw [← size_list] at this; omega)
      clear hd
      go_enter Try.func5, Try.ntmps5
      go_wp2_with fail
      refine (dec_some s l _ HD.out (by omega)).mono ?_
      rintro e w1 ⟨A1, c1, rfl, hr1, hb1⟩
      have HR1 := Lib.hid hr1
      clear hr1
      go_wp2_with fail
      go_loop [5] (fun i => ∃ k : Nat, k ≤ s.size ∧ i = .int .i64 k) (fun i => s.size - (intOf i).toNat)
      case atStart => exact ⟨0, by omega, rfl⟩
      case round =>
        obtain ⟨k, hk, rfl⟩ := hrel
        by_cases hlt : k < s.size
        · have hsm := HS.out s[k] (by rw [get_list s k hlt]; exact List.getElem_mem _)
          obtain ⟨m, hm⟩ : ∃ m : Nat, s[k].toNat = m := ⟨_, rfl⟩
          rw [hm] at hsm
          by_cases h1 : (65 : Int) ≤ (m : Int)
          · have h2 : (70 : Int) < (m : Int) := by omega
            go_wp2
            go_round
            case rel => exact ⟨k + 1, by omega, by go_num⟩
            case measure => simp [intOf]; omega
          · have h2 : (m : Int) < 65 := by omega
            go_wp2
            go_round
            case rel => exact ⟨k + 1, by omega, by go_num⟩
            case measure => simp [intOf]; omega
        · go_wp2_with fail
          refine (alive_any _).mono ?_
          rintro e w2 ⟨rfl, hb2⟩
          go_wp2_with fail
          refine (encode_any _ _ _ l _ ((HR1.out.below hb2).more hb2.size) (by have := HL.out; omega)).mono ?_
          rintro e w3 ⟨rfl, hb3⟩
          rw [HE.out]
          have hq : (⟨s.data.toList.toArray⟩ : ByteArray) = s := Lib.mk_data s
          rw [hq]
          go_wp2
          go_ret
          exact ⟨rfl, hb1.trans ((hb2.mono hb1.size).trans (hb3.mono (Nat.le_trans hb1.size hb2.size)))⟩

end Go.Proofs.Ytifjpjbjlgeifaa
