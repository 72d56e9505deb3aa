/-
  WALKS over hexes: names of 32 bytes, written.
-/
import Derived.Test.YtifjpjbjlgeifaaHexRev
set_option linter.unusedVariables false
namespace Go.Proofs.Ytifjpjbjlgeifaa
open Go.RowKit

theorem info32 : (Try.prog.info? 30).map (·.size) = some 32 := by kernel_rfl

set_option maxHeartbeats 1000000 in
theorem name_any (bs : List UInt8) (w : World) (hl : bs.length = 32) :
    Calls Try.prog 15 #[.agg (Lib.byteCells bs).toArray] w fun e w' => e = .returned (.string ⟨(hexEnc bs.reverse).toArray⟩) ∧ Below w.heap.size w w' := by
  have HL := Lib.hid hl
  have HB0 := Lib.hid (Blk.new w 30 (Lib.byteCells bs).toArray)
  have hb0 : Below w.heap.size w (w.alloc (.cells (Lib.byteCells bs).toArray 30)) := (Below.refl _ _).alloc (Nat.le_refl _) _
  clear hl
  go_enter Try.func15, Try.ntmps15
  go_wp2_with fail
  refine (reverse_any w.heap.size 32 _ _ _ HB0.out (by rw [bytes_size, HL.out]) (by omega) (bytes_int bs) 32).mono ?_
  rintro e w1 ⟨rfl, hg, hB1⟩
  rw [bytes_reverse] at hB1
  have hb1 : Below w.heap.size w w1 := hb0.grown hg hb0.size (fun k hk => by injection hk with hk; omega)
  have HR := Lib.hid (hB1.rd)
  clear hB1 hg hb0
  go_wp2_with fail
  refine (encode_any _ _ _ bs.reverse _ (by have := HR.out; rwa [List.length_reverse, HL.out] at this) (by omega)).mono ?_
  rintro e w2 ⟨rfl, hb2⟩
  go_wp2
  go_ret
  exact ⟨rfl, hb1.trans (hb2.mono hb1.size)⟩

/-- A row of bytes, the last one first. -/
theorem turned_step {bs : List UInt8} {k j m : Nat} (hkj : k + j + 1 = bs.length) (hm : (bs[j]'(by omega)).toNat = m) : Lib.byteCells (bs.reverse.take k) ++ [Value.int .u8 (m : Int)] = Lib.byteCells (bs.reverse.take (k + 1)) := by
  rw [List.take_succ_eq_append_getElem (by simp; omega)]
  simp only [Lib.byteCells, List.map_append, List.map_cons, List.map_nil, List.getElem_reverse]
  congr 4
  rw [← hm]
  congr 3
  omega

/-- A slice of these bytes comes back. -/
def RowEnd (l : List UInt8) (n : Nat) (w : World) (e : Ending) (w' : World) : Prop :=
  ∃ (A' : Option Addr) (c' : Nat), e = .returned (.slice A' n c') ∧ RdB w' w'.heap.size A' n l ∧ Below w.heap.size w w'

theorem rowEnd_mk {l : List UInt8} {n : Nat} {w w' : World} {A : Option Addr} {c : Nat} (hr : RdB w' w'.heap.size A n l) (hb : Below w.heap.size w w') : RowEnd l n w (.returned (.slice A n c)) w' := ⟨A, c, rfl, hr, hb⟩

set_option maxHeartbeats 1000000 in
theorem turned_any (A : Option Addr) (n c : Nat) (bs : List UInt8) (w : World) (h : RdB w w.heap.size A n bs) (hn : n ≤ 1000000) :
    Calls Try.prog 23 #[.slice A n c] w (RowEnd bs.reverse n w) := by
  have HL := Lib.hid h.len
  have H := Lib.hid h
  clear h
  have HOWN := Lib.hid (World.ownsRow_lit (base := w.heap.size) (e := 5) (size := 1) w #[] 0 (Nat.le_refl _) (by unfold maxLen; omega) rfl)
  have hb0 : Below w.heap.size w (w.alloc (.cells #[] 5)) := (Below.refl _ _).alloc (Nat.le_refl _) _
  go_enter Try.func23, Try.ntmps23
  go_wp2
  go_loopw [3, 4] (fun v i wr => ∃ (k : Nat) (j : Int) (A1 : Option Addr) (c1 : Nat), (k : Int) + j + 1 = (n : Int) ∧ -1 ≤ j ∧ i = .int .i64 j ∧ v = .slice A1 k c1 ∧ Hid (wr.ownsRow w.heap.size 5 1 (.slice A1 k c1) k (Lib.byteCells (bs.reverse.take k))) ∧
      Below w.heap.size w wr) (fun _ i _ => (intOf i + 1).toNat)
  case atStart =>
    exact ⟨0, n - 1, _, _, by omega, by omega, rfl, rfl, HOWN, hb0⟩
  case round =>
    obtain ⟨k, jj, A1, c1, hkj, hj1, rfl, rfl, hown, hb⟩ := hrel
    by_cases hlt : 0 ≤ jj
    · obtain ⟨j, rfl⟩ : ∃ j : Nat, jj = j := ⟨jj.toNat, by omega⟩
      obtain ⟨ad, rfl, hadlt, hcell⟩ := (H.out.below hb).at_ (show j < n by omega)
      obtain ⟨m, hm⟩ : ∃ m : Nat, (bs[j]'(by rw [HL.out]; omega)).toNat = m := ⟨_, rfl⟩
      rw [hm] at hcell
      have HS := Lib.hid (turned_step (k := k) (by rw [HL.out]; omega) hm)
      have hjn : (j : Int) < (n : Int) := by omega
      have hj0 : (0 : Int) ≤ (j : Int) := by omega
      clear hm
      go_wp2_with (at_builtin; refine wpList_push wr _ Try.underlying22 infoByte rfl rfl _ _ rfl w.heap.size _ _ _ rfl hown.out rfl rfl (by unfold maxLen; omega) (by omega) hb.size ?_)
      intro A' c' w2 hown2 hb2
      rw [HS.out] at hown2
      have HOWN2 := Lib.hid hown2
      clear hown2 hown
      go_wp2
      go_roundw
      case rel => exact ⟨k + 1, (j : Int) - 1, A', c', by omega, by omega, rfl, by simp, HOWN2, hb.trans hb2⟩
      case measure => simp [intOf]
    · have hjj : jj < 0 := by omega
      have hkn : k = n := by omega
      subst hkn
      have HF : Hid (wr.ownsRow w.heap.size 5 1 (.slice A1 k c1) k (Lib.byteCells bs.reverse)) := by
        have := hown.out
        rw [List.take_of_length_le (by rw [List.length_reverse, HL.out]; omega)] at this
        exact this
      clear hown
      go_wp2
      go_ret
      exact rowEnd_mk (RdB.of_own HF.out) hb

set_option maxHeartbeats 1000000 in
theorem refName_any (bs : List UInt8) (w : World) (hl : bs.length = 32) :
    Calls Try.prog 16 #[.agg (Lib.byteCells bs).toArray] w fun e w' => e = .returned (.string ⟨(hexEnc bs.reverse).toArray⟩) ∧ Below w.heap.size w w' := by
  have HL := Lib.hid hl
  have HB0 := Lib.hid ((Blk.new w 30 (Lib.byteCells bs).toArray).rd)
  have hb0 : Below w.heap.size w (w.alloc (.cells (Lib.byteCells bs).toArray 30)) := (Below.refl _ _).alloc (Nat.le_refl _) _
  clear hl
  go_enter Try.func16, Try.ntmps16
  go_wp2_with fail
  refine (turned_any _ _ _ bs _ (by have := HB0.out; rwa [HL.out] at this) (by omega)).mono ?_
  rintro e w1 ⟨A1, c1, rfl, hr1, hb1⟩
  have HR := Lib.hid hr1
  have hb01 : Below w.heap.size w w1 := hb0.trans (hb1.mono hb0.size)
  clear hr1 hb1
  go_wp2_with fail
  refine (refEncode_any _ _ _ bs.reverse _ HR.out (by omega)).mono ?_
  rintro e w2 ⟨rfl, hb2⟩
  go_wp2
  go_ret
  exact ⟨rfl, hb01.trans (hb2.mono hb01.size)⟩

end Go.Proofs.Ytifjpjbjlgeifaa
