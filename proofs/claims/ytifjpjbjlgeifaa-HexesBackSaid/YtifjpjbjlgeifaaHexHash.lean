/-
  WALKS over the reference of hexes: names of 32 bytes, read.
-/
import Derived.Test.YtifjpjbjlgeifaaHexParse
set_option linter.unusedVariables false
namespace Go.Proofs.Ytifjpjbjlgeifaa
open Go.RowKit

set_option maxHeartbeats 1000000 in
theorem hash_any (A : Option Addr) (c : Nat) (bs : List UInt8) (w : World) (h : RdB w w.heap.size A 32 bs) :
    Calls Try.prog 22 #[.slice A 32 c] w fun e w' => e = .returned (.agg (Lib.byteCells bs).toArray) ∧ Below w.heap.size w w' := by
  have HL := Lib.hid h.len
  have H := Lib.hid h
  clear h
  have HA : Hid (Blk ((w.alloc (.cells zeroCells 30)).alloc (.cells zeroCells 30)) w.heap.size 30 (Lib.byteCells zero32).toArray) := (Blk.new w 30 zeroCells).alloc _
  have HB : Hid (Blk ((w.alloc (.cells zeroCells 30)).alloc (.cells zeroCells 30)) (w.heap.size + 1) 30 (Lib.byteCells zero32).toArray) := by
    have := Blk.new (w.alloc (.cells zeroCells 30)) 30 zeroCells
    rw [World.size_alloc] at this
    exact this
  have hb0 : Hid (Below w.heap.size w ((w.alloc (.cells zeroCells 30)).alloc (.cells zeroCells 30))) := ((Below.refl _ _).alloc (Nat.le_refl _) _).alloc (by simp) _
  go_enter Try.func22, Try.ntmps22
  go_wp2_with (refine wpList_storeB 30 _ _ rfl rfl _ rfl rfl HB.out 32 info32 rfl rfl (bytes_cells_one zero32) ?_)
  intro w1 hB1 hg1
  have HB1 := Lib.hid hB1
  have HA1 := Lib.hid (HA.out.grown hg1 (by simp))
  have hb1 : Below w.heap.size w w1 := hb0.out.grown hg1 hb0.out.size (fun k hk => by injection hk with hk; omega)
  clear hB1 hg1 HA HB hb0
  go_wp2
  go_loopw [4] (fun i wr => ∃ k : Nat, k ≤ 32 ∧ i = .int .i64 k ∧ Hid (Blk wr (w.heap.size + 1) 30 (Lib.byteCells (bs.take k ++ zero32.drop k)).toArray) ∧ Hid (Blk wr w.heap.size 30 (Lib.byteCells zero32).toArray) ∧ Below w.heap.size w wr) (fun i wr => 32 - (intOf i).toNat)
  case atStart => exact ⟨0, by omega, rfl, HB1, HA1, hb1⟩
  case round =>
    obtain ⟨k, hk, rfl, HBk, HAk, hb⟩ := hrel
    by_cases hlt : k < 32
    · obtain ⟨ad, rfl, hadlt, hcell⟩ := (H.out.below hb).at_ hlt
      have hkl : k < bs.length := by rw [HL.out]; exact hlt
      have HS := Lib.hid (bytes_set bs zero32 k hkl (by rw [HL.out]; rfl))
      obtain ⟨m, hm⟩ : ∃ m : Nat, (bs[k]'hkl).toNat = m := ⟨_, rfl⟩
      rw [hm] at hcell HS
      have hc : ∃ v, wr.cell? ⟨w.heap.size + 1, k, none⟩ = some v := ⟨_, (HBk.out.cell k).trans (Array.getElem?_eq_getElem (by simp [Lib.byteCells_length]; omega))⟩
      obtain ⟨v, hc⟩ := hc
      have hf : wr.frozen? ⟨w.heap.size + 1, k, none⟩ = false := HBk.out.frozen k
      have HBn := HBk.out.set_ k (.int .u8 (m : Int))
      rw [HS.out] at HBn
      have HBn' := Lib.hid HBn
      clear HBn hm
      go_wp2
      go_roundw
      case rel => exact ⟨k + 1, by omega, by simp, HBn', HAk.out.far (by simp) _, hb.setCell (by simp) _⟩
      case measure => simp [intOf]; omega
    · have hk32 : k = 32 := by omega
      subst hk32
      have HBf : Hid (Blk wr (w.heap.size + 1) 30 (Lib.byteCells bs).toArray) := by
        have := HBk.out
        rw [List.take_of_length_le (by rw [HL.out]; exact Nat.le_refl _), List.drop_of_length_le (by simp), List.append_nil] at this
        exact this
      clear HBk
      go_wp2_with (first
        | refine wpList_loadB 30 _ rfl rfl rfl HBf.out _ Try.underlying30 rfl 32 info32 ((bytes_size _).trans HL.out) ?_
        | refine wpList_storeB 30 _ _ rfl rfl _ rfl rfl HAk.out 32 info32 rfl ((bytes_size _).trans HL.out) (bytes_cells_one _) ?_)
      intro w4 hB4 hg4
      have hload := load32 hB4 HL.out
      have hb4 : Below w.heap.size w w4 := hb.grown hg4 hb.size (fun k hk => by injection hk with hk; omega)
      go_wp2
      try simp only [Exit.inBlock, Exit.then]
      refine bodyPost_ret (results_cellA rfl rfl hload) rfl ?_
      exact ⟨rfl, hb4⟩

set_option maxHeartbeats 1000000 in
theorem refParse_none (s : ByteArray) (w : World) (h : hexDec s.data.toList = none) (hs : s.size ≤ 1000000) :
    Calls Try.prog 14 #[.string s] w fun e w' => e = .returned (.tuple #[.agg (Lib.byteCells zero32).toArray, .int .i64 3]) ∧ Below w.heap.size w w' := by
  have H := Lib.hid h
  clear h
  have HA : Hid (Blk (w.alloc (.cells zeroCells 30)) w.heap.size 30 (Lib.byteCells zero32).toArray) := Blk.new w 30 zeroCells
  have hb0 : Below w.heap.size w (w.alloc (.cells zeroCells 30)) := (Below.refl _ _).alloc (Nat.le_refl _) _
  go_enter Try.func14, Try.ntmps14
  go_wp2_with fail
  refine (refDec_none s _ H.out (by omega)).mono ?_
  rintro e w1 ⟨rfl, hb1⟩
  have HA1 := Lib.hid (HA.out.below hb1 HA.out.lt)
  have hb01 : Below w.heap.size w w1 := hb0.trans (hb1.mono hb0.size)
  clear HA hb0 hb1
  go_wp2_with (refine wpList_storeB 30 _ _ rfl rfl _ rfl rfl HA1.out 32 info32 rfl rfl (bytes_cells_one zero32) ?_)
  intro w2 hB2 hg2
  have hload := load32 (bs := zero32) hB2 rfl
  have hb2 : Below w.heap.size w w2 := hb01.grown hg2 hb01.size (fun k hk => by injection hk with hk; omega)
  go_wp2
  try simp only [Exit.inBlock, Exit.then]
  refine bodyPost_ret (results_cellB rfl rfl hload) rfl ?_
  exact ⟨rfl, hb2⟩

set_option maxHeartbeats 1000000 in
theorem refParse_other (s : ByteArray) (w : World) (l : List UInt8) (h : hexDec s.data.toList = some l) (hl : l.length ≠ 32) (hs : s.size ≤ 1000000) :
    Calls Try.prog 14 #[.string s] w fun e w' => e = .returned (.tuple #[.agg (Lib.byteCells zero32).toArray, .int .i64 3]) ∧ Below w.heap.size w w' := by
  have H := Lib.hid h
  clear h
  have hl' : ((l.length : Int) != 32) = true := by rw [bne_iff_ne]; omega
  clear hl
  have HA : Hid (Blk (w.alloc (.cells zeroCells 30)) w.heap.size 30 (Lib.byteCells zero32).toArray) := Blk.new w 30 zeroCells
  have hb0 : Below w.heap.size w (w.alloc (.cells zeroCells 30)) := (Below.refl _ _).alloc (Nat.le_refl _) _
  go_enter Try.func14, Try.ntmps14
  go_wp2_with fail
  refine (refDec_some s l _ H.out (by omega)).mono ?_
  rintro e w1 ⟨A1, c1, rfl, hr1, hb1⟩
  clear hr1
  have HA1 := Lib.hid (HA.out.below hb1 HA.out.lt)
  have hb01 : Below w.heap.size w w1 := hb0.trans (hb1.mono hb0.size)
  clear HA hb0 hb1
  go_wp2_with (refine wpList_storeB 30 _ _ rfl rfl _ rfl rfl HA1.out 32 info32 rfl rfl (bytes_cells_one zero32) ?_)
  intro w2 hB2 hg2
  have hload := load32 (bs := zero32) hB2 rfl
  have hb2 : Below w.heap.size w w2 := hb01.grown hg2 hb01.size (fun k hk => by injection hk with hk; omega)
  go_wp2
  try simp only [Exit.inBlock, Exit.then]
  refine bodyPost_ret (results_cellB rfl rfl hload) rfl ?_
  exact ⟨rfl, hb2⟩

set_option maxHeartbeats 1000000 in
theorem refParse_some (s : ByteArray) (l : List UInt8) (w : World) (h : hexDec s.data.toList = some l) (hl : l.length = 32) (hs : s.size ≤ 1000000) :
    Calls Try.prog 14 #[.string s] w fun e w' => e = .returned (.tuple #[.agg (Lib.byteCells l.reverse).toArray, .int .i64 0]) ∧ Below w.heap.size w w' := by
  have H := Lib.hid h
  have HL := Lib.hid hl
  clear h hl
  have HA : Hid (Blk (w.alloc (.cells zeroCells 30)) w.heap.size 30 (Lib.byteCells zero32).toArray) := Blk.new w 30 zeroCells
  have hb0 : Below w.heap.size w (w.alloc (.cells zeroCells 30)) := (Below.refl _ _).alloc (Nat.le_refl _) _
  go_enter Try.func14, Try.ntmps14
  go_wp2_with fail
  refine (refDec_some s l _ H.out (by omega)).mono ?_
  rintro e w1 ⟨A1, c1, rfl, hr1, hb1⟩
  rw [HL.out] at hr1 ⊢
  have HA1 := Lib.hid (HA.out.below hb1 HA.out.lt)
  have hb01 : Below w.heap.size w w1 := hb0.trans (hb1.mono hb0.size)
  have HR1 := Lib.hid hr1
  clear HA hb0 hb1 hr1
  go_wp2_with fail
  refine (turned_any _ _ _ l _ HR1.out (by omega)).mono ?_
  intro e w2 h2
  obtain ⟨A2, c2, rfl, hr2, hb2⟩ := h2
  have HA2 := Lib.hid (HA1.out.below hb2 HA1.out.lt)
  have hb02 : Below w.heap.size w w2 := hb01.trans (hb2.mono hb01.size)
  have HR2 := Lib.hid hr2
  clear HA1 HR1 hb2 hr2
  go_wp2_with fail
  refine (hash_any _ _ l.reverse _ HR2.out).mono ?_
  rintro e w3 ⟨rfl, hb3⟩
  have HA3 := Lib.hid (HA2.out.below hb3 HA2.out.lt)
  have hb03 : Below w.heap.size w w3 := hb02.trans (hb3.mono hb02.size)
  have hrl : l.reverse.length = 32 := by rw [List.length_reverse]; exact HL.out
  clear HA2 HR2 hb3
  go_wp2_with (refine wpList_storeB 30 _ _ rfl rfl _ rfl rfl HA3.out 32 info32 rfl ((bytes_size _).trans hrl) (bytes_cells_one _) ?_)
  intro w4 hB4 hg4
  have hload := load32 hB4 hrl
  have hb4 : Below w.heap.size w w4 := hb03.grown hg4 hb03.size (fun k hk => by injection hk with hk; omega)
  go_wp2
  try simp only [Exit.inBlock, Exit.then]
  refine bodyPost_ret (results_cellB rfl rfl hload) rfl ?_
  exact ⟨rfl, hb4⟩

end Go.Proofs.Ytifjpjbjlgeifaa
