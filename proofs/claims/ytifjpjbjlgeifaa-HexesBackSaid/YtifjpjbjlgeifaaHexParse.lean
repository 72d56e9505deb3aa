/-
  WALKS over hexes: names of 32 bytes, read.
-/
import Derived.Test.YtifjpjbjlgeifaaHexName
import Derived.Test.YtifjpjbjlgeifaaHexLaw
set_option linter.unusedVariables false
namespace Go.Proofs.Ytifjpjbjlgeifaa
open Go.RowKit

/-- 32 noughts. -/
abbrev zero32 : List UInt8 := List.replicate 32 0
abbrev zeroCells : Array Value := #[.int .u8 0, .int .u8 0, .int .u8 0, .int .u8 0, .int .u8 0, .int .u8 0, .int .u8 0, .int .u8 0, .int .u8 0, .int .u8 0, .int .u8 0, .int .u8 0, .int .u8 0, .int .u8 0, .int .u8 0, .int .u8 0, .int .u8 0, .int .u8 0, .int .u8 0, .int .u8 0, .int .u8 0, .int .u8 0, .int .u8 0, .int .u8 0, .int .u8 0, .int .u8 0, .int .u8 0, .int .u8 0, .int .u8 0, .int .u8 0, .int .u8 0, .int .u8 0]
theorem zeroCells_eq : zeroCells = (Lib.byteCells zero32).toArray := rfl

theorem load32 {w : World} {g : Nat} {bs : List UInt8} (h : Blk w g 30 (Lib.byteCells bs).toArray) (hl : bs.length = 32) : (loadVar 30 ⟨g, 0, none⟩).run Try.prog w = .ok (.agg (Lib.byteCells bs).toArray) w :=
  run_loadVar_row w g 30 30 _ (0, 0) _ h Try.underlying30 rfl (by rw [bytes_size, hl]; exact info32)

set_option maxHeartbeats 1000000 in
theorem parse_none (s : ByteArray) (w : World) (h : hexDec s.data.toList = none) (hs : s.size ≤ 1000000) :
    Calls Try.prog 13 #[.string s] w fun e w' => e = .returned (.tuple #[.agg (Lib.byteCells zero32).toArray, .int .i64 3]) ∧ Below w.heap.size w w' := by
  have H := Lib.hid h
  clear h
  obtain ⟨wz, hwz⟩ : ∃ wz, wz = (w.alloc (.cells zeroCells 30)).alloc (.cells zeroCells 30) := ⟨_, rfl⟩
  have HA : Hid (Blk wz w.heap.size 30 (Lib.byteCells zero32).toArray) := hwz ▸ (Blk.new w 30 zeroCells).alloc _
  have HB : Hid (Blk wz (w.heap.size + 1) 30 (Lib.byteCells zero32).toArray) := by
    have := Blk.new (w.alloc (.cells zeroCells 30)) 30 zeroCells
    rw [World.size_alloc] at this
    exact hwz ▸ this
  have hb0 : Below w.heap.size w wz := hwz ▸ ((Below.refl _ _).alloc (Nat.le_refl _) _).alloc (by simp) _
  go_enter Try.func13, Try.ntmps13
  go_wp2_with fail
  rw [← hwz]
  refine (dec_none s _ H.out (by omega)).mono ?_
  rintro e w1 ⟨rfl, hb1⟩
  clear hwz
  go_wp2_with (first
    | refine wpList_loadB 30 _ rfl rfl rfl (HB.out.below hb1 HB.out.lt) _ Try.underlying30 rfl 32 info32 rfl ?_
    | refine wpList_storeB 30 _ _ rfl rfl _ rfl rfl (HA.out.below hb1 HA.out.lt) 32 info32 rfl rfl (bytes_cells_one _) ?_)
  intro w2 hB2 hg2
  have hload := load32 hB2 rfl
  have hb01 : Below w.heap.size w w1 := hb0.trans (hb1.mono hb0.size)
  have hb2 : Below w.heap.size w w2 := hb01.grown hg2 hb01.size (fun k hk => by injection hk with hk; omega)
  go_wp2
  try simp only [Exit.inBlock, Exit.then]
  refine bodyPost_ret (results_cellB rfl rfl hload) rfl ?_
  exact ⟨rfl, hb2⟩

set_option maxHeartbeats 1000000 in
theorem parse_other (s : ByteArray) (l : List UInt8) (w : World) (h : hexDec s.data.toList = some l) (hl : l.length ≠ 32) (hs : s.size ≤ 1000000) :
    Calls Try.prog 13 #[.string s] w fun e w' => e = .returned (.tuple #[.agg (Lib.byteCells zero32).toArray, .int .i64 3]) ∧ Below w.heap.size w w' := by
  have H := Lib.hid h
  clear h
  obtain ⟨wz, hwz⟩ : ∃ wz, wz = (w.alloc (.cells zeroCells 30)).alloc (.cells zeroCells 30) := ⟨_, rfl⟩
  have HA : Hid (Blk wz w.heap.size 30 (Lib.byteCells zero32).toArray) := hwz ▸ (Blk.new w 30 zeroCells).alloc _
  have HB : Hid (Blk wz (w.heap.size + 1) 30 (Lib.byteCells zero32).toArray) := by
    have := Blk.new (w.alloc (.cells zeroCells 30)) 30 zeroCells
    rw [World.size_alloc] at this
    exact hwz ▸ this
  have hb0 : Below w.heap.size w wz := hwz ▸ ((Below.refl _ _).alloc (Nat.le_refl _) _).alloc (by simp) _
  have hl' : ((l.length : Int) != 32) = true := by rw [bne_iff_ne]; omega
  clear hl
  go_enter Try.func13, Try.ntmps13
  go_wp2_with fail
  rw [← hwz]
  refine (dec_some s l _ H.out (by omega)).mono ?_
  rintro e w1 ⟨A1, c1, rfl, hr1, hb1⟩
  clear hwz hr1
  go_wp2_with (first
    | refine wpList_loadB 30 _ rfl rfl rfl (HB.out.below hb1 HB.out.lt) _ Try.underlying30 rfl 32 info32 rfl ?_
    | refine wpList_storeB 30 _ _ rfl rfl _ rfl rfl (HA.out.below hb1 HA.out.lt) 32 info32 rfl rfl (bytes_cells_one _) ?_)
  intro w2 hB2 hg2
  have hload := load32 hB2 rfl
  have hb01 : Below w.heap.size w w1 := hb0.trans (hb1.mono hb0.size)
  have hb2 : Below w.heap.size w w2 := hb01.grown hg2 hb01.size (fun k hk => by injection hk with hk; omega)
  go_wp2
  try simp only [Exit.inBlock, Exit.then]
  refine bodyPost_ret (results_cellB rfl rfl hload) rfl ?_
  exact ⟨rfl, hb2⟩

set_option maxHeartbeats 1000000 in
theorem parse_some (s : ByteArray) (l : List UInt8) (w : World) (h : hexDec s.data.toList = some l) (hl : l.length = 32) (hs : s.size ≤ 1000000) :
    Calls Try.prog 13 #[.string s] w fun e w' => e = .returned (.tuple #[.agg (Lib.byteCells l.reverse).toArray, .int .i64 0]) ∧ Below w.heap.size w w' := by
  have H := Lib.hid h
  have HL := Lib.hid hl
  clear h hl
  obtain ⟨wz, hwz⟩ : ∃ wz, wz = (w.alloc (.cells zeroCells 30)).alloc (.cells zeroCells 30) := ⟨_, rfl⟩
  have HA : Hid (Blk wz w.heap.size 30 (Lib.byteCells zero32).toArray) := hwz ▸ (Blk.new w 30 zeroCells).alloc _
  have HB : Hid (Blk wz (w.heap.size + 1) 30 (Lib.byteCells zero32).toArray) := by
    have := Blk.new (w.alloc (.cells zeroCells 30)) 30 zeroCells
    rw [World.size_alloc] at this
    exact hwz ▸ this
  have hb0 : Below w.heap.size w wz := hwz ▸ ((Below.refl _ _).alloc (Nat.le_refl _) _).alloc (by simp) _
  go_enter Try.func13, Try.ntmps13
  go_wp2_with fail
  rw [← hwz]
  refine (dec_some s l _ H.out (by omega)).mono ?_
  rintro e w1 ⟨A1, c1, rfl, hr1, hb1⟩
  clear hwz
  rw [HL.out] at hr1 ⊢
  obtain ⟨ad, rfl, _, hcells⟩ := hr1.2 (by omega)
  have HB1 := HB.out.below hb1 HB.out.lt
  obtain ⟨w2, hw2⟩ : ∃ w2, w2 = w1.setRow (w.heap.size + 1) (Lib.byteCells l).toArray := ⟨_, rfl⟩
  have hcp : ∀ ty, (Builtin.copy_ #[22, 22] ty #[.slice (some ⟨w.heap.size + 1, 0, none⟩) 32 32, .slice (some ad) 32 c1]).run Try.prog w1 = .ok (goInt 32) w2 := by
    intro ty
    have := run_copy_row (P := Try.prog) w1 22 22 ty 5 (w.heap.size + 1) 0 32 32 ad 32 c1 _ _ (Lib.byteCells l) Try.underlying22 (by kernel_rfl) HB1 (by rw [Lib.byteCells_length, HL.out]; rfl) hcells (by rw [Lib.byteCells_length, HL.out]; decide) (by
      intro u hu
      simp only [Lib.byteCells, List.mem_map] at hu
      obtain ⟨b, _, rfl⟩ := hu
      rfl)
    rw [this, hw2, Lib.byteCells_length, HL.out, List.drop_of_length_le (by decide)]
    simp
  have HB2 : Hid (Blk w2 (w.heap.size + 1) 30 (Lib.byteCells l).toArray) := hw2 ▸ HB1.setRow _
  have hg2 : w1.grownBy w2 (some (w.heap.size + 1)) := hw2 ▸ grown_setRow _ _ _
  have HA2 : Hid (Blk w2 w.heap.size 30 (Lib.byteCells zero32).toArray) := (HA.out.below hb1 HA.out.lt).grown hg2 (by simp)
  have hb01 : Below w.heap.size w w1 := hb0.trans (hb1.mono hb0.size)
  have hb2 : Below w.heap.size w w2 := hb01.grown hg2 hb01.size (fun k hk => by injection hk with hk; omega)
  clear hw2 hr1 hcells HB1 hg2 hb01
  go_wp2_with fail
  refine (reverse_any (w.heap.size + 1) 32 _ _ _ HB2.out (by rw [bytes_size, HL.out]) (by omega) (bytes_int l) 32).mono ?_
  rintro e w3 ⟨rfl, hg3, hB3⟩
  rw [bytes_reverse] at hB3
  have HB3 := Lib.hid hB3
  have HA3 := Lib.hid (HA2.out.grown hg3 (by simp))
  have hb3 : Below w.heap.size w w3 := hb2.grown hg3 hb2.size (fun k hk => by injection hk with hk; omega)
  clear hB3 hg3 hcp
  have hrl : l.reverse.length = 32 := by rw [List.length_reverse]; exact HL.out
  go_wp2_with (first
    | refine wpList_loadB 30 _ rfl rfl rfl HB3.out _ Try.underlying30 rfl 32 info32 ((bytes_size _).trans hrl) ?_
    | refine wpList_storeB 30 _ _ rfl rfl _ rfl rfl HA3.out 32 info32 rfl ((bytes_size _).trans hrl) (bytes_cells_one _) ?_)
  intro w4 hB4 hg4
  have hload := load32 hB4 hrl
  have hb4 : Below w.heap.size w w4 := hb3.grown hg4 hb3.size (fun k hk => by injection hk with hk; omega)
  go_wp2
  try simp only [Exit.inBlock, Exit.then]
  refine bodyPost_ret (results_cellB rfl rfl hload) rfl ?_
  exact ⟨rfl, hb4⟩

end Go.Proofs.Ytifjpjbjlgeifaa
