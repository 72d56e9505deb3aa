/-
  The walks over lay and Build of words.
-/
import Derived.Test.YtggadilgkcjbjaaGreatDoorWordShort
import Derived.Deep.AppendLies
import Derived.Deep.Cut
set_option linter.unusedVariables false
namespace Go.Proofs.YtggadilgkcjbjaaGreatDoor
open Go.RowKit

/-- What lay answers. -/
def LayEnd (r : Option (List UInt8)) (w : World) (e : Ending) (w' : World) : Prop :=
  ∃ p b, e = .returned (.tuple #[p, .bool b]) ∧ Below w.heap.size w w' ∧ (match r with | none => b = false ∧ ∃ A n c, p = .slice A n c | some l => b = true ∧ PushAt w' p l)

theorem layEnd_mk {r : Option (List UInt8)} {good : Bool} {l : List UInt8} {w w' : World} {base m : Nat} {v' : Value} {xs : List Value} (hr : r = if good then some l else none) (ho : w'.ownsRow base 5 1 v' m xs) (hx : xs = Lib.byteCells l) (hb : Below w.heap.size w w') : LayEnd r w (.returned (.tuple #[v', .bool good])) w' := by
  subst hr hx
  obtain ⟨A, c, hs⟩ := own_slice ho
  refine ⟨v', good, rfl, hb, ?_⟩
  cases good with
  | false => exact ⟨rfl, A, m, c, hs⟩
  | true =>
    have hl : l.length = m := by have := ho.1; rw [Lib.byteCells_length] at this; omega
    subst hl
    exact ⟨rfl, own_base ho⟩

set_option maxRecDepth 100000 in
set_option maxHeartbeats 1000000 in
theorem lay_any (v : Value) (x : Wd) (w : World) (h : WordAt w v x) (hn : x.2.length ≤ 1000000) :
    Calls Tryz.prog 40 #[v] w (LayEnd (layL x) w) := by
  obtain ⟨p, rfl, hp⟩ := h
  obtain ⟨A, c, rfl⟩ := hp.slice
  obtain ⟨E, hE⟩ : ∃ E, E = LayEnd (layL x) w := ⟨_, rfl⟩
  rw [← hE]
  have HE := Lib.hid hE
  have HP := Lib.hid hp
  clear hE hp
  obtain ⟨op, bs⟩ := x
  obtain ⟨y, hy⟩ : ∃ y : Nat, op.toNat = y := ⟨_, rfl⟩
  have hy1 : y < 256 := by rw [← hy]; exact UInt8.toNat_lt _
  obtain ⟨n, hnn⟩ : ∃ n, n = bs.length := ⟨_, rfl⟩
  have HY := Lib.hid hy
  have HNN := Lib.hid hnn
  show Calls Tryz.prog 40 #[.agg #[.int .u8 (op.toNat : Int), .slice A bs.length c]] w E
  rw [hy, ← hnn]
  have hn' : n ≤ 1000000 := by rw [hnn]; exact hn
  clear hy hnn hn
  obtain ⟨i0, hi, hz0, hz1, hz2⟩ := info_parts infoByte
  obtain ⟨X, hX⟩ : ∃ X, X = w.alloc (.cells #[.int .u8 (y : Int), .slice A n c] 36) := ⟨_, rfl⟩
  have hbX : Below w.heap.size w X := by rw [hX]; exact (Below.refl _ _).alloc (Nat.le_refl _) _
  have hblk : Blk X w.heap.size 36 #[.int .u8 (y : Int), .slice A n c] := by rw [hX]; exact Blk.new w _ _
  have hXs : X.heap.size = w.heap.size + 1 := by rw [hX]; simp
  have HBX := Lib.hid hbX
  have HBLK := Lib.hid hblk
  have HRX : Hid (RdB X X.heap.size A n bs) := by
    obtain ⟨A', c', e, hr, _⟩ := (HP.out.below hbX).byte
    cases e
    rw [HNN.out]
    exact hr
  by_cases h1 : 0 < y ∧ y ≤ 75
  · 
    have h1a : (0 : Int) < (y : Int) := by omega
    have h1b : (y : Int) ≤ 75 := by omega
    have hwy : IntKind.i64.wrap (y : Int) = (y : Int) := by rw [IntKind.wrap_i64]; omega
    have hlit : Below X.heap.size X ((X.alloc (.cells #[.int .u8 (y : Int)] 5)).drew) := ((Below.refl _ _).alloc (Nat.le_refl _) _).drew
    have HO : Hid (((X.alloc (.cells #[.int .u8 (y : Int)] 5)).drew).ownsRow X.heap.size 5 1 (.slice (some ⟨w.heap.size + 1, 0, none⟩) 1 1) 1 [.int .u8 (y : Int)]) := by
      have := World.ownsRow_lit (base := X.heap.size) (e := 5) (size := 1) X #[.int .u8 (y : Int)] 1 (Nat.le_refl _) (by unfold maxLen; omega) rfl
      rw [hXs] at this
      rw [hXs]
      exact this
    have HRL := Lib.hid (HRX.out.below hlit)
    have hsz : X.heap.size ≤ ((X.alloc (.cells #[.int .u8 (y : Int)] 5)).drew).heap.size := hlit.size
    have HSZ := Lib.hid hsz
    have HCELL : Hid (∀ v' w', ((X.alloc (.cells #[.int .u8 (y : Int)] 5)).drew).grownBy w' v' → v' = some (w.heap.size + 1) → w'.cell? ⟨w.heap.size, 0, none⟩ = some (.int .u8 ((y : Int))) ∧ w'.cell? ⟨w.heap.size, 1, none⟩ = some (.slice A n c) ∧ Below w.heap.size w w') := fun v' w' hg hv => by
      have hb1 : Below X.heap.size X w' := hlit.grown hg hlit.size (fun k hk => by rw [hv] at hk; cases hk; rw [hXs]; exact Nat.le_refl _)
      have hbk := HBLK.out.below hb1 HBLK.out.lt
      exact ⟨hbk.cell 0, hbk.cell 1, HBX.out.trans (hb1.mono HBX.out.size)⟩
    have hX2 := hX
    have HGOOD : Hid (layL (op, bs) = if ((n : Int) == (y : Int)) then some (op :: bs) else none) := by
      show _ = _
      unfold layL
      simp only [HY.out]
      rw [if_pos h1]
      by_cases hny : n = y
      · rw [if_pos (by rw [← HNN.out]; exact hny), if_pos (by rw [beq_iff_eq]; omega)]
      · rw [if_neg (by rw [← HNN.out]; exact hny), if_neg (by rw [beq_iff_eq]; omega)]
    have HLST : Hid ([.int .u8 (y : Int)] ++ Lib.byteCells bs = Lib.byteCells (op :: bs)) := by
      show _ = _
      simp [Lib.byteCells, HY.out]
    clear hlit hsz hblk hbX h1
    go_enter Tryz.func40, Tryz.ntmps40
    go_wp2_with (at_builtin; fail)
    rw [← hX2]
    clear hX2 hX
    have hd0 := HBLK.out.cell 0
    have hd1 := HBLK.out.cell 1
    simp only [List.getElem?_toArray, List.getElem?_cons_zero, List.getElem?_cons_succ] at hd0 hd1
    go_region_law ((refine step_append_any _ rfl _ _ 22 rfl X.heap.size 5 i0 (.int .u8 0) 1 1 Tryz.underlying22 hi hz0 hz1 hz2 rfl (by decide) _ _ _ rfl HO.out X.heap.size A n c (Lib.byteCells bs) rfl HRL.out (byteCells_one bs) (by unfold maxLen; omega) (by omega) HSZ.out ?_; intro v' w' hown' hg' _; obtain ⟨hk0, hk1, hk2⟩ := HCELL.out _ w' hg' rfl))
    all_goals (simp only [List.getElem_toArray, List.getElem_cons_succ, List.getElem_cons_zero, Act.put, List.setIfInBounds_toArray, List.set_cons_succ, List.set_cons_zero])
    all_goals go_wp2
    all_goals rw [HE.out]
    all_goals exact layEnd_mk HGOOD.out hown' HLST.out hk2
  by_cases h2 : y = 76
  · have hyi : (y : Int) = 76 := by omega
    rw [h2] at HY hy1
    rw [hyi] at hX HBLK ⊢
    clear hyi
    have hwn : IntKind.u8.wrap (n : Int) = (n : Int) % 256 := by simp [IntKind.wrap, IntKind.signed, IntKind.bits]
    have hlit : Below X.heap.size X (X.alloc (.cells #[.int .u8 (76 : Int), .int .u8 ((n : Int) % 256)] 5)) := ((Below.refl _ _).alloc (Nat.le_refl _) _)
    have HO : Hid ((X.alloc (.cells #[.int .u8 (76 : Int), .int .u8 ((n : Int) % 256)] 5)).ownsRow X.heap.size 5 1 (.slice (some ⟨w.heap.size + 1, 0, none⟩) 2 2) 2 [.int .u8 (76 : Int), .int .u8 ((n : Int) % 256)]) := by
      have := World.ownsRow_lit (base := X.heap.size) (e := 5) (size := 1) X #[.int .u8 (76 : Int), .int .u8 ((n : Int) % 256)] 2 (Nat.le_refl _) (by unfold maxLen; omega) rfl
      rw [hXs] at this
      rw [hXs]
      exact this
    have HRL := Lib.hid (HRX.out.below hlit)
    have hsz : X.heap.size ≤ (X.alloc (.cells #[.int .u8 (76 : Int), .int .u8 ((n : Int) % 256)] 5)).heap.size := hlit.size
    have HSZ := Lib.hid hsz
    have HCELL : Hid (∀ v' w', (X.alloc (.cells #[.int .u8 (76 : Int), .int .u8 ((n : Int) % 256)] 5)).grownBy w' v' → v' = some (w.heap.size + 1) → w'.cell? ⟨w.heap.size, 0, none⟩ = some (.int .u8 ((76 : Int))) ∧ w'.cell? ⟨w.heap.size, 1, none⟩ = some (.slice A n c) ∧ Below w.heap.size w w') := fun v' w' hg hv => by
      have hb1 : Below X.heap.size X w' := hlit.grown hg hlit.size (fun k hk => by rw [hv] at hk; cases hk; rw [hXs]; exact Nat.le_refl _)
      have hbk := HBLK.out.below hb1 HBLK.out.lt
      exact ⟨hbk.cell 0, hbk.cell 1, HBX.out.trans (hb1.mono HBX.out.size)⟩
    have hX2 := hX
    have HGOOD : Hid (layL (op, bs) = if (decide ((n : Int) ≤ 255)) then some (op :: UInt8.ofNat bs.length :: bs) else none) := by
      show _ = _
      unfold layL
      simp only [HY.out]
      by_cases hny : n ≤ 255
      · rw [if_neg (by omega), if_pos trivial, if_pos (by rw [← HNN.out]; exact hny), if_pos (by rw [decide_eq_true_eq]; omega)]
      · rw [if_neg (by omega), if_pos trivial, if_neg (by rw [← HNN.out]; exact hny), if_neg (by rw [decide_eq_true_eq]; omega)]
    have HLST : Hid ([.int .u8 (76 : Int), .int .u8 ((n : Int) % 256)] ++ Lib.byteCells bs = Lib.byteCells (op :: UInt8.ofNat bs.length :: bs)) := by
      show _ = _
      show _ = Value.int .u8 ((op.toNat : Nat) : Int) :: Value.int .u8 ((UInt8.ofNat bs.length).toNat : Int) :: Lib.byteCells bs
      rw [HY.out, UInt8.toNat_ofNat', ← HNN.out]
      simp
    clear hlit hsz hblk hbX h2 h1
    go_enter Tryz.func40, Tryz.ntmps40
    go_upto_region 5 with fail
    rw [← hX2]
    clear hX2 hX
    have hd0 := HBLK.out.cell 0
    have hd1 := HBLK.out.cell 1
    simp only [List.getElem?_toArray, List.getElem?_cons_zero, List.getElem?_cons_succ] at hd0 hd1
    go_wp2_with (at_builtin; refine wpList_append_any (X.alloc (.cells #[.int .u8 (76 : Int), .int .u8 ((n : Int) % 256)] 5)) rfl _ _ 22 rfl X.heap.size 5 i0 (.int .u8 0) 1 1 Tryz.underlying22 hi hz0 hz1 hz2 rfl (by decide) _ _ _ rfl HO.out X.heap.size A n c (Lib.byteCells bs) rfl HRL.out (byteCells_one bs) (by unfold maxLen; omega) (by omega) HSZ.out ?_)
    intro v' w' hown' hg' _
    obtain ⟨hk0, hk1, hk2⟩ := HCELL.out _ w' hg' rfl
    go_wp2
    rw [HE.out]
    exact layEnd_mk HGOOD.out hown' HLST.out hk2
  by_cases h3 : y = 77
  · have hyi : (y : Int) = 77 := by omega
    rw [h3] at HY hy1
    rw [hyi] at hX HBLK ⊢
    clear hyi
    have hwn : IntKind.u8.wrap (n : Int) = (n : Int) % 256 := by simp [IntKind.wrap, IntKind.signed, IntKind.bits]
    have hwm : IntKind.u8.wrap ((n : Int) / 256) = (n : Int) / 256 % 256 := by simp [IntKind.wrap, IntKind.signed, IntKind.bits]
    have hlit : Below X.heap.size X (X.alloc (.cells #[.int .u8 (77 : Int), .int .u8 ((n : Int) % 256), .int .u8 ((n : Int) / 256 % 256)] 5)) := ((Below.refl _ _).alloc (Nat.le_refl _) _)
    have HO : Hid ((X.alloc (.cells #[.int .u8 (77 : Int), .int .u8 ((n : Int) % 256), .int .u8 ((n : Int) / 256 % 256)] 5)).ownsRow X.heap.size 5 1 (.slice (some ⟨w.heap.size + 1, 0, none⟩) 3 3) 3 [.int .u8 (77 : Int), .int .u8 ((n : Int) % 256), .int .u8 ((n : Int) / 256 % 256)]) := by
      have := World.ownsRow_lit (base := X.heap.size) (e := 5) (size := 1) X #[.int .u8 (77 : Int), .int .u8 ((n : Int) % 256), .int .u8 ((n : Int) / 256 % 256)] 3 (Nat.le_refl _) (by unfold maxLen; omega) rfl
      rw [hXs] at this
      rw [hXs]
      exact this
    have HRL := Lib.hid (HRX.out.below hlit)
    have hsz : X.heap.size ≤ (X.alloc (.cells #[.int .u8 (77 : Int), .int .u8 ((n : Int) % 256), .int .u8 ((n : Int) / 256 % 256)] 5)).heap.size := hlit.size
    have HSZ := Lib.hid hsz
    have HCELL : Hid (∀ v' w', (X.alloc (.cells #[.int .u8 (77 : Int), .int .u8 ((n : Int) % 256), .int .u8 ((n : Int) / 256 % 256)] 5)).grownBy w' v' → v' = some (w.heap.size + 1) → w'.cell? ⟨w.heap.size, 0, none⟩ = some (.int .u8 ((77 : Int))) ∧ w'.cell? ⟨w.heap.size, 1, none⟩ = some (.slice A n c) ∧ Below w.heap.size w w') := fun v' w' hg hv => by
      have hb1 : Below X.heap.size X w' := hlit.grown hg hlit.size (fun k hk => by rw [hv] at hk; cases hk; rw [hXs]; exact Nat.le_refl _)
      have hbk := HBLK.out.below hb1 HBLK.out.lt
      exact ⟨hbk.cell 0, hbk.cell 1, HBX.out.trans (hb1.mono HBX.out.size)⟩
    have hX2 := hX
    have HGOOD : Hid (layL (op, bs) = if (decide ((n : Int) ≤ 65535)) then some (op :: UInt8.ofNat bs.length :: UInt8.ofNat (bs.length / 256) :: bs) else none) := by
      show _ = _
      unfold layL
      simp only [HY.out]
      by_cases hny : n ≤ 65535
      · rw [if_neg (by omega), if_neg (by omega), if_pos trivial, if_pos (by rw [← HNN.out]; exact hny), if_pos (by rw [decide_eq_true_eq]; omega)]
      · rw [if_neg (by omega), if_neg (by omega), if_pos trivial, if_neg (by rw [← HNN.out]; exact hny), if_neg (by rw [decide_eq_true_eq]; omega)]
    have HLST : Hid ([.int .u8 (77 : Int), .int .u8 ((n : Int) % 256), .int .u8 ((n : Int) / 256 % 256)] ++ Lib.byteCells bs = Lib.byteCells (op :: UInt8.ofNat bs.length :: UInt8.ofNat (bs.length / 256) :: bs)) := by
      show _ = _
      show _ = Value.int .u8 ((op.toNat : Nat) : Int) :: Value.int .u8 ((UInt8.ofNat bs.length).toNat : Int) :: Value.int .u8 ((UInt8.ofNat (bs.length / 256)).toNat : Int) :: Lib.byteCells bs
      rw [HY.out, UInt8.toNat_ofNat', UInt8.toNat_ofNat', ← HNN.out]
      simp
    clear hlit hsz hblk hbX h3 h1 h2
    go_enter Tryz.func40, Tryz.ntmps40
    go_upto_region 7 with fail
    rw [← hX2]
    clear hX2 hX
    have hd0 := HBLK.out.cell 0
    have hd1 := HBLK.out.cell 1
    simp only [List.getElem?_toArray, List.getElem?_cons_zero, List.getElem?_cons_succ] at hd0 hd1
    go_wp2_with (at_builtin; refine wpList_append_any (X.alloc (.cells #[.int .u8 (77 : Int), .int .u8 ((n : Int) % 256), .int .u8 ((n : Int) / 256 % 256)] 5)) rfl _ _ 22 rfl X.heap.size 5 i0 (.int .u8 0) 1 1 Tryz.underlying22 hi hz0 hz1 hz2 rfl (by decide) _ _ _ rfl HO.out X.heap.size A n c (Lib.byteCells bs) rfl HRL.out (byteCells_one bs) (by unfold maxLen; omega) (by omega) HSZ.out ?_)
    intro v' w' hown' hg' _
    obtain ⟨hk0, hk1, hk2⟩ := HCELL.out _ w' hg' rfl
    go_wp2
    rw [HE.out]
    exact layEnd_mk HGOOD.out hown' HLST.out hk2
  have h2' : ((y : Int) == 76) = false := by rw [beq_eq_false_iff_ne]; omega
  have h3' : ((y : Int) == 77) = false := by rw [beq_eq_false_iff_ne]; omega
  have HGOOD : Hid (layL (op, bs) = if ((n : Int) == 0) then some [op] else none) := by
    show _ = _
    unfold layL
    simp only [HY.out]
    rw [if_neg h1, if_neg h2, if_neg h3]
    by_cases hny : n = 0
    · rw [if_pos (by rw [← HNN.out]; exact hny), if_pos (by rw [beq_iff_eq]; omega)]
    · rw [if_neg (by rw [← HNN.out]; exact hny), if_neg (by rw [beq_iff_eq]; omega)]
  have HL : Hid (PushAt ((w.alloc (.cells #[.int .u8 (y : Int), .slice A n c] 36)).alloc (.cells #[.int .u8 (y : Int)] 5)) (.slice (some ⟨w.heap.size + 1, 0, none⟩) 1 1) [op]) := push_lit (w.alloc (.cells #[.int .u8 (y : Int), .slice A n c] 36)) #[.int .u8 (y : Int)] [op] rfl (by show _ = [Value.int .u8 (op.toNat : Int)]; rw [HY.out]) (by unfold maxLen; simp) (w.heap.size + 1) (by simp)
  have hbl : Below w.heap.size w ((w.alloc (.cells #[.int .u8 (y : Int), .slice A n c] 36)).alloc (.cells #[.int .u8 (y : Int)] 5)) := by rw [← hX]; exact hbX.alloc hbX.size _
  have hcase : (0 : Int) < (y : Int) ∧ ¬ (y : Int) ≤ 75 ∨ ¬ (0 : Int) < (y : Int) := by omega
  clear hblk h1 h2 h3 hbX hX hXs
  rcases hcase with ⟨ha, hb⟩ | ha
  · go_enter Tryz.func40, Tryz.ntmps40
    go_wp2
    rw [HE.out]
    exact layEnd_mk HGOOD.out HL.out rfl hbl
  · go_enter Tryz.func40, Tryz.ntmps40
    go_wp2
    rw [HE.out]
    exact layEnd_mk HGOOD.out HL.out rfl hbl

end Go.Proofs.YtggadilgkcjbjaaGreatDoor
