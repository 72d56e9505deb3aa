/-
  The walk over the reference's Build of words.
-/
import Derived.Test.YtggadilgkcjbjaaGreatDoorRefShort
set_option linter.unusedVariables false
namespace Go.Proofs.YtggadilgkcjbjaaGreatDoor
open Go.RowKit

set_option maxRecDepth 100000 in
set_option maxHeartbeats 2000000 in
theorem refBuild_any (v : Value) (ws : List Wd) (base : Nat) (w : World) (h : RowAt w base v ws) (hn : ws.length ≤ 100000) (hx : ∀ x ∈ ws, x.2.length ≤ 65535) :
    Calls Tryz.prog 19 #[v] w (BuildEnd (buildL ws) w) := by
  obtain ⟨E, hE⟩ : ∃ E, E = BuildEnd (buildL ws) w := ⟨_, rfl⟩
  rw [← hE]
  have HE := Lib.hid hE
  have H := Lib.hid h
  obtain ⟨A, c, rfl⟩ : ∃ A c, v = .slice A ws.length c := by
    obtain ⟨xs, ho, _⟩ := h
    exact own_slice ho
  obtain ⟨n, hnn⟩ : ∃ n, n = ws.length := ⟨_, rfl⟩
  have HN := Lib.hid hnn
  have HX := Lib.hid hx
  have hn' : n ≤ 100000 := by omega
  rw [← hnn]
  have HOWN0 := Lib.hid (World.ownsRow_lit (base := w.heap.size) (e := 5) (size := 1) w #[] 0 (Nat.le_refl _) (Nat.zero_le _) rfl)
  clear hE h hnn hn hx
  obtain ⟨i0, hi, hz0, hz1, hz2⟩ := info_parts infoByte
  go_enter Tryz.func19, Tryz.ntmps19
  go_wp2
  go_loopw [4, 5] (fun l a wr => ∃ (j m : Nat) (out : List UInt8), a = .int .i64 j ∧ j ≤ n ∧ m ≤ 65538 * j ∧ Hid (wr.ownsRow w.heap.size 5 1 l m (Lib.byteCells out)) ∧ Hid (buildL ws = (buildL (ws.drop j)).map (out ++ ·)) ∧ Below w.heap.size w wr) (fun _ a _ => n - (intOf a).toNat)
  case atStart => exact ⟨0, 0, [], rfl, Nat.zero_le _, Nat.le_refl _, HOWN0, by show _ = _; rw [List.drop_zero]; cases buildL ws <;> rfl, (Below.refl _ _).alloc (Nat.le_refl _) _⟩
  case round =>
    obtain ⟨j, m, out, rfl, hj, hm, hrow, hall, hb⟩ := hrel
    by_cases hlt : j < n
    · have hlt2 : j < ws.length := by rw [← HN.out]; exact hlt
      obtain ⟨g, c', p, hv, hg, hc1, hc2, hp⟩ := H.out.read hlt2
      cases hv
      have hc1 := (hb.cell (p := ⟨g, j * 2, none⟩) hg).trans hc1
      have hc2 := (hb.cell (p := ⟨g, j * 2 + 1, none⟩) hg).trans hc2
      have hgr : g < wr.heap.size := Nat.lt_of_lt_of_le hg hb.size
      obtain ⟨x, hxx⟩ : ∃ x, x = ws[j] := ⟨_, rfl⟩
      rw [← hxx] at hc1 hp
      have hxl : x.2.length ≤ 65535 := HX.out x (by rw [hxx]; exact List.getElem_mem _)
      have HDR : Hid (ws.drop j = x :: ws.drop (j + 1)) := by show _ = _; rw [hxx]; exact List.drop_eq_getElem_cons hlt2
      obtain ⟨S2, d2, e2⟩ := hp.slice
      subst e2
      obtain ⟨op, bs⟩ := x
      obtain ⟨y, hy⟩ : ∃ y : Nat, op.toNat = y := ⟨_, rfl⟩
      obtain ⟨k, hk⟩ : ∃ k : Nat, k = bs.length := ⟨_, rfl⟩
      have hy1 : y < 256 := by rw [← hy]; exact UInt8.toNat_lt _
      have HY := Lib.hid hy
      have HK := Lib.hid hk
      change wr.cell? _ = some (.int .u8 (op.toNat : Int)) at hc1
      change wr.cell? _ = some (.slice S2 bs.length d2) at hc2
      rw [hy] at hc1
      rw [← hk] at hc2
      have hkl : k ≤ 65535 := by rw [hk]; exact hxl
      obtain ⟨Y, hY⟩ : ∃ Y, Y = wr.alloc (.cells #[.int .u8 (y : Int), .slice S2 k d2] 36) := ⟨_, rfl⟩
      have hal : Below wr.heap.size wr Y := by rw [hY]; exact (Below.refl _ _).alloc (Nat.le_refl _) _
      have HBK : Hid (Blk Y wr.heap.size 36 #[.int .u8 (y : Int), .slice S2 k d2]) := by show Blk _ _ _ _; rw [hY]; exact Blk.new wr _ _
      have hba := hb.trans (hal.mono hb.size)
      have HP := Lib.hid hp
      have HW : Hid (WordAt Y (.agg #[.int .u8 (y : Int), .slice S2 k d2]) (op, bs)) := ⟨_, by rw [HY.out, HK.out], PushAt.below HP.out hba⟩
      have HO := Lib.hid (own_below hrow.out hal)
      clear hxx hxl hp hal hrow hb hy hk hg
      go_wp2_with fail
      rw [← hY]
      clear hY hc1 hc2
      refine (refMay_any _ (op, bs) _ HW.out).mono ?_
      rintro e w1 ⟨rfl, hb1⟩
      have HO1 := Lib.hid (own_below HO.out hb1)
      have hb01 : Below w.heap.size w w1 := hba.trans (hb1.mono hba.size)
      have hblk1 := HBK.out.below hb1 HBK.out.lt
      have HBK1 := Lib.hid hblk1
      have hd0 := hblk1.cell 0
      have hd1 := hblk1.cell 1
      simp only [List.getElem?_toArray, List.getElem?_cons_zero, List.getElem?_cons_succ] at hd0 hd1
      cases hlx : layL (op, bs) with
      | none =>
        have HF : Hid (buildL ws = none) := by
          show _ = _
          rw [hall.out, HDR.out, buildL_cons, hlx]
          rfl
        simp only [Option.isSome_none]
        clear hlx hb1 hba hblk1
        go_wp2
        rw [HE.out]
        exact buildEnd_none HF.out hb01
      | some b3 =>
        have HF : Hid (buildL ws = (buildL (ws.drop (j + 1))).map ((out ++ b3) ++ ·)) := by
          show _ = _
          rw [hall.out, HDR.out, buildL_cons, hlx]
          cases buildL (ws.drop (j + 1)) with
          | none => rfl
          | some y => simp
        simp only [Option.isSome_some]
        have hwn : IntKind.u8.wrap (k : Int) = (k : Int) % 256 := by simp [IntKind.wrap, IntKind.signed, IntKind.bits]
        have hwm : IntKind.u8.wrap ((k : Int) / 256) = (k : Int) / 256 % 256 := by simp [IntKind.wrap, IntKind.signed, IntKind.bits]
        unfold layL at hlx
        simp only [HY.out] at hlx
        by_cases h76 : y = 76
        · have g76 : ((y : Int) == 76) = true := by rw [beq_iff_eq]; omega
          have g77 : ((y : Int) == 77) = false := by rw [beq_eq_false_iff_ne]; omega
          have HB3 : Hid (b3 = op :: UInt8.ofNat bs.length :: bs) := by
            rw [if_neg (by omega), if_pos h76] at hlx
            split at hlx
            · exact (Option.some.inj hlx).symm
            · cases hlx
          clear hlx hb1 hba hblk1 hall h76
          go_wp2_with (at_builtin; refine wpList_push2 w1 (.int .u8 ((y : Int))) Tryz.underlying22 infoByte rfl rfl _ _ rfl w.heap.size _ _ _ rfl HO1.out rfl rfl (by unfold maxLen; omega) (by omega) hb01.size ?_)
          intro A2 c2 w2 hown2 hg2
          have hb02 := hb01.grown hg2 hb01.size (fun q hq => (HO1.out.lt q hq).1)
          have hblk2 := HBK1.out.grown hg2 (fun e => own_blk_ne HO1.out HBK1.out (by decide) e.symm)
          have HO2 := Lib.hid hown2
          have HBK2 := Lib.hid hblk2
          clear hd0 hd1 hb01 hg2 hown2
          have hd0 := hblk2.cell 0
          have hd1 := hblk2.cell 1
          simp only [List.getElem?_toArray, List.getElem?_cons_zero, List.getElem?_cons_succ] at hd0 hd1
          clear hblk2
          go_wp2_with (at_builtin; refine wpList_push2 w2 (.int .u8 ((k : Int) % 256)) Tryz.underlying22 infoByte rfl rfl _ _ rfl w.heap.size _ _ _ rfl HO2.out rfl rfl (by unfold maxLen; omega) (by omega) hb02.size ?_)
          intro A3 c3 w3 hown3 hg3
          have hb03 := hb02.grown hg3 hb02.size (fun q hq => (HO2.out.lt q hq).1)
          have hblk3 := HBK2.out.grown hg3 (fun e => own_blk_ne HO2.out HBK2.out (by decide) e.symm)
          have HO3 := Lib.hid hown3
          have HBK3 := Lib.hid hblk3
          clear hd0 hd1 hb02 hg3 hown3
          have hd0 := hblk3.cell 0
          have hd1 := hblk3.cell 1
          simp only [List.getElem?_toArray, List.getElem?_cons_zero, List.getElem?_cons_succ] at hd0 hd1
          clear hblk3
          have HR : Hid (RdB w3 w3.heap.size S2 k bs) := by
            obtain ⟨A', c', e, hr, _⟩ := (PushAt.below HP.out hb03).byte
            cases e
            rw [HK.out]
            exact hr
          go_wp2_with (at_builtin; refine wpList_append_any w3 rfl _ _ 22 rfl w.heap.size 5 i0 (.int .u8 0) 1 1 Tryz.underlying22 hi hz0 hz1 hz2 rfl (by decide) _ _ _ rfl HO3.out w3.heap.size S2 k d2 (Lib.byteCells bs) rfl HR.out (byteCells_one bs) (by unfold maxLen; omega) (by omega) hb03.size ?_)
          intro v' w' hown' hg' _
          have hb' : Below w.heap.size w w' := hb03.grown hg' hb03.size (fun q hq => (HO3.out.lt q hq).1)
          rw [show Lib.byteCells out ++ .int .u8 (y : Int) :: .int .u8 ((k : Int) % 256) :: Lib.byteCells bs = Lib.byteCells (out ++ b3) by rw [HB3.out]; simp [Lib.byteCells, HY.out, UInt8.toNat_ofNat', ← HK.out]] at hown'
          have HOWN := Lib.hid hown'
          clear hown' hg' HO3 HR hb03 hd0 hd1
          go_wp2
          go_roundw
          case rel => exact ⟨j + 1, m + 2 + k, out ++ b3, by simp, by omega, by omega, HOWN, HF, hb'⟩
          case measure => simp [intOf]; omega
        by_cases h77 : y = 77
        · have g76 : ((y : Int) == 76) = false := by rw [beq_eq_false_iff_ne]; omega
          have g77 : ((y : Int) == 77) = true := by rw [beq_iff_eq]; omega
          have HB3 : Hid (b3 = op :: UInt8.ofNat bs.length :: UInt8.ofNat (bs.length / 256) :: bs) := by
            rw [if_neg (by omega), if_neg (by omega), if_pos h77] at hlx
            split at hlx
            · exact (Option.some.inj hlx).symm
            · cases hlx
          clear hlx hb1 hba hblk1 hall h76 h77
          go_wp2_with (at_builtin; refine wpList_push2 w1 (.int .u8 ((y : Int))) Tryz.underlying22 infoByte rfl rfl _ _ rfl w.heap.size _ _ _ rfl HO1.out rfl rfl (by unfold maxLen; omega) (by omega) hb01.size ?_)
          intro A2 c2 w2 hown2 hg2
          have hb02 := hb01.grown hg2 hb01.size (fun q hq => (HO1.out.lt q hq).1)
          have hblk2 := HBK1.out.grown hg2 (fun e => own_blk_ne HO1.out HBK1.out (by decide) e.symm)
          have HO2 := Lib.hid hown2
          have HBK2 := Lib.hid hblk2
          clear hd0 hd1 hb01 hg2 hown2
          have hd0 := hblk2.cell 0
          have hd1 := hblk2.cell 1
          simp only [List.getElem?_toArray, List.getElem?_cons_zero, List.getElem?_cons_succ] at hd0 hd1
          clear hblk2
          go_wp2_with (at_builtin; refine wpList_push2 w2 (.int .u8 ((k : Int) % 256)) Tryz.underlying22 infoByte rfl rfl _ _ rfl w.heap.size _ _ _ rfl HO2.out rfl rfl (by unfold maxLen; omega) (by omega) hb02.size ?_)
          intro A3 c3 w3 hown3 hg3
          have hb03 := hb02.grown hg3 hb02.size (fun q hq => (HO2.out.lt q hq).1)
          have hblk3 := HBK2.out.grown hg3 (fun e => own_blk_ne HO2.out HBK2.out (by decide) e.symm)
          have HO3 := Lib.hid hown3
          have HBK3 := Lib.hid hblk3
          clear hd0 hd1 hb02 hg3 hown3
          have hd0 := hblk3.cell 0
          have hd1 := hblk3.cell 1
          simp only [List.getElem?_toArray, List.getElem?_cons_zero, List.getElem?_cons_succ] at hd0 hd1
          clear hblk3
          go_wp2_with (at_builtin; refine wpList_push2 w3 (.int .u8 ((k : Int) / 256 % 256)) Tryz.underlying22 infoByte rfl rfl _ _ rfl w.heap.size _ _ _ rfl HO3.out rfl rfl (by unfold maxLen; omega) (by omega) hb03.size ?_)
          intro A4 c4 w4 hown4 hg4
          have hb04 := hb03.grown hg4 hb03.size (fun q hq => (HO3.out.lt q hq).1)
          have hblk4 := HBK3.out.grown hg4 (fun e => own_blk_ne HO3.out HBK3.out (by decide) e.symm)
          have HO4 := Lib.hid hown4
          have HBK4 := Lib.hid hblk4
          clear hd0 hd1 hb03 hg4 hown4
          have hd0 := hblk4.cell 0
          have hd1 := hblk4.cell 1
          simp only [List.getElem?_toArray, List.getElem?_cons_zero, List.getElem?_cons_succ] at hd0 hd1
          clear hblk4
          have HR : Hid (RdB w4 w4.heap.size S2 k bs) := by
            obtain ⟨A', c', e, hr, _⟩ := (PushAt.below HP.out hb04).byte
            cases e
            rw [HK.out]
            exact hr
          go_wp2_with (at_builtin; refine wpList_append_any w4 rfl _ _ 22 rfl w.heap.size 5 i0 (.int .u8 0) 1 1 Tryz.underlying22 hi hz0 hz1 hz2 rfl (by decide) _ _ _ rfl HO4.out w4.heap.size S2 k d2 (Lib.byteCells bs) rfl HR.out (byteCells_one bs) (by unfold maxLen; omega) (by omega) hb04.size ?_)
          intro v' w' hown' hg' _
          have hb' : Below w.heap.size w w' := hb04.grown hg' hb04.size (fun q hq => (HO4.out.lt q hq).1)
          rw [show Lib.byteCells out ++ .int .u8 (y : Int) :: .int .u8 ((k : Int) % 256) :: .int .u8 ((k : Int) / 256 % 256) :: Lib.byteCells bs = Lib.byteCells (out ++ b3) by rw [HB3.out]; simp [Lib.byteCells, HY.out, UInt8.toNat_ofNat', ← HK.out]] at hown'
          have HOWN := Lib.hid hown'
          clear hown' hg' HO4 HR hb04 hd0 hd1
          go_wp2
          go_roundw
          case rel => exact ⟨j + 1, m + 3 + k, out ++ b3, by simp, by omega, by omega, HOWN, HF, hb'⟩
          case measure => simp [intOf]; omega
        · have g76 : ((y : Int) == 76) = false := by rw [beq_eq_false_iff_ne]; omega
          have g77 : ((y : Int) == 77) = false := by rw [beq_eq_false_iff_ne]; omega
          have HB3 : Hid (b3 = op :: bs) := by
            rw [if_neg h76, if_neg h77] at hlx
            split at hlx
            · split at hlx
              · exact (Option.some.inj hlx).symm
              · cases hlx
            · split at hlx
              · rename_i h0
                rw [List.eq_nil_of_length_eq_zero h0]
                exact (Option.some.inj hlx).symm
              · cases hlx
          clear hlx hb1 hba hblk1 hall h76 h77
          go_wp2_with (at_builtin; refine wpList_push2 w1 (.int .u8 ((y : Int))) Tryz.underlying22 infoByte rfl rfl _ _ rfl w.heap.size _ _ _ rfl HO1.out rfl rfl (by unfold maxLen; omega) (by omega) hb01.size ?_)
          intro A2 c2 w2 hown2 hg2
          have hb02 := hb01.grown hg2 hb01.size (fun q hq => (HO1.out.lt q hq).1)
          have hblk2 := HBK1.out.grown hg2 (fun e => own_blk_ne HO1.out HBK1.out (by decide) e.symm)
          have HO2 := Lib.hid hown2
          have HBK2 := Lib.hid hblk2
          clear hd0 hd1 hb01 hg2 hown2
          have hd0 := hblk2.cell 0
          have hd1 := hblk2.cell 1
          simp only [List.getElem?_toArray, List.getElem?_cons_zero, List.getElem?_cons_succ] at hd0 hd1
          clear hblk2
          have HR : Hid (RdB w2 w2.heap.size S2 k bs) := by
            obtain ⟨A', c', e, hr, _⟩ := (PushAt.below HP.out hb02).byte
            cases e
            rw [HK.out]
            exact hr
          go_wp2_with (at_builtin; refine wpList_append_any w2 rfl _ _ 22 rfl w.heap.size 5 i0 (.int .u8 0) 1 1 Tryz.underlying22 hi hz0 hz1 hz2 rfl (by decide) _ _ _ rfl HO2.out w2.heap.size S2 k d2 (Lib.byteCells bs) rfl HR.out (byteCells_one bs) (by unfold maxLen; omega) (by omega) hb02.size ?_)
          intro v' w' hown' hg' _
          have hb' : Below w.heap.size w w' := hb02.grown hg' hb02.size (fun q hq => (HO2.out.lt q hq).1)
          rw [show Lib.byteCells out ++ .int .u8 (y : Int) :: Lib.byteCells bs = Lib.byteCells (out ++ b3) by rw [HB3.out]; simp [Lib.byteCells, HY.out]] at hown'
          have HOWN := Lib.hid hown'
          clear hown' hg' HO2 HR hb02 hd0 hd1
          go_wp2
          go_roundw
          case rel => exact ⟨j + 1, m + 1 + k, out ++ b3, by simp, by omega, by omega, HOWN, HF, hb'⟩
          case measure => simp [intOf]; omega
    · have HF : Hid (buildL ws = some out) := by
        show _ = _
        rw [hall.out, List.drop_eq_nil_of_le (by rw [← HN.out]; omega)]
        simp [buildL]
      go_wp2
      rw [HE.out]
      exact buildEnd_some HF.out hrow.out hb
end Go.Proofs.YtggadilgkcjbjaaGreatDoor
