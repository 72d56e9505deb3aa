/-
  The walk over the reference's All of words.
-/
import Derived.Test.YtggadilgkcjbjaaGreatDoorRefNext
set_option linter.unusedVariables false
namespace Go.Proofs.YtggadilgkcjbjaaGreatDoor
open Go.RowKit

set_option maxRecDepth 100000 in
set_option maxHeartbeats 2000000 in
theorem refAll_any (A : Option Addr) (n c : Nat) (bs : List UInt8) (w : World) (h : RdB w w.heap.size A n bs) (hnc : n ≤ c) (hcm : c ≤ maxLen) (hn : n ≤ 1000000) :
    Calls Tryz.prog 13 #[.slice A n c] w (AllEnd (allL bs) w) := by
  obtain ⟨E, hE⟩ : ∃ E, E = AllEnd (allL bs) w := ⟨_, rfl⟩
  rw [← hE]
  have HE := Lib.hid hE
  have HL := Lib.hid h.len
  have H := Lib.hid h
  have HCM : Hid (c ≤ maxLen) := hcm
  clear hE h hcm
  obtain ⟨i0, hi, hz0, hz1, hz2⟩ := info_parts infoWord3
  have HROW0 : Hid (RowAt (w.alloc (.cells #[] 36)) w.heap.size (.slice (some ⟨w.heap.size, 0, none⟩) 0 0) []) := ⟨[], World.ownsRow_lit (base := w.heap.size) (e := 36) (size := 2) w #[] 0 (Nat.le_refl _) (Nat.zero_le _) rfl, trivial⟩
  have HB0 : Hid (Below w.heap.size w (w.alloc (.cells #[] 36))) := (Below.refl _ _).alloc (Nat.le_refl _) _
  go_enter Tryz.func13, Tryz.ntmps13
  go_wp2
  go_loopw [4, 5] (fun l a wr => ∃ (j : Nat) (ws : List Wd), a = .int .i64 j ∧ j ≤ n ∧ ws.length ≤ j ∧ Hid (RowAt wr w.heap.size l ws) ∧ Hid (allL bs = (allL (bs.drop j)).map (ws ++ ·)) ∧ Below w.heap.size w wr) (fun _ a _ => n - (intOf a).toNat)
  case atStart => exact ⟨0, [], rfl, Nat.zero_le _, Nat.le_refl _, HROW0, by show _ = _; rw [List.drop_zero]; cases allL bs <;> rfl, HB0.out⟩
  case round =>
    obtain ⟨j, ws, rfl, hj, hwl, hrow, hall, hb⟩ := hrel
    by_cases hlt : j < n
    · go_wp2_with fail
      refine (refNext_any A n c j bs _ ((H.out.below hb).more hb.size) hnc HCM.out hlt hn).mono ?_
      intro e w1 h1
      have hdl : Hid ((bs.drop j).length = n - j) := by show _ = _; rw [List.length_drop, HL.out]
      cases hx : nextL (bs.drop j) with
      | none =>
        rw [hx] at h1
        obtain ⟨rfl, hb1⟩ := h1
        have HN : Hid (allL bs = none) := by
          show _ = _
          rw [hall.out, allL_bad (by intro e; have := hdl.out; rw [e] at this; simp at this; omega) hx]
          rfl
        have hb01 : Below w.heap.size w w1 := hb.trans (hb1.mono hb.size)
        clear hx
        go_wp2
        rw [HE.out]
        exact allEnd_none HN.out (hb01.alloc hb01.size _)
      | some x =>
        obtain ⟨x, r⟩ := x
        rw [hx] at h1
        obtain ⟨⟨v, rfl, p, rfl, hp⟩, hb1⟩ := h1
        obtain ⟨k, hr, hk1, hk2⟩ := nextL_drop hx
        have hb01 : Below w.heap.size w w1 := hb.trans (hb1.mono hb.size)
        have hnr : n - r.length = j + k := by rw [hr, List.length_drop, hdl.out]; have := hdl.out; omega
        have hjk : j + k ≤ n := by have := hdl.out; omega
        have HALL : Hid (allL bs = (allL (bs.drop (j + k))).map ((ws ++ [x]) ++ ·)) := by
          show _ = _
          rw [hall.out, allL_next hx, hr, List.drop_drop]
          cases allL (bs.drop (j + k)) with
          | none => rfl
          | some y => simp
        have HP := Lib.hid hp
        obtain ⟨A2, c2, e2⟩ := hp.slice
        subst e2
        rw [hnr]
        obtain ⟨xs, ho, hw⟩ := hrow.out.below hb1
        obtain ⟨X, hX⟩ : ∃ X, X = w1.alloc (.cells #[.int .u8 (x.1.toNat : Int), .slice A2 x.2.length c2] 36) := ⟨_, rfl⟩
        have hXs : X.heap.size = w1.heap.size + 1 := by rw [hX]; simp
        have hal : Below w1.heap.size w1 X := by rw [hX]; exact (Below.refl _ _).alloc (Nat.le_refl _) _
        have hal2 : Below w1.heap.size w1 (X.alloc (.cells #[.int .u8 (x.1.toNat : Int), .slice A2 x.2.length c2] 36)) := hal.alloc hal.size _
        have HO := Lib.hid (own_below ho hal2)
        have HW := Lib.hid (hw.below hal2)
        have HP2 := Lib.hid (hp.below hal2)
        have hba : Below w.heap.size w (X.alloc (.cells #[.int .u8 (x.1.toNat : Int), .slice A2 x.2.length c2] 36)) := hb01.trans (hal2.mono hb01.size)
        have HRD : Hid (Reads (X.alloc (.cells #[.int .u8 (x.1.toNat : Int), .slice A2 x.2.length c2] 36)) (w1.heap.size + 2) 2 (some ⟨w1.heap.size + 1, 0, none⟩) 1 [.int .u8 (x.1.toNat : Int), .slice A2 x.2.length c2]) := by
          have h0 := Reads.of_own (World.ownsRow_lit (base := 0) (e := 36) (size := 2) X #[.int .u8 (x.1.toNat : Int), .slice A2 x.2.length c2] 1 (Nat.zero_le _) (by unfold maxLen; omega) rfl)
          have e : (X.alloc (.cells #[.int .u8 (x.1.toNat : Int), .slice A2 x.2.length c2] 36)).heap.size = w1.heap.size + 2 := by simp [hXs]
          rw [e, hXs] at h0
          exact h0
        rw [hX] at HO HW HP2 hba HRD
        clear hp ho hw hx hr hk2 hrow hall hal hal2 hb1 hXs hX
        go_wp2_with (at_builtin; refine wpList_append_any ((w1.alloc (.cells #[.int .u8 (x.1.toNat : Int), .slice A2 x.2.length c2] 36)).alloc (.cells #[.int .u8 (x.1.toNat : Int), .slice A2 x.2.length c2] 36)) rfl _ _ 31 rfl w.heap.size 36 i0 (.agg #[.int .u8 0, .slice none 0 0]) 2 32 Tryz.underlying31 hi hz0 hz1 hz2 rfl (by decide) _ _ _ rfl HO.out (w1.heap.size + 2) (some ⟨w1.heap.size + 1, 0, none⟩) 1 1 [.int .u8 (x.1.toNat : Int), .slice A2 x.2.length c2] rfl HRD.out (by intro u hu; rcases List.mem_cons.1 hu with rfl | hu; rfl; rcases List.mem_cons.1 hu with rfl | hu; rfl; cases hu) (by unfold maxLen; omega) (by omega) hba.size ?_)
        intro v' w' hown' hg' _
        have hb' : Below w.heap.size w w' := hba.grown hg' hba.size (fun k hk => (HO.out.lt k hk).1)
        have HROW := Lib.hid (row_more HO.out HW.out HP2.out hown' hg')
        clear hown' hg' HO HW HP2 HRD hba hb01 hb
        go_wp2
        go_roundw
        case rel => exact ⟨j + k, ws ++ [x], by simp, hjk, by rw [List.length_append, List.length_singleton]; omega, HROW, HALL, hb'⟩
        case measure => simp [intOf]; omega
    · have HF : Hid (allL bs = some ws) := by
        show _ = _
        rw [hall.out, List.drop_eq_nil_of_le (by rw [HL.out]; omega)]
        simp [allL_nil]
      go_wp2
      rw [HE.out]
      exact allEnd_some HF.out hrow.out hb

end Go.Proofs.YtggadilgkcjbjaaGreatDoor
