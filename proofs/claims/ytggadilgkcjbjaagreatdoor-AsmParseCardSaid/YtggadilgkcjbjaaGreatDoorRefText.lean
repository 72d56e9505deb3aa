/-
  The walk over the reference's Text.
-/
import Derived.Test.YtggadilgkcjbjaaGreatDoorRefShort
import Derived.Test.YtggadilgkcjbjaaGreatDoorRefFig
import Derived.Test.YtggadilgkcjbjaaGreatDoorRefHex
import Derived.Test.YtggadilgkcjbjaaGreatDoorAsmEnts
set_option linter.unusedVariables false
namespace Go.Proofs.YtggadilgkcjbjaaGreatDoor
open Go.RowKit Go.Sort

set_option maxRecDepth 100000 in
set_option maxHeartbeats 2000000 in
theorem refText_any (v : Value) (x : Wd) (w : World) (h : WordAt w v x) (hn : x.2.length ≤ 65535) :
    Calls Tryz.prog 14 #[v] w (StrEnd (textL x) w) := by
  obtain ⟨p, rfl, hp⟩ := h
  obtain ⟨A, c, rfl⟩ := hp.slice
  obtain ⟨E, hE⟩ : ∃ E, E = StrEnd (textL x) w := ⟨_, rfl⟩
  rw [← hE]
  have HE := Lib.hid hE
  have HP := Lib.hid hp
  clear hE hp
  obtain ⟨op, bs⟩ := x
  obtain ⟨y, hy⟩ : ∃ y : Nat, op.toNat = y := ⟨_, rfl⟩
  have hy1 : y < 256 := by rw [← hy]; exact UInt8.toNat_lt _
  obtain ⟨n, hnn⟩ : ∃ n, n = bs.length := ⟨_, rfl⟩
  have HY := Lib.hid hy
  have HNN := Lib.hid hnn
  show Calls Tryz.prog 14 #[.agg #[.int .u8 (op.toNat : Int), .slice A bs.length c]] w E
  rw [hy, ← hnn]
  have hn' : n ≤ 65535 := by rw [hnn]; exact hn
  clear hy hnn hn
  obtain ⟨X, hX⟩ : ∃ X, X = w.alloc (.cells #[.int .u8 (y : Int), .slice A n c] 36) := ⟨_, rfl⟩
  have hbX : Below w.heap.size w X := by rw [hX]; exact (Below.refl _ _).alloc (Nat.le_refl _) _
  have hblk : Blk X w.heap.size 36 #[.int .u8 (y : Int), .slice A n c] := by rw [hX]; exact Blk.new w _ _
  have hbX' : Below w.heap.size w (w.alloc (.cells #[.int .u8 (y : Int), .slice A n c] 36)) := by rw [← hX]; exact hbX
  have hT : textL (op, bs) = if (pushesL (op, bs)).isSome then pushTextL (op, bs) else if nameL y ≠ [] then nameL y else 111 :: 112 :: dec3 y := by
    unfold textL
    simp only [HY.out]
  by_cases h79 : y = 79
  · have h79i : (y : Int) = 79 := by omega
    have HV : Hid (textL (op, bs) = [45, 49]) := by
      show _ = _
      rw [hT, if_pos (by unfold pushesL; simp only [HY.out]; rw [if_neg (by omega), if_pos h79]; rfl)]
      unfold pushTextL
      simp only [HY.out]
      rw [if_neg (by omega), if_pos h79]
    rw [h79i] at hbX' ⊢
    clear hX hblk h79 h79i hy1 hT
    go_enter Tryz.func14, Tryz.ntmps14
    go_wp2
    rw [HE.out, HV.out]
    exact strEnd_mk rfl hbX'
  have g79 : ((y : Int) == 79) = false := by rw [beq_eq_false_iff_ne]; omega
  by_cases h80 : 81 ≤ y ∧ y ≤ 96
  · have h80i : (81 : Int) ≤ (y : Int) := by omega
    have h96i : (y : Int) ≤ 96 := by omega
    have g0 : ((y : Int) == 0) = false := by rw [beq_eq_false_iff_ne]; omega
    have hw : IntKind.i64.wrap ((y : Int) - 80) = ((y - 80 : Nat) : Int) := by rw [IntKind.wrap_i64]; omega
    have hwy : IntKind.i64.wrap (y : Int) = (y : Int) := by rw [IntKind.wrap_i64]; omega
    have HV : Hid (textL (op, bs) = dec3 (y - 80)) := by
      show _ = _
      rw [hT, if_pos (by unfold pushesL; simp only [HY.out]; rw [if_neg (by omega), if_neg h79, if_pos (by omega)]; rfl)]
      unfold pushTextL
      simp only [HY.out]
      rw [if_neg (by omega), if_neg h79, if_pos (by omega)]
    have hlt : y - 80 < 1000 := by omega
    clear h79 h80 hblk hy1 hT
    go_enter Tryz.func14, Tryz.ntmps14
    go_wp2_with fail
    rw [← hX]
    refine (refFig_any _ hlt _).mono ?_
    rintro e w1 ⟨rfl, hb1⟩
    go_wp2
    rw [HE.out, HV.out]
    exact strEnd_mk rfl (hbX.trans (hb1.mono hbX.size))
  by_cases h00 : y = 0 ∧ n = 0
  · have HV : Hid (textL (op, bs) = [48]) := by
      show _ = _
      rw [hT, if_pos (by unfold pushesL; simp only [HY.out]; rw [if_pos (by omega)]; rfl)]
      unfold pushTextL
      simp only [HY.out]
      rw [if_pos ⟨h00.1, List.eq_nil_of_length_eq_zero (by rw [← HNN.out]; exact h00.2)⟩]
    obtain ⟨hy0, hn0⟩ := h00
    have hyi : (y : Int) = 0 := by omega
    rw [hyi] at hbX' ⊢
    clear hX hblk hyi hy0 g79 h79 h80 hy1 hn' hT
    subst hn0
    go_enter Tryz.func14, Tryz.ntmps14
    go_wp2
    rw [HE.out, HV.out]
    exact strEnd_mk rfl hbX'
  have HWX : Hid (WordAt X (.agg #[.int .u8 (y : Int), .slice A n c]) (op, bs)) := ⟨_, by rw [HY.out, HNN.out], HP.out.below hbX⟩
  have HPU0 : Hid (Calls Tryz.prog 30 #[.agg #[.int .u8 (y : Int), .slice A n c]] X (PushesEnd (pushesL (op, bs)) X)) := refPushes_any _ (op, bs) _ HWX.out (by show bs.length ≤ _; rw [← HNN.out]; omega)
  have hlv : ∀ w', Below X.heap.size X w' → Blk w' w.heap.size 36 #[.int .u8 (y : Int), .slice A n c] := fun w' hb => hblk.below hb hblk.lt
  have HLV := Lib.hid hlv
  have hlt : y < 1000 := by omega
  have hwy : IntKind.i64.wrap (y : Int) = (y : Int) := by rw [IntKind.wrap_i64]; omega
  clear hblk hlv hbX'
  by_cases h77 : y ≤ 77
  · have h81 : ¬ (81 : Int) ≤ (y : Int) := by omega
    have hps : pushesL (op, bs) = some bs := by unfold pushesL; simp only [HY.out]; rw [if_pos h77]
    have HV : Hid (textL (op, bs) = (if shortL (op, bs) then [] else dec3 y) ++ 60 :: (hexEnc bs ++ [62])) := by
      show _ = _
      rw [hT, hps, if_pos (c := ((some bs).isSome = true)) rfl]
      unfold pushTextL
      simp only [HY.out]
      rw [if_neg (by
        rintro ⟨ha, hb⟩
        exact h00 ⟨ha, by rw [HNN.out, hb]; rfl⟩), if_neg h79, if_neg (by omega)]
      split <;> rfl
    have HPU : Hid (Calls Tryz.prog 30 #[.agg #[.int .u8 (y : Int), .slice A n c]] X (PushesEnd (some bs) X)) := by rw [← hps]; exact HPU0
    have HSH : Hid (∀ w', Below X.heap.size X w' → Calls Tryz.prog 32 #[.agg #[.int .u8 (y : Int), .slice A n c]] w' fun e w'' => e = .returned (.bool (shortL (op, bs))) ∧ Below w'.heap.size w' w'') := fun w' hb => refShort_any _ (op, bs) _ (by obtain ⟨p, e, hp⟩ := HWX.out; exact ⟨p, e, hp.below hb⟩) (by show bs.length ≤ _; rw [← HNN.out]; omega)
    have HEN : Hid (∀ w', Below X.heap.size X w' → Calls Tryz.prog 31 #[.slice A n c] w' fun e w'' => e = .returned (.string ⟨(hexEnc bs).toArray⟩) ∧ Below w'.heap.size w' w'') := fun w' hb => by
      obtain ⟨A', c', e, hr, _⟩ := (HP.out.below (hbX.trans (hb.mono hbX.size))).byte
      cases e
      rw [← HNN.out] at hr
      exact refEncode_any A n c bs w' hr (by omega)
    have hel : (hexEnc bs).length ≤ 131070 := by rw [hexEnc_length, ← HNN.out]; omega
    rcases (show ((y : Int) == 0) = false ∨ (((y : Int) == 0) = true ∧ ((n : Int) == 0) = false) by
      by_cases h : y = 0
      · exact .inr ⟨by rw [beq_iff_eq]; omega, by rw [beq_eq_false_iff_ne]; omega⟩
      · exact .inl (by rw [beq_eq_false_iff_ne]; omega)) with g0 | ⟨g0, g1⟩
    · clear h79 h80 h00 hy1 hn' h77 hT hps HPU0
      go_enter Tryz.func14, Tryz.ntmps14
      go_wp2_with fail
      rw [← hX]
      refine HPU.out.mono ?_
      rintro e w1 ⟨⟨q, rfl, hq⟩, hb1⟩
      have hblk1 := HLV.out w1 hb1
      have hb01 := hbX.trans (hb1.mono hbX.size)
      have hd0 := hblk1.cell 0
      have hd1 := hblk1.cell 1
      simp only [List.getElem?_toArray, List.getElem?_cons_zero, List.getElem?_cons_succ] at hd0 hd1
      clear hX hblk1 hq
      go_wp2_with fail
      refine (HEN.out w1 hb1).mono ?_
      rintro e w2 ⟨rfl, hb2⟩
      have hb12 := hb1.trans (hb2.mono hb1.size)
      have hblk2 := HLV.out w2 hb12
      have hb02 := hb01.trans (hb2.mono hb01.size)
      have hd0 := hblk2.cell 0
      have hd1 := hblk2.cell 1
      simp only [List.getElem?_toArray, List.getElem?_cons_zero, List.getElem?_cons_succ] at hd0 hd1
      clear hb1 hb2 hblk2 hb01
      go_wp2_with fail
      refine (HSH.out w2 hb12).mono ?_
      rintro e w3 ⟨rfl, hb3⟩
      have hb13 := hb12.trans (hb3.mono hb12.size)
      have hblk3 := HLV.out w3 hb13
      have hb03 := hb02.trans (hb3.mono hb02.size)
      have hd0 := hblk3.cell 0
      have hd1 := hblk3.cell 1
      simp only [List.getElem?_toArray, List.getElem?_cons_zero, List.getElem?_cons_succ] at hd0 hd1
      clear hb12 hb3 hblk3 hb02 hb13
      cases hs : shortL (op, bs) with
      | true =>
        have HVV : Hid (textL (op, bs) = 60 :: (hexEnc bs ++ [62])) := by show _ = _; rw [HV.out, hs]; rfl
        clear hs
        go_wp2
        rw [HE.out, HVV.out]
        exact strEnd_mk (text_join _) hb03
      | false =>
        have HVV : Hid (textL (op, bs) = dec3 y ++ 60 :: (hexEnc bs ++ [62])) := by show _ = _; rw [HV.out, hs]; rfl
        have hdl : (dec3 y).length ≤ 3 := dec3_length y
        clear hs
        go_wp2_with fail
        refine (refFig_any y hlt _).mono ?_
        rintro e w4 ⟨rfl, hb4⟩
        have hb04 := hb03.trans (hb4.mono hb03.size)
        clear hb4
        go_wp2
        rw [HE.out, HVV.out]
        exact strEnd_mk (by rw [text_join, bytes_app]) hb04
    · clear h79 h80 h00 hy1 hn' h77 hT hps HPU0
      go_enter Tryz.func14, Tryz.ntmps14
      go_wp2_with fail
      rw [← hX]
      refine HPU.out.mono ?_
      rintro e w1 ⟨⟨q, rfl, hq⟩, hb1⟩
      have hblk1 := HLV.out w1 hb1
      have hb01 := hbX.trans (hb1.mono hbX.size)
      have hd0 := hblk1.cell 0
      have hd1 := hblk1.cell 1
      simp only [List.getElem?_toArray, List.getElem?_cons_zero, List.getElem?_cons_succ] at hd0 hd1
      clear hX hblk1 hq
      go_wp2_with fail
      refine (HEN.out w1 hb1).mono ?_
      rintro e w2 ⟨rfl, hb2⟩
      have hb12 := hb1.trans (hb2.mono hb1.size)
      have hblk2 := HLV.out w2 hb12
      have hb02 := hb01.trans (hb2.mono hb01.size)
      have hd0 := hblk2.cell 0
      have hd1 := hblk2.cell 1
      simp only [List.getElem?_toArray, List.getElem?_cons_zero, List.getElem?_cons_succ] at hd0 hd1
      clear hb1 hb2 hblk2 hb01
      go_wp2_with fail
      refine (HSH.out w2 hb12).mono ?_
      rintro e w3 ⟨rfl, hb3⟩
      have hb13 := hb12.trans (hb3.mono hb12.size)
      have hblk3 := HLV.out w3 hb13
      have hb03 := hb02.trans (hb3.mono hb02.size)
      have hd0 := hblk3.cell 0
      have hd1 := hblk3.cell 1
      simp only [List.getElem?_toArray, List.getElem?_cons_zero, List.getElem?_cons_succ] at hd0 hd1
      clear hb12 hb3 hblk3 hb02 hb13
      cases hs : shortL (op, bs) with
      | true =>
        have HVV : Hid (textL (op, bs) = 60 :: (hexEnc bs ++ [62])) := by show _ = _; rw [HV.out, hs]; rfl
        clear hs
        go_wp2
        rw [HE.out, HVV.out]
        exact strEnd_mk (text_join _) hb03
      | false =>
        have HVV : Hid (textL (op, bs) = dec3 y ++ 60 :: (hexEnc bs ++ [62])) := by show _ = _; rw [HV.out, hs]; rfl
        have hdl : (dec3 y).length ≤ 3 := dec3_length y
        clear hs
        go_wp2_with fail
        refine (refFig_any y hlt _).mono ?_
        rintro e w4 ⟨rfl, hb4⟩
        have hb04 := hb03.trans (hb4.mono hb03.size)
        clear hb4
        go_wp2
        rw [HE.out, HVV.out]
        exact strEnd_mk (by rw [text_join, bytes_app]) hb04
  · have hps : pushesL (op, bs) = none := by unfold pushesL; simp only [HY.out]; rw [if_neg h77, if_neg h79, if_neg (by omega)]
    have HV : Hid (textL (op, bs) = if nameL y ≠ [] then nameL y else 111 :: 112 :: dec3 y) := by
      show _ = _
      rw [hT, hps]
      rfl
    have HPU : Hid (Calls Tryz.prog 30 #[.agg #[.int .u8 (y : Int), .slice A n c]] X (PushesEnd none X)) := by rw [← hps]; exact HPU0
    have g0 : ((y : Int) == 0) = false := by rw [beq_eq_false_iff_ne]; omega
    by_cases h81 : 81 ≤ y
    · have h81i : (81 : Int) ≤ (y : Int) := by omega
      have h96i : ¬ (y : Int) ≤ 96 := by omega
      clear h79 h80 h00 hn' h77 hT hps HPU0 h81
      go_enter Tryz.func14, Tryz.ntmps14
      go_wp2_with fail
      rw [← hX]
      refine HPU.out.mono ?_
      rintro e w1 ⟨rfl, hb1⟩
      have hblk1 := HLV.out w1 hb1
      have hb01 := hbX.trans (hb1.mono hbX.size)
      have hd0 := hblk1.cell 0
      have hd1 := hblk1.cell 1
      simp only [List.getElem?_toArray, List.getElem?_cons_zero, List.getElem?_cons_succ] at hd0 hd1
      clear hX hblk1
      go_wp2_with fail
      refine (refName_any y w1 hy1).mono ?_
      rintro e w2 ⟨rfl, hb2⟩
      have hblk2 := HLV.out w2 (hb1.trans (hb2.mono hb1.size))
      have hb02 := hb01.trans (hb2.mono hb01.size)
      have hd0 := hblk2.cell 0
      have hd1 := hblk2.cell 1
      simp only [List.getElem?_toArray, List.getElem?_cons_zero, List.getElem?_cons_succ] at hd0 hd1
      clear hb1 hb2 hblk2 hb01
      by_cases hs : nameB y = ⟨#[]⟩
      · have HVV : Hid (textL (op, bs) = 111 :: 112 :: dec3 y) := by show _ = _; rw [HV.out, if_neg (by simp [name_no hs])]
        rw [show decide (nameB y ≠ ⟨#[]⟩) = false by rw [hs]; rfl]
        have hdl : (dec3 y).length ≤ 3 := dec3_length y
        clear hs
        go_wp2_with fail
        refine (refFig_any y hlt _).mono ?_
        rintro e w3 ⟨rfl, hb3⟩
        have hb03 := hb02.trans (hb3.mono hb02.size)
        clear hb3
        go_wp2
        rw [HE.out, HVV.out]
        exact strEnd_mk (bytes_app [111, 112] (dec3 y)) hb03
      · have HVV : Hid (textL (op, bs) = nameL y) := by show _ = _; rw [HV.out, if_pos (name_ne hs)]
        rw [show decide (nameB y ≠ ⟨#[]⟩) = true from decide_eq_true hs]
        have HNS : Hid (nameB y = ⟨(nameL y).toArray⟩) := name_str y
        clear hs
        obtain ⟨t, ht⟩ : ∃ t, t = nameB y := ⟨_, rfl⟩
        rw [← ht] at HNS ⊢
        clear ht
        go_wp2
        rw [HE.out, HVV.out]
        exact strEnd_mk HNS.out hb02
    · have h81i : ¬ (81 : Int) ≤ (y : Int) := by omega
      clear h79 h80 h00 hn' h77 hT hps HPU0 h81
      go_enter Tryz.func14, Tryz.ntmps14
      go_wp2_with fail
      rw [← hX]
      refine HPU.out.mono ?_
      rintro e w1 ⟨rfl, hb1⟩
      have hblk1 := HLV.out w1 hb1
      have hb01 := hbX.trans (hb1.mono hbX.size)
      have hd0 := hblk1.cell 0
      have hd1 := hblk1.cell 1
      simp only [List.getElem?_toArray, List.getElem?_cons_zero, List.getElem?_cons_succ] at hd0 hd1
      clear hX hblk1
      go_wp2_with fail
      refine (refName_any y w1 hy1).mono ?_
      rintro e w2 ⟨rfl, hb2⟩
      have hblk2 := HLV.out w2 (hb1.trans (hb2.mono hb1.size))
      have hb02 := hb01.trans (hb2.mono hb01.size)
      have hd0 := hblk2.cell 0
      have hd1 := hblk2.cell 1
      simp only [List.getElem?_toArray, List.getElem?_cons_zero, List.getElem?_cons_succ] at hd0 hd1
      clear hb1 hb2 hblk2 hb01
      by_cases hs : nameB y = ⟨#[]⟩
      · have HVV : Hid (textL (op, bs) = 111 :: 112 :: dec3 y) := by show _ = _; rw [HV.out, if_neg (by simp [name_no hs])]
        rw [show decide (nameB y ≠ ⟨#[]⟩) = false by rw [hs]; rfl]
        have hdl : (dec3 y).length ≤ 3 := dec3_length y
        clear hs
        go_wp2_with fail
        refine (refFig_any y hlt _).mono ?_
        rintro e w3 ⟨rfl, hb3⟩
        have hb03 := hb02.trans (hb3.mono hb02.size)
        clear hb3
        go_wp2
        rw [HE.out, HVV.out]
        exact strEnd_mk (bytes_app [111, 112] (dec3 y)) hb03
      · have HVV : Hid (textL (op, bs) = nameL y) := by show _ = _; rw [HV.out, if_pos (name_ne hs)]
        rw [show decide (nameB y ≠ ⟨#[]⟩) = true from decide_eq_true hs]
        have HNS : Hid (nameB y = ⟨(nameL y).toArray⟩) := name_str y
        clear hs
        obtain ⟨t, ht⟩ : ∃ t, t = nameB y := ⟨_, rfl⟩
        rw [← ht] at HNS ⊢
        clear ht
        go_wp2
        rw [HE.out, HVV.out]
        exact strEnd_mk HNS.out hb02

end Go.Proofs.YtggadilgkcjbjaaGreatDoor
