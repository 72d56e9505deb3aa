/-
  The walk over the reference's word.
-/
import Derived.Test.YtggadilgkcjbjaaGreatDoorRefPushed
import Derived.Test.YtggadilgkcjbjaaGreatDoorRefText
set_option linter.unusedVariables false
namespace Go.Proofs.YtggadilgkcjbjaaGreatDoor
open Go.RowKit Go.Sort

theorem word_op' (w : World) {z : Int} {o : UInt8} (h : z = (o.toNat : Int)) : WordAt w (.agg #[.int .u8 z, .slice none 0 0]) (o, []) := ⟨_, by rw [h], rfl, .inl ⟨rfl, rfl⟩⟩

set_option maxRecDepth 100000 in
set_option maxHeartbeats 4000000 in
theorem refWord_any (s : ByteArray) (w : World) (hs : s.size ≤ 100000) :
    Calls Tryz.prog 18 #[.string s] w (PushedEnd (wordL s.data.toList) 65535 w) := by
  obtain ⟨E, hE⟩ : ∃ E, E = PushedEnd (wordL s.data.toList) 65535 w := ⟨_, rfl⟩
  rw [← hE]
  have HE := Lib.hid hE
  have HP := Lib.hid (refPushed_any s · hs)
  obtain ⟨S, hS⟩ : ∃ S, S = s.data.toList := ⟨_, rfl⟩
  have HS := Lib.hid hS
  rw [← hS] at HE HP
  clear hE hS
  obtain ⟨X, hX⟩ : ∃ X, X = w.alloc (.cells #[.int .u8 0, .slice none 0 0] 36) := ⟨_, rfl⟩
  have hbX : Below w.heap.size w X := by rw [hX]; exact (Below.refl _ _).alloc (Nat.le_refl _) _
  have hblk : Blk X w.heap.size 36 #[.int .u8 0, .slice none 0 0] := by rw [hX]; exact Blk.new w _ _
  have HLV : Hid (∀ w', Below X.heap.size X w' → Blk w' w.heap.size 36 #[.int .u8 0, .slice none 0 0]) := fun w' hb => hblk.below hb hblk.lt
  go_enter Tryz.func18, Tryz.ntmps18
  go_wp2_with fail
  rw [← hX]
  clear hX hblk
  refine (HP.out X).mono ?_
  rintro e w2 ⟨v, x, rfl, ⟨p, rfl, hp⟩, hxl, hx, hb2⟩
  obtain ⟨A2, c2, e2⟩ := hp.slice
  subst e2
  obtain ⟨z, hz⟩ : ∃ z, z = x.1.toNat := ⟨_, rfl⟩
  have HZ := Lib.hid hz
  obtain ⟨m, hm⟩ : ∃ m, m = x.2.length := ⟨_, rfl⟩
  have HM := Lib.hid hm
  rw [← hz, ← hm]
  rw [← hm] at hxl hp
  have hb02 := hbX.trans (hb2.mono hbX.size)
  clear hz hm
  obtain ⟨Y, hY⟩ : ∃ Y, Y = w2.alloc (.cells #[.int .u8 (z : Int), .slice A2 m c2] 36) := ⟨_, rfl⟩
  have hbY : Below w2.heap.size w2 Y := by rw [hY]; exact (Below.refl _ _).alloc (Nat.le_refl _) _
  have HW : Hid (Blk Y w2.heap.size 36 #[.int .u8 (z : Int), .slice A2 m c2]) := by show Blk _ _ _ _; rw [hY]; exact Blk.new w2 _ _
  have HPP : Hid (PushAt Y (.slice A2 m c2) x.2) := PushAt.below hp hbY
  have hb2Y := hb2.trans (hbY.mono hb2.size)
  have HR : Hid (Blk Y w.heap.size 36 #[.int .u8 0, .slice none 0 0]) := HLV.out Y hb2Y
  have hb0Y := hb02.trans (hbY.mono hb02.size)
  have HB0Y := Lib.hid hb0Y
  have hd0 := HW.out.cell 0
  have hd1 := HW.out.cell 1
  have hc0 := HR.out.cell 0
  have hc1 := HR.out.cell 1
  have hf0 := HR.out.frozen 0
  have hf1 := HR.out.frozen 1
  simp only [List.getElem?_toArray, List.getElem?_cons_zero, List.getElem?_cons_succ] at hc0 hc1 hd0 hd1
  clear hp hb2 hb02 hbY
  cases hpl : refPushedL S with
  | none =>
    have HWL : Hid (wordL S = ((List.range 256).find? (isText S)).map fun o => ((UInt8.ofNat o, []) : Wd)) := by
      show _ = _
      rw [← refWordL_eq]
      unfold refWordL
      rw [hpl]
    simp only [Option.isSome_none]
    clear hpl hx hd0 hd1 hc0 hc1 hf0 hf1
    go_wp2
    rw [← hY]
    clear hY
    have hwd : ∀ (w' : World) (o : Nat), o < 256 → WordAt w' (.agg #[.int .u8 (o : Int), .slice none 0 0]) (UInt8.ofNat o, []) := fun w' o h => word_op' w' (by rw [ofNat_toNat' h])
    have HWD := Lib.hid hwd
    clear hwd
    go_loopw [6] (fun a wr => ∃ o : Nat, a = .int .i64 o ∧ o ≤ 256 ∧ Hid (∀ j, j < o → isText S j = false) ∧ Below Y.heap.size Y wr) (fun a _ => 256 - (intOf a).toNat)
    case atStart => exact ⟨0, rfl, by omega, fun j h => by omega, Below.refl _ _⟩
    case round =>
      obtain ⟨o, rfl, ho, hno, hb⟩ := hrel
      by_cases hlt : o < 256
      · have hlt' : (o : Int) < 256 := by omega
        have hwo : IntKind.u8.wrap (o : Int) = (o : Int) := by simp [IntKind.wrap, IntKind.signed, IntKind.bits]; omega
        obtain ⟨B, hB⟩ : ∃ B, B = wr.alloc (.cells #[.int .u8 (o : Int), .slice none 0 0] 36) := ⟨_, rfl⟩
        have hrB : Below wr.heap.size wr B := by rw [hB]; exact (Below.refl _ _).alloc (Nat.le_refl _) _
        have HBK : Hid (Blk B wr.heap.size 36 #[.int .u8 (o : Int), .slice none 0 0]) := by show Blk _ _ _ _; rw [hB]; exact Blk.new wr _ _
        have hbB := hb.trans (hrB.mono hb.size)
        have hnx : isText S o = false → Hid (∀ j, j < o + 1 → isText S j = false) := fun h0 j hj => by
          rcases Nat.lt_succ_iff_lt_or_eq.1 hj with h | h
          · exact hno.out j h
          · subst h; exact h0
        clear hrB hb
        cases hmy : (layL (UInt8.ofNat o, [])).isSome with
        | false =>
          have HNX := hnx (by unfold isText; rw [hmy]; rfl)
          have HMAY : Hid (∀ w', Calls Tryz.prog 42 #[.agg #[.int .u8 (o : Int), .slice none 0 0]] w' fun e w'' => e = .returned (.bool false) ∧ Below w'.heap.size w' w'') := fun w' => by
            have := refMay_any _ _ w' (HWD.out w' o hlt)
            rw [hmy] at this
            exact this
          clear hmy hnx hno
          go_wp2_with fail
          rw [← hB]
          clear hB
          refine (HMAY.out _).mono ?_
          rintro e w3 ⟨rfl, hb3⟩
          have hb03 := hbB.trans (hb3.mono hbB.size)
          clear hb3
          go_wp2
          go_roundw
          case rel => exact ⟨o + 1, by simp, by omega, HNX, hb03⟩
          case measure => simp [intOf]; omega
        | true =>
          have HMAY : Hid (∀ w', Calls Tryz.prog 42 #[.agg #[.int .u8 (o : Int), .slice none 0 0]] w' fun e w'' => e = .returned (.bool true) ∧ Below w'.heap.size w' w'') := fun w' => by
            have := refMay_any _ _ w' (HWD.out w' o hlt)
            rw [hmy] at this
            exact this
          have HTX0 : Hid (∀ w', Calls Tryz.prog 14 #[.agg #[.int .u8 (o : Int), .slice none 0 0]] w' (StrEnd (textL (UInt8.ofNat o, [])) w')) := fun w' => refText_any _ _ w' (HWD.out w' o hlt) (by simp)
          obtain ⟨t, ht⟩ : ∃ t, t = (⟨(textL (UInt8.ofNat o, [])).toArray⟩ : ByteArray) := ⟨_, rfl⟩
          have HTX : Hid (∀ w', Calls Tryz.prog 14 #[.agg #[.int .u8 (o : Int), .slice none 0 0]] w' (fun e w'' => e = .returned (.string t) ∧ Below w'.heap.size w' w'')) := by rw [ht]; exact HTX0
          by_cases hq : t = s
          · have HV : Hid (wordL S = some (UInt8.ofNat o, [])) := by
              show _ = _
              rw [HWL.out]
              refine isText_some hlt ?_
              unfold isText
              rw [hmy, decide_eq_true (by rw [HS.out]; exact str_eq_iff.1 (ht.symm.trans hq))]
              rfl
            rw [hq] at HTX
            clear hmy hnx hno hq ht HTX0
            go_wp2_with fail
            rw [← hB]
            clear hB
            refine (HMAY.out _).mono ?_
            rintro e w3 ⟨rfl, hb3⟩
            have hb03 := hbB.trans (hb3.mono hbB.size)
            have hblk3 := HBK.out.below hb3 HBK.out.lt
            have HBK3 := Lib.hid hblk3
            have hd0 := hblk3.cell 0
            have hd1 := hblk3.cell 1
            simp only [List.getElem?_toArray, List.getElem?_cons_zero, List.getElem?_cons_succ] at hd0 hd1
            clear hb3 hblk3
            go_wp2_with fail
            refine (HTX.out _).mono ?_
            rintro e w4 ⟨rfl, hb4⟩
            have hb04 := hb03.trans (hb4.mono hb03.size)
            have hblk4 := HLV.out w4 (hb2Y.trans (hb04.mono hb2Y.size))
            have HBK4 := Lib.hid hblk4
            have hx4 := HBK3.out.below hb4 HBK3.out.lt
            have hc0 := hblk4.cell 0
            have hc1 := hblk4.cell 1
            have hf0 := hblk4.frozen 0
            have hf1 := hblk4.frozen 1
            have he0 := hx4.cell 0
            have he1 := hx4.cell 1
            simp only [List.getElem?_toArray, List.getElem?_cons_zero, List.getElem?_cons_succ] at hc0 hc1 he0 he1
            clear hblk4 hx4 hd0 hd1 hb4
            go_wp2
            refine bodyPost_ret (results_cellB rfl rfl (loadWord ((HBK4.out.set_ 0 _).set_ 1 _))) rfl ?_
            rw [HE.out, HV.out]
            exact ⟨_, (UInt8.ofNat o, []), rfl, word_op' _ (by rw [ofNat_toNat' hlt]), by simp, fun y e => Option.some.inj e, ((HB0Y.out.trans (hb04.mono HB0Y.out.size)).setCell (p := ⟨w.heap.size, 0, none⟩) (Nat.le_refl _) _).setCell (p := ⟨w.heap.size, 1, none⟩) (Nat.le_refl _) _⟩
          · have HNX := hnx (by
              unfold isText
              rw [decide_eq_false (fun h => hq (ht.trans (str_eq_iff.2 (by rw [← HS.out]; exact h))))]
              exact Bool.and_false _)
            have hq' := str_ne hq
            clear hmy hnx hno hq ht HTX0
            go_wp2_with fail
            rw [← hB]
            clear hB
            refine (HMAY.out _).mono ?_
            rintro e w3 ⟨rfl, hb3⟩
            have hb03 := hbB.trans (hb3.mono hbB.size)
            have hblk3 := HBK.out.below hb3 HBK.out.lt
            have HBK3 := Lib.hid hblk3
            have hd0 := hblk3.cell 0
            have hd1 := hblk3.cell 1
            simp only [List.getElem?_toArray, List.getElem?_cons_zero, List.getElem?_cons_succ] at hd0 hd1
            clear hb3 hblk3
            go_wp2_with fail
            refine (HTX.out _).mono ?_
            rintro e w4 ⟨rfl, hb4⟩
            have hb04 := hb03.trans (hb4.mono hb03.size)
            have hblk4 := HLV.out w4 (hb2Y.trans (hb04.mono hb2Y.size))
            have HBK4 := Lib.hid hblk4
            have hx4 := HBK3.out.below hb4 HBK3.out.lt
            have hc0 := hblk4.cell 0
            have hc1 := hblk4.cell 1
            have hf0 := hblk4.frozen 0
            have hf1 := hblk4.frozen 1
            have he0 := hx4.cell 0
            have he1 := hx4.cell 1
            simp only [List.getElem?_toArray, List.getElem?_cons_zero, List.getElem?_cons_succ] at hc0 hc1 he0 he1
            clear hblk4 hx4 hd0 hd1 hb4
            go_wp2
            go_roundw
            case rel => exact ⟨o + 1, by simp, by omega, HNX, hb04⟩
            case measure => simp [intOf]; omega
      · have HV : Hid (wordL S = none) := by
          show _ = _
          rw [HWL.out]
          exact isText_none fun j hj => hno.out j (by omega)
        have hlt' : ¬ (o : Int) < 256 := by omega
        have hblk4 := HLV.out wr (hb2Y.trans (hb.mono hb2Y.size))
        have HBK4 := Lib.hid hblk4
        have hc0 := hblk4.cell 0
        have hc1 := hblk4.cell 1
        have hf0 := hblk4.frozen 0
        have hf1 := hblk4.frozen 1
        simp only [List.getElem?_toArray, List.getElem?_cons_zero, List.getElem?_cons_succ] at hc0 hc1
        clear hblk4 hno
        go_wp2
        refine bodyPost_ret (results_cellB rfl rfl (loadWord ((HBK4.out.set_ 0 _).set_ 1 _))) rfl ?_
        rw [HE.out, HV.out]
        exact ⟨_, (0, []), rfl, word_nil _, by simp, (fun y e => by cases e), ((HB0Y.out.trans (hb.mono HB0Y.out.size)).setCell (p := ⟨w.heap.size, 0, none⟩) (Nat.le_refl _) _).setCell (p := ⟨w.heap.size, 1, none⟩) (Nat.le_refl _) _⟩
  | some y =>
    have hxy : x = y := hx y hpl
    subst hxy
    have HWX : Hid (wordL S = if (layL x).isSome ∧ textL x = S then some x else none) := by
      show _ = _
      rw [← refWordL_eq]
      unfold refWordL
      rw [hpl]
    have HEND : Hid (∀ (w4 : World) (fl : Bool), Below Y.heap.size Y w4 → Blk w4 w.heap.size 36 #[.int .u8 0, .slice none 0 0] → (wordL S).isSome = fl → (∀ y, wordL S = some y → x = y) → E (.returned (.tuple #[.agg #[.int .u8 (z : Int), .slice A2 m c2], .bool fl])) ((w4.setCell ⟨w.heap.size, 0, none⟩ (.int .u8 (z : Int))).setCell ⟨w.heap.size, 1, none⟩ (.slice A2 m c2))) := by
      intro w4 fl h1 h2 h4 h5
      have h3 := HB0Y.out.trans (h1.mono HB0Y.out.size)
      have h6 : PushAt w4 (.slice A2 m c2) x.2 := PushAt.below HPP.out h1
      rw [HE.out]
      exact ⟨_, x, by rw [h4], ⟨_, by rw [HZ.out], (h6.setB h2 (by decide) 0 _).setB (h2.set_ 0 _) (by decide) 1 _⟩, by have := HM.out; omega, h5, (h3.setCell (p := ⟨w.heap.size, 0, none⟩) (Nat.le_refl _) _).setCell (p := ⟨w.heap.size, 1, none⟩) (Nat.le_refl _) _⟩
    have HMAY0 : Hid (∀ w', Below Y.heap.size Y w' → Calls Tryz.prog 42 #[.agg #[.int .u8 (z : Int), .slice A2 m c2]] w' fun e w'' => e = .returned (.bool (layL x).isSome) ∧ Below w'.heap.size w' w'') := fun w' hb => refMay_any _ x w' ⟨_, by rw [HZ.out], PushAt.below HPP.out hb⟩
    simp only [Option.isSome_some]
    clear hpl hx hb2Y hb0Y hbX
    cases hlx : layL x with
    | none =>
      have HV : Hid (wordL S = none) := by show _ = _; rw [HWX.out, hlx]; rfl
      have HMAY : Hid (∀ w', Below Y.heap.size Y w' → Calls Tryz.prog 42 #[.agg #[.int .u8 (z : Int), .slice A2 m c2]] w' fun e w'' => e = .returned (.bool false) ∧ Below w'.heap.size w' w'') := by
        intro w' hb
        have := HMAY0.out w' hb
        rw [hlx] at this
        exact this
      clear hlx
      go_wp2_with fail
      rw [← hY]
      clear hY
      refine wp_region_any (by kernel_rfl) ?_
      try (change wpAny _ _ _ _ _ _ _ (World.drew _))
      refine wpAny_ready (rs := [0, 1]) (by kernel_rfl) (by simp) ?_
      refine AllReady.cons rfl (fun K hK => ?_) (AllReady.cons rfl (fun K hK => ?_) AllReady.nil)
      · go_simp
        refine hK _ _ ?_
        clear hK K
        refine wpAny_ready (rs := [1]) (by kernel_rfl) (by simp) ?_
        refine AllReady.cons rfl (fun K hK => ?_) AllReady.nil
        go_simp
        refine hK _ _ ?_
        clear hK K
        refine wpAny_ready (rs := [2]) (by kernel_rfl) (by simp) ?_
        refine AllReady.cons rfl (fun K hK => ?_) AllReady.nil
        go_simp
        go_wp2_with (go_at_call 42; refine (HMAY.out _ (Below.refl _ _).drew).mono ?_; intro e w3 h; obtain ⟨e1, hbw3⟩ := h; subst e1; have hdb3 := HW.out.drew.below hbw3 HW.out.lt; have hrb3 := HR.out.drew.below hbw3 HR.out.lt; have hd0' := hdb3.cell 0; have hd1' := hdb3.cell 1; have hc0' := hrb3.cell 0; have hc1' := hrb3.cell 1; have hf0' := hrb3.frozen 0; have hf1' := hrb3.frozen 1; simp only [List.getElem?_toArray, List.getElem?_cons_zero, List.getElem?_cons_succ] at hd0' hd1' hc0' hc1'; have HW3 := Lib.hid hdb3; have HR3 := Lib.hid hrb3; clear hdb3 hrb3; have HBw3 := Lib.hid hbw3; clear hbw3)
        refine wpAny_take (i := 3) (v := ?_) rfl (by kernel_rfl) (by kernel_rfl) (by kernel_rfl) (fun _ _ _ h => h) (.inl ⟨by rfl, ?_⟩) ?_
        rotate_left
        focus (intro wx; go_simp; first | done | with_reducible rfl | rfl)
        simp only [List.getElem_toArray, List.getElem_cons_succ, List.getElem_cons_zero, Act.put, List.setIfInBounds_toArray, List.set_cons_zero, List.set_cons_succ]
        refine wpAny_take (i := 4) (v := undef) rfl (by kernel_rfl) (by kernel_rfl) (by kernel_rfl) (fun _ _ _ h => h) (.inr ⟨by rfl, rfl⟩) ?_
        simp only [List.getElem_toArray, List.getElem_cons_succ, List.getElem_cons_zero, Act.put, List.setIfInBounds_toArray, List.set_cons_zero, List.set_cons_succ]
        refine wpAny_take (i := 5) (v := undef) rfl (by kernel_rfl) (by kernel_rfl) (by kernel_rfl) (fun _ _ _ h => h) (.inr ⟨by rfl, rfl⟩) ?_
        simp only [List.getElem_toArray, List.getElem_cons_succ, List.getElem_cons_zero, Act.put, List.setIfInBounds_toArray, List.set_cons_zero, List.set_cons_succ]
        refine wpAny_take (i := 6) (v := undef) rfl (by kernel_rfl) (by kernel_rfl) (by kernel_rfl) (fun _ _ _ h => h) (.inr ⟨by rfl, rfl⟩) ?_
        simp only [List.getElem_toArray, List.getElem_cons_succ, List.getElem_cons_zero, Act.put, List.setIfInBounds_toArray, List.set_cons_zero, List.set_cons_succ]
        refine wpAny_take (i := 7) (v := undef) rfl (by kernel_rfl) (by kernel_rfl) (by kernel_rfl) (fun _ _ _ h => h) (.inr ⟨by rfl, rfl⟩) ?_
        simp only [List.getElem_toArray, List.getElem_cons_succ, List.getElem_cons_zero, Act.put, List.setIfInBounds_toArray, List.set_cons_zero, List.set_cons_succ]
        refine wpAny_take (i := 8) (v := ?_) rfl (by kernel_rfl) (by kernel_rfl) (by kernel_rfl) (fun _ _ _ h => h) (.inl ⟨by rfl, ?_⟩) ?_
        rotate_left
        focus (intro wx; go_simp; first | done | with_reducible rfl | rfl)
        simp only [List.getElem_toArray, List.getElem_cons_succ, List.getElem_cons_zero, Act.put, List.setIfInBounds_toArray, List.set_cons_zero, List.set_cons_succ]
        refine wpAny_ready (rs := [9]) (by kernel_rfl) (by simp) ?_
        refine AllReady.cons rfl (fun K hK => ?_) AllReady.nil
        go_simp
        refine hK _ _ ?_
        clear hK K
        refine wpAny_ready (rs := [10]) (by kernel_rfl) (by simp) ?_
        refine AllReady.cons rfl (fun K hK => ?_) AllReady.nil
        go_simp
        refine hK _ _ ?_
        clear hK K
        refine wpAny_done (by kernel_rfl) ?_ _
        go_wp2
        refine bodyPost_ret (results_cellB rfl rfl (loadWord ((HR3.out.set_ 0 _).set_ 1 _))) rfl ?_
        exact HEND.out w3 _ ((Below.refl Y.heap.size Y).drew.trans HBw3.out) HR3.out (by rw [HV.out]; rfl) (fun y e => by rw [HV.out] at e; cases e)
      · go_simp
        refine hK _ _ ?_
        clear hK K
        refine wpAny_ready (rs := [0, 2]) (by kernel_rfl) (by simp) ?_
        refine AllReady.cons rfl (fun K hK => ?_) (AllReady.cons rfl (fun K hK => ?_) AllReady.nil)
        · go_simp
          refine hK _ _ ?_
          clear hK K
          refine wpAny_ready (rs := [2]) (by kernel_rfl) (by simp) ?_
          refine AllReady.cons rfl (fun K hK => ?_) AllReady.nil
          go_simp
          go_wp2_with (go_at_call 42; refine (HMAY.out _ (Below.refl _ _).drew).mono ?_; intro e w3 h; obtain ⟨e1, hbw3⟩ := h; subst e1; have hdb3 := HW.out.drew.below hbw3 HW.out.lt; have hrb3 := HR.out.drew.below hbw3 HR.out.lt; have hd0' := hdb3.cell 0; have hd1' := hdb3.cell 1; have hc0' := hrb3.cell 0; have hc1' := hrb3.cell 1; have hf0' := hrb3.frozen 0; have hf1' := hrb3.frozen 1; simp only [List.getElem?_toArray, List.getElem?_cons_zero, List.getElem?_cons_succ] at hd0' hd1' hc0' hc1'; have HW3 := Lib.hid hdb3; have HR3 := Lib.hid hrb3; clear hdb3 hrb3; have HBw3 := Lib.hid hbw3; clear hbw3)
          refine wpAny_take (i := 3) (v := ?_) rfl (by kernel_rfl) (by kernel_rfl) (by kernel_rfl) (fun _ _ _ h => h) (.inl ⟨by rfl, ?_⟩) ?_
          rotate_left
          focus (intro wx; go_simp; first | done | with_reducible rfl | rfl)
          simp only [List.getElem_toArray, List.getElem_cons_succ, List.getElem_cons_zero, Act.put, List.setIfInBounds_toArray, List.set_cons_zero, List.set_cons_succ]
          refine wpAny_take (i := 4) (v := undef) rfl (by kernel_rfl) (by kernel_rfl) (by kernel_rfl) (fun _ _ _ h => h) (.inr ⟨by rfl, rfl⟩) ?_
          simp only [List.getElem_toArray, List.getElem_cons_succ, List.getElem_cons_zero, Act.put, List.setIfInBounds_toArray, List.set_cons_zero, List.set_cons_succ]
          refine wpAny_take (i := 5) (v := undef) rfl (by kernel_rfl) (by kernel_rfl) (by kernel_rfl) (fun _ _ _ h => h) (.inr ⟨by rfl, rfl⟩) ?_
          simp only [List.getElem_toArray, List.getElem_cons_succ, List.getElem_cons_zero, Act.put, List.setIfInBounds_toArray, List.set_cons_zero, List.set_cons_succ]
          refine wpAny_take (i := 6) (v := undef) rfl (by kernel_rfl) (by kernel_rfl) (by kernel_rfl) (fun _ _ _ h => h) (.inr ⟨by rfl, rfl⟩) ?_
          simp only [List.getElem_toArray, List.getElem_cons_succ, List.getElem_cons_zero, Act.put, List.setIfInBounds_toArray, List.set_cons_zero, List.set_cons_succ]
          refine wpAny_take (i := 7) (v := undef) rfl (by kernel_rfl) (by kernel_rfl) (by kernel_rfl) (fun _ _ _ h => h) (.inr ⟨by rfl, rfl⟩) ?_
          simp only [List.getElem_toArray, List.getElem_cons_succ, List.getElem_cons_zero, Act.put, List.setIfInBounds_toArray, List.set_cons_zero, List.set_cons_succ]
          refine wpAny_take (i := 8) (v := ?_) rfl (by kernel_rfl) (by kernel_rfl) (by kernel_rfl) (fun _ _ _ h => h) (.inl ⟨by rfl, ?_⟩) ?_
          rotate_left
          focus (intro wx; go_simp; first | done | with_reducible rfl | rfl)
          simp only [List.getElem_toArray, List.getElem_cons_succ, List.getElem_cons_zero, Act.put, List.setIfInBounds_toArray, List.set_cons_zero, List.set_cons_succ]
          refine wpAny_ready (rs := [9]) (by kernel_rfl) (by simp) ?_
          refine AllReady.cons rfl (fun K hK => ?_) AllReady.nil
          go_simp
          refine hK _ _ ?_
          clear hK K
          refine wpAny_ready (rs := [10]) (by kernel_rfl) (by simp) ?_
          refine AllReady.cons rfl (fun K hK => ?_) AllReady.nil
          go_simp
          refine hK _ _ ?_
          clear hK K
          refine wpAny_done (by kernel_rfl) ?_ _
          go_wp2
          refine bodyPost_ret (results_cellB rfl rfl (loadWord ((HR3.out.set_ 0 _).set_ 1 _))) rfl ?_
          exact HEND.out w3 _ ((Below.refl Y.heap.size Y).drew.trans HBw3.out) HR3.out (by rw [HV.out]; rfl) (fun y e => by rw [HV.out] at e; cases e)
        · go_simp
          go_wp2_with (go_at_call 42; refine (HMAY.out _ (Below.refl _ _).drew).mono ?_; intro e w3 h; obtain ⟨e1, hbw3⟩ := h; subst e1; have hdb3 := HW.out.drew.below hbw3 HW.out.lt; have hrb3 := HR.out.drew.below hbw3 HR.out.lt; have hd0' := hdb3.cell 0; have hd1' := hdb3.cell 1; have hc0' := hrb3.cell 0; have hc1' := hrb3.cell 1; have hf0' := hrb3.frozen 0; have hf1' := hrb3.frozen 1; simp only [List.getElem?_toArray, List.getElem?_cons_zero, List.getElem?_cons_succ] at hd0' hd1' hc0' hc1'; have HW3 := Lib.hid hdb3; have HR3 := Lib.hid hrb3; clear hdb3 hrb3; have HBw3 := Lib.hid hbw3; clear hbw3)
          refine wpAny_take (i := 3) (v := ?_) rfl (by kernel_rfl) (by kernel_rfl) (by kernel_rfl) (fun _ _ _ h => h) (.inl ⟨by rfl, ?_⟩) ?_
          rotate_left
          focus (intro wx; go_simp; first | done | with_reducible rfl | rfl)
          simp only [List.getElem_toArray, List.getElem_cons_succ, List.getElem_cons_zero, Act.put, List.setIfInBounds_toArray, List.set_cons_zero, List.set_cons_succ]
          refine wpAny_take (i := 4) (v := undef) rfl (by kernel_rfl) (by kernel_rfl) (by kernel_rfl) (fun _ _ _ h => h) (.inr ⟨by rfl, rfl⟩) ?_
          simp only [List.getElem_toArray, List.getElem_cons_succ, List.getElem_cons_zero, Act.put, List.setIfInBounds_toArray, List.set_cons_zero, List.set_cons_succ]
          refine wpAny_take (i := 5) (v := undef) rfl (by kernel_rfl) (by kernel_rfl) (by kernel_rfl) (fun _ _ _ h => h) (.inr ⟨by rfl, rfl⟩) ?_
          simp only [List.getElem_toArray, List.getElem_cons_succ, List.getElem_cons_zero, Act.put, List.setIfInBounds_toArray, List.set_cons_zero, List.set_cons_succ]
          refine wpAny_take (i := 6) (v := undef) rfl (by kernel_rfl) (by kernel_rfl) (by kernel_rfl) (fun _ _ _ h => h) (.inr ⟨by rfl, rfl⟩) ?_
          simp only [List.getElem_toArray, List.getElem_cons_succ, List.getElem_cons_zero, Act.put, List.setIfInBounds_toArray, List.set_cons_zero, List.set_cons_succ]
          refine wpAny_take (i := 7) (v := undef) rfl (by kernel_rfl) (by kernel_rfl) (by kernel_rfl) (fun _ _ _ h => h) (.inr ⟨by rfl, rfl⟩) ?_
          simp only [List.getElem_toArray, List.getElem_cons_succ, List.getElem_cons_zero, Act.put, List.setIfInBounds_toArray, List.set_cons_zero, List.set_cons_succ]
          refine wpAny_take (i := 8) (v := ?_) rfl (by kernel_rfl) (by kernel_rfl) (by kernel_rfl) (fun _ _ _ h => h) (.inl ⟨by rfl, ?_⟩) ?_
          rotate_left
          focus (intro wx; go_simp; first | done | with_reducible rfl | rfl)
          simp only [List.getElem_toArray, List.getElem_cons_succ, List.getElem_cons_zero, Act.put, List.setIfInBounds_toArray, List.set_cons_zero, List.set_cons_succ]
          refine wpAny_ready (rs := [0]) (by kernel_rfl) (by simp) ?_
          refine AllReady.cons rfl (fun K hK => ?_) AllReady.nil
          go_simp
          refine hK _ _ ?_
          clear hK K
          refine wpAny_ready (rs := [9]) (by kernel_rfl) (by simp) ?_
          refine AllReady.cons rfl (fun K hK => ?_) AllReady.nil
          go_simp
          refine hK _ _ ?_
          clear hK K
          refine wpAny_ready (rs := [10]) (by kernel_rfl) (by simp) ?_
          refine AllReady.cons rfl (fun K hK => ?_) AllReady.nil
          go_simp
          refine hK _ _ ?_
          clear hK K
          refine wpAny_done (by kernel_rfl) ?_ _
          go_wp2
          refine bodyPost_ret (results_cellB rfl rfl (loadWord ((HR3.out.set_ 0 _).set_ 1 _))) rfl ?_
          exact HEND.out w3 _ ((Below.refl Y.heap.size Y).drew.trans HBw3.out) HR3.out (by rw [HV.out]; rfl) (fun y e => by rw [HV.out] at e; cases e)
    | some l =>
      have HN : Hid (wordL S = if textL x = S then some x else none) := by show _ = _; rw [HWX.out, hlx]; simp
      have HMAY : Hid (∀ w', Below Y.heap.size Y w' → Calls Tryz.prog 42 #[.agg #[.int .u8 (z : Int), .slice A2 m c2]] w' fun e w'' => e = .returned (.bool true) ∧ Below w'.heap.size w' w'') := by
        intro w' hb
        have := HMAY0.out w' hb
        rw [hlx] at this
        exact this
      have HTX0 : Hid (∀ w', Below Y.heap.size Y w' → Calls Tryz.prog 14 #[.agg #[.int .u8 (z : Int), .slice A2 m c2]] w' (StrEnd (textL x) w')) := fun w' hb => refText_any _ x w' ⟨_, by rw [HZ.out], PushAt.below HPP.out hb⟩ (by have := HM.out; omega)
      clear hlx
      obtain ⟨t, ht⟩ : ∃ t, t = (⟨(textL x).toArray⟩ : ByteArray) := ⟨_, rfl⟩
      by_cases hq : t = s
      · have HV : Hid (wordL S = some x) := by show _ = _; rw [HN.out, if_pos (by rw [HS.out]; exact str_eq_iff.1 (ht.symm.trans hq))]
        have HTX : Hid (∀ w', Below Y.heap.size Y w' → Calls Tryz.prog 14 #[.agg #[.int .u8 (z : Int), .slice A2 m c2]] w' (fun e w'' => e = .returned (.string s) ∧ Below w'.heap.size w' w'')) := fun w' hb => (HTX0.out w' hb).mono fun e w'' h => ⟨by rw [h.1, ← ht, hq], h.2⟩
        clear hq ht
        go_wp2_with fail
        rw [← hY]
        clear hY
        refine wp_region_any (by kernel_rfl) ?_
        try (change wpAny _ _ _ _ _ _ _ (World.drew _))
        refine wpAny_ready (rs := [0, 1]) (by kernel_rfl) (by simp) ?_
        refine AllReady.cons rfl (fun K hK => ?_) (AllReady.cons rfl (fun K hK => ?_) AllReady.nil)
        · go_simp
          refine hK _ _ ?_
          clear hK K
          refine wpAny_ready (rs := [1]) (by kernel_rfl) (by simp) ?_
          refine AllReady.cons rfl (fun K hK => ?_) AllReady.nil
          go_simp
          refine hK _ _ ?_
          clear hK K
          refine wpAny_ready (rs := [2]) (by kernel_rfl) (by simp) ?_
          refine AllReady.cons rfl (fun K hK => ?_) AllReady.nil
          go_simp
          go_wp2_with (go_at_call 42; refine (HMAY.out _ (Below.refl _ _).drew).mono ?_; intro e w3 h; obtain ⟨e1, hbw3⟩ := h; subst e1; have hdb3 := HW.out.drew.below hbw3 HW.out.lt; have hrb3 := HR.out.drew.below hbw3 HR.out.lt; have hd0' := hdb3.cell 0; have hd1' := hdb3.cell 1; have hc0' := hrb3.cell 0; have hc1' := hrb3.cell 1; have hf0' := hrb3.frozen 0; have hf1' := hrb3.frozen 1; simp only [List.getElem?_toArray, List.getElem?_cons_zero, List.getElem?_cons_succ] at hd0' hd1' hc0' hc1'; have HW3 := Lib.hid hdb3; have HR3 := Lib.hid hrb3; clear hdb3 hrb3; have HBw3 := Lib.hid hbw3; clear hbw3)
          refine wpAny_take (i := 3) (v := ?_) rfl (by kernel_rfl) (by kernel_rfl) (by kernel_rfl) (fun _ _ _ h => h) (.inl ⟨by rfl, ?_⟩) ?_
          rotate_left
          focus (intro wx; go_simp; first | done | with_reducible rfl | rfl)
          simp only [List.getElem_toArray, List.getElem_cons_succ, List.getElem_cons_zero, Act.put, List.setIfInBounds_toArray, List.set_cons_zero, List.set_cons_succ]
          refine wpAny_take (i := 6) (v := ?_) rfl (by kernel_rfl) (by kernel_rfl) (by kernel_rfl) (fun _ _ _ h => h) (.inl ⟨by rfl, ?_⟩) ?_
          rotate_left
          focus (intro wx; go_simp; first | done | with_reducible rfl | rfl)
          simp only [List.getElem_toArray, List.getElem_cons_succ, List.getElem_cons_zero, Act.put, List.setIfInBounds_toArray, List.set_cons_zero, List.set_cons_succ]
          refine wpAny_ready (rs := [4]) (by kernel_rfl) (by simp) ?_
          refine AllReady.cons rfl (fun K hK => ?_) AllReady.nil
          go_simp
          refine hK _ _ ?_
          clear hK K
          refine wpAny_ready (rs := [5]) (by kernel_rfl) (by simp) ?_
          refine AllReady.cons rfl (fun K hK => ?_) AllReady.nil
          go_simp
          go_wp2_with (go_at_call 14; refine (HTX.out _ ((Below.refl Y.heap.size Y).drew.trans HBw3.out)).mono ?_; intro e w4 h; obtain ⟨e1, hbw4⟩ := h; subst e1; have hdb4 := HW3.out.below hbw4 HW3.out.lt; have hrb4 := HR3.out.below hbw4 HR3.out.lt; have hd0'' := hdb4.cell 0; have hd1'' := hdb4.cell 1; have hc0'' := hrb4.cell 0; have hc1'' := hrb4.cell 1; have hf0'' := hrb4.frozen 0; have hf1'' := hrb4.frozen 1; simp only [List.getElem?_toArray, List.getElem?_cons_zero, List.getElem?_cons_succ] at hd0'' hd1'' hc0'' hc1''; have HR4 := Lib.hid hrb4; clear hdb4 hrb4; have HBw4 := Lib.hid hbw4; clear hbw4)
          refine wpAny_take (i := 7) (v := ?_) rfl (by kernel_rfl) (by kernel_rfl) (by kernel_rfl) (fun _ _ _ h => h) (.inl ⟨by rfl, ?_⟩) ?_
          rotate_left
          focus (intro wx; go_simp; first | done | with_reducible rfl | rfl)
          simp only [List.getElem_toArray, List.getElem_cons_succ, List.getElem_cons_zero, Act.put, List.setIfInBounds_toArray, List.set_cons_zero, List.set_cons_succ]
          refine wpAny_take (i := 8) (v := ?_) rfl (by kernel_rfl) (by kernel_rfl) (by kernel_rfl) (fun _ _ _ h => h) (.inl ⟨by rfl, ?_⟩) ?_
          rotate_left
          focus (intro wx; go_simp; first | done | with_reducible rfl | rfl)
          simp only [List.getElem_toArray, List.getElem_cons_succ, List.getElem_cons_zero, Act.put, List.setIfInBounds_toArray, List.set_cons_zero, List.set_cons_succ]
          refine wpAny_ready (rs := [9]) (by kernel_rfl) (by simp) ?_
          refine AllReady.cons rfl (fun K hK => ?_) AllReady.nil
          go_simp
          refine hK _ _ ?_
          clear hK K
          refine wpAny_ready (rs := [10]) (by kernel_rfl) (by simp) ?_
          refine AllReady.cons rfl (fun K hK => ?_) AllReady.nil
          go_simp
          refine hK _ _ ?_
          clear hK K
          refine wpAny_done (by kernel_rfl) ?_ _
          go_wp2
          refine bodyPost_ret (results_cellB rfl rfl (loadWord ((HR4.out.set_ 0 _).set_ 1 _))) rfl ?_
          exact HEND.out w4 _ (((Below.refl Y.heap.size Y).drew.trans HBw3.out).trans (HBw4.out.mono ((Below.refl Y.heap.size Y).drew.trans HBw3.out).size)) HR4.out (by rw [HV.out]; rfl) (fun y e => by rw [HV.out] at e; exact Option.some.inj e)
        · go_simp
          refine hK _ _ ?_
          clear hK K
          refine wpAny_ready (rs := [0, 2]) (by kernel_rfl) (by simp) ?_
          refine AllReady.cons rfl (fun K hK => ?_) (AllReady.cons rfl (fun K hK => ?_) AllReady.nil)
          · go_simp
            refine hK _ _ ?_
            clear hK K
            refine wpAny_ready (rs := [2]) (by kernel_rfl) (by simp) ?_
            refine AllReady.cons rfl (fun K hK => ?_) AllReady.nil
            go_simp
            go_wp2_with (go_at_call 42; refine (HMAY.out _ (Below.refl _ _).drew).mono ?_; intro e w3 h; obtain ⟨e1, hbw3⟩ := h; subst e1; have hdb3 := HW.out.drew.below hbw3 HW.out.lt; have hrb3 := HR.out.drew.below hbw3 HR.out.lt; have hd0' := hdb3.cell 0; have hd1' := hdb3.cell 1; have hc0' := hrb3.cell 0; have hc1' := hrb3.cell 1; have hf0' := hrb3.frozen 0; have hf1' := hrb3.frozen 1; simp only [List.getElem?_toArray, List.getElem?_cons_zero, List.getElem?_cons_succ] at hd0' hd1' hc0' hc1'; have HW3 := Lib.hid hdb3; have HR3 := Lib.hid hrb3; clear hdb3 hrb3; have HBw3 := Lib.hid hbw3; clear hbw3)
            refine wpAny_take (i := 3) (v := ?_) rfl (by kernel_rfl) (by kernel_rfl) (by kernel_rfl) (fun _ _ _ h => h) (.inl ⟨by rfl, ?_⟩) ?_
            rotate_left
            focus (intro wx; go_simp; first | done | with_reducible rfl | rfl)
            simp only [List.getElem_toArray, List.getElem_cons_succ, List.getElem_cons_zero, Act.put, List.setIfInBounds_toArray, List.set_cons_zero, List.set_cons_succ]
            refine wpAny_take (i := 6) (v := ?_) rfl (by kernel_rfl) (by kernel_rfl) (by kernel_rfl) (fun _ _ _ h => h) (.inl ⟨by rfl, ?_⟩) ?_
            rotate_left
            focus (intro wx; go_simp; first | done | with_reducible rfl | rfl)
            simp only [List.getElem_toArray, List.getElem_cons_succ, List.getElem_cons_zero, Act.put, List.setIfInBounds_toArray, List.set_cons_zero, List.set_cons_succ]
            refine wpAny_ready (rs := [4]) (by kernel_rfl) (by simp) ?_
            refine AllReady.cons rfl (fun K hK => ?_) AllReady.nil
            go_simp
            refine hK _ _ ?_
            clear hK K
            refine wpAny_ready (rs := [5]) (by kernel_rfl) (by simp) ?_
            refine AllReady.cons rfl (fun K hK => ?_) AllReady.nil
            go_simp
            go_wp2_with (go_at_call 14; refine (HTX.out _ ((Below.refl Y.heap.size Y).drew.trans HBw3.out)).mono ?_; intro e w4 h; obtain ⟨e1, hbw4⟩ := h; subst e1; have hdb4 := HW3.out.below hbw4 HW3.out.lt; have hrb4 := HR3.out.below hbw4 HR3.out.lt; have hd0'' := hdb4.cell 0; have hd1'' := hdb4.cell 1; have hc0'' := hrb4.cell 0; have hc1'' := hrb4.cell 1; have hf0'' := hrb4.frozen 0; have hf1'' := hrb4.frozen 1; simp only [List.getElem?_toArray, List.getElem?_cons_zero, List.getElem?_cons_succ] at hd0'' hd1'' hc0'' hc1''; have HR4 := Lib.hid hrb4; clear hdb4 hrb4; have HBw4 := Lib.hid hbw4; clear hbw4)
            refine wpAny_take (i := 7) (v := ?_) rfl (by kernel_rfl) (by kernel_rfl) (by kernel_rfl) (fun _ _ _ h => h) (.inl ⟨by rfl, ?_⟩) ?_
            rotate_left
            focus (intro wx; go_simp; first | done | with_reducible rfl | rfl)
            simp only [List.getElem_toArray, List.getElem_cons_succ, List.getElem_cons_zero, Act.put, List.setIfInBounds_toArray, List.set_cons_zero, List.set_cons_succ]
            refine wpAny_take (i := 8) (v := ?_) rfl (by kernel_rfl) (by kernel_rfl) (by kernel_rfl) (fun _ _ _ h => h) (.inl ⟨by rfl, ?_⟩) ?_
            rotate_left
            focus (intro wx; go_simp; first | done | with_reducible rfl | rfl)
            simp only [List.getElem_toArray, List.getElem_cons_succ, List.getElem_cons_zero, Act.put, List.setIfInBounds_toArray, List.set_cons_zero, List.set_cons_succ]
            refine wpAny_ready (rs := [9]) (by kernel_rfl) (by simp) ?_
            refine AllReady.cons rfl (fun K hK => ?_) AllReady.nil
            go_simp
            refine hK _ _ ?_
            clear hK K
            refine wpAny_ready (rs := [10]) (by kernel_rfl) (by simp) ?_
            refine AllReady.cons rfl (fun K hK => ?_) AllReady.nil
            go_simp
            refine hK _ _ ?_
            clear hK K
            refine wpAny_done (by kernel_rfl) ?_ _
            go_wp2
            refine bodyPost_ret (results_cellB rfl rfl (loadWord ((HR4.out.set_ 0 _).set_ 1 _))) rfl ?_
            exact HEND.out w4 _ (((Below.refl Y.heap.size Y).drew.trans HBw3.out).trans (HBw4.out.mono ((Below.refl Y.heap.size Y).drew.trans HBw3.out).size)) HR4.out (by rw [HV.out]; rfl) (fun y e => by rw [HV.out] at e; exact Option.some.inj e)
          · go_simp
            go_wp2_with (go_at_call 42; refine (HMAY.out _ (Below.refl _ _).drew).mono ?_; intro e w3 h; obtain ⟨e1, hbw3⟩ := h; subst e1; have hdb3 := HW.out.drew.below hbw3 HW.out.lt; have hrb3 := HR.out.drew.below hbw3 HR.out.lt; have hd0' := hdb3.cell 0; have hd1' := hdb3.cell 1; have hc0' := hrb3.cell 0; have hc1' := hrb3.cell 1; have hf0' := hrb3.frozen 0; have hf1' := hrb3.frozen 1; simp only [List.getElem?_toArray, List.getElem?_cons_zero, List.getElem?_cons_succ] at hd0' hd1' hc0' hc1'; have HW3 := Lib.hid hdb3; have HR3 := Lib.hid hrb3; clear hdb3 hrb3; have HBw3 := Lib.hid hbw3; clear hbw3)
            refine wpAny_take (i := 3) (v := ?_) rfl (by kernel_rfl) (by kernel_rfl) (by kernel_rfl) (fun _ _ _ h => h) (.inl ⟨by rfl, ?_⟩) ?_
            rotate_left
            focus (intro wx; go_simp; first | done | with_reducible rfl | rfl)
            simp only [List.getElem_toArray, List.getElem_cons_succ, List.getElem_cons_zero, Act.put, List.setIfInBounds_toArray, List.set_cons_zero, List.set_cons_succ]
            refine wpAny_take (i := 6) (v := ?_) rfl (by kernel_rfl) (by kernel_rfl) (by kernel_rfl) (fun _ _ _ h => h) (.inl ⟨by rfl, ?_⟩) ?_
            rotate_left
            focus (intro wx; go_simp; first | done | with_reducible rfl | rfl)
            simp only [List.getElem_toArray, List.getElem_cons_succ, List.getElem_cons_zero, Act.put, List.setIfInBounds_toArray, List.set_cons_zero, List.set_cons_succ]
            refine wpAny_ready (rs := [0, 4]) (by kernel_rfl) (by simp) ?_
            refine AllReady.cons rfl (fun K hK => ?_) (AllReady.cons rfl (fun K hK => ?_) AllReady.nil)
            · go_simp
              refine hK _ _ ?_
              clear hK K
              refine wpAny_ready (rs := [4]) (by kernel_rfl) (by simp) ?_
              refine AllReady.cons rfl (fun K hK => ?_) AllReady.nil
              go_simp
              refine hK _ _ ?_
              clear hK K
              refine wpAny_ready (rs := [5]) (by kernel_rfl) (by simp) ?_
              refine AllReady.cons rfl (fun K hK => ?_) AllReady.nil
              go_simp
              go_wp2_with (go_at_call 14; refine (HTX.out _ ((Below.refl Y.heap.size Y).drew.trans HBw3.out)).mono ?_; intro e w4 h; obtain ⟨e1, hbw4⟩ := h; subst e1; have hdb4 := HW3.out.below hbw4 HW3.out.lt; have hrb4 := HR3.out.below hbw4 HR3.out.lt; have hd0'' := hdb4.cell 0; have hd1'' := hdb4.cell 1; have hc0'' := hrb4.cell 0; have hc1'' := hrb4.cell 1; have hf0'' := hrb4.frozen 0; have hf1'' := hrb4.frozen 1; simp only [List.getElem?_toArray, List.getElem?_cons_zero, List.getElem?_cons_succ] at hd0'' hd1'' hc0'' hc1''; have HR4 := Lib.hid hrb4; clear hdb4 hrb4; have HBw4 := Lib.hid hbw4; clear hbw4)
              refine wpAny_take (i := 7) (v := ?_) rfl (by kernel_rfl) (by kernel_rfl) (by kernel_rfl) (fun _ _ _ h => h) (.inl ⟨by rfl, ?_⟩) ?_
              rotate_left
              focus (intro wx; go_simp; first | done | with_reducible rfl | rfl)
              simp only [List.getElem_toArray, List.getElem_cons_succ, List.getElem_cons_zero, Act.put, List.setIfInBounds_toArray, List.set_cons_zero, List.set_cons_succ]
              refine wpAny_take (i := 8) (v := ?_) rfl (by kernel_rfl) (by kernel_rfl) (by kernel_rfl) (fun _ _ _ h => h) (.inl ⟨by rfl, ?_⟩) ?_
              rotate_left
              focus (intro wx; go_simp; first | done | with_reducible rfl | rfl)
              simp only [List.getElem_toArray, List.getElem_cons_succ, List.getElem_cons_zero, Act.put, List.setIfInBounds_toArray, List.set_cons_zero, List.set_cons_succ]
              refine wpAny_ready (rs := [9]) (by kernel_rfl) (by simp) ?_
              refine AllReady.cons rfl (fun K hK => ?_) AllReady.nil
              go_simp
              refine hK _ _ ?_
              clear hK K
              refine wpAny_ready (rs := [10]) (by kernel_rfl) (by simp) ?_
              refine AllReady.cons rfl (fun K hK => ?_) AllReady.nil
              go_simp
              refine hK _ _ ?_
              clear hK K
              refine wpAny_done (by kernel_rfl) ?_ _
              go_wp2
              refine bodyPost_ret (results_cellB rfl rfl (loadWord ((HR4.out.set_ 0 _).set_ 1 _))) rfl ?_
              exact HEND.out w4 _ (((Below.refl Y.heap.size Y).drew.trans HBw3.out).trans (HBw4.out.mono ((Below.refl Y.heap.size Y).drew.trans HBw3.out).size)) HR4.out (by rw [HV.out]; rfl) (fun y e => by rw [HV.out] at e; exact Option.some.inj e)
            · go_simp
              refine hK _ _ ?_
              clear hK K
              refine wpAny_ready (rs := [0, 5]) (by kernel_rfl) (by simp) ?_
              refine AllReady.cons rfl (fun K hK => ?_) (AllReady.cons rfl (fun K hK => ?_) AllReady.nil)
              · go_simp
                refine hK _ _ ?_
                clear hK K
                refine wpAny_ready (rs := [5]) (by kernel_rfl) (by simp) ?_
                refine AllReady.cons rfl (fun K hK => ?_) AllReady.nil
                go_simp
                go_wp2_with (go_at_call 14; refine (HTX.out _ ((Below.refl Y.heap.size Y).drew.trans HBw3.out)).mono ?_; intro e w4 h; obtain ⟨e1, hbw4⟩ := h; subst e1; have hdb4 := HW3.out.below hbw4 HW3.out.lt; have hrb4 := HR3.out.below hbw4 HR3.out.lt; have hd0'' := hdb4.cell 0; have hd1'' := hdb4.cell 1; have hc0'' := hrb4.cell 0; have hc1'' := hrb4.cell 1; have hf0'' := hrb4.frozen 0; have hf1'' := hrb4.frozen 1; simp only [List.getElem?_toArray, List.getElem?_cons_zero, List.getElem?_cons_succ] at hd0'' hd1'' hc0'' hc1''; have HR4 := Lib.hid hrb4; clear hdb4 hrb4; have HBw4 := Lib.hid hbw4; clear hbw4)
                refine wpAny_take (i := 7) (v := ?_) rfl (by kernel_rfl) (by kernel_rfl) (by kernel_rfl) (fun _ _ _ h => h) (.inl ⟨by rfl, ?_⟩) ?_
                rotate_left
                focus (intro wx; go_simp; first | done | with_reducible rfl | rfl)
                simp only [List.getElem_toArray, List.getElem_cons_succ, List.getElem_cons_zero, Act.put, List.setIfInBounds_toArray, List.set_cons_zero, List.set_cons_succ]
                refine wpAny_take (i := 8) (v := ?_) rfl (by kernel_rfl) (by kernel_rfl) (by kernel_rfl) (fun _ _ _ h => h) (.inl ⟨by rfl, ?_⟩) ?_
                rotate_left
                focus (intro wx; go_simp; first | done | with_reducible rfl | rfl)
                simp only [List.getElem_toArray, List.getElem_cons_succ, List.getElem_cons_zero, Act.put, List.setIfInBounds_toArray, List.set_cons_zero, List.set_cons_succ]
                refine wpAny_ready (rs := [9]) (by kernel_rfl) (by simp) ?_
                refine AllReady.cons rfl (fun K hK => ?_) AllReady.nil
                go_simp
                refine hK _ _ ?_
                clear hK K
                refine wpAny_ready (rs := [10]) (by kernel_rfl) (by simp) ?_
                refine AllReady.cons rfl (fun K hK => ?_) AllReady.nil
                go_simp
                refine hK _ _ ?_
                clear hK K
                refine wpAny_done (by kernel_rfl) ?_ _
                go_wp2
                refine bodyPost_ret (results_cellB rfl rfl (loadWord ((HR4.out.set_ 0 _).set_ 1 _))) rfl ?_
                exact HEND.out w4 _ (((Below.refl Y.heap.size Y).drew.trans HBw3.out).trans (HBw4.out.mono ((Below.refl Y.heap.size Y).drew.trans HBw3.out).size)) HR4.out (by rw [HV.out]; rfl) (fun y e => by rw [HV.out] at e; exact Option.some.inj e)
              · go_simp
                go_wp2_with (go_at_call 14; refine (HTX.out _ ((Below.refl Y.heap.size Y).drew.trans HBw3.out)).mono ?_; intro e w4 h; obtain ⟨e1, hbw4⟩ := h; subst e1; have hdb4 := HW3.out.below hbw4 HW3.out.lt; have hrb4 := HR3.out.below hbw4 HR3.out.lt; have hd0'' := hdb4.cell 0; have hd1'' := hdb4.cell 1; have hc0'' := hrb4.cell 0; have hc1'' := hrb4.cell 1; have hf0'' := hrb4.frozen 0; have hf1'' := hrb4.frozen 1; simp only [List.getElem?_toArray, List.getElem?_cons_zero, List.getElem?_cons_succ] at hd0'' hd1'' hc0'' hc1''; have HR4 := Lib.hid hrb4; clear hdb4 hrb4; have HBw4 := Lib.hid hbw4; clear hbw4)
                refine wpAny_take (i := 7) (v := ?_) rfl (by kernel_rfl) (by kernel_rfl) (by kernel_rfl) (fun _ _ _ h => h) (.inl ⟨by rfl, ?_⟩) ?_
                rotate_left
                focus (intro wx; go_simp; first | done | with_reducible rfl | rfl)
                simp only [List.getElem_toArray, List.getElem_cons_succ, List.getElem_cons_zero, Act.put, List.setIfInBounds_toArray, List.set_cons_zero, List.set_cons_succ]
                refine wpAny_take (i := 8) (v := ?_) rfl (by kernel_rfl) (by kernel_rfl) (by kernel_rfl) (fun _ _ _ h => h) (.inl ⟨by rfl, ?_⟩) ?_
                rotate_left
                focus (intro wx; go_simp; first | done | with_reducible rfl | rfl)
                simp only [List.getElem_toArray, List.getElem_cons_succ, List.getElem_cons_zero, Act.put, List.setIfInBounds_toArray, List.set_cons_zero, List.set_cons_succ]
                refine wpAny_ready (rs := [0]) (by kernel_rfl) (by simp) ?_
                refine AllReady.cons rfl (fun K hK => ?_) AllReady.nil
                go_simp
                refine hK _ _ ?_
                clear hK K
                refine wpAny_ready (rs := [9]) (by kernel_rfl) (by simp) ?_
                refine AllReady.cons rfl (fun K hK => ?_) AllReady.nil
                go_simp
                refine hK _ _ ?_
                clear hK K
                refine wpAny_ready (rs := [10]) (by kernel_rfl) (by simp) ?_
                refine AllReady.cons rfl (fun K hK => ?_) AllReady.nil
                go_simp
                refine hK _ _ ?_
                clear hK K
                refine wpAny_done (by kernel_rfl) ?_ _
                go_wp2
                refine bodyPost_ret (results_cellB rfl rfl (loadWord ((HR4.out.set_ 0 _).set_ 1 _))) rfl ?_
                exact HEND.out w4 _ (((Below.refl Y.heap.size Y).drew.trans HBw3.out).trans (HBw4.out.mono ((Below.refl Y.heap.size Y).drew.trans HBw3.out).size)) HR4.out (by rw [HV.out]; rfl) (fun y e => by rw [HV.out] at e; exact Option.some.inj e)
      · have HV : Hid (wordL S = none) := by show _ = _; rw [HN.out, if_neg (fun h => hq (ht.trans (str_eq_iff.2 (by rw [← HS.out]; exact h))))]
        have HTX : Hid (∀ w', Below Y.heap.size Y w' → Calls Tryz.prog 14 #[.agg #[.int .u8 (z : Int), .slice A2 m c2]] w' (fun e w'' => e = .returned (.string t) ∧ Below w'.heap.size w' w'')) := fun w' hb => (HTX0.out w' hb).mono fun e w'' h => ⟨by rw [h.1, ← ht], h.2⟩
        have hq' := str_ne hq
        clear hq ht
        go_wp2_with fail
        rw [← hY]
        clear hY
        refine wp_region_any (by kernel_rfl) ?_
        try (change wpAny _ _ _ _ _ _ _ (World.drew _))
        refine wpAny_ready (rs := [0, 1]) (by kernel_rfl) (by simp) ?_
        refine AllReady.cons rfl (fun K hK => ?_) (AllReady.cons rfl (fun K hK => ?_) AllReady.nil)
        · go_simp
          refine hK _ _ ?_
          clear hK K
          refine wpAny_ready (rs := [1]) (by kernel_rfl) (by simp) ?_
          refine AllReady.cons rfl (fun K hK => ?_) AllReady.nil
          go_simp
          refine hK _ _ ?_
          clear hK K
          refine wpAny_ready (rs := [2]) (by kernel_rfl) (by simp) ?_
          refine AllReady.cons rfl (fun K hK => ?_) AllReady.nil
          go_simp
          go_wp2_with (go_at_call 42; refine (HMAY.out _ (Below.refl _ _).drew).mono ?_; intro e w3 h; obtain ⟨e1, hbw3⟩ := h; subst e1; have hdb3 := HW.out.drew.below hbw3 HW.out.lt; have hrb3 := HR.out.drew.below hbw3 HR.out.lt; have hd0' := hdb3.cell 0; have hd1' := hdb3.cell 1; have hc0' := hrb3.cell 0; have hc1' := hrb3.cell 1; have hf0' := hrb3.frozen 0; have hf1' := hrb3.frozen 1; simp only [List.getElem?_toArray, List.getElem?_cons_zero, List.getElem?_cons_succ] at hd0' hd1' hc0' hc1'; have HW3 := Lib.hid hdb3; have HR3 := Lib.hid hrb3; clear hdb3 hrb3; have HBw3 := Lib.hid hbw3; clear hbw3)
          refine wpAny_take (i := 3) (v := ?_) rfl (by kernel_rfl) (by kernel_rfl) (by kernel_rfl) (fun _ _ _ h => h) (.inl ⟨by rfl, ?_⟩) ?_
          rotate_left
          focus (intro wx; go_simp; first | done | with_reducible rfl | rfl)
          simp only [List.getElem_toArray, List.getElem_cons_succ, List.getElem_cons_zero, Act.put, List.setIfInBounds_toArray, List.set_cons_zero, List.set_cons_succ]
          refine wpAny_take (i := 6) (v := ?_) rfl (by kernel_rfl) (by kernel_rfl) (by kernel_rfl) (fun _ _ _ h => h) (.inl ⟨by rfl, ?_⟩) ?_
          rotate_left
          focus (intro wx; go_simp; first | done | with_reducible rfl | rfl)
          simp only [List.getElem_toArray, List.getElem_cons_succ, List.getElem_cons_zero, Act.put, List.setIfInBounds_toArray, List.set_cons_zero, List.set_cons_succ]
          refine wpAny_ready (rs := [4]) (by kernel_rfl) (by simp) ?_
          refine AllReady.cons rfl (fun K hK => ?_) AllReady.nil
          go_simp
          refine hK _ _ ?_
          clear hK K
          refine wpAny_ready (rs := [5]) (by kernel_rfl) (by simp) ?_
          refine AllReady.cons rfl (fun K hK => ?_) AllReady.nil
          go_simp
          go_wp2_with (go_at_call 14; refine (HTX.out _ ((Below.refl Y.heap.size Y).drew.trans HBw3.out)).mono ?_; intro e w4 h; obtain ⟨e1, hbw4⟩ := h; subst e1; have hdb4 := HW3.out.below hbw4 HW3.out.lt; have hrb4 := HR3.out.below hbw4 HR3.out.lt; have hd0'' := hdb4.cell 0; have hd1'' := hdb4.cell 1; have hc0'' := hrb4.cell 0; have hc1'' := hrb4.cell 1; have hf0'' := hrb4.frozen 0; have hf1'' := hrb4.frozen 1; simp only [List.getElem?_toArray, List.getElem?_cons_zero, List.getElem?_cons_succ] at hd0'' hd1'' hc0'' hc1''; have HR4 := Lib.hid hrb4; clear hdb4 hrb4; have HBw4 := Lib.hid hbw4; clear hbw4)
          refine wpAny_take (i := 7) (v := ?_) rfl (by kernel_rfl) (by kernel_rfl) (by kernel_rfl) (fun _ _ _ h => h) (.inl ⟨by rfl, ?_⟩) ?_
          rotate_left
          focus (intro wx; go_simp; first | done | with_reducible rfl | rfl)
          simp only [List.getElem_toArray, List.getElem_cons_succ, List.getElem_cons_zero, Act.put, List.setIfInBounds_toArray, List.set_cons_zero, List.set_cons_succ]
          refine wpAny_take (i := 8) (v := ?_) rfl (by kernel_rfl) (by kernel_rfl) (by kernel_rfl) (fun _ _ _ h => h) (.inl ⟨by rfl, ?_⟩) ?_
          rotate_left
          focus (intro wx; go_simp; first | done | with_reducible rfl | rfl)
          simp only [List.getElem_toArray, List.getElem_cons_succ, List.getElem_cons_zero, Act.put, List.setIfInBounds_toArray, List.set_cons_zero, List.set_cons_succ]
          refine wpAny_ready (rs := [9]) (by kernel_rfl) (by simp) ?_
          refine AllReady.cons rfl (fun K hK => ?_) AllReady.nil
          go_simp
          refine hK _ _ ?_
          clear hK K
          refine wpAny_ready (rs := [10]) (by kernel_rfl) (by simp) ?_
          refine AllReady.cons rfl (fun K hK => ?_) AllReady.nil
          go_simp
          refine hK _ _ ?_
          clear hK K
          refine wpAny_done (by kernel_rfl) ?_ _
          go_wp2
          refine bodyPost_ret (results_cellB rfl rfl (loadWord ((HR4.out.set_ 0 _).set_ 1 _))) rfl ?_
          exact HEND.out w4 _ (((Below.refl Y.heap.size Y).drew.trans HBw3.out).trans (HBw4.out.mono ((Below.refl Y.heap.size Y).drew.trans HBw3.out).size)) HR4.out (by rw [HV.out]; rfl) (fun y e => by rw [HV.out] at e; cases e)
        · go_simp
          refine hK _ _ ?_
          clear hK K
          refine wpAny_ready (rs := [0, 2]) (by kernel_rfl) (by simp) ?_
          refine AllReady.cons rfl (fun K hK => ?_) (AllReady.cons rfl (fun K hK => ?_) AllReady.nil)
          · go_simp
            refine hK _ _ ?_
            clear hK K
            refine wpAny_ready (rs := [2]) (by kernel_rfl) (by simp) ?_
            refine AllReady.cons rfl (fun K hK => ?_) AllReady.nil
            go_simp
            go_wp2_with (go_at_call 42; refine (HMAY.out _ (Below.refl _ _).drew).mono ?_; intro e w3 h; obtain ⟨e1, hbw3⟩ := h; subst e1; have hdb3 := HW.out.drew.below hbw3 HW.out.lt; have hrb3 := HR.out.drew.below hbw3 HR.out.lt; have hd0' := hdb3.cell 0; have hd1' := hdb3.cell 1; have hc0' := hrb3.cell 0; have hc1' := hrb3.cell 1; have hf0' := hrb3.frozen 0; have hf1' := hrb3.frozen 1; simp only [List.getElem?_toArray, List.getElem?_cons_zero, List.getElem?_cons_succ] at hd0' hd1' hc0' hc1'; have HW3 := Lib.hid hdb3; have HR3 := Lib.hid hrb3; clear hdb3 hrb3; have HBw3 := Lib.hid hbw3; clear hbw3)
            refine wpAny_take (i := 3) (v := ?_) rfl (by kernel_rfl) (by kernel_rfl) (by kernel_rfl) (fun _ _ _ h => h) (.inl ⟨by rfl, ?_⟩) ?_
            rotate_left
            focus (intro wx; go_simp; first | done | with_reducible rfl | rfl)
            simp only [List.getElem_toArray, List.getElem_cons_succ, List.getElem_cons_zero, Act.put, List.setIfInBounds_toArray, List.set_cons_zero, List.set_cons_succ]
            refine wpAny_take (i := 6) (v := ?_) rfl (by kernel_rfl) (by kernel_rfl) (by kernel_rfl) (fun _ _ _ h => h) (.inl ⟨by rfl, ?_⟩) ?_
            rotate_left
            focus (intro wx; go_simp; first | done | with_reducible rfl | rfl)
            simp only [List.getElem_toArray, List.getElem_cons_succ, List.getElem_cons_zero, Act.put, List.setIfInBounds_toArray, List.set_cons_zero, List.set_cons_succ]
            refine wpAny_ready (rs := [4]) (by kernel_rfl) (by simp) ?_
            refine AllReady.cons rfl (fun K hK => ?_) AllReady.nil
            go_simp
            refine hK _ _ ?_
            clear hK K
            refine wpAny_ready (rs := [5]) (by kernel_rfl) (by simp) ?_
            refine AllReady.cons rfl (fun K hK => ?_) AllReady.nil
            go_simp
            go_wp2_with (go_at_call 14; refine (HTX.out _ ((Below.refl Y.heap.size Y).drew.trans HBw3.out)).mono ?_; intro e w4 h; obtain ⟨e1, hbw4⟩ := h; subst e1; have hdb4 := HW3.out.below hbw4 HW3.out.lt; have hrb4 := HR3.out.below hbw4 HR3.out.lt; have hd0'' := hdb4.cell 0; have hd1'' := hdb4.cell 1; have hc0'' := hrb4.cell 0; have hc1'' := hrb4.cell 1; have hf0'' := hrb4.frozen 0; have hf1'' := hrb4.frozen 1; simp only [List.getElem?_toArray, List.getElem?_cons_zero, List.getElem?_cons_succ] at hd0'' hd1'' hc0'' hc1''; have HR4 := Lib.hid hrb4; clear hdb4 hrb4; have HBw4 := Lib.hid hbw4; clear hbw4)
            refine wpAny_take (i := 7) (v := ?_) rfl (by kernel_rfl) (by kernel_rfl) (by kernel_rfl) (fun _ _ _ h => h) (.inl ⟨by rfl, ?_⟩) ?_
            rotate_left
            focus (intro wx; go_simp; first | done | with_reducible rfl | rfl)
            simp only [List.getElem_toArray, List.getElem_cons_succ, List.getElem_cons_zero, Act.put, List.setIfInBounds_toArray, List.set_cons_zero, List.set_cons_succ]
            refine wpAny_take (i := 8) (v := ?_) rfl (by kernel_rfl) (by kernel_rfl) (by kernel_rfl) (fun _ _ _ h => h) (.inl ⟨by rfl, ?_⟩) ?_
            rotate_left
            focus (intro wx; go_simp; first | done | with_reducible rfl | rfl)
            simp only [List.getElem_toArray, List.getElem_cons_succ, List.getElem_cons_zero, Act.put, List.setIfInBounds_toArray, List.set_cons_zero, List.set_cons_succ]
            refine wpAny_ready (rs := [9]) (by kernel_rfl) (by simp) ?_
            refine AllReady.cons rfl (fun K hK => ?_) AllReady.nil
            go_simp
            refine hK _ _ ?_
            clear hK K
            refine wpAny_ready (rs := [10]) (by kernel_rfl) (by simp) ?_
            refine AllReady.cons rfl (fun K hK => ?_) AllReady.nil
            go_simp
            refine hK _ _ ?_
            clear hK K
            refine wpAny_done (by kernel_rfl) ?_ _
            go_wp2
            refine bodyPost_ret (results_cellB rfl rfl (loadWord ((HR4.out.set_ 0 _).set_ 1 _))) rfl ?_
            exact HEND.out w4 _ (((Below.refl Y.heap.size Y).drew.trans HBw3.out).trans (HBw4.out.mono ((Below.refl Y.heap.size Y).drew.trans HBw3.out).size)) HR4.out (by rw [HV.out]; rfl) (fun y e => by rw [HV.out] at e; cases e)
          · go_simp
            go_wp2_with (go_at_call 42; refine (HMAY.out _ (Below.refl _ _).drew).mono ?_; intro e w3 h; obtain ⟨e1, hbw3⟩ := h; subst e1; have hdb3 := HW.out.drew.below hbw3 HW.out.lt; have hrb3 := HR.out.drew.below hbw3 HR.out.lt; have hd0' := hdb3.cell 0; have hd1' := hdb3.cell 1; have hc0' := hrb3.cell 0; have hc1' := hrb3.cell 1; have hf0' := hrb3.frozen 0; have hf1' := hrb3.frozen 1; simp only [List.getElem?_toArray, List.getElem?_cons_zero, List.getElem?_cons_succ] at hd0' hd1' hc0' hc1'; have HW3 := Lib.hid hdb3; have HR3 := Lib.hid hrb3; clear hdb3 hrb3; have HBw3 := Lib.hid hbw3; clear hbw3)
            refine wpAny_take (i := 3) (v := ?_) rfl (by kernel_rfl) (by kernel_rfl) (by kernel_rfl) (fun _ _ _ h => h) (.inl ⟨by rfl, ?_⟩) ?_
            rotate_left
            focus (intro wx; go_simp; first | done | with_reducible rfl | rfl)
            simp only [List.getElem_toArray, List.getElem_cons_succ, List.getElem_cons_zero, Act.put, List.setIfInBounds_toArray, List.set_cons_zero, List.set_cons_succ]
            refine wpAny_take (i := 6) (v := ?_) rfl (by kernel_rfl) (by kernel_rfl) (by kernel_rfl) (fun _ _ _ h => h) (.inl ⟨by rfl, ?_⟩) ?_
            rotate_left
            focus (intro wx; go_simp; first | done | with_reducible rfl | rfl)
            simp only [List.getElem_toArray, List.getElem_cons_succ, List.getElem_cons_zero, Act.put, List.setIfInBounds_toArray, List.set_cons_zero, List.set_cons_succ]
            refine wpAny_ready (rs := [0, 4]) (by kernel_rfl) (by simp) ?_
            refine AllReady.cons rfl (fun K hK => ?_) (AllReady.cons rfl (fun K hK => ?_) AllReady.nil)
            · go_simp
              refine hK _ _ ?_
              clear hK K
              refine wpAny_ready (rs := [4]) (by kernel_rfl) (by simp) ?_
              refine AllReady.cons rfl (fun K hK => ?_) AllReady.nil
              go_simp
              refine hK _ _ ?_
              clear hK K
              refine wpAny_ready (rs := [5]) (by kernel_rfl) (by simp) ?_
              refine AllReady.cons rfl (fun K hK => ?_) AllReady.nil
              go_simp
              go_wp2_with (go_at_call 14; refine (HTX.out _ ((Below.refl Y.heap.size Y).drew.trans HBw3.out)).mono ?_; intro e w4 h; obtain ⟨e1, hbw4⟩ := h; subst e1; have hdb4 := HW3.out.below hbw4 HW3.out.lt; have hrb4 := HR3.out.below hbw4 HR3.out.lt; have hd0'' := hdb4.cell 0; have hd1'' := hdb4.cell 1; have hc0'' := hrb4.cell 0; have hc1'' := hrb4.cell 1; have hf0'' := hrb4.frozen 0; have hf1'' := hrb4.frozen 1; simp only [List.getElem?_toArray, List.getElem?_cons_zero, List.getElem?_cons_succ] at hd0'' hd1'' hc0'' hc1''; have HR4 := Lib.hid hrb4; clear hdb4 hrb4; have HBw4 := Lib.hid hbw4; clear hbw4)
              refine wpAny_take (i := 7) (v := ?_) rfl (by kernel_rfl) (by kernel_rfl) (by kernel_rfl) (fun _ _ _ h => h) (.inl ⟨by rfl, ?_⟩) ?_
              rotate_left
              focus (intro wx; go_simp; first | done | with_reducible rfl | rfl)
              simp only [List.getElem_toArray, List.getElem_cons_succ, List.getElem_cons_zero, Act.put, List.setIfInBounds_toArray, List.set_cons_zero, List.set_cons_succ]
              refine wpAny_take (i := 8) (v := ?_) rfl (by kernel_rfl) (by kernel_rfl) (by kernel_rfl) (fun _ _ _ h => h) (.inl ⟨by rfl, ?_⟩) ?_
              rotate_left
              focus (intro wx; go_simp; first | done | with_reducible rfl | rfl)
              simp only [List.getElem_toArray, List.getElem_cons_succ, List.getElem_cons_zero, Act.put, List.setIfInBounds_toArray, List.set_cons_zero, List.set_cons_succ]
              refine wpAny_ready (rs := [9]) (by kernel_rfl) (by simp) ?_
              refine AllReady.cons rfl (fun K hK => ?_) AllReady.nil
              go_simp
              refine hK _ _ ?_
              clear hK K
              refine wpAny_ready (rs := [10]) (by kernel_rfl) (by simp) ?_
              refine AllReady.cons rfl (fun K hK => ?_) AllReady.nil
              go_simp
              refine hK _ _ ?_
              clear hK K
              refine wpAny_done (by kernel_rfl) ?_ _
              go_wp2
              refine bodyPost_ret (results_cellB rfl rfl (loadWord ((HR4.out.set_ 0 _).set_ 1 _))) rfl ?_
              exact HEND.out w4 _ (((Below.refl Y.heap.size Y).drew.trans HBw3.out).trans (HBw4.out.mono ((Below.refl Y.heap.size Y).drew.trans HBw3.out).size)) HR4.out (by rw [HV.out]; rfl) (fun y e => by rw [HV.out] at e; cases e)
            · go_simp
              refine hK _ _ ?_
              clear hK K
              refine wpAny_ready (rs := [0, 5]) (by kernel_rfl) (by simp) ?_
              refine AllReady.cons rfl (fun K hK => ?_) (AllReady.cons rfl (fun K hK => ?_) AllReady.nil)
              · go_simp
                refine hK _ _ ?_
                clear hK K
                refine wpAny_ready (rs := [5]) (by kernel_rfl) (by simp) ?_
                refine AllReady.cons rfl (fun K hK => ?_) AllReady.nil
                go_simp
                go_wp2_with (go_at_call 14; refine (HTX.out _ ((Below.refl Y.heap.size Y).drew.trans HBw3.out)).mono ?_; intro e w4 h; obtain ⟨e1, hbw4⟩ := h; subst e1; have hdb4 := HW3.out.below hbw4 HW3.out.lt; have hrb4 := HR3.out.below hbw4 HR3.out.lt; have hd0'' := hdb4.cell 0; have hd1'' := hdb4.cell 1; have hc0'' := hrb4.cell 0; have hc1'' := hrb4.cell 1; have hf0'' := hrb4.frozen 0; have hf1'' := hrb4.frozen 1; simp only [List.getElem?_toArray, List.getElem?_cons_zero, List.getElem?_cons_succ] at hd0'' hd1'' hc0'' hc1''; have HR4 := Lib.hid hrb4; clear hdb4 hrb4; have HBw4 := Lib.hid hbw4; clear hbw4)
                refine wpAny_take (i := 7) (v := ?_) rfl (by kernel_rfl) (by kernel_rfl) (by kernel_rfl) (fun _ _ _ h => h) (.inl ⟨by rfl, ?_⟩) ?_
                rotate_left
                focus (intro wx; go_simp; first | done | with_reducible rfl | rfl)
                simp only [List.getElem_toArray, List.getElem_cons_succ, List.getElem_cons_zero, Act.put, List.setIfInBounds_toArray, List.set_cons_zero, List.set_cons_succ]
                refine wpAny_take (i := 8) (v := ?_) rfl (by kernel_rfl) (by kernel_rfl) (by kernel_rfl) (fun _ _ _ h => h) (.inl ⟨by rfl, ?_⟩) ?_
                rotate_left
                focus (intro wx; go_simp; first | done | with_reducible rfl | rfl)
                simp only [List.getElem_toArray, List.getElem_cons_succ, List.getElem_cons_zero, Act.put, List.setIfInBounds_toArray, List.set_cons_zero, List.set_cons_succ]
                refine wpAny_ready (rs := [9]) (by kernel_rfl) (by simp) ?_
                refine AllReady.cons rfl (fun K hK => ?_) AllReady.nil
                go_simp
                refine hK _ _ ?_
                clear hK K
                refine wpAny_ready (rs := [10]) (by kernel_rfl) (by simp) ?_
                refine AllReady.cons rfl (fun K hK => ?_) AllReady.nil
                go_simp
                refine hK _ _ ?_
                clear hK K
                refine wpAny_done (by kernel_rfl) ?_ _
                go_wp2
                refine bodyPost_ret (results_cellB rfl rfl (loadWord ((HR4.out.set_ 0 _).set_ 1 _))) rfl ?_
                exact HEND.out w4 _ (((Below.refl Y.heap.size Y).drew.trans HBw3.out).trans (HBw4.out.mono ((Below.refl Y.heap.size Y).drew.trans HBw3.out).size)) HR4.out (by rw [HV.out]; rfl) (fun y e => by rw [HV.out] at e; cases e)
              · go_simp
                go_wp2_with (go_at_call 14; refine (HTX.out _ ((Below.refl Y.heap.size Y).drew.trans HBw3.out)).mono ?_; intro e w4 h; obtain ⟨e1, hbw4⟩ := h; subst e1; have hdb4 := HW3.out.below hbw4 HW3.out.lt; have hrb4 := HR3.out.below hbw4 HR3.out.lt; have hd0'' := hdb4.cell 0; have hd1'' := hdb4.cell 1; have hc0'' := hrb4.cell 0; have hc1'' := hrb4.cell 1; have hf0'' := hrb4.frozen 0; have hf1'' := hrb4.frozen 1; simp only [List.getElem?_toArray, List.getElem?_cons_zero, List.getElem?_cons_succ] at hd0'' hd1'' hc0'' hc1''; have HR4 := Lib.hid hrb4; clear hdb4 hrb4; have HBw4 := Lib.hid hbw4; clear hbw4)
                refine wpAny_take (i := 7) (v := ?_) rfl (by kernel_rfl) (by kernel_rfl) (by kernel_rfl) (fun _ _ _ h => h) (.inl ⟨by rfl, ?_⟩) ?_
                rotate_left
                focus (intro wx; go_simp; first | done | with_reducible rfl | rfl)
                simp only [List.getElem_toArray, List.getElem_cons_succ, List.getElem_cons_zero, Act.put, List.setIfInBounds_toArray, List.set_cons_zero, List.set_cons_succ]
                refine wpAny_take (i := 8) (v := ?_) rfl (by kernel_rfl) (by kernel_rfl) (by kernel_rfl) (fun _ _ _ h => h) (.inl ⟨by rfl, ?_⟩) ?_
                rotate_left
                focus (intro wx; go_simp; first | done | with_reducible rfl | rfl)
                simp only [List.getElem_toArray, List.getElem_cons_succ, List.getElem_cons_zero, Act.put, List.setIfInBounds_toArray, List.set_cons_zero, List.set_cons_succ]
                refine wpAny_ready (rs := [0]) (by kernel_rfl) (by simp) ?_
                refine AllReady.cons rfl (fun K hK => ?_) AllReady.nil
                go_simp
                refine hK _ _ ?_
                clear hK K
                refine wpAny_ready (rs := [9]) (by kernel_rfl) (by simp) ?_
                refine AllReady.cons rfl (fun K hK => ?_) AllReady.nil
                go_simp
                refine hK _ _ ?_
                clear hK K
                refine wpAny_ready (rs := [10]) (by kernel_rfl) (by simp) ?_
                refine AllReady.cons rfl (fun K hK => ?_) AllReady.nil
                go_simp
                refine hK _ _ ?_
                clear hK K
                refine wpAny_done (by kernel_rfl) ?_ _
                go_wp2
                refine bodyPost_ret (results_cellB rfl rfl (loadWord ((HR4.out.set_ 0 _).set_ 1 _))) rfl ?_
                exact HEND.out w4 _ (((Below.refl Y.heap.size Y).drew.trans HBw3.out).trans (HBw4.out.mono ((Below.refl Y.heap.size Y).drew.trans HBw3.out).size)) HR4.out (by rw [HV.out]; rfl) (fun y e => by rw [HV.out] at e; cases e)
end Go.Proofs.YtggadilgkcjbjaaGreatDoor
