/-
  The walk over word of asm, at a text that pushes nothing told.
-/
import Derived.Test.YtggadilgkcjbjaaGreatDoorAsmWord
set_option linter.unusedVariables false
namespace Go.Proofs.YtggadilgkcjbjaaGreatDoor
open Go.RowKit Go.Sort

theorem cutop_any (s : ByteArray) (w : World) : Calls Tryz.prog 39 #[.string s, .string ⟨#[111, 112]⟩] w fun e w' =>
    e = .returned (.tuple #[.string ⟨(if s.data.toList.take 2 = [111, 112] then s.data.toList.drop 2 else s.data.toList).toArray⟩, .bool (decide (s.data.toList.take 2 = [111, 112]))]) ∧ w' = w := by
  refine (Tryz.strings_CutPrefix s ⟨#[111, 112]⟩ w).mono ?_
  rintro e w' ⟨rfl, rfl⟩
  refine ⟨?_, rfl⟩
  have h : Lib.hasPrefix s.data.toList [111, 112] = decide (s.data.toList.take 2 = [111, 112]) := by
    unfold Lib.hasPrefix
    rw [Bool.eq_iff_iff, List.isPrefixOf_iff_prefix, decide_eq_true_eq, List.prefix_iff_eq_take]
    exact eq_comm
  show Ending.returned (.tuple #[.string ⟨(Lib.trimPrefix s.data.toList [111, 112]).toArray⟩, .bool (Lib.hasPrefix s.data.toList [111, 112])]) = _
  unfold Lib.trimPrefix
  rw [h]
  by_cases hp : s.data.toList.take 2 = [111, 112]
  · rw [if_pos (by simpa using hp), if_pos hp]; rfl
  · rw [if_neg (by simpa using hp), if_neg hp]

/-- A word without a push. -/
theorem word_op (w : World) {z : Int} {o : UInt8} (h : z = (o.toNat : Int)) : WordAt w (.agg #[.int .u8 z, .slice none 0 0]) (o, []) := ⟨_, by rw [h], rfl, .inl ⟨rfl, rfl⟩⟩

set_option maxRecDepth 100000 in
set_option maxHeartbeats 2000000 in
theorem wordPlain_any (s : ByteArray) (w : World) (hg : Gd w) (hs : s.size ≤ 100000) (hlt : (60 : UInt8) ∉ s.data.toList) :
    Calls Tryz.prog 16 #[.string s] w (PushedEnd (wordL s.data.toList) 65535 w) := by
  obtain ⟨E, hE⟩ : ∃ E, E = PushedEnd (wordL s.data.toList) 65535 w := ⟨_, rfl⟩
  rw [← hE]
  have HE := Lib.hid hE
  have HC := Lib.hid (containslt_any s)
  rw [decide_eq_false hlt] at HC
  have HG := Lib.hid hg
  have HWL : Hid (wordL s.data.toList = if s.data.toList = [45, 49] then some (79, []) else match numL 16 s.data.toList with
    | some n => some (if 0 < n then UInt8.ofNat (80 + n) else 0, [])
    | none => match opB s with
      | some o => some (UInt8.ofNat o, [])
      | none =>
        if s.data.toList.take 2 = [111, 112] then
          match numL 255 (s.data.toList.drop 2) with
          | none => none
          | some n => if textL (UInt8.ofNat n, []) = s.data.toList then some (UInt8.ofNat n, []) else none
        else none) := by
    show _ = _
    unfold wordL
    rw [if_neg hlt]
    rfl
  clear hE hlt
  go_enter Tryz.func16, Tryz.ntmps16
  obtain ⟨X, hX⟩ : ∃ X, X = w.alloc (.cells #[.int .u8 0, .slice none 0 0] 36) := ⟨_, rfl⟩
  have hbX : Below w.heap.size w X := by rw [hX]; exact (Below.refl _ _).alloc (Nat.le_refl _) _
  have hblk : Blk X w.heap.size 36 #[.int .u8 0, .slice none 0 0] := by rw [hX]; exact Blk.new w _ _
  have hc0 := hblk.cell 0
  have hc1 := hblk.cell 1
  have hf0 := hblk.frozen 0
  have hf1 := hblk.frozen 1
  simp only [List.getElem?_toArray, List.getElem?_cons_zero, List.getElem?_cons_succ] at hc0 hc1
  have HBX := Lib.hid hblk
  have HEND : Hid (∀ (w4 : World) (z : Int) (o : UInt8) (fl : Bool), z = (o.toNat : Int) → Blk w4 w.heap.size 36 #[.int .u8 0, .slice none 0 0] → Below w.heap.size w w4 → (wordL s.data.toList).isSome = fl → (∀ y, wordL s.data.toList = some y → (o, []) = y) → E (.returned (.tuple #[.agg #[.int .u8 z, .slice none 0 0], .bool fl])) ((w4.setCell ⟨w.heap.size, 0, none⟩ (.int .u8 z)).setCell ⟨w.heap.size, 1, none⟩ (.slice none 0 0))) := by
    intro w4 z o fl hz h2 h3 h4 h5
    rw [HE.out]
    exact ⟨_, (o, []), by rw [h4], word_op _ hz, by simp, h5, (h3.setCell (p := ⟨w.heap.size, 0, none⟩) (Nat.le_refl _) _).setCell (p := ⟨w.heap.size, 1, none⟩) (Nat.le_refl _) _⟩
  go_wp2_with fail
  rw [← hX]
  have HGX := Lib.hid (HG.out.below hbX)
  clear hX hblk
  refine (HC.out X).mono ?_
  rintro e w1 ⟨rfl, hw⟩
  rw [hw]
  clear hw w1
  by_cases hm : s = ⟨#[45, 49]⟩
  · have HN : Hid (wordL s.data.toList = some (79, [])) := by
      show _ = _
      rw [HWL.out, if_pos (by rw [hm])]
    have hq : (s.toList == [45, 49]) = true := by rw [hm]; decide +kernel
    clear hm
    go_wp2
    refine bodyPost_ret (results_cellB rfl rfl (loadWord ((HBX.out.set_ 0 _).set_ 1 _))) rfl ?_
    exact HEND.out X 79 79 true rfl HBX.out hbX (by rw [HN.out]; rfl) (fun y e => by rw [HN.out] at e; exact Option.some.inj e)
  · have hq : (s.toList == [45, 49]) = false := by
      rw [beq_eq_false_iff_ne]
      intro e
      rw [toList_data] at e
      exact hm (str_eq_iff.2 e.symm).symm
    have HW2 : Hid (wordL s.data.toList = match numL 16 s.data.toList with
      | some n => some (if 0 < n then UInt8.ofNat (80 + n) else 0, [])
      | none => match opB s with
        | some o => some (UInt8.ofNat o, [])
        | none =>
          if s.data.toList.take 2 = [111, 112] then
            match numL 255 (s.data.toList.drop 2) with
            | none => none
            | some n => if textL (UInt8.ofNat n, []) = s.data.toList then some (UInt8.ofNat n, []) else none
          else none) := by
      show _ = _
      rw [HWL.out, if_neg (fun e => hm (str_eq_iff.2 e.symm).symm)]
    clear hm
    go_wp2_with fail
    refine (number_any s 16 X HGX.out (by omega) (by omega)).mono ?_
    rintro e w1 ⟨v, rfl, hv, hv1, hv2, hb1⟩
    have hblk1 := HBX.out.below hb1 HBX.out.lt
    have hd0 := hblk1.cell 0
    have hd1 := hblk1.cell 1
    have hg0 := hblk1.frozen 0
    have hg1 := hblk1.frozen 1
    simp only [List.getElem?_toArray, List.getElem?_cons_zero, List.getElem?_cons_succ] at hd0 hd1
    have HB1 := Lib.hid hblk1
    have hb01 := hbX.trans (hb1.mono hbX.size)
    clear hblk1
    cases hn : numL 16 s.data.toList with
    | some n =>
      have hvn := hv n hn
      subst hvn
      have hn16 := (numL_some hn).1
      have HN : Hid (wordL s.data.toList = some (if 0 < n then UInt8.ofNat (80 + n) else 0, [])) := by show _ = _; rw [HW2.out, hn]
      simp only [Option.isSome_some]
      clear hv hn
      by_cases h0 : 0 < n
      · have h0' : (0 : Int) < (n : Int) := by omega
        go_wp2
        refine bodyPost_ret (results_cellB rfl rfl (loadWord ((HB1.out.set_ 0 _).set_ 1 _))) rfl ?_
        exact HEND.out _ _ (UInt8.ofNat (80 + n)) true (by rw [ofNat_toNat' (by omega)]; omega) HB1.out hb01 (by rw [HN.out]; rfl) (fun y e => by rw [HN.out] at e; (try rw [if_pos (by omega)] at e); (try rw [if_neg (by omega)] at e); exact Option.some.inj e)
      · have h0' : ¬ (0 : Int) < (n : Int) := by omega
        go_wp2
        refine bodyPost_ret (results_cellB rfl rfl (loadWord ((HB1.out.set_ 0 _).set_ 1 _))) rfl ?_
        exact HEND.out _ _ (0) true (by rw [show n = 0 by omega]; rfl) HB1.out hb01 (by rw [HN.out]; rfl) (fun y e => by rw [HN.out] at e; (try rw [if_pos (by omega)] at e); (try rw [if_neg (by omega)] at e); exact Option.some.inj e)
    | none =>
      have HW3 : Hid (wordL s.data.toList = match opB s with
        | some o => some (UInt8.ofNat o, [])
        | none =>
          if s.data.toList.take 2 = [111, 112] then
            match numL 255 (s.data.toList.drop 2) with
            | none => none
            | some n => if textL (UInt8.ofNat n, []) = s.data.toList then some (UInt8.ofNat n, []) else none
          else none) := by show _ = _; rw [HW2.out, hn]
      simp only [Option.isSome_none]
      clear hv hn
      go_wp2_with fail
      refine (op_any s w1).mono ?_
      rintro e w2 ⟨rfl, rfl⟩
      cases ho : opB s with
      | some o =>
        have HN : Hid (wordL s.data.toList = some (UInt8.ofNat o, [])) := by show _ = _; rw [HW3.out, ho]
        have ho2 : o < 256 := by
          unfold opB at ho
          have := List.mem_of_find?_eq_some ho
          simpa using this
        simp only [Option.isSome_some, Option.getD_some]
        clear ho
        go_wp2
        refine bodyPost_ret (results_cellB rfl rfl (loadWord ((HB1.out.set_ 0 _).set_ 1 _))) rfl ?_
        exact HEND.out _ _ (UInt8.ofNat o) true (by rw [ofNat_toNat' ho2]) HB1.out hb01 (by rw [HN.out]; rfl) (fun y e => by rw [HN.out] at e; (try rw [if_pos (by omega)] at e); (try rw [if_neg (by omega)] at e); exact Option.some.inj e)
      | none =>
        have HW4 : Hid (wordL s.data.toList = if s.data.toList.take 2 = [111, 112] then
            match numL 255 (s.data.toList.drop 2) with
            | none => none
            | some n => if textL (UInt8.ofNat n, []) = s.data.toList then some (UInt8.ofNat n, []) else none
          else none) := by show _ = _; rw [HW3.out, ho]
        simp only [Option.isSome_none, Option.getD_none]
        clear ho
        obtain ⟨f, hf⟩ : ∃ f, f = (if s.data.toList.take 2 = [111, 112] then s.data.toList.drop 2 else s.data.toList) := ⟨_, rfl⟩
        obtain ⟨fl, hfl⟩ : ∃ fl, fl = decide (s.data.toList.take 2 = [111, 112]) := ⟨_, rfl⟩
        have hfs : (⟨f.toArray⟩ : ByteArray).size ≤ 1000000 := by
          show f.toArray.size ≤ _
          have h1 : s.data.toList.length ≤ 100000 := by rw [Array.length_toList]; exact hs
          rw [hf]
          split
          · rw [List.size_toArray, List.length_drop]; omega
          · rw [List.size_toArray]; omega
        have HCUT := Lib.hid (cutop_any s w2)
        rw [← hf, ← hfl] at HCUT
        have HG2 := Lib.hid (HGX.out.below hb1)
        have HW5 : Hid (wordL s.data.toList = if fl = true then (match numL 255 f with | none => none | some n => if textL (UInt8.ofNat n, []) = s.data.toList then some (UInt8.ofNat n, []) else none) else none) := by
          show _ = _
          rw [HW4.out, hf, hfl]
          by_cases hp : s.data.toList.take 2 = [111, 112]
          · rw [if_pos hp, if_pos (decide_eq_true hp), if_pos hp]
          · rw [if_neg hp, if_neg (by simpa using hp)]
        clear hf hfl
        go_wp2_with fail
        refine HCUT.out.mono ?_
        rintro e w3 ⟨rfl, rfl⟩
        go_wp2_with fail
        refine (number_any ⟨f.toArray⟩ 255 _ HG2.out (by omega) hfs).mono ?_
        rintro e w4 ⟨v4, rfl, hv4, hv41, hv42, hb4⟩
        have hwv : IntKind.u8.wrap v4 = v4 % 256 := by simp [IntKind.wrap, IntKind.signed, IntKind.bits]
        have hb04 := hb01.trans (hb4.mono hb01.size)
        have hblk4 := HB1.out.below hb4 HB1.out.lt
        have hd0' := hblk4.cell 0
        have hd1' := hblk4.cell 1
        have hg0' := hblk4.frozen 0
        have hg1' := hblk4.frozen 1
        simp only [List.getElem?_toArray, List.getElem?_cons_zero, List.getElem?_cons_succ] at hd0' hd1'
        have HB4 := Lib.hid hblk4
        have HG4 := Lib.hid (HG2.out.below hb4)
        clear hblk4 hb4 hb1 hbX hd0 hd1 hg0 hg1 hc0 hc1 hf0 hf1 hfs
        obtain ⟨Y, hY⟩ : ∃ Y, Y = w4.alloc (.cells #[.int .u8 (v4 % 256), .slice none 0 0] 36) := ⟨_, rfl⟩
        have hbY : Below w4.heap.size w4 Y := by rw [hY]; exact (Below.refl _ _).alloc (Nat.le_refl _) _
        have hblkY : Blk Y w4.heap.size 36 #[.int .u8 (v4 % 256), .slice none 0 0] := by rw [hY]; exact Blk.new w4 _ _
        have HYL := Lib.hid hblkY
        have HYR := Lib.hid (HB4.out.below hbY HB4.out.lt)
        have hb0Y := hb04.trans (hbY.mono hb04.size)
        have HGY := Lib.hid (HG4.out.below hbY)
        have he0 := hblkY.cell 0
        have he1 := hblkY.cell 1
        have hr0 := HYR.out.cell 0
        have hr1 := HYR.out.cell 1
        have hh0 := HYR.out.frozen 0
        have hh1 := HYR.out.frozen 1
        simp only [List.getElem?_toArray, List.getElem?_cons_zero, List.getElem?_cons_succ] at he0 he1 hr0 hr1
        have hz : v4 % 256 = ((UInt8.ofNat (v4 % 256).toNat).toNat : Int) := by rw [UInt8.toNat_ofNat']; omega
        have HZ := Lib.hid hz
        have HTX : Hid (∀ w', Below Y.heap.size Y w' → Calls Tryz.prog 11 #[.agg #[.int .u8 (v4 % 256), .slice none 0 0]] w' (StrEnd (textL (UInt8.ofNat (v4 % 256).toNat, [])) w')) := fun w' hb => text_any _ (UInt8.ofNat (v4 % 256).toNat, []) w' (word_op w' HZ.out) (by simp) (HGY.out.below hb)
        obtain ⟨is, his⟩ : ∃ is, is = (numL 255 f).isSome := ⟨_, rfl⟩
        have HIS := Lib.hid his
        rw [← his]
        clear hz hd0' hd1' hg0' hg1' hblkY hbY his
        by_cases hfl : fl = true
        · subst hfl
          by_cases hs2 : is = true
          · subst hs2
            obtain ⟨n, hn⟩ := Option.isSome_iff_exists.1 HIS.out.symm
            have hvn := hv4 n hn
            have hn2 := (numL_some hn).1
            have HUO : Hid (UInt8.ofNat (v4 % 256).toNat = UInt8.ofNat n) := by show _ = _; rw [hvn, show ((n : Int) % 256).toNat = n by omega]
            have HW6 : Hid (wordL s.data.toList = if textL (UInt8.ofNat (v4 % 256).toNat, []) = s.data.toList then some (UInt8.ofNat (v4 % 256).toNat, []) else none) := by
              show _ = _
              rw [HW5.out, if_pos rfl, hn, HUO.out]
            clear hn hvn hn2 hv4
            obtain ⟨t, ht⟩ : ∃ t, t = (⟨(textL (UInt8.ofNat (v4 % 256).toNat, [])).toArray⟩ : ByteArray) := ⟨_, rfl⟩
            by_cases hqs : t = s
            · have HV : Hid (wordL s.data.toList = some (UInt8.ofNat (v4 % 256).toNat, [])) := by show _ = _; rw [HW6.out, if_pos (str_eq_iff.1 (ht.symm.trans hqs))]
              have HT2 : Hid (∀ w', Below Y.heap.size Y w' → Calls Tryz.prog 11 #[.agg #[.int .u8 (v4 % 256), .slice none 0 0]] w' (fun e w'' => e = .returned (.string s) ∧ Below w'.heap.size w' w'')) := fun w' hb => (HTX.out w' hb).mono fun e w'' h => ⟨by rw [h.1, ← ht, hqs], h.2⟩
              clear hqs ht
              go_wp2_with fail
              rw [← hY]
              clear hY
              refine wp_region_any (by kernel_rfl) ?_
              try (change wpAny _ _ _ _ _ _ _ (World.drew _))
              refine wpAny_take (i := 1) (v := ?_) rfl (by kernel_rfl) (by kernel_rfl) (by kernel_rfl) (fun _ _ _ h => h) (.inl ⟨by rfl, ?_⟩) ?_
              rotate_left
              focus (intro wx; go_simp; first | done | with_reducible rfl | rfl)
              simp only [List.getElem_toArray, List.getElem_cons_succ, List.getElem_cons_zero, Act.put, List.setIfInBounds_toArray, List.set_cons_zero, List.set_cons_succ]
              refine wpAny_take (i := 2) (v := ?_) rfl (by kernel_rfl) (by kernel_rfl) (by kernel_rfl) (fun _ _ _ h => h) (.inl ⟨by rfl, ?_⟩) ?_
              rotate_left
              focus (intro wx; go_simp; first | done | with_reducible rfl | rfl)
              simp only [List.getElem_toArray, List.getElem_cons_succ, List.getElem_cons_zero, Act.put, List.setIfInBounds_toArray, List.set_cons_zero, List.set_cons_succ]
              refine wpAny_take (i := 3) (v := ?_) rfl (by kernel_rfl) (by kernel_rfl) (by kernel_rfl) (fun _ _ _ h => h) (.inl ⟨by rfl, ?_⟩) ?_
              rotate_left
              focus (intro wx; go_simp; first | done | with_reducible rfl | rfl)
              simp only [List.getElem_toArray, List.getElem_cons_succ, List.getElem_cons_zero, Act.put, List.setIfInBounds_toArray, List.set_cons_zero, List.set_cons_succ]
              refine wpAny_take (i := 4) (v := ?_) rfl (by kernel_rfl) (by kernel_rfl) (by kernel_rfl) (fun _ _ _ h => h) (.inl ⟨by rfl, ?_⟩) ?_
              rotate_left
              focus (intro wx; go_simp; first | done | with_reducible rfl | rfl)
              simp only [List.getElem_toArray, List.getElem_cons_succ, List.getElem_cons_zero, Act.put, List.setIfInBounds_toArray, List.set_cons_zero, List.set_cons_succ]
              refine wpAny_take (i := 5) (v := ?_) rfl (by kernel_rfl) (by kernel_rfl) (by kernel_rfl) (fun _ _ _ h => h) (.inl ⟨by rfl, ?_⟩) ?_
              rotate_left
              focus (intro wx; go_simp; first | done | with_reducible rfl | rfl)
              simp only [List.getElem_toArray, List.getElem_cons_succ, List.getElem_cons_zero, Act.put, List.setIfInBounds_toArray, List.set_cons_zero, List.set_cons_succ]
              refine wpAny_take (i := 8) (v := ?_) rfl (by kernel_rfl) (by kernel_rfl) (by kernel_rfl) (fun _ _ _ h => h) (.inl ⟨by rfl, ?_⟩) ?_
              rotate_left
              focus (intro wx; go_simp; first | done | with_reducible rfl | rfl)
              simp only [List.getElem_toArray, List.getElem_cons_succ, List.getElem_cons_zero, Act.put, List.setIfInBounds_toArray, List.set_cons_zero, List.set_cons_succ]
              refine wpAny_ready (rs := [0, 6]) (by kernel_rfl) (by simp) ?_
              refine AllReady.cons rfl (fun K hK => ?_) (AllReady.cons rfl (fun K hK => ?_) AllReady.nil)
              · go_simp
                refine hK _ _ ?_
                clear hK K
                refine wpAny_ready (rs := [6]) (by kernel_rfl) (by simp) ?_
                refine AllReady.cons rfl (fun K hK => ?_) AllReady.nil
                go_simp
                refine hK _ _ ?_
                clear hK K
                refine wpAny_ready (rs := [7]) (by kernel_rfl) (by simp) ?_
                refine AllReady.cons rfl (fun K hK => ?_) AllReady.nil
                go_simp
                go_wp2_with (go_at_call 11; refine (HT2.out _ (Below.refl _ _).drew).mono ?_; intro e w5 h5; obtain ⟨e5, hb5⟩ := h5; subst e5; have hblk5 := HYR.out.drew.below hb5 HYR.out.lt; have hc0' := hblk5.cell 0; have hc1' := hblk5.cell 1; have hf0' := hblk5.frozen 0; have hf1' := hblk5.frozen 1; have hdb5 := HYL.out.drew.below hb5 HYL.out.lt; have hd0' := hdb5.cell 0; have hd1' := hdb5.cell 1; simp only [List.getElem?_toArray, List.getElem?_cons_zero, List.getElem?_cons_succ] at hc0' hc1' hd0' hd1'; have HB5 := Lib.hid hb5; have HBK5 := Lib.hid hblk5; clear hb5 hblk5 hdb5)
                refine wpAny_take (i := 9) (v := ?_) rfl (by kernel_rfl) (by kernel_rfl) (by kernel_rfl) (fun _ _ _ h => h) (.inl ⟨by rfl, ?_⟩) ?_
                rotate_left
                focus (intro wx; go_simp; first | done | with_reducible rfl | rfl)
                simp only [List.getElem_toArray, List.getElem_cons_succ, List.getElem_cons_zero, Act.put, List.setIfInBounds_toArray, List.set_cons_zero, List.set_cons_succ]
                refine wpAny_take (i := 10) (v := ?_) rfl (by kernel_rfl) (by kernel_rfl) (by kernel_rfl) (fun _ _ _ h => h) (.inl ⟨by rfl, ?_⟩) ?_
                rotate_left
                focus (intro wx; go_simp; first | done | with_reducible rfl | rfl)
                simp only [List.getElem_toArray, List.getElem_cons_succ, List.getElem_cons_zero, Act.put, List.setIfInBounds_toArray, List.set_cons_zero, List.set_cons_succ]
                refine wpAny_ready (rs := [11]) (by kernel_rfl) (by simp) ?_
                refine AllReady.cons rfl (fun K hK => ?_) AllReady.nil
                go_simp
                refine hK _ _ ?_
                clear hK K
                refine wpAny_ready (rs := [12]) (by kernel_rfl) (by simp) ?_
                refine AllReady.cons rfl (fun K hK => ?_) AllReady.nil
                go_simp
                refine hK _ _ ?_
                clear hK K
                refine wpAny_done (by kernel_rfl) ?_ _
                go_wp2
                refine bodyPost_ret (results_cellB rfl rfl (loadWord ((HBK5.out.set_ 0 _).set_ 1 _))) rfl ?_
                exact HEND.out w5 _ _ _ HZ.out HBK5.out (hb0Y.drew.trans (HB5.out.mono hb0Y.size)) (by rw [HV.out]; rfl) (fun y e => by rw [HV.out] at e; exact Option.some.inj e)
              · go_simp
                refine hK _ _ ?_
                clear hK K
                refine wpAny_ready (rs := [0, 7]) (by kernel_rfl) (by simp) ?_
                refine AllReady.cons rfl (fun K hK => ?_) (AllReady.cons rfl (fun K hK => ?_) AllReady.nil)
                · go_simp
                  refine hK _ _ ?_
                  clear hK K
                  refine wpAny_ready (rs := [7]) (by kernel_rfl) (by simp) ?_
                  refine AllReady.cons rfl (fun K hK => ?_) AllReady.nil
                  go_simp
                  go_wp2_with (go_at_call 11; refine (HT2.out _ (Below.refl _ _).drew).mono ?_; intro e w5 h5; obtain ⟨e5, hb5⟩ := h5; subst e5; have hblk5 := HYR.out.drew.below hb5 HYR.out.lt; have hc0' := hblk5.cell 0; have hc1' := hblk5.cell 1; have hf0' := hblk5.frozen 0; have hf1' := hblk5.frozen 1; have hdb5 := HYL.out.drew.below hb5 HYL.out.lt; have hd0' := hdb5.cell 0; have hd1' := hdb5.cell 1; simp only [List.getElem?_toArray, List.getElem?_cons_zero, List.getElem?_cons_succ] at hc0' hc1' hd0' hd1'; have HB5 := Lib.hid hb5; have HBK5 := Lib.hid hblk5; clear hb5 hblk5 hdb5)
                  refine wpAny_take (i := 9) (v := ?_) rfl (by kernel_rfl) (by kernel_rfl) (by kernel_rfl) (fun _ _ _ h => h) (.inl ⟨by rfl, ?_⟩) ?_
                  rotate_left
                  focus (intro wx; go_simp; first | done | with_reducible rfl | rfl)
                  simp only [List.getElem_toArray, List.getElem_cons_succ, List.getElem_cons_zero, Act.put, List.setIfInBounds_toArray, List.set_cons_zero, List.set_cons_succ]
                  refine wpAny_take (i := 10) (v := ?_) rfl (by kernel_rfl) (by kernel_rfl) (by kernel_rfl) (fun _ _ _ h => h) (.inl ⟨by rfl, ?_⟩) ?_
                  rotate_left
                  focus (intro wx; go_simp; first | done | with_reducible rfl | rfl)
                  simp only [List.getElem_toArray, List.getElem_cons_succ, List.getElem_cons_zero, Act.put, List.setIfInBounds_toArray, List.set_cons_zero, List.set_cons_succ]
                  refine wpAny_ready (rs := [11]) (by kernel_rfl) (by simp) ?_
                  refine AllReady.cons rfl (fun K hK => ?_) AllReady.nil
                  go_simp
                  refine hK _ _ ?_
                  clear hK K
                  refine wpAny_ready (rs := [12]) (by kernel_rfl) (by simp) ?_
                  refine AllReady.cons rfl (fun K hK => ?_) AllReady.nil
                  go_simp
                  refine hK _ _ ?_
                  clear hK K
                  refine wpAny_done (by kernel_rfl) ?_ _
                  go_wp2
                  refine bodyPost_ret (results_cellB rfl rfl (loadWord ((HBK5.out.set_ 0 _).set_ 1 _))) rfl ?_
                  exact HEND.out w5 _ _ _ HZ.out HBK5.out (hb0Y.drew.trans (HB5.out.mono hb0Y.size)) (by rw [HV.out]; rfl) (fun y e => by rw [HV.out] at e; exact Option.some.inj e)
                · go_simp
                  go_wp2_with (go_at_call 11; refine (HT2.out _ (Below.refl _ _).drew).mono ?_; intro e w5 h5; obtain ⟨e5, hb5⟩ := h5; subst e5; have hblk5 := HYR.out.drew.below hb5 HYR.out.lt; have hc0' := hblk5.cell 0; have hc1' := hblk5.cell 1; have hf0' := hblk5.frozen 0; have hf1' := hblk5.frozen 1; have hdb5 := HYL.out.drew.below hb5 HYL.out.lt; have hd0' := hdb5.cell 0; have hd1' := hdb5.cell 1; simp only [List.getElem?_toArray, List.getElem?_cons_zero, List.getElem?_cons_succ] at hc0' hc1' hd0' hd1'; have HB5 := Lib.hid hb5; have HBK5 := Lib.hid hblk5; clear hb5 hblk5 hdb5)
                  refine wpAny_take (i := 9) (v := ?_) rfl (by kernel_rfl) (by kernel_rfl) (by kernel_rfl) (fun _ _ _ h => h) (.inl ⟨by rfl, ?_⟩) ?_
                  rotate_left
                  focus (intro wx; go_simp; first | done | with_reducible rfl | rfl)
                  simp only [List.getElem_toArray, List.getElem_cons_succ, List.getElem_cons_zero, Act.put, List.setIfInBounds_toArray, List.set_cons_zero, List.set_cons_succ]
                  refine wpAny_take (i := 10) (v := ?_) rfl (by kernel_rfl) (by kernel_rfl) (by kernel_rfl) (fun _ _ _ h => h) (.inl ⟨by rfl, ?_⟩) ?_
                  rotate_left
                  focus (intro wx; go_simp; first | done | with_reducible rfl | rfl)
                  simp only [List.getElem_toArray, List.getElem_cons_succ, List.getElem_cons_zero, Act.put, List.setIfInBounds_toArray, List.set_cons_zero, List.set_cons_succ]
                  refine wpAny_ready (rs := [0]) (by kernel_rfl) (by simp) ?_
                  refine AllReady.cons rfl (fun K hK => ?_) AllReady.nil
                  go_simp
                  refine hK _ _ ?_
                  clear hK K
                  refine wpAny_ready (rs := [11]) (by kernel_rfl) (by simp) ?_
                  refine AllReady.cons rfl (fun K hK => ?_) AllReady.nil
                  go_simp
                  refine hK _ _ ?_
                  clear hK K
                  refine wpAny_ready (rs := [12]) (by kernel_rfl) (by simp) ?_
                  refine AllReady.cons rfl (fun K hK => ?_) AllReady.nil
                  go_simp
                  refine hK _ _ ?_
                  clear hK K
                  refine wpAny_done (by kernel_rfl) ?_ _
                  go_wp2
                  refine bodyPost_ret (results_cellB rfl rfl (loadWord ((HBK5.out.set_ 0 _).set_ 1 _))) rfl ?_
                  exact HEND.out w5 _ _ _ HZ.out HBK5.out (hb0Y.drew.trans (HB5.out.mono hb0Y.size)) (by rw [HV.out]; rfl) (fun y e => by rw [HV.out] at e; exact Option.some.inj e)
            · have HV : Hid (wordL s.data.toList = none) := by show _ = _; rw [HW6.out, if_neg (fun h => hqs (ht.trans (str_eq_iff.2 h)))]
              have HT2 : Hid (∀ w', Below Y.heap.size Y w' → Calls Tryz.prog 11 #[.agg #[.int .u8 (v4 % 256), .slice none 0 0]] w' (fun e w'' => e = .returned (.string t) ∧ Below w'.heap.size w' w'')) := fun w' hb => (HTX.out w' hb).mono fun e w'' h => ⟨by rw [h.1, ← ht], h.2⟩
              have hq' := str_ne hqs
              clear hqs ht
              go_wp2_with fail
              rw [← hY]
              clear hY
              refine wp_region_any (by kernel_rfl) ?_
              try (change wpAny _ _ _ _ _ _ _ (World.drew _))
              refine wpAny_take (i := 1) (v := ?_) rfl (by kernel_rfl) (by kernel_rfl) (by kernel_rfl) (fun _ _ _ h => h) (.inl ⟨by rfl, ?_⟩) ?_
              rotate_left
              focus (intro wx; go_simp; first | done | with_reducible rfl | rfl)
              simp only [List.getElem_toArray, List.getElem_cons_succ, List.getElem_cons_zero, Act.put, List.setIfInBounds_toArray, List.set_cons_zero, List.set_cons_succ]
              refine wpAny_take (i := 2) (v := ?_) rfl (by kernel_rfl) (by kernel_rfl) (by kernel_rfl) (fun _ _ _ h => h) (.inl ⟨by rfl, ?_⟩) ?_
              rotate_left
              focus (intro wx; go_simp; first | done | with_reducible rfl | rfl)
              simp only [List.getElem_toArray, List.getElem_cons_succ, List.getElem_cons_zero, Act.put, List.setIfInBounds_toArray, List.set_cons_zero, List.set_cons_succ]
              refine wpAny_take (i := 3) (v := ?_) rfl (by kernel_rfl) (by kernel_rfl) (by kernel_rfl) (fun _ _ _ h => h) (.inl ⟨by rfl, ?_⟩) ?_
              rotate_left
              focus (intro wx; go_simp; first | done | with_reducible rfl | rfl)
              simp only [List.getElem_toArray, List.getElem_cons_succ, List.getElem_cons_zero, Act.put, List.setIfInBounds_toArray, List.set_cons_zero, List.set_cons_succ]
              refine wpAny_take (i := 4) (v := ?_) rfl (by kernel_rfl) (by kernel_rfl) (by kernel_rfl) (fun _ _ _ h => h) (.inl ⟨by rfl, ?_⟩) ?_
              rotate_left
              focus (intro wx; go_simp; first | done | with_reducible rfl | rfl)
              simp only [List.getElem_toArray, List.getElem_cons_succ, List.getElem_cons_zero, Act.put, List.setIfInBounds_toArray, List.set_cons_zero, List.set_cons_succ]
              refine wpAny_take (i := 5) (v := ?_) rfl (by kernel_rfl) (by kernel_rfl) (by kernel_rfl) (fun _ _ _ h => h) (.inl ⟨by rfl, ?_⟩) ?_
              rotate_left
              focus (intro wx; go_simp; first | done | with_reducible rfl | rfl)
              simp only [List.getElem_toArray, List.getElem_cons_succ, List.getElem_cons_zero, Act.put, List.setIfInBounds_toArray, List.set_cons_zero, List.set_cons_succ]
              refine wpAny_take (i := 8) (v := ?_) rfl (by kernel_rfl) (by kernel_rfl) (by kernel_rfl) (fun _ _ _ h => h) (.inl ⟨by rfl, ?_⟩) ?_
              rotate_left
              focus (intro wx; go_simp; first | done | with_reducible rfl | rfl)
              simp only [List.getElem_toArray, List.getElem_cons_succ, List.getElem_cons_zero, Act.put, List.setIfInBounds_toArray, List.set_cons_zero, List.set_cons_succ]
              refine wpAny_ready (rs := [0, 6]) (by kernel_rfl) (by simp) ?_
              refine AllReady.cons rfl (fun K hK => ?_) (AllReady.cons rfl (fun K hK => ?_) AllReady.nil)
              · go_simp
                refine hK _ _ ?_
                clear hK K
                refine wpAny_ready (rs := [6]) (by kernel_rfl) (by simp) ?_
                refine AllReady.cons rfl (fun K hK => ?_) AllReady.nil
                go_simp
                refine hK _ _ ?_
                clear hK K
                refine wpAny_ready (rs := [7]) (by kernel_rfl) (by simp) ?_
                refine AllReady.cons rfl (fun K hK => ?_) AllReady.nil
                go_simp
                go_wp2_with (go_at_call 11; refine (HT2.out _ (Below.refl _ _).drew).mono ?_; intro e w5 h5; obtain ⟨e5, hb5⟩ := h5; subst e5; have hblk5 := HYR.out.drew.below hb5 HYR.out.lt; have hc0' := hblk5.cell 0; have hc1' := hblk5.cell 1; have hf0' := hblk5.frozen 0; have hf1' := hblk5.frozen 1; have hdb5 := HYL.out.drew.below hb5 HYL.out.lt; have hd0' := hdb5.cell 0; have hd1' := hdb5.cell 1; simp only [List.getElem?_toArray, List.getElem?_cons_zero, List.getElem?_cons_succ] at hc0' hc1' hd0' hd1'; have HB5 := Lib.hid hb5; have HBK5 := Lib.hid hblk5; clear hb5 hblk5 hdb5)
                refine wpAny_take (i := 9) (v := ?_) rfl (by kernel_rfl) (by kernel_rfl) (by kernel_rfl) (fun _ _ _ h => h) (.inl ⟨by rfl, ?_⟩) ?_
                rotate_left
                focus (intro wx; go_simp; first | done | with_reducible rfl | rfl)
                simp only [List.getElem_toArray, List.getElem_cons_succ, List.getElem_cons_zero, Act.put, List.setIfInBounds_toArray, List.set_cons_zero, List.set_cons_succ]
                refine wpAny_take (i := 10) (v := ?_) rfl (by kernel_rfl) (by kernel_rfl) (by kernel_rfl) (fun _ _ _ h => h) (.inl ⟨by rfl, ?_⟩) ?_
                rotate_left
                focus (intro wx; go_simp; first | done | with_reducible rfl | rfl)
                simp only [List.getElem_toArray, List.getElem_cons_succ, List.getElem_cons_zero, Act.put, List.setIfInBounds_toArray, List.set_cons_zero, List.set_cons_succ]
                refine wpAny_ready (rs := [11]) (by kernel_rfl) (by simp) ?_
                refine AllReady.cons rfl (fun K hK => ?_) AllReady.nil
                go_simp
                refine hK _ _ ?_
                clear hK K
                refine wpAny_ready (rs := [12]) (by kernel_rfl) (by simp) ?_
                refine AllReady.cons rfl (fun K hK => ?_) AllReady.nil
                go_simp
                refine hK _ _ ?_
                clear hK K
                refine wpAny_done (by kernel_rfl) ?_ _
                go_wp2
                refine bodyPost_ret (results_cellB rfl rfl (loadWord ((HBK5.out.set_ 0 _).set_ 1 _))) rfl ?_
                exact HEND.out w5 _ _ _ HZ.out HBK5.out (hb0Y.drew.trans (HB5.out.mono hb0Y.size)) (by rw [HV.out]; rfl) (fun y e => by rw [HV.out] at e; cases e)
              · go_simp
                refine hK _ _ ?_
                clear hK K
                refine wpAny_ready (rs := [0, 7]) (by kernel_rfl) (by simp) ?_
                refine AllReady.cons rfl (fun K hK => ?_) (AllReady.cons rfl (fun K hK => ?_) AllReady.nil)
                · go_simp
                  refine hK _ _ ?_
                  clear hK K
                  refine wpAny_ready (rs := [7]) (by kernel_rfl) (by simp) ?_
                  refine AllReady.cons rfl (fun K hK => ?_) AllReady.nil
                  go_simp
                  go_wp2_with (go_at_call 11; refine (HT2.out _ (Below.refl _ _).drew).mono ?_; intro e w5 h5; obtain ⟨e5, hb5⟩ := h5; subst e5; have hblk5 := HYR.out.drew.below hb5 HYR.out.lt; have hc0' := hblk5.cell 0; have hc1' := hblk5.cell 1; have hf0' := hblk5.frozen 0; have hf1' := hblk5.frozen 1; have hdb5 := HYL.out.drew.below hb5 HYL.out.lt; have hd0' := hdb5.cell 0; have hd1' := hdb5.cell 1; simp only [List.getElem?_toArray, List.getElem?_cons_zero, List.getElem?_cons_succ] at hc0' hc1' hd0' hd1'; have HB5 := Lib.hid hb5; have HBK5 := Lib.hid hblk5; clear hb5 hblk5 hdb5)
                  refine wpAny_take (i := 9) (v := ?_) rfl (by kernel_rfl) (by kernel_rfl) (by kernel_rfl) (fun _ _ _ h => h) (.inl ⟨by rfl, ?_⟩) ?_
                  rotate_left
                  focus (intro wx; go_simp; first | done | with_reducible rfl | rfl)
                  simp only [List.getElem_toArray, List.getElem_cons_succ, List.getElem_cons_zero, Act.put, List.setIfInBounds_toArray, List.set_cons_zero, List.set_cons_succ]
                  refine wpAny_take (i := 10) (v := ?_) rfl (by kernel_rfl) (by kernel_rfl) (by kernel_rfl) (fun _ _ _ h => h) (.inl ⟨by rfl, ?_⟩) ?_
                  rotate_left
                  focus (intro wx; go_simp; first | done | with_reducible rfl | rfl)
                  simp only [List.getElem_toArray, List.getElem_cons_succ, List.getElem_cons_zero, Act.put, List.setIfInBounds_toArray, List.set_cons_zero, List.set_cons_succ]
                  refine wpAny_ready (rs := [11]) (by kernel_rfl) (by simp) ?_
                  refine AllReady.cons rfl (fun K hK => ?_) AllReady.nil
                  go_simp
                  refine hK _ _ ?_
                  clear hK K
                  refine wpAny_ready (rs := [12]) (by kernel_rfl) (by simp) ?_
                  refine AllReady.cons rfl (fun K hK => ?_) AllReady.nil
                  go_simp
                  refine hK _ _ ?_
                  clear hK K
                  refine wpAny_done (by kernel_rfl) ?_ _
                  go_wp2
                  refine bodyPost_ret (results_cellB rfl rfl (loadWord ((HBK5.out.set_ 0 _).set_ 1 _))) rfl ?_
                  exact HEND.out w5 _ _ _ HZ.out HBK5.out (hb0Y.drew.trans (HB5.out.mono hb0Y.size)) (by rw [HV.out]; rfl) (fun y e => by rw [HV.out] at e; cases e)
                · go_simp
                  go_wp2_with (go_at_call 11; refine (HT2.out _ (Below.refl _ _).drew).mono ?_; intro e w5 h5; obtain ⟨e5, hb5⟩ := h5; subst e5; have hblk5 := HYR.out.drew.below hb5 HYR.out.lt; have hc0' := hblk5.cell 0; have hc1' := hblk5.cell 1; have hf0' := hblk5.frozen 0; have hf1' := hblk5.frozen 1; have hdb5 := HYL.out.drew.below hb5 HYL.out.lt; have hd0' := hdb5.cell 0; have hd1' := hdb5.cell 1; simp only [List.getElem?_toArray, List.getElem?_cons_zero, List.getElem?_cons_succ] at hc0' hc1' hd0' hd1'; have HB5 := Lib.hid hb5; have HBK5 := Lib.hid hblk5; clear hb5 hblk5 hdb5)
                  refine wpAny_take (i := 9) (v := ?_) rfl (by kernel_rfl) (by kernel_rfl) (by kernel_rfl) (fun _ _ _ h => h) (.inl ⟨by rfl, ?_⟩) ?_
                  rotate_left
                  focus (intro wx; go_simp; first | done | with_reducible rfl | rfl)
                  simp only [List.getElem_toArray, List.getElem_cons_succ, List.getElem_cons_zero, Act.put, List.setIfInBounds_toArray, List.set_cons_zero, List.set_cons_succ]
                  refine wpAny_take (i := 10) (v := ?_) rfl (by kernel_rfl) (by kernel_rfl) (by kernel_rfl) (fun _ _ _ h => h) (.inl ⟨by rfl, ?_⟩) ?_
                  rotate_left
                  focus (intro wx; go_simp; first | done | with_reducible rfl | rfl)
                  simp only [List.getElem_toArray, List.getElem_cons_succ, List.getElem_cons_zero, Act.put, List.setIfInBounds_toArray, List.set_cons_zero, List.set_cons_succ]
                  refine wpAny_ready (rs := [0]) (by kernel_rfl) (by simp) ?_
                  refine AllReady.cons rfl (fun K hK => ?_) AllReady.nil
                  go_simp
                  refine hK _ _ ?_
                  clear hK K
                  refine wpAny_ready (rs := [11]) (by kernel_rfl) (by simp) ?_
                  refine AllReady.cons rfl (fun K hK => ?_) AllReady.nil
                  go_simp
                  refine hK _ _ ?_
                  clear hK K
                  refine wpAny_ready (rs := [12]) (by kernel_rfl) (by simp) ?_
                  refine AllReady.cons rfl (fun K hK => ?_) AllReady.nil
                  go_simp
                  refine hK _ _ ?_
                  clear hK K
                  refine wpAny_done (by kernel_rfl) ?_ _
                  go_wp2
                  refine bodyPost_ret (results_cellB rfl rfl (loadWord ((HBK5.out.set_ 0 _).set_ 1 _))) rfl ?_
                  exact HEND.out w5 _ _ _ HZ.out HBK5.out (hb0Y.drew.trans (HB5.out.mono hb0Y.size)) (by rw [HV.out]; rfl) (fun y e => by rw [HV.out] at e; cases e)
          · have HV : Hid (wordL s.data.toList = none) := by
              show _ = _
              rw [HW5.out, if_pos rfl]
              cases hn : numL 255 f with
              | none => rfl
              | some n =>
                rw [HIS.out, hn] at hs2
                exact absurd rfl hs2
            obtain rfl : is = false := by simpa using hs2
            clear hs2 hv4
            go_wp2_with fail
            rw [← hY]
            clear hY
            refine wp_region_any (by kernel_rfl) ?_
            try (change wpAny _ _ _ _ _ _ _ (World.drew _))
            refine wpAny_take (i := 1) (v := ?_) rfl (by kernel_rfl) (by kernel_rfl) (by kernel_rfl) (fun _ _ _ h => h) (.inl ⟨by rfl, ?_⟩) ?_
            rotate_left
            focus (intro wx; go_simp; first | done | with_reducible rfl | rfl)
            simp only [List.getElem_toArray, List.getElem_cons_succ, List.getElem_cons_zero, Act.put, List.setIfInBounds_toArray, List.set_cons_zero, List.set_cons_succ]
            refine wpAny_take (i := 2) (v := ?_) rfl (by kernel_rfl) (by kernel_rfl) (by kernel_rfl) (fun _ _ _ h => h) (.inl ⟨by rfl, ?_⟩) ?_
            rotate_left
            focus (intro wx; go_simp; first | done | with_reducible rfl | rfl)
            simp only [List.getElem_toArray, List.getElem_cons_succ, List.getElem_cons_zero, Act.put, List.setIfInBounds_toArray, List.set_cons_zero, List.set_cons_succ]
            refine wpAny_take (i := 3) (v := ?_) rfl (by kernel_rfl) (by kernel_rfl) (by kernel_rfl) (fun _ _ _ h => h) (.inl ⟨by rfl, ?_⟩) ?_
            rotate_left
            focus (intro wx; go_simp; first | done | with_reducible rfl | rfl)
            simp only [List.getElem_toArray, List.getElem_cons_succ, List.getElem_cons_zero, Act.put, List.setIfInBounds_toArray, List.set_cons_zero, List.set_cons_succ]
            refine wpAny_take (i := 4) (v := ?_) rfl (by kernel_rfl) (by kernel_rfl) (by kernel_rfl) (fun _ _ _ h => h) (.inl ⟨by rfl, ?_⟩) ?_
            rotate_left
            focus (intro wx; go_simp; first | done | with_reducible rfl | rfl)
            simp only [List.getElem_toArray, List.getElem_cons_succ, List.getElem_cons_zero, Act.put, List.setIfInBounds_toArray, List.set_cons_zero, List.set_cons_succ]
            refine wpAny_take (i := 5) (v := ?_) rfl (by kernel_rfl) (by kernel_rfl) (by kernel_rfl) (fun _ _ _ h => h) (.inl ⟨by rfl, ?_⟩) ?_
            rotate_left
            focus (intro wx; go_simp; first | done | with_reducible rfl | rfl)
            simp only [List.getElem_toArray, List.getElem_cons_succ, List.getElem_cons_zero, Act.put, List.setIfInBounds_toArray, List.set_cons_zero, List.set_cons_succ]
            refine wpAny_take (i := 6) (v := undef) rfl (by kernel_rfl) (by kernel_rfl) (by kernel_rfl) (fun _ _ _ h => h) (.inr ⟨by rfl, rfl⟩) ?_
            simp only [List.getElem_toArray, List.getElem_cons_succ, List.getElem_cons_zero, Act.put, List.setIfInBounds_toArray, List.set_cons_zero, List.set_cons_succ]
            refine wpAny_take (i := 7) (v := undef) rfl (by kernel_rfl) (by kernel_rfl) (by kernel_rfl) (fun _ _ _ h => h) (.inr ⟨by rfl, rfl⟩) ?_
            simp only [List.getElem_toArray, List.getElem_cons_succ, List.getElem_cons_zero, Act.put, List.setIfInBounds_toArray, List.set_cons_zero, List.set_cons_succ]
            refine wpAny_take (i := 8) (v := undef) rfl (by kernel_rfl) (by kernel_rfl) (by kernel_rfl) (fun _ _ _ h => h) (.inr ⟨by rfl, rfl⟩) ?_
            simp only [List.getElem_toArray, List.getElem_cons_succ, List.getElem_cons_zero, Act.put, List.setIfInBounds_toArray, List.set_cons_zero, List.set_cons_succ]
            refine wpAny_take (i := 9) (v := undef) rfl (by kernel_rfl) (by kernel_rfl) (by kernel_rfl) (fun _ _ _ h => h) (.inr ⟨by rfl, rfl⟩) ?_
            simp only [List.getElem_toArray, List.getElem_cons_succ, List.getElem_cons_zero, Act.put, List.setIfInBounds_toArray, List.set_cons_zero, List.set_cons_succ]
            refine wpAny_take (i := 10) (v := ?_) rfl (by kernel_rfl) (by kernel_rfl) (by kernel_rfl) (fun _ _ _ h => h) (.inl ⟨by rfl, ?_⟩) ?_
            rotate_left
            focus (intro wx; go_simp; first | done | with_reducible rfl | rfl)
            simp only [List.getElem_toArray, List.getElem_cons_succ, List.getElem_cons_zero, Act.put, List.setIfInBounds_toArray, List.set_cons_zero, List.set_cons_succ]
            refine wpAny_ready (rs := [0]) (by kernel_rfl) (by simp) ?_
            refine AllReady.cons rfl (fun K hK => ?_) AllReady.nil
            go_simp
            refine hK _ _ ?_
            clear hK K
            refine wpAny_ready (rs := [11]) (by kernel_rfl) (by simp) ?_
            refine AllReady.cons rfl (fun K hK => ?_) AllReady.nil
            go_simp
            refine hK _ _ ?_
            clear hK K
            refine wpAny_ready (rs := [12]) (by kernel_rfl) (by simp) ?_
            refine AllReady.cons rfl (fun K hK => ?_) AllReady.nil
            go_simp
            refine hK _ _ ?_
            clear hK K
            refine wpAny_done (by kernel_rfl) ?_ _
            go_wp2
            refine bodyPost_ret (results_cellB rfl rfl (loadWord ((HYR.out.drew.set_ 0 _).set_ 1 _))) rfl ?_
            exact HEND.out Y.drew _ _ _ HZ.out HYR.out.drew hb0Y.drew (by rw [HV.out]; rfl) (fun y e => by rw [HV.out] at e; cases e)
        · have HV : Hid (wordL s.data.toList = none) := by
            show _ = _
            rw [HW5.out, if_neg hfl]
          obtain rfl : fl = false := by simpa using hfl
          clear hfl hv4
          go_wp2_with fail
          rw [← hY]
          clear hY
          refine wp_region_any (by kernel_rfl) ?_
          try (change wpAny _ _ _ _ _ _ _ (World.drew _))
          refine wpAny_take (i := 1) (v := ?_) rfl (by kernel_rfl) (by kernel_rfl) (by kernel_rfl) (fun _ _ _ h => h) (.inl ⟨by rfl, ?_⟩) ?_
          rotate_left
          focus (intro wx; go_simp; first | done | with_reducible rfl | rfl)
          simp only [List.getElem_toArray, List.getElem_cons_succ, List.getElem_cons_zero, Act.put, List.setIfInBounds_toArray, List.set_cons_zero, List.set_cons_succ]
          refine wpAny_take (i := 2) (v := ?_) rfl (by kernel_rfl) (by kernel_rfl) (by kernel_rfl) (fun _ _ _ h => h) (.inl ⟨by rfl, ?_⟩) ?_
          rotate_left
          focus (intro wx; go_simp; first | done | with_reducible rfl | rfl)
          simp only [List.getElem_toArray, List.getElem_cons_succ, List.getElem_cons_zero, Act.put, List.setIfInBounds_toArray, List.set_cons_zero, List.set_cons_succ]
          refine wpAny_take (i := 3) (v := undef) rfl (by kernel_rfl) (by kernel_rfl) (by kernel_rfl) (fun _ _ _ h => h) (.inr ⟨by rfl, rfl⟩) ?_
          simp only [List.getElem_toArray, List.getElem_cons_succ, List.getElem_cons_zero, Act.put, List.setIfInBounds_toArray, List.set_cons_zero, List.set_cons_succ]
          refine wpAny_take (i := 4) (v := ?_) rfl (by kernel_rfl) (by kernel_rfl) (by kernel_rfl) (fun _ _ _ h => h) (.inl ⟨by rfl, ?_⟩) ?_
          rotate_left
          focus (intro wx; go_simp; first | done | with_reducible rfl | rfl)
          simp only [List.getElem_toArray, List.getElem_cons_succ, List.getElem_cons_zero, Act.put, List.setIfInBounds_toArray, List.set_cons_zero, List.set_cons_succ]
          refine wpAny_take (i := 5) (v := ?_) rfl (by kernel_rfl) (by kernel_rfl) (by kernel_rfl) (fun _ _ _ h => h) (.inl ⟨by rfl, ?_⟩) ?_
          rotate_left
          focus (intro wx; go_simp; first | done | with_reducible rfl | rfl)
          simp only [List.getElem_toArray, List.getElem_cons_succ, List.getElem_cons_zero, Act.put, List.setIfInBounds_toArray, List.set_cons_zero, List.set_cons_succ]
          refine wpAny_take (i := 6) (v := undef) rfl (by kernel_rfl) (by kernel_rfl) (by kernel_rfl) (fun _ _ _ h => h) (.inr ⟨by rfl, rfl⟩) ?_
          simp only [List.getElem_toArray, List.getElem_cons_succ, List.getElem_cons_zero, Act.put, List.setIfInBounds_toArray, List.set_cons_zero, List.set_cons_succ]
          refine wpAny_take (i := 7) (v := undef) rfl (by kernel_rfl) (by kernel_rfl) (by kernel_rfl) (fun _ _ _ h => h) (.inr ⟨by rfl, rfl⟩) ?_
          simp only [List.getElem_toArray, List.getElem_cons_succ, List.getElem_cons_zero, Act.put, List.setIfInBounds_toArray, List.set_cons_zero, List.set_cons_succ]
          refine wpAny_take (i := 8) (v := undef) rfl (by kernel_rfl) (by kernel_rfl) (by kernel_rfl) (fun _ _ _ h => h) (.inr ⟨by rfl, rfl⟩) ?_
          simp only [List.getElem_toArray, List.getElem_cons_succ, List.getElem_cons_zero, Act.put, List.setIfInBounds_toArray, List.set_cons_zero, List.set_cons_succ]
          refine wpAny_take (i := 9) (v := undef) rfl (by kernel_rfl) (by kernel_rfl) (by kernel_rfl) (fun _ _ _ h => h) (.inr ⟨by rfl, rfl⟩) ?_
          simp only [List.getElem_toArray, List.getElem_cons_succ, List.getElem_cons_zero, Act.put, List.setIfInBounds_toArray, List.set_cons_zero, List.set_cons_succ]
          refine wpAny_take (i := 10) (v := ?_) rfl (by kernel_rfl) (by kernel_rfl) (by kernel_rfl) (fun _ _ _ h => h) (.inl ⟨by rfl, ?_⟩) ?_
          rotate_left
          focus (intro wx; go_simp; first | done | with_reducible rfl | rfl)
          simp only [List.getElem_toArray, List.getElem_cons_succ, List.getElem_cons_zero, Act.put, List.setIfInBounds_toArray, List.set_cons_zero, List.set_cons_succ]
          refine wpAny_ready (rs := [0]) (by kernel_rfl) (by simp) ?_
          refine AllReady.cons rfl (fun K hK => ?_) AllReady.nil
          go_simp
          refine hK _ _ ?_
          clear hK K
          refine wpAny_ready (rs := [11]) (by kernel_rfl) (by simp) ?_
          refine AllReady.cons rfl (fun K hK => ?_) AllReady.nil
          go_simp
          refine hK _ _ ?_
          clear hK K
          refine wpAny_ready (rs := [12]) (by kernel_rfl) (by simp) ?_
          refine AllReady.cons rfl (fun K hK => ?_) AllReady.nil
          go_simp
          refine hK _ _ ?_
          clear hK K
          refine wpAny_done (by kernel_rfl) ?_ _
          go_wp2
          refine bodyPost_ret (results_cellB rfl rfl (loadWord ((HYR.out.drew.set_ 0 _).set_ 1 _))) rfl ?_
          exact HEND.out Y.drew _ _ _ HZ.out HYR.out.drew hb0Y.drew (by rw [HV.out]; rfl) (fun y e => by rw [HV.out] at e; cases e)

theorem word_any (s : ByteArray) (w : World) (hg : Gd w) (hs : s.size ≤ 100000) :
    Calls Tryz.prog 16 #[.string s] w (PushedEnd (wordL s.data.toList) 65535 w) := by
  by_cases h : (60 : UInt8) ∈ s.data.toList
  · exact wordPush_any s w hg hs h
  · exact wordPlain_any s w hg hs h

end Go.Proofs.YtggadilgkcjbjaaGreatDoor
