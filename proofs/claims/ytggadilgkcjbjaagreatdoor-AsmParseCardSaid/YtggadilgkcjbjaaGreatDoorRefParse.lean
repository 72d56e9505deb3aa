/-
  The walk over the reference's Parse.
-/
import Derived.Test.YtggadilgkcjbjaaGreatDoorRefBuild
import Derived.Test.YtggadilgkcjbjaaGreatDoorRefWord
import Derived.Test.YtggadilgkcjbjaaGreatDoorAsmParse
set_option linter.unusedVariables false
namespace Go.Proofs.YtggadilgkcjbjaaGreatDoor
open Go.RowKit Go.Sort

theorem parse_step {S : List UInt8} {ws : List Wd} {g j : Nat} (h : (partsL S).mapM wordL = ((partsL (S.drop g)).mapM wordL).map (ws ++ ·)) (hg : g ≤ j) (hj : j ≤ S.length) (hc : S[j]? = some 32 ∨ j = S.length)
    (hno : ∀ i c, g ≤ i → i < j → S[i]? = some c → c ≠ 32) :
    (partsL S).mapM wordL = if (S.take j).drop g = [] then ((partsL (S.drop (j + 1))).mapM wordL).map (ws ++ ·) else match wordL ((S.take j).drop g) with | none => none | some x => ((partsL (S.drop (j + 1))).mapM wordL).map ((ws ++ [x]) ++ ·) := by
  have ha : (32 : UInt8) ∉ (S.take j).drop g := by
    intro hm
    obtain ⟨i, hi⟩ := List.mem_iff_getElem?.1 hm
    rw [List.getElem?_drop, List.getElem?_take] at hi
    split at hi
    · rename_i h2
      exact hno (g + i) 32 (by omega) h2 hi rfl
    · cases hi
  rcases hc with hc | hc
  · have hs : S.drop g = (S.take j).drop g ++ 32 :: S.drop (j + 1) := by
      obtain ⟨hlt, he⟩ := List.getElem?_eq_some_iff.1 hc
      have e : S = S.take j ++ 32 :: S.drop (j + 1) := by
        conv => lhs; rw [← List.take_append_drop j S]
        rw [List.drop_eq_getElem_cons hlt, he]
      conv => lhs; rw [e]
      rw [List.drop_append_of_le_length (by rw [List.length_take]; omega)]
    rw [hs] at h
    exact parse_stop h ha
  · have hs : S.drop g = (S.take j).drop g := by rw [hc, List.take_length]
    rw [hs] at h
    rw [parse_last h ha]
    have e : partsL (S.drop (j + 1)) = [] := by rw [List.drop_eq_nil_of_le (by omega)]; rfl
    rw [e, List.mapM_nil]
    by_cases h0 : (S.take j).drop g = []
    · rw [if_pos h0, if_pos h0]; simp
    · rw [if_neg h0, if_neg h0]
      cases wordL ((S.take j).drop g) <;> simp

set_option maxRecDepth 100000 in
set_option maxHeartbeats 2000000 in
theorem refParse_any (s : ByteArray) (w : World) (hs : s.size ≤ 90000) :
    Calls Tryz.prog 9 #[.string s] w (ParseEnd (parseL s.data.toList) w) := by
  obtain ⟨E, hE⟩ : ∃ E, E = ParseEnd (parseL s.data.toList) w := ⟨_, rfl⟩
  rw [← hE]
  have HE := Lib.hid hE
  obtain ⟨S, hS⟩ : ∃ S, S = s.data.toList := ⟨_, rfl⟩
  have HS := Lib.hid hS
  rw [← hS] at HE
  have HSL : Hid (S.length = s.size) := by show _ = _; rw [hS]; exact (size_list s).symm
  have HGET : Hid (∀ i (h : i < s.size), S[i]? = some s[i]) := fun i h => by
    rw [get_list s i h, hS]
    exact List.getElem?_eq_getElem _
  have HPL : Hid (parseL S = match (partsL S).mapM wordL with | none => none | some ws => buildL ws) := rfl
  clear hE hS
  obtain ⟨i0, hi, hz0, hz1, hz2⟩ := info_parts infoWord3
  have HROW0 : Hid (RowAt (w.alloc (.cells #[] 36)) w.heap.size (.slice (some ⟨w.heap.size, 0, none⟩) 0 0) []) := ⟨[], World.ownsRow_lit (base := w.heap.size) (e := 36) (size := 2) w #[] 0 (Nat.le_refl _) (Nat.zero_le _) rfl, trivial⟩
  have HB0 : Hid (Below w.heap.size w (w.alloc (.cells #[] 36))) := (Below.refl _ _).alloc (Nat.le_refl _) _
  go_enter Tryz.func9, Tryz.ntmps9
  go_wp2
  go_loopw [4, 5, 6] (fun l f a wr => ∃ (j g : Nat) (ws : List Wd), a = .int .i64 j ∧ f = .int .i64 g ∧ g ≤ j ∧ j ≤ s.size + 1 ∧ ws.length ≤ j ∧ Hid (RowAt wr w.heap.size l ws) ∧ Hid (∀ x ∈ ws, x.2.length ≤ 65535) ∧
    Hid ((partsL S).mapM wordL = ((partsL (S.drop g)).mapM wordL).map (ws ++ ·)) ∧ Hid (∀ i c, g ≤ i → i < j → S[i]? = some c → c ≠ 32) ∧ Hid (s.size < j → g = j) ∧ Below w.heap.size w wr) (fun _ _ a _ => s.size + 1 - (intOf a).toNat)
  case atStart => exact ⟨0, 0, [], rfl, rfl, Nat.le_refl _, by omega, Nat.le_refl _, HROW0, (fun x hx => by cases hx), by show _ = _; rw [List.drop_zero]; cases (partsL S).mapM wordL <;> rfl, fun i c h1 h2 => by omega, fun _ => rfl, HB0.out⟩
  case round =>
    obtain ⟨j, g, ws, rfl, rfl, hg, hj, hwl, hrow, hxs, hall, hno, hend, hb⟩ := hrel
    by_cases hlt : j < s.size
    · obtain ⟨ca, hca⟩ : ∃ ca : UInt8, s[j] = ca := ⟨_, rfl⟩
      have HCA : Hid (S[j]? = some ca) := by show _ = _; rw [← hca]; exact HGET.out j hlt
      have hct : (s[j]'hlt).toNat = ca.toNat := by rw [hca]
      have hle : (j : Int) ≤ (s.size : Int) := by omega
      clear hca
      by_cases h32 : ca = 32
      · have h1 : (((s[j]'hlt).toNat : Int) != 32) = false := by rw [hct, h32]; rfl
        have hst := parse_step hall.out hg (by rw [HSL.out]; omega) (.inl (by rw [← h32]; exact HCA.out)) hno.out
        clear hct h32 HCA
        by_cases hgj : g < j
        · obtain ⟨t, ht⟩ : ∃ t, t = s.extract g j := ⟨_, rfl⟩
          have HTD : Hid (t.data.toList = (S.take j).drop g) := by
            show _ = _
            rw [ht, Lib.extract_data, ← HS.out, List.drop_take]
          have hne : (S.take j).drop g ≠ [] := by
            intro e
            have := congrArg List.length e
            rw [List.length_drop, List.length_take, HSL.out, List.length_nil] at this
            omega
          have HST : Hid ((partsL S).mapM wordL = match wordL t.data.toList with | none => none | some x => ((partsL (S.drop (j + 1))).mapM wordL).map ((ws ++ [x]) ++ ·)) := by
            show _ = _
            rw [hst, if_neg hne, HTD.out]
          have hts : t.size ≤ 100000 := by
            rw [size_list, HTD.out, List.length_drop, List.length_take, HSL.out]
            omega
          have HW : Hid (Calls Tryz.prog 18 #[.string t] wr (PushedEnd (wordL t.data.toList) 65535 wr)) := refWord_any t wr hts
          have HT := Lib.hid ht
          clear hne hst hts ht hno hend HTD
          go_wp2_with fail
          rw [← HT.out]
          refine HW.out.mono ?_
          rintro e w2 ⟨v, x, rfl, ⟨p4, rfl, hp4⟩, hxl, hx, hb2⟩
          obtain ⟨A2, c2, e2⟩ := hp4.slice
          subst e2
          obtain ⟨z, hz⟩ : ∃ z : Nat, z = x.1.toNat := ⟨_, rfl⟩
          have HZ := Lib.hid hz
          obtain ⟨m, hm⟩ : ∃ m, m = x.2.length := ⟨_, rfl⟩
          have HM := Lib.hid hm
          have hb12 := hb.trans (hb2.mono hb.size)
          obtain ⟨Y, hY⟩ : ∃ Y, Y = w2.alloc (.cells #[.int .u8 (z : Int), .slice A2 m c2] 36) := ⟨_, rfl⟩
          have hYs : Y.heap.size = w2.heap.size + 1 := by rw [hY]; simp
          have hal : Below w2.heap.size w2 Y := by rw [hY]; exact (Below.refl _ _).alloc (Nat.le_refl _) _
          have hal2 : Below w2.heap.size w2 (Y.alloc (.cells #[.int .u8 (z : Int), .slice A2 m c2] 36)) := hal.alloc hal.size _
          obtain ⟨xs, ho, hw⟩ := hrow.out.below hb2
          have HO := Lib.hid (own_below ho hal2)
          have HW2 := Lib.hid (hw.below hal2)
          have HP2 := Lib.hid (hp4.below hal2)
          have hbY := hb12.trans (hal.mono hb12.size)
          have hba := hb12.trans (hal2.mono hb12.size)
          have HRD : Hid (Reads (Y.alloc (.cells #[.int .u8 (z : Int), .slice A2 m c2] 36)) (w2.heap.size + 2) 2 (some ⟨w2.heap.size + 1, 0, none⟩) 1 [.int .u8 (z : Int), .slice A2 m c2]) := by
            have h0 := Reads.of_own (World.ownsRow_lit (base := 0) (e := 36) (size := 2) Y #[.int .u8 (z : Int), .slice A2 m c2] 1 (Nat.zero_le _) (by unfold maxLen; omega) rfl)
            have e : (Y.alloc (.cells #[.int .u8 (z : Int), .slice A2 m c2] 36)).heap.size = w2.heap.size + 2 := by simp [hYs]
            rw [e, hYs] at h0
            exact h0
          rw [← hm] at HP2
          rw [← hm, ← hz]
          rw [hY] at HO HW2 HP2 hba HRD hbY
          have HB0Y : Hid (Below w.heap.size w (w2.alloc (.cells #[.int .u8 (z : Int), .slice A2 m c2] 36))) := hbY
          clear hp4 ho hw hal hal2 hYs hY hrow hb2 hb12 hbY hm hz
          cases hwp : wordL t.data.toList with
          | none =>
            have HF : Hid (parseL S = none) := by
              show _ = _
              rw [HPL.out, HST.out, hwp]
            simp only [Option.isSome_none]
            clear hwp hx
            go_wp2
            rw [HE.out]
            exact parseEnd_none HF.out HB0Y.out
          | some y =>
            have hxy : x = y := hx y hwp
            have HMM : Hid ((partsL S).mapM wordL = ((partsL (S.drop (j + 1))).mapM wordL).map ((ws ++ [x]) ++ ·)) := by
              show _ = _
              rw [HST.out, hwp, hxy]
            have HXS : Hid (∀ y ∈ ws ++ [x], y.2.length ≤ 65535) := by
              intro y hy
              rcases List.mem_append.1 hy with h | h
              · exact hxs.out y h
              · rw [List.mem_singleton.1 h]; exact hxl
            simp only [Option.isSome_some]
            clear hwp hx hxy hxl hall hxs
            go_wp2_with (at_builtin; refine wpList_append_any ((w2.alloc (.cells #[.int .u8 (z : Int), .slice A2 m c2] 36)).alloc (.cells #[.int .u8 (z : Int), .slice A2 m c2] 36)) rfl _ _ 31 rfl w.heap.size 36 i0 (.agg #[.int .u8 0, .slice none 0 0]) 2 32 Tryz.underlying31 hi hz0 hz1 hz2 rfl (by decide) _ _ _ rfl HO.out (w2.heap.size + 2) (some ⟨w2.heap.size + 1, 0, none⟩) 1 1 [.int .u8 (z : Int), .slice A2 m c2] rfl HRD.out (by intro u hu; rcases List.mem_cons.1 hu with rfl | hu; rfl; rcases List.mem_cons.1 hu with rfl | hu; rfl; cases hu) (by unfold maxLen; omega) (by omega) hba.size ?_)
            intro v' w' hown' hg' _
            have hb' : Below w.heap.size w w' := hba.grown hg' hba.size (fun k hk => (HO.out.lt k hk).1)
            rw [HZ.out] at hown'
            have HROW := Lib.hid (row_more HO.out HW2.out HP2.out hown' hg')
            clear hown' hg' HO HW2 HP2 HRD hba hb
            go_wp2
            go_roundw
            case rel => exact ⟨j + 1, j + 1, ws ++ [x], by simp, by simp, Nat.le_refl _, by omega, by rw [List.length_append, List.length_singleton]; omega, HROW, HXS, HMM, fun i c h1 h2 => by omega, fun _ => rfl, hb'⟩
            case measure => simp [intOf]; omega
        · have HMM : Hid ((partsL S).mapM wordL = ((partsL (S.drop (j + 1))).mapM wordL).map (ws ++ ·)) := by
            show _ = _
            rw [hst, if_pos]
            apply List.drop_eq_nil_of_le
            rw [List.length_take]
            omega
          have hgj' : ¬ (g : Int) < (j : Int) := by omega
          clear hst hno hend hall
          go_wp2
          go_roundw
          case rel => exact ⟨j + 1, j + 1, ws, by simp, by simp, Nat.le_refl _, by omega, by omega, hrow, hxs, HMM, fun i c h1 h2 => by omega, fun _ => rfl, hb⟩
          case measure => simp [intOf]; omega
      · have h1 : (((s[j]'hlt).toNat : Int) != 32) = true := by
          rw [hct, bne_iff_ne]
          intro e
          apply h32
          apply UInt8.toNat_inj.1
          have : (32 : UInt8).toNat = 32 := rfl
          omega
        have HNO : Hid (∀ i c, g ≤ i → i < j + 1 → S[i]? = some c → c ≠ 32) := by
          intro i c hi hi2 hc
          rcases Nat.lt_succ_iff_lt_or_eq.1 hi2 with h | h
          · exact hno.out i c hi h hc
          · subst h
            rw [HCA.out] at hc
            cases hc
            exact h32
        clear hct h32 HCA hno hend
        go_wp2
        go_roundw
        case rel => exact ⟨j + 1, g, ws, by simp, by simp, by omega, by omega, by omega, hrow, hxs, hall, HNO, fun h => by omega, hb⟩
        case measure => simp [intOf]; omega
    by_cases hje : j = s.size
    · have hle : (j : Int) ≤ (s.size : Int) := by omega
      have hst := parse_step hall.out hg (by rw [HSL.out]; omega) (.inr (by rw [HSL.out]; exact hje)) hno.out
      have hje' : ¬ (j : Int) < (s.size : Int) := by omega
      clear hlt hje
      by_cases hgj : g < j
      · obtain ⟨t, ht⟩ : ∃ t, t = s.extract g j := ⟨_, rfl⟩
        have HTD : Hid (t.data.toList = (S.take j).drop g) := by
          show _ = _
          rw [ht, Lib.extract_data, ← HS.out, List.drop_take]
        have hne : (S.take j).drop g ≠ [] := by
          intro e
          have := congrArg List.length e
          rw [List.length_drop, List.length_take, HSL.out, List.length_nil] at this
          omega
        have HST : Hid ((partsL S).mapM wordL = match wordL t.data.toList with | none => none | some x => ((partsL (S.drop (j + 1))).mapM wordL).map ((ws ++ [x]) ++ ·)) := by
          show _ = _
          rw [hst, if_neg hne, HTD.out]
        have hts : t.size ≤ 100000 := by
          rw [size_list, HTD.out, List.length_drop, List.length_take, HSL.out]
          omega
        have HW : Hid (Calls Tryz.prog 18 #[.string t] wr (PushedEnd (wordL t.data.toList) 65535 wr)) := refWord_any t wr hts
        have HT := Lib.hid ht
        clear hne hst hts ht hno hend HTD
        go_wp2_with fail
        rw [← HT.out]
        refine HW.out.mono ?_
        rintro e w2 ⟨v, x, rfl, ⟨p4, rfl, hp4⟩, hxl, hx, hb2⟩
        obtain ⟨A2, c2, e2⟩ := hp4.slice
        subst e2
        obtain ⟨z, hz⟩ : ∃ z : Nat, z = x.1.toNat := ⟨_, rfl⟩
        have HZ := Lib.hid hz
        obtain ⟨m, hm⟩ : ∃ m, m = x.2.length := ⟨_, rfl⟩
        have HM := Lib.hid hm
        have hb12 := hb.trans (hb2.mono hb.size)
        obtain ⟨Y, hY⟩ : ∃ Y, Y = w2.alloc (.cells #[.int .u8 (z : Int), .slice A2 m c2] 36) := ⟨_, rfl⟩
        have hYs : Y.heap.size = w2.heap.size + 1 := by rw [hY]; simp
        have hal : Below w2.heap.size w2 Y := by rw [hY]; exact (Below.refl _ _).alloc (Nat.le_refl _) _
        have hal2 : Below w2.heap.size w2 (Y.alloc (.cells #[.int .u8 (z : Int), .slice A2 m c2] 36)) := hal.alloc hal.size _
        obtain ⟨xs, ho, hw⟩ := hrow.out.below hb2
        have HO := Lib.hid (own_below ho hal2)
        have HW2 := Lib.hid (hw.below hal2)
        have HP2 := Lib.hid (hp4.below hal2)
        have hbY := hb12.trans (hal.mono hb12.size)
        have hba := hb12.trans (hal2.mono hb12.size)
        have HRD : Hid (Reads (Y.alloc (.cells #[.int .u8 (z : Int), .slice A2 m c2] 36)) (w2.heap.size + 2) 2 (some ⟨w2.heap.size + 1, 0, none⟩) 1 [.int .u8 (z : Int), .slice A2 m c2]) := by
          have h0 := Reads.of_own (World.ownsRow_lit (base := 0) (e := 36) (size := 2) Y #[.int .u8 (z : Int), .slice A2 m c2] 1 (Nat.zero_le _) (by unfold maxLen; omega) rfl)
          have e : (Y.alloc (.cells #[.int .u8 (z : Int), .slice A2 m c2] 36)).heap.size = w2.heap.size + 2 := by simp [hYs]
          rw [e, hYs] at h0
          exact h0
        rw [← hm] at HP2
        rw [← hm, ← hz]
        rw [hY] at HO HW2 HP2 hba HRD hbY
        have HB0Y : Hid (Below w.heap.size w (w2.alloc (.cells #[.int .u8 (z : Int), .slice A2 m c2] 36))) := hbY
        clear hp4 ho hw hal hal2 hYs hY hrow hb2 hb12 hbY hm hz
        cases hwp : wordL t.data.toList with
        | none =>
          have HF : Hid (parseL S = none) := by
            show _ = _
            rw [HPL.out, HST.out, hwp]
          simp only [Option.isSome_none]
          clear hwp hx
          go_wp2
          rw [HE.out]
          exact parseEnd_none HF.out HB0Y.out
        | some y =>
          have hxy : x = y := hx y hwp
          have HMM : Hid ((partsL S).mapM wordL = ((partsL (S.drop (j + 1))).mapM wordL).map ((ws ++ [x]) ++ ·)) := by
            show _ = _
            rw [HST.out, hwp, hxy]
          have HXS : Hid (∀ y ∈ ws ++ [x], y.2.length ≤ 65535) := by
            intro y hy
            rcases List.mem_append.1 hy with h | h
            · exact hxs.out y h
            · rw [List.mem_singleton.1 h]; exact hxl
          simp only [Option.isSome_some]
          clear hwp hx hxy hxl hall hxs
          go_wp2_with (at_builtin; refine wpList_append_any ((w2.alloc (.cells #[.int .u8 (z : Int), .slice A2 m c2] 36)).alloc (.cells #[.int .u8 (z : Int), .slice A2 m c2] 36)) rfl _ _ 31 rfl w.heap.size 36 i0 (.agg #[.int .u8 0, .slice none 0 0]) 2 32 Tryz.underlying31 hi hz0 hz1 hz2 rfl (by decide) _ _ _ rfl HO.out (w2.heap.size + 2) (some ⟨w2.heap.size + 1, 0, none⟩) 1 1 [.int .u8 (z : Int), .slice A2 m c2] rfl HRD.out (by intro u hu; rcases List.mem_cons.1 hu with rfl | hu; rfl; rcases List.mem_cons.1 hu with rfl | hu; rfl; cases hu) (by unfold maxLen; omega) (by omega) hba.size ?_)
          intro v' w' hown' hg' _
          have hb' : Below w.heap.size w w' := hba.grown hg' hba.size (fun k hk => (HO.out.lt k hk).1)
          rw [HZ.out] at hown'
          have HROW := Lib.hid (row_more HO.out HW2.out HP2.out hown' hg')
          clear hown' hg' HO HW2 HP2 HRD hba hb
          go_wp2
          go_roundw
          case rel => exact ⟨j + 1, j + 1, ws ++ [x], by simp, by simp, Nat.le_refl _, by omega, by rw [List.length_append, List.length_singleton]; omega, HROW, HXS, HMM, fun i c h1 h2 => by omega, fun _ => rfl, hb'⟩
          case measure => simp [intOf]; omega
      · have HMM : Hid ((partsL S).mapM wordL = ((partsL (S.drop (j + 1))).mapM wordL).map (ws ++ ·)) := by
          show _ = _
          rw [hst, if_pos]
          apply List.drop_eq_nil_of_le
          rw [List.length_take]
          omega
        have hgj' : ¬ (g : Int) < (j : Int) := by omega
        clear hst hno hend hall
        go_wp2
        go_roundw
        case rel => exact ⟨j + 1, j + 1, ws, by simp, by simp, Nat.le_refl _, by omega, by omega, hrow, hxs, HMM, fun i c h1 h2 => by omega, fun _ => rfl, hb⟩
        case measure => simp [intOf]; omega
    · have hle : ¬ (j : Int) ≤ (s.size : Int) := by omega
      have hgj : g = j := hend.out (by omega)
      have HF : Hid ((partsL S).mapM wordL = some ws) := by
        show _ = _
        rw [hall.out, List.drop_eq_nil_of_le (by rw [HSL.out]; omega), show partsL [] = [] from rfl, List.mapM_nil]
        simp
      have HSM : Hid (∃ l, buildL ws = some l ∧ parseL S = some l) := parse_some HF.out
      have HBU := Lib.hid (refBuild_any u4 ws w.heap.size wr hrow.out (by omega) hxs.out)
      clear hrow hall hxs hno hend hgj
      go_wp2_with (go_at_call 19; refine HBU.out.mono ?_)
      intro e w2 h2
      obtain ⟨l, hl1, hl2⟩ := HSM.out
      rw [hl1] at h2
      obtain ⟨⟨v, rfl, hv⟩, hb2⟩ := h2
      have HV := Lib.hid hv
      have HL2 := Lib.hid hl2
      have hb02 := hb.trans (hb2.mono hb.size)
      clear hl1 hl2 hv hb2
      go_wp2
      rw [HE.out]
      exact parseEnd_some HL2.out HV.out hb02

end Go.Proofs.YtggadilgkcjbjaaGreatDoor
