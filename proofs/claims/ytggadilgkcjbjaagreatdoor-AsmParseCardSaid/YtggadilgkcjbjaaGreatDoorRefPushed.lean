/-
  The walk over the reference's pushed.
-/
import Derived.Test.YtggadilgkcjbjaaGreatDoorRefParseP
import Derived.Test.YtggadilgkcjbjaaGreatDoorRefFig
import Derived.Test.YtggadilgkcjbjaaGreatDoorRefHex
import Derived.Test.YtggadilgkcjbjaaGreatDoorRefPush
import Derived.Test.YtggadilgkcjbjaaGreatDoorAsmPushed
set_option linter.unusedVariables false
namespace Go.Proofs.YtggadilgkcjbjaaGreatDoor
open Go.RowKit Go.Sort

set_option maxRecDepth 100000 in
set_option maxHeartbeats 2000000 in
theorem refPushed_any (s : ByteArray) (w : World) (hs : s.size ≤ 100000) :
    Calls Tryz.prog 41 #[.string s] w (PushedEnd (refPushedL s.data.toList) 65535 w) := by
  obtain ⟨E, hE⟩ : ∃ E, E = PushedEnd (refPushedL s.data.toList) 65535 w := ⟨_, rfl⟩
  rw [← hE]
  have HE := Lib.hid hE
  clear hE
  obtain ⟨S, hS⟩ : ∃ S, S = s.data.toList := ⟨_, rfl⟩
  have HS := Lib.hid hS
  rw [← hS] at HE
  have HSL : Hid (S.length = s.size) := by show _ = _; rw [hS]; exact (size_list s).symm
  have HGET : Hid (∀ i (h : i < s.size), S[i]? = some s[i]) := fun i h => by
    rw [get_list s i h, hS]
    exact List.getElem?_eq_getElem _
  clear hS
  obtain ⟨X, hX⟩ : ∃ X, X = w.alloc (.cells #[.int .u8 0, .slice none 0 0] 36) := ⟨_, rfl⟩
  have hbX : Below w.heap.size w X := by rw [hX]; exact (Below.refl _ _).alloc (Nat.le_refl _) _
  have hblk : Blk X w.heap.size 36 #[.int .u8 0, .slice none 0 0] := by rw [hX]; exact Blk.new w _ _
  have HLV : Hid (∀ w', Below X.heap.size X w' → Blk w' w.heap.size 36 #[.int .u8 0, .slice none 0 0]) := fun w' hb => hblk.below hb hblk.lt
  have HFIN : Hid (∀ (w' : World) v, Below w.heap.size w w' → refPushedL S = none → E (.returned (.tuple #[.agg #[.int .u8 0, .slice none 0 0], .bool false])) ((w'.setCell ⟨w.heap.size, 0, none⟩ (.int .u8 0)).setCell ⟨w.heap.size, 1, none⟩ v)) := fun w' v hb HN => by
    rw [HE.out, HN]
    exact ⟨_, (0, []), rfl, word_nil _, by simp, (fun y e => by cases e), (hb.setCell (p := ⟨w.heap.size, 0, none⟩) (Nat.le_refl _) _).setCell (p := ⟨w.heap.size, 1, none⟩) (Nat.le_refl _) _⟩
  go_enter Tryz.func41, Tryz.ntmps41
  go_wp2
  rw [← hX]
  clear hX hblk
  go_loopw [4] (fun a wr => ∃ k : Nat, a = .int .i64 k ∧ k ≤ s.size ∧ Hid (∀ i c, i < k → S[i]? = some c → c ≠ 60) ∧ wr = X) (fun a _ => s.size - (intOf a).toNat)
  case atStart => exact ⟨0, rfl, Nat.zero_le _, fun i c h => by omega, rfl⟩
  case round =>
    obtain ⟨k, rfl, hk, hpast, hw⟩ := hrel
    rw [hw]
    clear hw
    by_cases hlt : k < s.size
    · obtain ⟨ca, hca⟩ : ∃ ca : UInt8, s[k] = ca := ⟨_, rfl⟩
      have HCA : Hid (S[k]? = some ca) := by show _ = _; rw [← hca]; exact HGET.out k hlt
      have hct : (s[k]'hlt).toNat = ca.toNat := by rw [hca]
      clear hca
      by_cases h60 : ca = 60
      · have h1 : (((s[k]'hlt).toNat : Int) != 60) = false := by rw [hct, h60]; rfl
        have HR : Hid (refPushedL S = if S.getLast? = some 62 then
            (match hexDec (S.drop (k + 1)).dropLast with
              | none => none
              | some b => if k = 0 then some (pushL b) else (numR (S.take k)).map fun n => (UInt8.ofNat n, b)) else none) := refPushed_at (by rw [← h60]; exact HCA.out) hpast.out
        have hw1 : IntKind.i64.wrap ((s.size : Int) - 1) = (s.size : Int) - 1 := IntWalk.i64_in _ (by omega)
        have hw2 : (0 : Int) ≤ (s.size : Int) - 1 := by omega
        have hw3 : ((s.size : Int) - 1).toNat = s.size - 1 := by omega
        have hw4 : (s.size : Int) - 1 < (s.size : Int) := by omega
        have hk1 : ¬ ((k : Int) == (s.size : Int)) = true := by rw [beq_iff_eq]; omega
        obtain ⟨cl, hcl⟩ : ∃ cl : UInt8, s[s.size - 1]'(by omega) = cl := ⟨_, rfl⟩
        have HLAST : Hid (S.getLast? = some cl) := by
          show _ = _
          rw [last_at (by rw [HSL.out]; omega), HSL.out, HGET.out (s.size - 1) (by omega), hcl]
        by_cases h62 : cl = 62
        · have hk2 : k + 1 ≤ s.size - 1 := by
            apply Classical.byContradiction
            intro hno
            have h2 := HGET.out (s.size - 1) (by omega)
            have h3 := HCA.out
            rw [show k = s.size - 1 by omega, h2, hcl, h62, h60] at h3
            cases h3
          rw [h62] at hcl HLAST
          have HN : Hid (refPushedL S = match hexDec (S.drop (k + 1)).dropLast with
              | none => none
              | some b => if k = 0 then some (pushL b) else (numR (S.take k)).map fun n => (UInt8.ofNat n, b)) := by show _ = _; rw [HR.out, if_pos HLAST.out]
          have h2 : (((s[s.size - 1]'(by omega)).toNat : Int) != 62) = false := by rw [hcl]; rfl
          obtain ⟨t, ht⟩ : ∃ t, t = s.extract (k + 1) (s.size - 1) := ⟨_, rfl⟩
          have HTD : Hid (t.data.toList = (S.drop (k + 1)).dropLast) := by
            show _ = _
            rw [ht, Lib.extract_data, ← HS.out, mid_cut, HSL.out, List.drop_take]
          have hts : t.size ≤ 100000 := by
            rw [size_list, HTD.out, List.length_dropLast, List.length_drop, HSL.out]
            omega
          have HDEC := Lib.hid (fun w' => refDecode_any t w' (by omega))
          have HT := Lib.hid ht
          rw [← HTD.out] at HN
          clear hcl h62 h60 hct hpast hts ht HTD
          go_wp2_with fail
          rw [← HT.out]
          refine (HDEC.out _).mono ?_
          rintro e w3 ⟨hb3, hdec⟩
          have hb03 := hbX.trans (hb3.mono hbX.size)
          have hblk3 := HLV.out w3 hb3
          have HBK3 := Lib.hid hblk3
          have hc0 := hblk3.cell 0
          have hc1 := hblk3.cell 1
          have hf0 := hblk3.frozen 0
          have hf1 := hblk3.frozen 1
          simp only [List.getElem?_toArray, List.getElem?_cons_zero, List.getElem?_cons_succ] at hc0 hc1
          clear hblk3
          clear hw1 h1 h2
          cases hq : hexDec t.data.toList with
          | none =>
            have HNN : Hid (refPushedL S = none) := by show _ = _; rw [HN.out, hq]
            rw [hq] at hdec
            subst hdec
            clear hq
            go_wp2
            refine bodyPost_ret (results_cellB rfl rfl (loadWord ((HBK3.out.set_ 0 _).set_ 1 _))) rfl ?_
            exact HFIN.out _ _ hb03 HNN.out
          | some b =>
            have HNN : Hid (refPushedL S = if k = 0 then some (pushL b) else (numR (S.take k)).map fun n => (UInt8.ofNat n, b)) := by show _ = _; rw [HN.out, hq]
            rw [hq] at hdec
            obtain ⟨A, c, rfl, hown⟩ := hdec
            have hbl : b.length ≤ 65535 := by
              have h5 := hexDec_length hq
              have h6 : t.data.toList.length ≤ 100000 := by
                rw [HT.out, Lib.extract_data, List.length_take]
                omega
              omega
            obtain ⟨m, hm⟩ : ∃ m, m = b.length := ⟨_, rfl⟩
            have HM := Lib.hid hm
            have HPB := Lib.hid (show PushAt w3 (.slice A b.length c) b from own_base hown)
            rw [← hm] at hbl HPB ⊢
            clear hq hown hm
            by_cases hk0 : k = 0
            · have HV : Hid (refPushedL S = some (pushL b)) := by show _ = _; rw [HNN.out, if_pos hk0]
              subst hk0
              go_wp2_with fail
              refine (refPush_any _ b _ (by rw [HM.out] at HPB ⊢; exact HPB.out.byte) (by rw [← HM.out]; exact hbl)).mono ?_
              rintro e w4 ⟨v4, rfl, ⟨p4, rfl, hp4⟩, hb4⟩
              have hb04 := hb03.trans (hb4.mono hb03.size)
              clear hc0 hc1 hf0 hf1
              have hblk4 := HLV.out w4 (hb3.trans (hb4.mono hb3.size))
              have HBK4 := Lib.hid hblk4
              have hc0 := hblk4.cell 0
              have hc1 := hblk4.cell 1
              have hf0 := hblk4.frozen 0
              have hf1 := hblk4.frozen 1
              simp only [List.getElem?_toArray, List.getElem?_cons_zero, List.getElem?_cons_succ] at hc0 hc1
              clear hblk4
              have HP4 := Lib.hid hp4
              obtain ⟨A4, c4, e4⟩ := hp4.slice
              subst e4
              obtain ⟨z, hz⟩ : ∃ z, z = (pushL b).1.toNat := ⟨_, rfl⟩
              have HZ := Lib.hid hz
              obtain ⟨m4, hm4⟩ : ∃ m, m = (pushL b).2.length := ⟨_, rfl⟩
              have HM4 := Lib.hid hm4
              rw [← hz, ← hm4]
              rw [← hm4] at HP4
              clear hz hm4 hp4 hb4
              go_wp2
              refine bodyPost_ret (results_cellB rfl rfl (loadWord ((HBK4.out.set_ 0 _).set_ 1 _))) rfl ?_
              rw [HE.out, HV.out]
              refine ⟨_, pushL b, rfl, ⟨_, by show Value.agg #[.int .u8 (z : Int), .slice A4 m4 c4] = _; rw [HZ.out], (HP4.out.setB HBK4.out (by decide) 0 _).setB (HBK4.out.set_ 0 _) (by decide) 1 _⟩, ?_, fun y e => Option.some.inj e, (hb04.setCell (p := ⟨w.heap.size, 0, none⟩) (Nat.le_refl _) _).setCell (p := ⟨w.heap.size, 1, none⟩) (Nat.le_refl _) _⟩
              have h5 := HM.out
              unfold pushL
              split
              · simp
              · split
                · simp
                · split
                  · show b.length ≤ _; omega
                  · split <;> (show b.length ≤ _; omega)
            · have HV : Hid (refPushedL S = (numR (S.take k)).map fun n => (UInt8.ofNat n, b)) := by show _ = _; rw [HNN.out, if_neg hk0]
              have hk3 : ¬ ((k : Int) == 0) = true := by rw [beq_iff_eq]; omega
              obtain ⟨f, hf⟩ : ∃ f, f = s.extract 0 k := ⟨_, rfl⟩
              have HFD : Hid (f.data.toList = S.take k) := by
                show _ = _
                rw [hf, Lib.extract_data, ← HS.out]
                simp
              have HF := Lib.hid hf
              rw [← HFD.out] at HV
              clear hk0 hf hc0 hc1 hf0 hf1
              go_wp2
              go_loopw [7] (fun a wr => ∃ i : Nat, a = .int .i64 i ∧ 1 ≤ i ∧ i ≤ 78 ∧ Hid (∀ n, 1 ≤ n → n < i → dec3 n ≠ f.data.toList) ∧ Below w3.heap.size w3 wr) (fun a _ => 78 - (intOf a).toNat)
              case atStart => exact ⟨1, rfl, by omega, by omega, fun n h1 h2 => by omega, Below.refl _ _⟩
              case round =>
                obtain ⟨i, rfl, hi1, hi2, hno, hb⟩ := hrel
                have hb0r := hb03.trans (hb.mono hb03.size)
                by_cases hi7 : i ≤ 77
                · have hi7' : (i : Int) ≤ 77 := by omega
                  have HFG : Hid (∀ w', Calls Tryz.prog 29 #[.int .i64 (i : Int)] w' (StrEnd (dec3 i) w')) := fun w' => refFig_any i (by omega) w'
                  obtain ⟨u, hu⟩ : ∃ u : ByteArray, u = ⟨(dec3 i).toArray⟩ := ⟨_, rfl⟩
                  have HFG2 : Hid (∀ w', Calls Tryz.prog 29 #[.int .i64 (i : Int)] w' (fun e w'' => e = .returned (.string u) ∧ Below w'.heap.size w' w'')) := by rw [hu]; exact HFG
                  by_cases hq : u = f
                  · have HY : Hid (refPushedL S = some (UInt8.ofNat i, b)) := by
                      show _ = _
                      rw [HV.out, numR_some hi1 hi7 (by rw [← hq, hu])]
                      rfl
                    have hwi : IntKind.u8.wrap (i : Int) = (i : Int) := by simp [IntKind.wrap, IntKind.signed, IntKind.bits]; omega
                    rw [hq] at HFG2
                    clear hq hu HFG hno hi7
                    go_wp2_with fail
                    refine wp_region_any (by kernel_rfl) ?_
                    try (change wpAny _ _ _ _ _ _ _ (World.drew _))
                    refine wpAny_take (i := 0) (v := ?_) rfl (by kernel_rfl) (by kernel_rfl) (by kernel_rfl) (fun _ _ _ h => h) (.inl ⟨by rfl, ?_⟩) ?_
                    rotate_left
                    focus (intro wx; go_simp; first | done | with_reducible rfl | rfl)
                    simp only [List.getElem_toArray, List.getElem_cons_zero, Act.put, List.setIfInBounds_toArray, List.set_cons_zero, List.set_cons_succ]
                    refine wpAny_take (i := 2) (v := ?_) rfl (by kernel_rfl) (by kernel_rfl) (by kernel_rfl) (fun _ _ _ h => h) (.inl ⟨by rfl, ?_⟩) ?_
                    rotate_left
                    focus (intro wx; go_simp; first | done | with_reducible rfl | rfl)
                    simp only [List.getElem_toArray, List.getElem_cons_succ, List.getElem_cons_zero, Act.put, List.setIfInBounds_toArray, List.set_cons_zero, List.set_cons_succ]
                    refine wpAny_take (i := 3) (v := ?_) rfl (by kernel_rfl) (by kernel_rfl) (by kernel_rfl) (fun _ _ _ h => h) (.inl ⟨by rfl, ?_⟩) ?_
                    rotate_left
                    focus (intro wx; go_simp; first | done | with_reducible rfl | rfl)
                    simp only [List.getElem_toArray, List.getElem_cons_succ, List.getElem_cons_zero, Act.put, List.setIfInBounds_toArray, List.set_cons_zero, List.set_cons_succ]
                    refine wpAny_take (i := 4) (v := ?_) rfl (by kernel_rfl) (by kernel_rfl) (by kernel_rfl) (fun _ _ _ h => h) (.inl ⟨by rfl, ?_⟩) ?_
                    rotate_left
                    focus (intro wx; go_simp; first | done | with_reducible rfl | rfl)
                    simp only [List.getElem_toArray, List.getElem_cons_succ, List.getElem_cons_zero, Act.put, List.setIfInBounds_toArray, List.set_cons_zero, List.set_cons_succ]
                    rw [← HF.out]
                    refine wpAny_ready (rs := [1]) (by kernel_rfl) (by simp) ?_
                    refine AllReady.cons rfl (fun K hK => ?_) AllReady.nil
                    go_simp
                    go_wp2_with (go_at_call 29; refine (HFG2.out _).mono ?_; intro e w4 h4; obtain ⟨e4, hb4⟩ := h4; subst e4; have HB4 := Lib.hid hb4; clear hb4)
                    refine wpAny_take (i := 5) (v := ?_) rfl (by kernel_rfl) (by kernel_rfl) (by kernel_rfl) (fun _ _ _ h => h) (.inl ⟨by rfl, ?_⟩) ?_
                    rotate_left
                    focus (intro wx; go_simp; first | done | with_reducible rfl | rfl)
                    simp only [List.getElem_toArray, List.getElem_cons_succ, List.getElem_cons_zero, Act.put, List.setIfInBounds_toArray, List.set_cons_zero, List.set_cons_succ]
                    refine wpAny_done (by kernel_rfl) ?_ _
                    have hb34 := hb.trans (((Below.refl wr.heap.size wr).drew.trans HB4.out).mono hb.size)
                    have hb04 := hb03.trans (hb34.mono hb03.size)
                    have hblk4 := HLV.out w4 (hb3.trans (hb34.mono hb3.size))
                    have HBK4 := Lib.hid hblk4
                    have hc0 := hblk4.cell 0
                    have hc1 := hblk4.cell 1
                    have hf0 := hblk4.frozen 0
                    have hf1 := hblk4.frozen 1
                    simp only [List.getElem?_toArray, List.getElem?_cons_zero, List.getElem?_cons_succ] at hc0 hc1
                    clear hblk4
                    have HP4 : Hid (PushAt w4 (.slice A m c) b) := by
                      have := HPB.out
                      rw [HM.out] at this ⊢
                      exact PushAt.below this hb34
                    clear hb hb34 hb0r hb3
                    go_wp2
                    refine bodyPost_ret (results_cellB rfl rfl (loadWord ((HBK4.out.set_ 0 _).set_ 1 _))) rfl ?_
                    rw [HE.out, HY.out]
                    refine ⟨_, (UInt8.ofNat i, b), rfl, ⟨_, by show Value.agg #[.int .u8 (i : Int), .slice A m c] = _; rw [show ((((UInt8.ofNat i, b) : Wd).1.toNat : Nat) : Int) = (i : Int) by show ((UInt8.ofNat i).toNat : Int) = _; rw [ofNat_toNat' (by omega)]], (HP4.out.setB HBK4.out (by decide) 0 _).setB (HBK4.out.set_ 0 _) (by decide) 1 _⟩, by have := HM.out; show b.length ≤ _; omega, fun y e => Option.some.inj e, (hb04.setCell (p := ⟨w.heap.size, 0, none⟩) (Nat.le_refl _) _).setCell (p := ⟨w.heap.size, 1, none⟩) (Nat.le_refl _) _⟩
                  · have HP : Hid (∀ n, 1 ≤ n → n < i + 1 → dec3 n ≠ f.data.toList) := by
                      intro n h1 h2
                      rcases Nat.lt_succ_iff_lt_or_eq.1 h2 with h | h
                      · exact hno.out n h1 h
                      · subst h
                        intro e
                        apply hq
                        rw [hu]
                        exact str_eq_iff.2 e
                    have hq' := str_ne hq
                    clear hq hu HFG hno
                    go_wp2_with fail
                    refine wp_region_any (by kernel_rfl) ?_
                    try (change wpAny _ _ _ _ _ _ _ (World.drew _))
                    refine wpAny_take (i := 0) (v := ?_) rfl (by kernel_rfl) (by kernel_rfl) (by kernel_rfl) (fun _ _ _ h => h) (.inl ⟨by rfl, ?_⟩) ?_
                    rotate_left
                    focus (intro wx; go_simp; first | done | with_reducible rfl | rfl)
                    simp only [List.getElem_toArray, List.getElem_cons_zero, Act.put, List.setIfInBounds_toArray, List.set_cons_zero, List.set_cons_succ]
                    refine wpAny_take (i := 2) (v := ?_) rfl (by kernel_rfl) (by kernel_rfl) (by kernel_rfl) (fun _ _ _ h => h) (.inl ⟨by rfl, ?_⟩) ?_
                    rotate_left
                    focus (intro wx; go_simp; first | done | with_reducible rfl | rfl)
                    simp only [List.getElem_toArray, List.getElem_cons_succ, List.getElem_cons_zero, Act.put, List.setIfInBounds_toArray, List.set_cons_zero, List.set_cons_succ]
                    refine wpAny_take (i := 3) (v := ?_) rfl (by kernel_rfl) (by kernel_rfl) (by kernel_rfl) (fun _ _ _ h => h) (.inl ⟨by rfl, ?_⟩) ?_
                    rotate_left
                    focus (intro wx; go_simp; first | done | with_reducible rfl | rfl)
                    simp only [List.getElem_toArray, List.getElem_cons_succ, List.getElem_cons_zero, Act.put, List.setIfInBounds_toArray, List.set_cons_zero, List.set_cons_succ]
                    refine wpAny_take (i := 4) (v := ?_) rfl (by kernel_rfl) (by kernel_rfl) (by kernel_rfl) (fun _ _ _ h => h) (.inl ⟨by rfl, ?_⟩) ?_
                    rotate_left
                    focus (intro wx; go_simp; first | done | with_reducible rfl | rfl)
                    simp only [List.getElem_toArray, List.getElem_cons_succ, List.getElem_cons_zero, Act.put, List.setIfInBounds_toArray, List.set_cons_zero, List.set_cons_succ]
                    rw [← HF.out]
                    refine wpAny_ready (rs := [1]) (by kernel_rfl) (by simp) ?_
                    refine AllReady.cons rfl (fun K hK => ?_) AllReady.nil
                    go_simp
                    go_wp2_with (go_at_call 29; refine (HFG2.out _).mono ?_; intro e w4 h4; obtain ⟨e4, hb4⟩ := h4; subst e4; have HB4 := Lib.hid hb4; clear hb4)
                    refine wpAny_take (i := 5) (v := ?_) rfl (by kernel_rfl) (by kernel_rfl) (by kernel_rfl) (fun _ _ _ h => h) (.inl ⟨by rfl, ?_⟩) ?_
                    rotate_left
                    focus (intro wx; go_simp; first | done | with_reducible rfl | rfl)
                    simp only [List.getElem_toArray, List.getElem_cons_succ, List.getElem_cons_zero, Act.put, List.setIfInBounds_toArray, List.set_cons_zero, List.set_cons_succ]
                    refine wpAny_done (by kernel_rfl) ?_ _
                    have hb34 := hb.trans (((Below.refl wr.heap.size wr).drew.trans HB4.out).mono hb.size)
                    clear hb hb0r
                    go_wp2
                    go_roundw
                    case rel => exact ⟨i + 1, by simp, by omega, by omega, HP, hb34⟩
                    case measure => simp [intOf]; omega
                · have HY : Hid (refPushedL S = none) := by
                    show _ = _
                    rw [HV.out, numR_none fun n h1 h2 => hno.out n h1 (by omega)]
                    rfl
                  have hi7' : ¬ (i : Int) ≤ 77 := by omega
                  have hblkr := HLV.out wr (hb3.trans (hb.mono hb3.size))
                  have HBKr := Lib.hid hblkr
                  have hc0 := hblkr.cell 0
                  have hc1 := hblkr.cell 1
                  have hf0 := hblkr.frozen 0
                  have hf1 := hblkr.frozen 1
                  simp only [List.getElem?_toArray, List.getElem?_cons_zero, List.getElem?_cons_succ] at hc0 hc1
                  clear hblkr
                  clear hi7 hno
                  go_wp2
                  refine bodyPost_ret (results_cellB rfl rfl (loadWord ((HBKr.out.set_ 0 _).set_ 1 _))) rfl ?_
                  exact HFIN.out _ _ hb0r HY.out
        · have HN : Hid (refPushedL S = none) := by
            show _ = _
            rw [HR.out, if_neg]
            rw [HLAST.out]
            intro e
            exact h62 (Option.some.inj e)
          have h2 : (((s[s.size - 1]'(by omega)).toNat : Int) != 62) = true := by
            rw [hcl, bne_iff_ne]
            intro e
            apply h62
            apply UInt8.toNat_inj.1
            have : (62 : UInt8).toNat = 62 := rfl
            omega
          clear hcl h62 h60 hct hpast
          have hblkx := HLV.out X (Below.refl _ _)
          have HBKx := Lib.hid hblkx
          have hc0 := hblkx.cell 0
          have hc1 := hblkx.cell 1
          have hf0 := hblkx.frozen 0
          have hf1 := hblkx.frozen 1
          simp only [List.getElem?_toArray, List.getElem?_cons_zero, List.getElem?_cons_succ] at hc0 hc1
          clear hblkx
          go_wp2
          refine bodyPost_ret (results_cellB rfl rfl (loadWord ((HBKx.out.set_ 0 _).set_ 1 _))) rfl ?_
          exact HFIN.out _ _ hbX HN.out
      · have HP : Hid (∀ i c, i < k + 1 → S[i]? = some c → c ≠ 60) := by
          intro i c hi hc
          rcases Nat.lt_succ_iff_lt_or_eq.1 hi with h | h
          · exact hpast.out i c h hc
          · subst h
            rw [HCA.out] at hc
            cases hc
            exact h60
        have h1 : (((s[k]'hlt).toNat : Int) != 60) = true := by
          rw [hct, bne_iff_ne]
          intro e
          apply h60
          apply UInt8.toNat_inj.1
          have : (60 : UInt8).toNat = 60 := rfl
          omega
        clear hct h60
        go_wp2
        go_roundw
        case rel => exact ⟨k + 1, by simp, by omega, HP, trivial⟩
        case measure => simp [intOf]; omega
    · have HN : Hid (refPushedL S = none) := refPushed_no fun i c hi hc => hpast.out i c (by have := HSL.out; omega) hc
      have hk1 : ((k : Int) == (s.size : Int)) = true := by rw [beq_iff_eq]; omega
      have hblkx := HLV.out X (Below.refl _ _)
      have HBKx := Lib.hid hblkx
      have hc0 := hblkx.cell 0
      have hc1 := hblkx.cell 1
      have hf0 := hblkx.frozen 0
      have hf1 := hblkx.frozen 1
      simp only [List.getElem?_toArray, List.getElem?_cons_zero, List.getElem?_cons_succ] at hc0 hc1
      clear hblkx
      go_wp2
      refine bodyPost_ret (results_cellB rfl rfl (loadWord ((HBKx.out.set_ 0 _).set_ 1 _))) rfl ?_
      exact HFIN.out _ _ hbX HN.out
end Go.Proofs.YtggadilgkcjbjaaGreatDoor
