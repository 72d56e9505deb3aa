/-
  The walk over the reference's Parse, and over the law MoneyParse.
-/
import Derived.Test.YtpnghjfcfeaemaaDoorMonParseR
import Derived.Test.YtpnghjfcfeaemaaDoorMonBack
set_option linter.unusedVariables false
namespace Go.Proofs.YtpnghjfcfeaemaaDoor
open Go.RowKit

theorem form_digits {l a b : List UInt8} (h : formP l = some (a, b)) : a.all isDig = true ∧ b.all isDig = true ∧ b.length ≤ 8 ∧ a.length ≤ l.length ∧ b.length ≤ l.length := by
  unfold formP at h
  split at h
  · cases h
  · rename_i h1
    split at h
    · cases h
    · rename_i h2
      simp only [Option.some.injEq, Prod.mk.injEq] at h
      obtain ⟨ha, hb⟩ := h
      have hfa : figB (cutDot l).1 = true := by
        cases hf : figB (cutDot l).1 with
        | true => rfl
        | false => exact absurd (.inl hf) h1
      have haa : a.all isDig = true := by
        rw [← ha]
        unfold figB at hfa
        simp only [Bool.and_eq_true] at hfa
        exact hfa.1
      cases hd : (cutDot l).2.2 with
      | false =>
        obtain ⟨hc, _⟩ := cutDot_false hd
        have hbn : b = [] := by rw [← hb, hc]
        have han : a = l := by rw [← ha, hc]
        subst hbn han
        exact ⟨haa, rfl, by simp, Nat.le_refl _, by simp⟩
      | true =>
        obtain ⟨hc, _⟩ := cutDot_true hd
        rw [ha, hb] at hc
        have hlen := congrArg List.length hc
        rw [List.length_append, List.length_cons] at hlen
        have hfb : figB (cutDot l).2.1 = true := by
          cases hf : figB (cutDot l).2.1 with
          | true => rfl
          | false => exact absurd ⟨hd, .inl hf⟩ h2
        have hbb : b.all isDig = true := by
          rw [← hb]
          unfold figB at hfb
          simp only [Bool.and_eq_true] at hfb
          exact hfb.1
        have hb8 : b.length ≤ 8 := by
          rw [← hb]
          rcases Nat.lt_or_ge 8 (cutDot l).2.1.length with h8 | h8
          · exact absurd ⟨hd, .inr h8⟩ h2
          · exact h8
        exact ⟨haa, hbb, hb8, by omega, by omega⟩

theorem stepV_eq (y x : Nat) (c : UInt8) (h : c.toNat = x) : stepV y c = min (10 * y + (x - 48)) 2100000000000001 := by unfold stepV; rw [h]

set_option maxHeartbeats 2000000 in
theorem refParse_any (s : ByteArray) (w : World) (hs : s.size ≤ 100000) :
    Calls Tryd.prog 17 #[.string s] w (FeeEnd (parseV s.data.toList) w) := by
  obtain ⟨E, hE⟩ : ∃ E, E = FeeEnd (parseV s.data.toList) w := ⟨_, rfl⟩
  rw [← hE]
  have HE := Lib.hid hE
  clear hE
  have HSAME := Lib.hid (form_same s.data.toList)
  go_enter Tryd.func17, Tryd.ntmps17
  go_wp2_with fail
  refine (refForm_any s _ (by omega)).mono ?_
  rw [HSAME.out]
  intro e w1 h1
  cases hf : formP s.data.toList with
  | none =>
    rw [hf] at h1
    obtain ⟨X, Y, b, rfl, hb1, hbf⟩ := h1
    have hbf' : b = false := hbf
    subst hbf'
    have HN := Lib.hid (parseV_none hf)
    clear hf hbf
    go_wp2
    rw [HE.out, HN.out]
    exact ⟨rfl, hb1⟩
  | some ab =>
    obtain ⟨a, b⟩ := ab
    rw [hf] at h1
    obtain ⟨X, Y, bb, rfl, hb1, hbt, hX, hY⟩ := h1
    obtain ⟨hda, hdb, hb8, hal, hbl⟩ := form_digits hf
    subst hbt
    have hXs : X.size ≤ 100000 := by rw [size_list, hX]; rw [size_list] at hs; show a.length ≤ _; omega
    have HFM := Lib.hid hf
    have HX : Hid (X.data.toList = a) := hX
    have HDA := Lib.hid hda
    have HDB := Lib.hid hdb
    have HY : Hid (Y.data.toList = b) := hY
    have hYs : Y.size ≤ 8 := by rw [size_list, hY]; exact hb8
    clear hf hX hY hda hdb hal hbl hb8
    go_wp2
    go_loop [5] (fun p => ∃ (Z : ByteArray), p = .string Z ∧ Z.size ≤ 8 ∧ Hid (∃ j, Z.data.toList = b ++ List.replicate j 48)) (fun p => 8 - strLen p)
    case atStart => exact ⟨Y, rfl, hYs, 0, by rw [HY.out]; simp⟩
    case round =>
      obtain ⟨Z, rfl, hZ, hZl⟩ := hrel
      by_cases h8 : Z.size < 8
      · have h8' : (Z.size : Int) < 8 := by omega
        have HZ2 : Hid (∃ j, (Z ++ ⟨#[48]⟩).data.toList = b ++ List.replicate j 48) := by
          obtain ⟨j, hj⟩ := hZl.out
          exact ⟨j + 1, by rw [ByteArray.data_append, Array.toList_append, hj, List.append_assoc, List.replicate_succ']⟩
        have hZs : (Z ++ ⟨#[48]⟩).size = Z.size + 1 := by rw [ByteArray.size_append]; rfl
        have HZS := Lib.hid hZs
        clear hZs
        go_wp2
        go_round
        case rel => exact ⟨_, rfl, by rw [HZS.out]; omega, HZ2⟩
        case measure => rw [strLen_string, strLen_string, HZS.out]; omega
      · have h8' : ¬ (Z.size : Int) < 8 := by omega
        obtain ⟨S, hS⟩ : ∃ S : ByteArray, S = X ++ Z := ⟨_, rfl⟩
        have hSs : S.size ≤ 100008 := by rw [hS, ByteArray.size_append]; omega
        have HSL : Hid (S.data.toList = a ++ b ++ List.replicate (8 - b.length) 48) := by
          show _ = _
          obtain ⟨j, hj⟩ := hZl.out
          have hzl : Z.data.toList.length = 8 := by rw [← size_list]; omega
          rw [hj, List.length_append, List.length_replicate] at hzl
          rw [hS, ByteArray.data_append, Array.toList_append, HX.out, hj, List.append_assoc, show j = 8 - b.length by omega]
        have HDG : Hid (∀ c ∈ S.data.toList, isDig c = true) := by
          intro c hc
          rw [HSL.out] at hc
          rcases List.mem_append.1 hc with hc | hc
          · rcases List.mem_append.1 hc with hc | hc
            · exact List.all_eq_true.1 HDA.out c hc
            · exact List.all_eq_true.1 HDB.out c hc
          · rw [List.eq_of_mem_replicate hc]; decide
        have HSZ := Lib.hid (size_list S)
        have HSS : Hid (X ++ Z = S) := hS.symm
        clear hS
        go_wp2
        rw [HSS.out]
        clear hZl HSS
        go_loop [8, 9] (fun q i => ∃ (k y : Nat), k ≤ S.size ∧ i = .int .i64 k ∧ q = .int .u64 (y : Int) ∧ Hid (y = valL (S.data.toList.take k)) ∧ y ≤ 2100000000000001) (fun _ i => S.size - (intOf i).toNat)
        case atStart => exact ⟨0, 0, by omega, rfl, rfl, rfl, by omega⟩
        case round =>
          obtain ⟨k, y, hk, rfl, rfl, hy, hy1⟩ := hrel
          by_cases hlt : k < S.size
          · have hkl : k < S.data.toList.length := by rw [← HSZ.out]; exact hlt
            have hg := get_list S k hlt
            obtain ⟨x, hx⟩ : ∃ x : Nat, S[k].toNat = x := ⟨_, rfl⟩
            have hxl : (S.data.toList[k]'hkl).toNat = x := by rw [← hg]; exact hx
            have hxd := HDG.out _ (List.getElem_mem hkl)
            unfold isDig at hxd
            simp only [Bool.and_eq_true, decide_eq_true_eq] at hxd
            rw [hxl] at hxd
            have HN : Hid (min (10 * y + (x - 48)) 2100000000000001 = valL (S.data.toList.take (k + 1))) := by
              show _ = _
              rw [List.take_succ_eq_append_getElem hkl, valL_snoc, ← hy.out, stepV_eq y x _ hxl]
            have hx' : (S.data[k]'hlt).toNat = x := hx
            have hw1 : IntKind.u8.wrap ((x : Int) - 48) = (x : Int) - 48 := by simp [IntKind.wrap, IntKind.signed, IntKind.bits]; omega
            have hw2 : IntKind.u64.wrap ((x : Int) - 48) = (x : Int) - 48 := by rw [IntKind.wrap_u64]; omega
            have hw3 : IntKind.u64.wrap ((y : Int) * 10) = (y : Int) * 10 := by rw [IntKind.wrap_u64]; omega
            have hw4 : IntKind.u64.wrap ((y : Int) * 10 + ((x : Int) - 48)) = (y : Int) * 10 + ((x : Int) - 48) := by rw [IntKind.wrap_u64]; omega
            have hx48 : Hid (48 ≤ x) := hxd.1
            clear hg hxl
            by_cases hbig : 2100000000000000 < y * 10 + (x - 48)
            · have hbig' : (2100000000000000 : Int) < (y : Int) * 10 + ((x : Int) - 48) := by omega
              clear hxd
              have HM : Hid (min (10 * y + (x - 48)) 2100000000000001 = 2100000000000001) := by show _ = _; omega
              clear hbig
              go_wp2
              go_round
              case rel => exact ⟨k + 1, 2100000000000001, by omega, by simp, rfl, HM.out.symm.trans HN.out, by omega⟩
              case measure => simp [intOf]; omega
            · have hbig' : ¬ (2100000000000000 : Int) < (y : Int) * 10 + ((x : Int) - 48) := by omega
              clear hxd
              have HM : Hid (min (10 * y + (x - 48)) 2100000000000001 = 10 * y + (x - 48)) := by show _ = _; omega
              have hbb : Hid (10 * y + (x - 48) ≤ 2100000000000001) := by show _ ≤ _; omega
              clear hbig
              go_wp2
              go_round
              case rel => exact ⟨k + 1, 10 * y + (x - 48), by omega, by simp, by have := hx48.out; congr 1; omega, HM.out.symm.trans HN.out, hbb.out⟩
              case measure => simp [intOf]; omega
          · have HF : Hid (y = valL (a ++ b ++ List.replicate (8 - b.length) 48)) := by
              show _ = _
              rw [← HSL.out, hy.out, List.take_of_length_le (by rw [← HSZ.out]; omega)]
            by_cases hm : 2100000000000000 < y
            · have HN := Lib.hid (parseV_big HFM.out (by rw [← HF.out]; exact hm))
              have hm' : (2100000000000000 : Int) < (y : Int) := by omega
              go_wp2
              rw [HE.out, HN.out]
              exact ⟨rfl, hb1⟩
            · have HN := Lib.hid (parseV_ok HFM.out (by rw [← HF.out]; exact hm))
              have hm' : ¬ (2100000000000000 : Int) < (y : Int) := by omega
              go_wp2
              rw [HE.out, HN.out, ← HF.out]
              exact ⟨rfl, hb1⟩

set_option maxHeartbeats 1000000 in
theorem lawParse (s : ByteArray) (w : World) (ht : Tab w) (hs : s.size ≤ maxLen) :
    Calls Tryd.prog 5 #[.string s] w fun e w' => e = .returned (.bool true) ∧ Below w.heap.size w w' := by
  by_cases hs2 : 200 < s.size
  · have hs2' : (200 : Int) < (s.size : Int) := by omega
    go_enter Tryd.func5, Tryd.ntmps5
    go_wp2_with fail
    refine (alive_any _ ht).mono ?_
    rintro e w1 ⟨rfl, hb1⟩
    go_wp2
    go_ret
    exact ⟨rfl, hb1⟩
  · have hs2' : ¬ (200 : Int) < (s.size : Int) := by omega
    obtain ⟨y, hy⟩ : ∃ y, y = parseV s.data.toList := ⟨_, rfl⟩
    have HY := Lib.hid hy
    clear hy
    go_enter Tryd.func5, Tryd.ntmps5
    go_wp2_with fail
    refine (parse_any s _ (by omega)).mono ?_
    rw [← HY.out]
    rintro e w1 ⟨rfl, hb1⟩
    go_wp2_with fail
    refine (refParse_any s _ (by omega)).mono ?_
    rw [← HY.out]
    rintro e w2 ⟨rfl, hb2⟩
    have hb02 : Below w.heap.size w w2 := hb1.trans (hb2.mono hb1.size)
    go_wp2_with fail
    refine (alive_any _ (ht.below hb02 ht.lt)).mono ?_
    rintro e w3 ⟨rfl, hb3⟩
    have hb03 : Below w.heap.size w w3 := hb02.trans (hb3.mono hb02.size)
    go_wp2
    go_ret
    exact ⟨rfl, hb03⟩

end Go.Proofs.YtpnghjfcfeaemaaDoor
