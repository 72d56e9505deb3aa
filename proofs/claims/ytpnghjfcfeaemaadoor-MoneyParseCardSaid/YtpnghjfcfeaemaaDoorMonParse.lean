/-
  The walk over Parse of money.
-/
import Derived.Test.YtpnghjfcfeaemaaDoorMonCut
import Derived.Test.YtpnghjfcfeaemaaDoorMonFee
set_option linter.unusedVariables false
namespace Go.Proofs.YtpnghjfcfeaemaaDoor
open Go.RowKit

/-- '[]byte(s)': the bytes, in a new row. -/
theorem conv_bytes (w : World) (s : ByteArray) : ∃ (cap : Nat) (w' : World), (convert 9 41 (.string s)).run Tryd.prog w = .ok (.slice (some ⟨w.heap.size, 0, none⟩) s.size cap) w' ∧
    RdB w' w'.heap.size (some ⟨w.heap.size, 0, none⟩) s.size s.data.toList ∧ Below w.heap.size w w' := by
  refine ⟨_, _, run_bytes_of_string w 9 41 5 s Tryd.underlying9 Tryd.underlying41 Tryd.underlying5, ?_, (Below.refl _ _).drew.alloc (Nat.le_refl _) _⟩
  refine ⟨by rw [Lib.byteCells_length, ← size_list]; omega, fun _ => ⟨_, rfl, by simp, fun j u hu => ?_⟩⟩
  have e : (⟨w.heap.size, 0, none⟩ : Addr).add j = ⟨w.heap.size, j, none⟩ := by unfold Addr.add; split <;> simp_all
  rw [e]
  have hj : j < s.data.size := by
    have := (List.getElem?_eq_some_iff.1 hu).1
    rw [Lib.byteCells_length, Array.length_toList] at this
    exact this
  simp only [Lib.byteCells, List.getElem?_map, Array.getElem?_toList, Array.getElem?_eq_getElem hj, Option.map_some, Option.some.injEq] at hu
  subst hu
  have hh : (w.drew.alloc (.cells (bytesRow s (grownCap w s.size 0 5)) 5 ((bytesRow s (grownCap w s.size 0 5)).size, (bytesRow s (grownCap w s.size 0 5)).size + 1))).heap[w.heap.size]? = some (.cells (bytesRow s (grownCap w s.size 0 5)) 5 ((bytesRow s (grownCap w s.size 0 5)).size, (bytesRow s (grownCap w s.size 0 5)).size + 1)) := heap_alloc_new w.drew _
  rw [cell_of_row _ _ j _ _ _ hh]
  unfold bytesRow
  rw [Array.getElem?_append_left (by simpa using hj)]
  simp [Array.getElem?_eq_getElem hj]

theorem parseV_none {l : List UInt8} (h : formP l = none) : parseV l = (0, 3) := by unfold parseV; rw [h]
theorem parseV_big {l w p : List UInt8} (h : formP l = some (w, p)) (hv : 2100000000000000 < valL (w ++ p ++ List.replicate (8 - p.length) 48)) : parseV l = (0, 31) := by
  unfold parseV; rw [h]; simp only [if_pos hv]
theorem parseV_ok {l w p : List UInt8} (h : formP l = some (w, p)) (hv : ¬ 2100000000000000 < valL (w ++ p ++ List.replicate (8 - p.length) 48)) : parseV l = (valL (w ++ p ++ List.replicate (8 - p.length) 48), 0) := by
  unfold parseV; rw [h]; simp only [if_neg hv]
theorem valL_le (l : List UInt8) : valL l ≤ 2100000000000001 := by
  rw [valL_min]; omega

set_option maxHeartbeats 2000000 in
theorem parse_any (s : ByteArray) (w : World) (hs : s.size ≤ 100000) :
    Calls Tryd.prog 16 #[.string s] w (FeeEnd (parseV s.data.toList) w) := by
  obtain ⟨E, hE⟩ : ∃ E, E = FeeEnd (parseV s.data.toList) w := ⟨_, rfl⟩
  rw [← hE]
  have HE := Lib.hid hE
  clear hE
  obtain ⟨W, hW⟩ : ∃ W, W = cutA s := ⟨_, rfl⟩
  obtain ⟨Q, hQ⟩ : ∃ Q, Q = cutB s := ⟨_, rfl⟩
  have hWl : W.data.toList = (cutDot s.data.toList).1 := by rw [hW]; rfl
  have hQl : Q.data.toList = (cutDot s.data.toList).2.1 := by rw [hQ]; rfl
  have hlens : (cutDot s.data.toList).1.length ≤ s.size ∧ (cutDot s.data.toList).2.1.length ≤ s.size := by
    rw [size_list]
    cases hb : (cutDot s.data.toList).2.2 with
    | false =>
      obtain ⟨h1, _⟩ := cutDot_false hb
      rw [h1]
      exact ⟨Nat.le_refl _, Nat.zero_le _⟩
    | true =>
      obtain ⟨h1, _⟩ := cutDot_true hb
      have := congrArg List.length h1
      rw [List.length_append, List.length_cons] at this
      omega
  have hWs : W.size ≤ 100000 := by rw [size_list, hWl]; omega
  have hQs : Q.size ≤ 100000 := by rw [size_list, hQl]; omega
  have HWL := Lib.hid hWl
  have HQL := Lib.hid hQl
  have HWQ : Hid (cutA s = W ∧ cutB s = Q) := ⟨hW.symm, hQ.symm⟩
  clear hW hQ hWl hQl hlens
  go_enter Tryd.func16, Tryd.ntmps16
  go_wp2_with fail
  refine (cut_any s _ (by omega)).mono ?_
  rintro e w1 ⟨rfl, n1, rfl⟩
  rw [HWQ.out.1, HWQ.out.2]
  obtain ⟨b, hb⟩ : ∃ b, b = (cutDot s.data.toList).2.2 := ⟨_, rfl⟩
  have HB := Lib.hid hb
  rw [← hb]
  clear hb
  have hb1 : Below w.heap.size w (w.drewN n1) := below_drewN (Below.refl _ _) n1
  generalize w.drewN n1 = w1 at hb1 ⊢
  go_wp2_with fail
  refine (figures_is W _ (by omega)).mono ?_
  rintro e w2 ⟨rfl, hb2⟩
  have hb02 : Below w.heap.size w w2 := hb1.trans (hb2.mono hb1.size)
  clear hb1 hb2
  cases hf : figB W.data.toList with
  | false =>
    have HN := Lib.hid (parseV_none (formP_bad (.inl (by rw [← HWL.out]; exact hf))))
    clear hf
    go_wp2
    rw [HE.out, HN.out]
    exact ⟨rfl, hb02⟩
  | true =>
    have HWF := Lib.hid hf
    have HWA : Hid ((cutDot s.data.toList).1.all isDig = true) := by
      show _ = _
      rw [← HWL.out]
      unfold figB at hf
      simp only [Bool.and_eq_true] at hf
      exact hf.1
    have hW0 : 0 < W.size := by
      rcases Nat.eq_zero_or_pos W.size with h0 | h0
      · exfalso
        rw [size_list] at h0
        rw [List.eq_nil_of_length_eq_zero h0] at hf
        cases hf
      · exact h0
    clear hf
    have hkl : 0 < W.data.toList.length := by rw [← size_list]; exact hW0
    have hg := get_list W 0 hW0
    obtain ⟨m, hm⟩ : ∃ m : Nat, W[0].toNat = m := ⟨_, rfl⟩
    have HM : Hid ((W.data.toList[0]'hkl).toNat = m) := by
      show (W.data.toList[0]'hkl).toNat = m
      rw [← hg]; exact hm
    have hm' : (W.data[0]'hW0).toNat = m := hm
    clear hg
    have HHD : Hid ((cutDot s.data.toList).1.head? = some 48 ↔ m = 48) := by
      rw [← HWL.out, List.head?_eq_getElem?, List.getElem?_eq_getElem hkl, ← HM.out]
      constructor
      · intro h; rw [Option.some.inj h]; rfl
      · intro h; exact congrArg some (UInt8.toNat_inj.1 h)
    have HWZ : Hid ((cutDot s.data.toList).1.length = W.size) := by show _ = _; rw [size_list, HWL.out]
    by_cases hz : 1 < W.size ∧ m = 48
    · have HN := Lib.hid (parseV_none (formP_bad (.inr ⟨by rw [HWZ.out]; exact hz.1, HHD.out.2 hz.2⟩)))
      have hz1 : (1 : Int) < (W.size : Int) := by omega
      have hz2 : m = 48 := hz.2
      subst hz2
      clear hz
      go_wp2
      rw [HE.out, HN.out]
      exact ⟨rfl, hb02⟩
    have HF0 : Hid (¬ (figB (cutDot s.data.toList).1 = false ∨ (1 < (cutDot s.data.toList).1.length ∧ (cutDot s.data.toList).1.head? = some 48))) := by
      rintro (h | h)
      · rw [← HWL.out, HWF.out] at h; cases h
      · exact hz ⟨by rw [← HWZ.out]; exact h.1, HHD.out.1 h.2⟩
    have hz3 : ¬ ((1 : Int) < (W.size : Int) ∧ (m : Int) = 48) := by omega
    cases b with
    | false =>
      have HFM : Hid (formP s.data.toList = some ((cutDot s.data.toList).1, (cutDot s.data.toList).2.1)) := formP_ok HF0.out (by rw [← HB.out]; rintro ⟨h, _⟩; cases h)
      have HQA : Hid ((cutDot s.data.toList).2.1.all isDig = true) := by
        show _ = _
        rw [(cutDot_false HB.out.symm).1]
        rfl
      have hQ8 : Q.size ≤ 8 := by rw [size_list, HQL.out, (cutDot_false HB.out.symm).1]; simp
      by_cases hz1 : (1 : Int) < (W.size : Int)
      · have hz4 : ¬ (m : Int) = 48 := by omega
        clear hz3 hz
        have hq8 : (8 : Int) - (Q.size : Int) = ((8 - Q.size : Nat) : Int) := by omega
        have HQ8 := Lib.hid hq8
        clear hq8
        go_wp2_with fail
        rw [HQ8.out]
        refine (Tryd.strings_Repeat ⟨#[48]⟩ (8 - Q.size) _ (by omega) (by show 1 * (8 - Q.size) ≤ _; omega)).mono ?_
        rintro e w3 ⟨rfl, hb3⟩
        rw [rep_zeros]
        have hb03 : Below w.heap.size w w3 := hb02.trans (hb3.mono (hb02).size)
        obtain ⟨R, hR⟩ : ∃ R : ByteArray, R = ⟨(List.replicate (8 - Q.size) 48).toArray⟩ := ⟨_, rfl⟩
        have HRR := Lib.hid hR
        have hRs : R.size ≤ 8 := by rw [hR]; show (List.replicate (8 - Q.size) (48 : UInt8)).toArray.size ≤ _; rw [List.size_toArray, List.length_replicate]; omega
        rw [← hR]
        have hs1 : (W ++ Q).size ≤ 200000 := by rw [ByteArray.size_append]; omega
        obtain ⟨S, hS⟩ : ∃ S : ByteArray, S = W ++ Q ++ R := ⟨_, rfl⟩
        have hSs : S.size ≤ 200008 := by rw [hS, ByteArray.size_append]; omega
        have HSL : Hid (S.data.toList = (cutDot s.data.toList).1 ++ (cutDot s.data.toList).2.1 ++ List.replicate (8 - (cutDot s.data.toList).2.1.length) 48) := by
          show _ = _
          rw [hS, ← HWL.out, ← HQL.out, HRR.out, ← size_list]
          simp
        have HDG : Hid (∀ c ∈ S.data.toList, isDig c = true) := by
          intro c hc
          rw [HSL.out] at hc
          rcases List.mem_append.1 hc with hc | hc
          · rcases List.mem_append.1 hc with hc | hc
            · exact List.all_eq_true.1 HWA.out c hc
            · exact List.all_eq_true.1 HQA.out c hc
          · rw [List.eq_of_mem_replicate hc]; decide
        have HSS := Lib.hid hS
        obtain ⟨cap, w4, hcv, hr4, hb4⟩ := conv_bytes w3 S
        have hcv' : (convert 9 41 (.string (W ++ Q ++ R))).run Tryd.prog w3 = .ok (.slice (some ⟨w3.heap.size, 0, none⟩) S.size cap) w4 := by rw [← hS]; exact hcv
        have HR4 := Lib.hid hr4
        have hb04 : Below w.heap.size w w4 := hb03.trans (hb4.mono hb03.size)
        clear hR hr4 hb4 hS hcv hb03 hb3
        have HSZ := Lib.hid (size_list S)
        go_wp2
        go_loop [7, 52] (fun a i => ∃ (k y : Nat), k ≤ S.size ∧ i = .int .i64 k ∧ a = .int .u64 (y : Int) ∧ Hid (y = valL (S.data.toList.take k)) ∧ y ≤ 2100000000000001) (fun _ i => S.size - (intOf i).toNat)
        case atStart => exact ⟨0, 0, by omega, rfl, rfl, rfl, by omega⟩
        case round =>
          obtain ⟨k, y, hk, rfl, rfl, hy, hy1⟩ := hrel
          by_cases hlt : k < S.size
          · have hkl : k < S.data.toList.length := by rw [← HSZ.out]; exact hlt
            obtain ⟨ad, had, hadlt, hcell⟩ := HR4.out.at_ hlt
            have had' := Option.some.inj had
            subst had'
            rw [show (⟨w3.heap.size, 0, none⟩ : Addr).add k = ⟨w3.heap.size, k, none⟩ by unfold Addr.add; split <;> simp_all] at hcell
            obtain ⟨x, hx⟩ : ∃ x : Nat, (S.data.toList[k]'hkl).toNat = x := ⟨_, rfl⟩
            rw [hx] at hcell
            have hxd := HDG.out _ (List.getElem_mem hkl)
            unfold isDig at hxd
            simp only [Bool.and_eq_true, decide_eq_true_eq] at hxd
            have HN : Hid (min (10 * y + (x - 48)) 2100000000000001 = valL (S.data.toList.take (k + 1))) := by
              show _ = _
              rw [List.take_succ_eq_append_getElem hkl, valL_snoc, ← hy.out]
              unfold stepV
              rw [hx]
            rw [hx] at hxd
            have hw1 : IntKind.u8.wrap ((x : Int) - 48) = (x : Int) - 48 := by simp [IntKind.wrap, IntKind.signed, IntKind.bits]; omega
            have hw2 : IntKind.u64.wrap ((x : Int) - 48) = (x : Int) - 48 := by rw [IntKind.wrap_u64]; omega
            have hw3 : IntKind.u64.wrap (10 * (y : Int)) = 10 * (y : Int) := by rw [IntKind.wrap_u64]; omega
            have hw4 : IntKind.u64.wrap (10 * (y : Int) + ((x : Int) - 48)) = 10 * (y : Int) + ((x : Int) - 48) := by rw [IntKind.wrap_u64]; omega
            have hx48 : Hid (48 ≤ x) := hxd.1
            clear hx hxd had
            go_wp2
            go_round
            case rel => exact ⟨k + 1, min (10 * y + (x - 48)) 2100000000000001, by omega, by simp, by have := hx48.out; congr 1; omega, HN.out, by omega⟩
            case measure => simp [intOf]; omega
          · have HF : Hid (y = valL ((cutDot s.data.toList).1 ++ (cutDot s.data.toList).2.1 ++ List.replicate (8 - (cutDot s.data.toList).2.1.length) 48)) := by
              show _ = _
              rw [← HSL.out, hy.out, List.take_of_length_le (by rw [← HSZ.out]; omega)]
            go_wp2_with fail
            refine (check_any y _).mono ?_
            rintro e w5 ⟨rfl, rfl⟩
            by_cases hm : 2100000000000000 < y
            · rw [if_pos hm]
              have HN := Lib.hid (parseV_big HFM.out (by rw [← HF.out]; exact hm))
              go_wp2
              rw [HE.out, HN.out]
              exact ⟨rfl, hb04⟩
            · rw [if_neg hm]
              have HN := Lib.hid (parseV_ok HFM.out (by rw [← HF.out]; exact hm))
              go_wp2
              rw [HE.out, HN.out, ← HF.out]
              exact ⟨rfl, hb04⟩
      · clear hz3 hz
        have hq8 : (8 : Int) - (Q.size : Int) = ((8 - Q.size : Nat) : Int) := by omega
        have HQ8 := Lib.hid hq8
        clear hq8
        go_wp2_with fail
        rw [HQ8.out]
        refine (Tryd.strings_Repeat ⟨#[48]⟩ (8 - Q.size) _ (by omega) (by show 1 * (8 - Q.size) ≤ _; omega)).mono ?_
        rintro e w3 ⟨rfl, hb3⟩
        rw [rep_zeros]
        have hb03 : Below w.heap.size w w3 := hb02.trans (hb3.mono (hb02).size)
        obtain ⟨R, hR⟩ : ∃ R : ByteArray, R = ⟨(List.replicate (8 - Q.size) 48).toArray⟩ := ⟨_, rfl⟩
        have HRR := Lib.hid hR
        have hRs : R.size ≤ 8 := by rw [hR]; show (List.replicate (8 - Q.size) (48 : UInt8)).toArray.size ≤ _; rw [List.size_toArray, List.length_replicate]; omega
        rw [← hR]
        have hs1 : (W ++ Q).size ≤ 200000 := by rw [ByteArray.size_append]; omega
        obtain ⟨S, hS⟩ : ∃ S : ByteArray, S = W ++ Q ++ R := ⟨_, rfl⟩
        have hSs : S.size ≤ 200008 := by rw [hS, ByteArray.size_append]; omega
        have HSL : Hid (S.data.toList = (cutDot s.data.toList).1 ++ (cutDot s.data.toList).2.1 ++ List.replicate (8 - (cutDot s.data.toList).2.1.length) 48) := by
          show _ = _
          rw [hS, ← HWL.out, ← HQL.out, HRR.out, ← size_list]
          simp
        have HDG : Hid (∀ c ∈ S.data.toList, isDig c = true) := by
          intro c hc
          rw [HSL.out] at hc
          rcases List.mem_append.1 hc with hc | hc
          · rcases List.mem_append.1 hc with hc | hc
            · exact List.all_eq_true.1 HWA.out c hc
            · exact List.all_eq_true.1 HQA.out c hc
          · rw [List.eq_of_mem_replicate hc]; decide
        have HSS := Lib.hid hS
        obtain ⟨cap, w4, hcv, hr4, hb4⟩ := conv_bytes w3 S
        have hcv' : (convert 9 41 (.string (W ++ Q ++ R))).run Tryd.prog w3 = .ok (.slice (some ⟨w3.heap.size, 0, none⟩) S.size cap) w4 := by rw [← hS]; exact hcv
        have HR4 := Lib.hid hr4
        have hb04 : Below w.heap.size w w4 := hb03.trans (hb4.mono hb03.size)
        clear hR hr4 hb4 hS hcv hb03 hb3
        have HSZ := Lib.hid (size_list S)
        go_wp2
        go_loop [7, 52] (fun a i => ∃ (k y : Nat), k ≤ S.size ∧ i = .int .i64 k ∧ a = .int .u64 (y : Int) ∧ Hid (y = valL (S.data.toList.take k)) ∧ y ≤ 2100000000000001) (fun _ i => S.size - (intOf i).toNat)
        case atStart => exact ⟨0, 0, by omega, rfl, rfl, rfl, by omega⟩
        case round =>
          obtain ⟨k, y, hk, rfl, rfl, hy, hy1⟩ := hrel
          by_cases hlt : k < S.size
          · have hkl : k < S.data.toList.length := by rw [← HSZ.out]; exact hlt
            obtain ⟨ad, had, hadlt, hcell⟩ := HR4.out.at_ hlt
            have had' := Option.some.inj had
            subst had'
            rw [show (⟨w3.heap.size, 0, none⟩ : Addr).add k = ⟨w3.heap.size, k, none⟩ by unfold Addr.add; split <;> simp_all] at hcell
            obtain ⟨x, hx⟩ : ∃ x : Nat, (S.data.toList[k]'hkl).toNat = x := ⟨_, rfl⟩
            rw [hx] at hcell
            have hxd := HDG.out _ (List.getElem_mem hkl)
            unfold isDig at hxd
            simp only [Bool.and_eq_true, decide_eq_true_eq] at hxd
            have HN : Hid (min (10 * y + (x - 48)) 2100000000000001 = valL (S.data.toList.take (k + 1))) := by
              show _ = _
              rw [List.take_succ_eq_append_getElem hkl, valL_snoc, ← hy.out]
              unfold stepV
              rw [hx]
            rw [hx] at hxd
            have hw1 : IntKind.u8.wrap ((x : Int) - 48) = (x : Int) - 48 := by simp [IntKind.wrap, IntKind.signed, IntKind.bits]; omega
            have hw2 : IntKind.u64.wrap ((x : Int) - 48) = (x : Int) - 48 := by rw [IntKind.wrap_u64]; omega
            have hw3 : IntKind.u64.wrap (10 * (y : Int)) = 10 * (y : Int) := by rw [IntKind.wrap_u64]; omega
            have hw4 : IntKind.u64.wrap (10 * (y : Int) + ((x : Int) - 48)) = 10 * (y : Int) + ((x : Int) - 48) := by rw [IntKind.wrap_u64]; omega
            have hx48 : Hid (48 ≤ x) := hxd.1
            clear hx hxd had
            go_wp2
            go_round
            case rel => exact ⟨k + 1, min (10 * y + (x - 48)) 2100000000000001, by omega, by simp, by have := hx48.out; congr 1; omega, HN.out, by omega⟩
            case measure => simp [intOf]; omega
          · have HF : Hid (y = valL ((cutDot s.data.toList).1 ++ (cutDot s.data.toList).2.1 ++ List.replicate (8 - (cutDot s.data.toList).2.1.length) 48)) := by
              show _ = _
              rw [← HSL.out, hy.out, List.take_of_length_le (by rw [← HSZ.out]; omega)]
            go_wp2_with fail
            refine (check_any y _).mono ?_
            rintro e w5 ⟨rfl, rfl⟩
            by_cases hm : 2100000000000000 < y
            · rw [if_pos hm]
              have HN := Lib.hid (parseV_big HFM.out (by rw [← HF.out]; exact hm))
              go_wp2
              rw [HE.out, HN.out]
              exact ⟨rfl, hb04⟩
            · rw [if_neg hm]
              have HN := Lib.hid (parseV_ok HFM.out (by rw [← HF.out]; exact hm))
              go_wp2
              rw [HE.out, HN.out, ← HF.out]
              exact ⟨rfl, hb04⟩
    | true =>
      by_cases hz1 : (1 : Int) < (W.size : Int)
      · have hz4 : ¬ (m : Int) = 48 := by omega
        clear hz3 hz
        go_wp2_with fail
        refine (figures_is Q _ (by omega)).mono ?_
        rintro e w3q ⟨rfl, hb3q⟩
        have hb02q : Below w.heap.size w w3q := hb02.trans (hb3q.mono hb02.size)
        clear hb02 hb3q
        cases hfq : figB Q.data.toList with
        | false =>
          have HN := Lib.hid (parseV_none (formP_part ⟨HB.out.symm, .inl (by rw [← HQL.out]; exact hfq)⟩))
          clear hfq
          go_wp2
          rw [HE.out, HN.out]
          exact ⟨rfl, hb02q⟩
        | true =>
          have HQA : Hid ((cutDot s.data.toList).2.1.all isDig = true) := by
            show _ = _
            rw [← HQL.out]
            unfold figB at hfq
            simp only [Bool.and_eq_true] at hfq
            exact hfq.1
          have HQF : Hid (figB (cutDot s.data.toList).2.1 = true) := by show _ = _; rw [← HQL.out]; exact hfq
          have HQZ : Hid ((cutDot s.data.toList).2.1.length = Q.size) := by show _ = _; rw [size_list, HQL.out]
          clear hfq
          by_cases hQ8 : Q.size ≤ 8
          · have hQ8' : ¬ (8 : Int) < (Q.size : Int) := by omega
            have HFM : Hid (formP s.data.toList = some ((cutDot s.data.toList).1, (cutDot s.data.toList).2.1)) := formP_ok HF0.out (by
              rintro ⟨_, h | h⟩
              · rw [HQF.out] at h; cases h
              · rw [HQZ.out] at h; omega)
            have hq8 : (8 : Int) - (Q.size : Int) = ((8 - Q.size : Nat) : Int) := by omega
            have HQ8 := Lib.hid hq8
            clear hq8
            go_wp2_with fail
            rw [HQ8.out]
            refine (Tryd.strings_Repeat ⟨#[48]⟩ (8 - Q.size) _ (by omega) (by show 1 * (8 - Q.size) ≤ _; omega)).mono ?_
            rintro e w3 ⟨rfl, hb3⟩
            rw [rep_zeros]
            have hb03 : Below w.heap.size w w3 := hb02q.trans (hb3.mono (hb02q).size)
            obtain ⟨R, hR⟩ : ∃ R : ByteArray, R = ⟨(List.replicate (8 - Q.size) 48).toArray⟩ := ⟨_, rfl⟩
            have HRR := Lib.hid hR
            have hRs : R.size ≤ 8 := by rw [hR]; show (List.replicate (8 - Q.size) (48 : UInt8)).toArray.size ≤ _; rw [List.size_toArray, List.length_replicate]; omega
            rw [← hR]
            have hs1 : (W ++ Q).size ≤ 200000 := by rw [ByteArray.size_append]; omega
            obtain ⟨S, hS⟩ : ∃ S : ByteArray, S = W ++ Q ++ R := ⟨_, rfl⟩
            have hSs : S.size ≤ 200008 := by rw [hS, ByteArray.size_append]; omega
            have HSL : Hid (S.data.toList = (cutDot s.data.toList).1 ++ (cutDot s.data.toList).2.1 ++ List.replicate (8 - (cutDot s.data.toList).2.1.length) 48) := by
              show _ = _
              rw [hS, ← HWL.out, ← HQL.out, HRR.out, ← size_list]
              simp
            have HDG : Hid (∀ c ∈ S.data.toList, isDig c = true) := by
              intro c hc
              rw [HSL.out] at hc
              rcases List.mem_append.1 hc with hc | hc
              · rcases List.mem_append.1 hc with hc | hc
                · exact List.all_eq_true.1 HWA.out c hc
                · exact List.all_eq_true.1 HQA.out c hc
              · rw [List.eq_of_mem_replicate hc]; decide
            have HSS := Lib.hid hS
            obtain ⟨cap, w4, hcv, hr4, hb4⟩ := conv_bytes w3 S
            have hcv' : (convert 9 41 (.string (W ++ Q ++ R))).run Tryd.prog w3 = .ok (.slice (some ⟨w3.heap.size, 0, none⟩) S.size cap) w4 := by rw [← hS]; exact hcv
            have HR4 := Lib.hid hr4
            have hb04 : Below w.heap.size w w4 := hb03.trans (hb4.mono hb03.size)
            clear hR hr4 hb4 hS hcv hb03 hb3
            have HSZ := Lib.hid (size_list S)
            go_wp2
            go_loop [7, 52] (fun a i => ∃ (k y : Nat), k ≤ S.size ∧ i = .int .i64 k ∧ a = .int .u64 (y : Int) ∧ Hid (y = valL (S.data.toList.take k)) ∧ y ≤ 2100000000000001) (fun _ i => S.size - (intOf i).toNat)
            case atStart => exact ⟨0, 0, by omega, rfl, rfl, rfl, by omega⟩
            case round =>
              obtain ⟨k, y, hk, rfl, rfl, hy, hy1⟩ := hrel
              by_cases hlt : k < S.size
              · have hkl : k < S.data.toList.length := by rw [← HSZ.out]; exact hlt
                obtain ⟨ad, had, hadlt, hcell⟩ := HR4.out.at_ hlt
                have had' := Option.some.inj had
                subst had'
                rw [show (⟨w3.heap.size, 0, none⟩ : Addr).add k = ⟨w3.heap.size, k, none⟩ by unfold Addr.add; split <;> simp_all] at hcell
                obtain ⟨x, hx⟩ : ∃ x : Nat, (S.data.toList[k]'hkl).toNat = x := ⟨_, rfl⟩
                rw [hx] at hcell
                have hxd := HDG.out _ (List.getElem_mem hkl)
                unfold isDig at hxd
                simp only [Bool.and_eq_true, decide_eq_true_eq] at hxd
                have HN : Hid (min (10 * y + (x - 48)) 2100000000000001 = valL (S.data.toList.take (k + 1))) := by
                  show _ = _
                  rw [List.take_succ_eq_append_getElem hkl, valL_snoc, ← hy.out]
                  unfold stepV
                  rw [hx]
                rw [hx] at hxd
                have hw1 : IntKind.u8.wrap ((x : Int) - 48) = (x : Int) - 48 := by simp [IntKind.wrap, IntKind.signed, IntKind.bits]; omega
                have hw2 : IntKind.u64.wrap ((x : Int) - 48) = (x : Int) - 48 := by rw [IntKind.wrap_u64]; omega
                have hw3 : IntKind.u64.wrap (10 * (y : Int)) = 10 * (y : Int) := by rw [IntKind.wrap_u64]; omega
                have hw4 : IntKind.u64.wrap (10 * (y : Int) + ((x : Int) - 48)) = 10 * (y : Int) + ((x : Int) - 48) := by rw [IntKind.wrap_u64]; omega
                have hx48 : Hid (48 ≤ x) := hxd.1
                clear hx hxd had
                go_wp2
                go_round
                case rel => exact ⟨k + 1, min (10 * y + (x - 48)) 2100000000000001, by omega, by simp, by have := hx48.out; congr 1; omega, HN.out, by omega⟩
                case measure => simp [intOf]; omega
              · have HF : Hid (y = valL ((cutDot s.data.toList).1 ++ (cutDot s.data.toList).2.1 ++ List.replicate (8 - (cutDot s.data.toList).2.1.length) 48)) := by
                  show _ = _
                  rw [← HSL.out, hy.out, List.take_of_length_le (by rw [← HSZ.out]; omega)]
                go_wp2_with fail
                refine (check_any y _).mono ?_
                rintro e w5 ⟨rfl, rfl⟩
                by_cases hm : 2100000000000000 < y
                · rw [if_pos hm]
                  have HN := Lib.hid (parseV_big HFM.out (by rw [← HF.out]; exact hm))
                  go_wp2
                  rw [HE.out, HN.out]
                  exact ⟨rfl, hb04⟩
                · rw [if_neg hm]
                  have HN := Lib.hid (parseV_ok HFM.out (by rw [← HF.out]; exact hm))
                  go_wp2
                  rw [HE.out, HN.out, ← HF.out]
                  exact ⟨rfl, hb04⟩
          · have hQ8' : (8 : Int) < (Q.size : Int) := by omega
            have HN := Lib.hid (parseV_none (formP_part ⟨HB.out.symm, .inr (by rw [HQZ.out]; omega)⟩))
            go_wp2
            rw [HE.out, HN.out]
            exact ⟨rfl, hb02q⟩
      · clear hz3 hz
        go_wp2_with fail
        refine (figures_is Q _ (by omega)).mono ?_
        rintro e w3q ⟨rfl, hb3q⟩
        have hb02q : Below w.heap.size w w3q := hb02.trans (hb3q.mono hb02.size)
        clear hb02 hb3q
        cases hfq : figB Q.data.toList with
        | false =>
          have HN := Lib.hid (parseV_none (formP_part ⟨HB.out.symm, .inl (by rw [← HQL.out]; exact hfq)⟩))
          clear hfq
          go_wp2
          rw [HE.out, HN.out]
          exact ⟨rfl, hb02q⟩
        | true =>
          have HQA : Hid ((cutDot s.data.toList).2.1.all isDig = true) := by
            show _ = _
            rw [← HQL.out]
            unfold figB at hfq
            simp only [Bool.and_eq_true] at hfq
            exact hfq.1
          have HQF : Hid (figB (cutDot s.data.toList).2.1 = true) := by show _ = _; rw [← HQL.out]; exact hfq
          have HQZ : Hid ((cutDot s.data.toList).2.1.length = Q.size) := by show _ = _; rw [size_list, HQL.out]
          clear hfq
          by_cases hQ8 : Q.size ≤ 8
          · have hQ8' : ¬ (8 : Int) < (Q.size : Int) := by omega
            have HFM : Hid (formP s.data.toList = some ((cutDot s.data.toList).1, (cutDot s.data.toList).2.1)) := formP_ok HF0.out (by
              rintro ⟨_, h | h⟩
              · rw [HQF.out] at h; cases h
              · rw [HQZ.out] at h; omega)
            have hq8 : (8 : Int) - (Q.size : Int) = ((8 - Q.size : Nat) : Int) := by omega
            have HQ8 := Lib.hid hq8
            clear hq8
            go_wp2_with fail
            rw [HQ8.out]
            refine (Tryd.strings_Repeat ⟨#[48]⟩ (8 - Q.size) _ (by omega) (by show 1 * (8 - Q.size) ≤ _; omega)).mono ?_
            rintro e w3 ⟨rfl, hb3⟩
            rw [rep_zeros]
            have hb03 : Below w.heap.size w w3 := hb02q.trans (hb3.mono (hb02q).size)
            obtain ⟨R, hR⟩ : ∃ R : ByteArray, R = ⟨(List.replicate (8 - Q.size) 48).toArray⟩ := ⟨_, rfl⟩
            have HRR := Lib.hid hR
            have hRs : R.size ≤ 8 := by rw [hR]; show (List.replicate (8 - Q.size) (48 : UInt8)).toArray.size ≤ _; rw [List.size_toArray, List.length_replicate]; omega
            rw [← hR]
            have hs1 : (W ++ Q).size ≤ 200000 := by rw [ByteArray.size_append]; omega
            obtain ⟨S, hS⟩ : ∃ S : ByteArray, S = W ++ Q ++ R := ⟨_, rfl⟩
            have hSs : S.size ≤ 200008 := by rw [hS, ByteArray.size_append]; omega
            have HSL : Hid (S.data.toList = (cutDot s.data.toList).1 ++ (cutDot s.data.toList).2.1 ++ List.replicate (8 - (cutDot s.data.toList).2.1.length) 48) := by
              show _ = _
              rw [hS, ← HWL.out, ← HQL.out, HRR.out, ← size_list]
              simp
            have HDG : Hid (∀ c ∈ S.data.toList, isDig c = true) := by
              intro c hc
              rw [HSL.out] at hc
              rcases List.mem_append.1 hc with hc | hc
              · rcases List.mem_append.1 hc with hc | hc
                · exact List.all_eq_true.1 HWA.out c hc
                · exact List.all_eq_true.1 HQA.out c hc
              · rw [List.eq_of_mem_replicate hc]; decide
            have HSS := Lib.hid hS
            obtain ⟨cap, w4, hcv, hr4, hb4⟩ := conv_bytes w3 S
            have hcv' : (convert 9 41 (.string (W ++ Q ++ R))).run Tryd.prog w3 = .ok (.slice (some ⟨w3.heap.size, 0, none⟩) S.size cap) w4 := by rw [← hS]; exact hcv
            have HR4 := Lib.hid hr4
            have hb04 : Below w.heap.size w w4 := hb03.trans (hb4.mono hb03.size)
            clear hR hr4 hb4 hS hcv hb03 hb3
            have HSZ := Lib.hid (size_list S)
            go_wp2
            go_loop [7, 52] (fun a i => ∃ (k y : Nat), k ≤ S.size ∧ i = .int .i64 k ∧ a = .int .u64 (y : Int) ∧ Hid (y = valL (S.data.toList.take k)) ∧ y ≤ 2100000000000001) (fun _ i => S.size - (intOf i).toNat)
            case atStart => exact ⟨0, 0, by omega, rfl, rfl, rfl, by omega⟩
            case round =>
              obtain ⟨k, y, hk, rfl, rfl, hy, hy1⟩ := hrel
              by_cases hlt : k < S.size
              · have hkl : k < S.data.toList.length := by rw [← HSZ.out]; exact hlt
                obtain ⟨ad, had, hadlt, hcell⟩ := HR4.out.at_ hlt
                have had' := Option.some.inj had
                subst had'
                rw [show (⟨w3.heap.size, 0, none⟩ : Addr).add k = ⟨w3.heap.size, k, none⟩ by unfold Addr.add; split <;> simp_all] at hcell
                obtain ⟨x, hx⟩ : ∃ x : Nat, (S.data.toList[k]'hkl).toNat = x := ⟨_, rfl⟩
                rw [hx] at hcell
                have hxd := HDG.out _ (List.getElem_mem hkl)
                unfold isDig at hxd
                simp only [Bool.and_eq_true, decide_eq_true_eq] at hxd
                have HN : Hid (min (10 * y + (x - 48)) 2100000000000001 = valL (S.data.toList.take (k + 1))) := by
                  show _ = _
                  rw [List.take_succ_eq_append_getElem hkl, valL_snoc, ← hy.out]
                  unfold stepV
                  rw [hx]
                rw [hx] at hxd
                have hw1 : IntKind.u8.wrap ((x : Int) - 48) = (x : Int) - 48 := by simp [IntKind.wrap, IntKind.signed, IntKind.bits]; omega
                have hw2 : IntKind.u64.wrap ((x : Int) - 48) = (x : Int) - 48 := by rw [IntKind.wrap_u64]; omega
                have hw3 : IntKind.u64.wrap (10 * (y : Int)) = 10 * (y : Int) := by rw [IntKind.wrap_u64]; omega
                have hw4 : IntKind.u64.wrap (10 * (y : Int) + ((x : Int) - 48)) = 10 * (y : Int) + ((x : Int) - 48) := by rw [IntKind.wrap_u64]; omega
                have hx48 : Hid (48 ≤ x) := hxd.1
                clear hx hxd had
                go_wp2
                go_round
                case rel => exact ⟨k + 1, min (10 * y + (x - 48)) 2100000000000001, by omega, by simp, by have := hx48.out; congr 1; omega, HN.out, by omega⟩
                case measure => simp [intOf]; omega
              · have HF : Hid (y = valL ((cutDot s.data.toList).1 ++ (cutDot s.data.toList).2.1 ++ List.replicate (8 - (cutDot s.data.toList).2.1.length) 48)) := by
                  show _ = _
                  rw [← HSL.out, hy.out, List.take_of_length_le (by rw [← HSZ.out]; omega)]
                go_wp2_with fail
                refine (check_any y _).mono ?_
                rintro e w5 ⟨rfl, rfl⟩
                by_cases hm : 2100000000000000 < y
                · rw [if_pos hm]
                  have HN := Lib.hid (parseV_big HFM.out (by rw [← HF.out]; exact hm))
                  go_wp2
                  rw [HE.out, HN.out]
                  exact ⟨rfl, hb04⟩
                · rw [if_neg hm]
                  have HN := Lib.hid (parseV_ok HFM.out (by rw [← HF.out]; exact hm))
                  go_wp2
                  rw [HE.out, HN.out, ← HF.out]
                  exact ⟨rfl, hb04⟩
          · have hQ8' : (8 : Int) < (Q.size : Int) := by omega
            have HN := Lib.hid (parseV_none (formP_part ⟨HB.out.symm, .inr (by rw [HQZ.out]; omega)⟩))
            go_wp2
            rw [HE.out, HN.out]
            exact ⟨rfl, hb02q⟩

end Go.Proofs.YtpnghjfcfeaemaaDoor
