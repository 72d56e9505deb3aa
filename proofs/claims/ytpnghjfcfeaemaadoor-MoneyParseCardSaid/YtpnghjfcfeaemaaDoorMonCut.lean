/-
  The walks over strings.Cut at a point, and over figures.
-/
import Derived.Test.YtpnghjfcfeaemaaDoorMonPrint
import Derived.Laws.RangeAny
set_option linter.unusedVariables false
namespace Go.Proofs.YtpnghjfcfeaemaaDoor
open Go.RowKit

set_option maxHeartbeats 1000000 in
theorem refPrint_any (v : Nat) (w : World) (hv : v < 18446744073709551616) :
    Calls Tryd.prog 15 #[.int .u64 (v : Int)] w fun e w' => e = .returned (.string ⟨(printL v).toArray⟩) ∧ Below w.heap.size w w' := by
  have HPR := Lib.hid (printL_figs v)
  have HP : Hid ((v : Int) % 100000000 = ((v % 100000000 : Nat) : Int)) := by show _ = _; omega
  have HQ : Hid ((v : Int) / 100000000 = ((v / 100000000 : Nat) : Int)) := by show _ = _; omega
  go_enter Tryd.func15, Tryd.ntmps15
  go_wp2_with fail
  rw [HQ.out]
  refine (figures_any (v / 100000000) 1 _ (by omega) (by omega)).mono ?_
  rintro e w1 ⟨rfl, hb1⟩
  obtain ⟨Q, hQ⟩ : ∃ Q : ByteArray, Q = ⟨(figsL (v / 100000000) 1).toArray⟩ := ⟨_, rfl⟩
  have hQs : Q.size ≤ 21 := by
    rw [hQ]; show (figsL (v / 100000000) 1).toArray.size ≤ _; rw [List.size_toArray]
    exact figsL_len 20 _ 1 (by omega)
  have HQQ := Lib.hid hQ
  rw [← hQ]
  clear hQ
  have hs1 : (Q ++ ⟨#[46]⟩).size ≤ 22 := by rw [ByteArray.size_append]; show Q.size + 1 ≤ _; omega
  go_wp2_with fail
  rw [HP.out]
  refine (figures_any (v % 100000000) 8 _ (by omega) (by omega)).mono ?_
  rintro e w2 ⟨rfl, hb2⟩
  have hb02 : Below w.heap.size w w2 := hb1.trans (hb2.mono hb1.size)
  obtain ⟨R, hR⟩ : ∃ R : ByteArray, R = ⟨(figsL (v % 100000000) 8).toArray⟩ := ⟨_, rfl⟩
  have hRs : R.size ≤ 28 := by
    rw [hR]; show (figsL (v % 100000000) 8).toArray.size ≤ _; rw [List.size_toArray]
    exact figsL_len 20 _ 8 (by omega)
  have HRR := Lib.hid hR
  rw [← hR]
  clear hR
  go_wp2
  go_ret
  refine ⟨?_, hb02⟩
  rw [← HPR.out, HQQ.out, HRR.out]
  show Ending.returned (.string ((⟨(figsL (v / 100000000) 1).toArray⟩ ++ ⟨[46].toArray⟩) ++ ⟨(figsL (v % 100000000) 8).toArray⟩)) = _
  rw [str_app, str_app]

theorem cut_index : ∀ (l : List UInt8), Lib.indexByte l 46 = if (cutDot l).2.2 then ((cutDot l).1.length : Int) else -1
  | [] => rfl
  | c :: l => by
    have ih := cut_index l
    by_cases hc : c = 46
    · subst hc
      simp [Lib.indexByte, cutDot]
    · simp only [Lib.indexByte, cutDot, hc, if_false]
      rw [ih, if_neg (by simpa using hc)]
      cases (cutDot l).2.2 with
      | false => rfl
      | true =>
        simp only [if_true, List.length_cons]
        rw [if_neg (by rw [beq_iff_eq]; omega)]
        push_cast
        rfl

def cutA (s : ByteArray) : ByteArray := ⟨(cutDot s.data.toList).1.toArray⟩
def cutB (s : ByteArray) : ByteArray := ⟨(cutDot s.data.toList).2.1.toArray⟩
/-- What Cut answers. -/
def CutEnd (s : ByteArray) (w : World) (e : Ending) (w' : World) : Prop := e = .returned (.tuple #[.string (cutA s), .string (cutB s), .bool (cutDot s.data.toList).2.2]) ∧ ∃ k, w' = w.drewN k

theorem cut_head {s : ByteArray} {h r : List UInt8} {c : UInt8} (e : s.data.toList = h ++ c :: r) : s.extract 0 h.length = ⟨h.toArray⟩ := by
  apply ByteArray.ext
  apply Array.toList_inj.1
  simp [e]
theorem cut_tail {s : ByteArray} {h r : List UInt8} {c : UInt8} (e : s.data.toList = h ++ c :: r) : s.extract (h.length + 1) s.size = ⟨r.toArray⟩ := by
  apply ByteArray.ext
  apply Array.toList_inj.1
  have hl : s.data.size = h.length + (r.length + 1) := by
    have := congrArg List.length e
    simpa using this
  simp only [ByteArray.data_extract, Array.toList_extract]
  rw [List.extract_eq_take_drop]
  have : s.size = h.length + 1 + r.length := by
    show s.data.size = _
    omega
  rw [this]
  have e2 : h ++ c :: r = (h ++ [c]) ++ r := by simp
  rw [e, e2, List.drop_left' (by simp)]
  exact List.take_of_length_le (by omega)

set_option maxHeartbeats 1000000 in
theorem innerCut_any (s : ByteArray) (w : World) (hs : s.size ≤ 1000000) :
    Calls Tryd.prog 33 #[.string s, .string ⟨#[46]⟩] w (CutEnd s w) := by
  obtain ⟨E, hE⟩ : ∃ E, E = CutEnd s w := ⟨_, rfl⟩
  rw [← hE]
  have HE := Lib.hid hE
  clear hE
  have hci := cut_index s.data.toList
  cases hb : (cutDot s.data.toList).2.2 with
  | false =>
    rw [hb] at hci
    obtain ⟨hcd, _⟩ := cutDot_false hb
    have HCI : Hid (Lib.indexByte s.data.toList 46 = -1) := hci
    have HCD := Lib.hid hcd
    clear hci hb hcd
    go_enter Tryd.func33, Tryd.ntmps33
    go_wp2_with fail
    refine (Tryd.stringslite_Index_one s 46 _).mono ?_
    rintro e w1 ⟨rfl, rfl⟩
    rw [HCI.out]
    go_wp2
    rw [HE.out]
    unfold CutEnd cutA cutB
    rw [HCD.out]
    exact ⟨rfl, 0, rfl⟩
  | true =>
    rw [hb] at hci
    obtain ⟨he, _⟩ := cutDot_true hb
    obtain ⟨a, ha⟩ : ∃ a, (cutDot s.data.toList).1 = a := ⟨_, rfl⟩
    obtain ⟨b, hbb⟩ : ∃ b, (cutDot s.data.toList).2.1 = b := ⟨_, rfl⟩
    rw [ha, hbb] at he
    rw [ha] at hci
    have hlen : s.size = a.length + (b.length + 1) := by rw [size_list, he]; simp
    have HCI : Hid (Lib.indexByte s.data.toList 46 = (a.length : Int)) := hci
    have HH := Lib.hid (cut_head he)
    have HT := Lib.hid (cut_tail he)
    have HR : Hid (cutA s = ⟨a.toArray⟩ ∧ cutB s = ⟨b.toArray⟩ ∧ (cutDot s.data.toList).2.2 = true) := by refine ⟨?_, ?_, hb⟩; unfold cutA; rw [ha]; unfold cutB; rw [hbb]
    obtain ⟨k, hk⟩ : ∃ k, k = a.length := ⟨_, rfl⟩
    rw [← hk] at HCI HH HT
    have hks : k + 1 ≤ s.size := by omega
    have hk1 : (k : Int) ≤ (s.size : Int) := by omega
    have hk2 : (k : Int) + 1 ≤ (s.size : Int) := by omega
    clear hci hb he ha hbb hlen hk
    go_enter Tryd.func33, Tryd.ntmps33
    go_wp2_with fail
    refine (Tryd.stringslite_Index_one s 46 _).mono ?_
    rintro e w1 ⟨rfl, rfl⟩
    rw [HCI.out]
    have hw1 : IntKind.i64.wrap ((k : Int) + 1) = (k : Int) + 1 := by rw [IntKind.wrap_i64]; omega
    have hw2 : (0 : Int) ≤ (k : Int) + 1 := by omega
    have hw3 : ((k : Int) + 1).toNat = k + 1 := by omega
    go_wp2_with fail
    go_quiet (fail)
    clear hw1 hw2 hw3
    go_wp2
    rw [HE.out]
    unfold CutEnd
    rw [HR.out.1, HR.out.2.1, HR.out.2.2, ← HH.out, ← HT.out]
    exact ⟨rfl, nq, rfl⟩

set_option maxHeartbeats 1000000 in
theorem cut_any (s : ByteArray) (w : World) (hs : s.size ≤ 1000000) :
    Calls Tryd.prog 23 #[.string s, .string ⟨#[46]⟩] w (CutEnd s w) := by
  go_enter Tryd.func23, Tryd.ntmps23
  go_wp2_with fail
  refine (innerCut_any s _ hs).mono ?_
  rintro e w1 ⟨rfl, k, rfl⟩
  go_wp2
  go_ret3
  exact ⟨rfl, k, rfl⟩

theorem isFig_any (r : Nat) (w : World) :
    Calls Tryd.prog 34 #[.int .i32 (r : Int)] w fun e w' => e = .returned (.bool (decide (48 ≤ r) && decide (r ≤ 57))) ∧ w' = w := by
  by_cases h1 : 48 ≤ r
  · have h1' : (48 : Int) ≤ (r : Int) := by omega
    by_cases h2 : r ≤ 57
    · have h2' : (r : Int) ≤ 57 := by omega
      go_enter Tryd.func34, Tryd.ntmps34
      go_wp2
      go_ret
      exact ⟨by simp [h1, h2], rfl⟩
    · have h2' : ¬ (r : Int) ≤ 57 := by omega
      go_enter Tryd.func34, Tryd.ntmps34
      go_wp2
      go_ret
      exact ⟨by simp, rfl⟩
  · have h1' : ¬ (48 : Int) ≤ (r : Int) := by omega
    go_enter Tryd.func34, Tryd.ntmps34
    go_wp2
    go_ret
    exact ⟨by simp, rfl⟩

theorem figB_bad {l : List UInt8} {k : Nat} (hk : k < l.length) (h : isDig l[k] = false) : figB l = false :=
  figB_not fun ha => by
    have := List.all_eq_true.1 ha _ (List.getElem_mem hk)
    rw [h] at this
    cases this

set_option maxHeartbeats 1000000 in
theorem figures_is (s : ByteArray) (w : World) (hs : s.size ≤ 1000000) :
    Calls Tryd.prog 24 #[.string s] w fun e w' => e = .returned (.bool (figB s.data.toList)) ∧ Below w.heap.size w w' := by
  have HS := Lib.hid (size_list s)
  obtain ⟨E, hE⟩ : ∃ E : Ending → World → Prop, E = fun e w' => e = .returned (.bool (figB s.data.toList)) ∧ Below w.heap.size w w' := ⟨_, rfl⟩
  rw [← hE]
  have HE := Lib.hid hE
  clear hE
  have HB : Hid (∀ k, Below w.heap.size w (w.iter s k)) := fun k => (Below.refl _ _).alloc (Nat.le_refl _) _
  go_enter Tryd.func24, Tryd.ntmps24
  go_wp2
  go_loopw [] (fun wr => ∃ k : Nat, k ≤ s.size ∧ wr = w.iter s k ∧ Hid (∀ j (hj : j < s.data.toList.length), j < k → isDig (s.data.toList[j]'hj) = true)) (fun w' => s.size - w'.iterPos w.heap.size)
  case atStart => exact ⟨0, by omega, rfl, fun j hj h0 => by omega⟩
  case round =>
    obtain ⟨k, hk, rfl, hD⟩ := hrel
    by_cases hlt : k < s.size
    · have hkl : k < s.data.toList.length := by rw [← HS.out]; exact hlt
      have hg := get_list s k hlt
      obtain ⟨m, hm⟩ : ∃ m : Nat, s[k].toNat = m := ⟨_, rfl⟩
      have HM : Hid ((s.data.toList[k]'hkl).toNat = m) := by
        show (s.data.toList[k]'hkl).toNat = m
        rw [← hg]; exact hm
      clear hg
      by_cases ha : m < 128
      · have hnx := run_next_ascii (P := Tryd.prog) w s k 0 hlt (by rw [hm]; exact ha)
        rw [hm] at hnx
        clear hm
        go_wp2_with fail
        refine (isFig_any m _).mono ?_
        rintro e w1 ⟨rfl, rfl⟩
        clear hnx
        by_cases hf : 48 ≤ m ∧ m ≤ 57
        · rw [show (decide (48 ≤ m) && decide (m ≤ 57)) = true by simp; exact hf]
          have HN : Hid (∀ j (hj : j < s.data.toList.length), j < k + 1 → isDig (s.data.toList[j]'hj) = true) := fun j hj h1 => by
            by_cases hjk : j = k
            · subst hjk
              unfold isDig
              rw [HM.out]
              simp
              exact hf
            · exact hD.out j hj (by omega)
          go_wp2
          go_roundw
          case rel => exact ⟨k + 1, by omega, rfl, HN⟩
          case measure => simp; omega
        · rw [show (decide (48 ≤ m) && decide (m ≤ 57)) = false by simp; omega]
          have HN : Hid (figB s.data.toList = false) := figB_bad hkl (by unfold isDig; rw [HM.out]; simp; omega)
          go_wp2
          rw [HE.out]
          exact ⟨by rw [HN.out]; rfl, HB.out _⟩
      · have hnx := run_next_any (P := Tryd.prog) w s k 0 hlt
        have hdh := (decode_high s k hlt (by rw [hm]; omega)).1
        obtain ⟨r, hr⟩ : ∃ r, (Utf8.decode s k).1 = r := ⟨_, rfl⟩
        obtain ⟨d, hd⟩ : ∃ d, (Utf8.decode s k).2 = d := ⟨_, rfl⟩
        rw [hr] at hnx hdh
        rw [hd] at hnx
        clear hm hr hd
        go_wp2_with fail
        refine (isFig_any r _).mono ?_
        rintro e w1 ⟨rfl, rfl⟩
        clear hnx
        rw [show (decide (48 ≤ r) && decide (r ≤ 57)) = false by simp; omega]
        have HN : Hid (figB s.data.toList = false) := figB_bad hkl (by unfold isDig; rw [HM.out]; simp; omega)
        go_wp2
        rw [HE.out]
        exact ⟨by rw [HN.out]; rfl, HB.out _⟩
    · have hnx := run_next_end (P := Tryd.prog) w s k 0 hlt
      have HA : Hid (s.data.toList.all isDig = true) := by
        show _ = _
        rw [List.all_eq_true]
        intro x hx
        obtain ⟨j, hj, rfl⟩ := List.getElem_of_mem hx
        exact hD.out j hj (by rw [← HS.out] at hj; omega)
      clear hD
      by_cases h0 : s.size = 0
      · have HN : Hid (figB s.data.toList = false) := by
          show _ = _
          have h1 := HS.out
          rw [h0] at h1
          rw [List.eq_nil_of_length_eq_zero h1.symm]
          rfl
        have hemp := empty_of_size h0
        go_wp2
        rw [HE.out]
        exact ⟨by rw [HN.out]; rfl, HB.out _⟩
      · have HN : Hid (figB s.data.toList = true) := figB_of HA.out (by intro e; have h1 := HS.out; rw [e] at h1; exact h0 h1)
        have hemp := nonempty_of_size (s := s) (by omega)
        go_wp2
        rw [HE.out]
        exact ⟨by rw [HN.out]; rfl, HB.out _⟩

end Go.Proofs.YtpnghjfcfeaemaaDoor
