/-
  The walk over the law MoneyBack.
-/
import Derived.Test.YtpnghjfcfeaemaaDoorMonArg
set_option linter.unusedVariables false
namespace Go.Proofs.YtpnghjfcfeaemaaDoor
open Go.RowKit

def strLen : Value → Nat
  | .string s => s.size
  | _ => 0
theorem strLen_string (s : ByteArray) : strLen (.string s) = s.size := rfl

theorem take_list (s : ByteArray) (p : Nat) : (s.extract 0 p).data.toList = s.data.toList.take p := by
  simp only [ByteArray.data_extract, Array.toList_extract]
  rw [List.extract_eq_take_drop]
  simp

theorem backV_big {v : Nat} (h : 2100000000000000 < v) : backV v = (0, 31) := by unfold backV; rw [if_pos h]
theorem backV_ok {v : Nat} (h : ¬ 2100000000000000 < v) : backV v = (v, 0) := by unfold backV; rw [if_neg h]

set_option maxHeartbeats 4000000 in
theorem lawBack (v : Nat) (w : World) (ht : Tab w) (hv : v < 18446744073709551616) :
    Calls Tryd.prog 6 #[.int .u64 (v : Int)] w fun e w' => e = .returned (.bool true) ∧ Below w.heap.size w w' := by
  have AE : Hid (∀ {w5 : World}, Below w.heap.size w w5 → Tab w5) := fun hb => ht.below hb ht.lt
  obtain ⟨S, hS⟩ : ∃ S : ByteArray, S = ⟨(printL v).toArray⟩ := ⟨_, rfl⟩
  have hSl : S.data.toList = printL v := by rw [hS]
  have hSs : S.size ≤ 100 := by
    rw [size_list, hSl, printL_length, Lib.decDigits_length]
    have := nDigits_le 19 (v / 100000000) (by omega)
    omega
  have HSL := Lib.hid hSl
  have HS := Lib.hid hS
  clear hS hSl
  go_enter Tryd.func6, Tryd.ntmps6
  go_wp2_with fail
  refine (print_any v _ hv ht).mono ?_
  rw [← HS.out]
  rintro e w1 ⟨rfl, hb1⟩
  go_wp2_with fail
  refine (parse_any S _ (by omega)).mono ?_
  rw [HSL.out, parse_print]
  by_cases hm : 2100000000000000 < v
  · rw [backV_big hm]
    rintro e w2 ⟨rfl, hb2⟩
    have hb02 : Below w.heap.size w w2 := hb1.trans (hb2.mono hb1.size)
    go_wp2_with fail
    refine (check_any v _).mono ?_
    rintro e w3 ⟨rfl, rfl⟩
    rw [if_pos hm]
    go_wp2_with fail
    refine (alive_any _ (AE.out hb02)).mono ?_
    rintro e w4 ⟨rfl, hb4⟩
    have hb04 : Below w.heap.size w w4 := hb02.trans (hb4.mono hb02.size)
    go_wp2
    go_ret
    exact ⟨rfl, hb04⟩
  · have HBV := Lib.hid (backV_ok hm)
    rw [HBV.out]
    rintro e w2 ⟨rfl, hb2⟩
    have hb02 : Below w.heap.size w w2 := hb1.trans (hb2.mono hb1.size)
    clear hb1 hb2
    go_wp2_with fail
    refine (check_any v _).mono ?_
    rintro e w3 ⟨rfl, rfl⟩
    rw [if_neg hm]
    clear hm
    go_wp2
    go_loop [6] (fun x => ∃ (t : ByteArray), x = .string t ∧ t.size ≤ 100 ∧ Hid (t.size ≤ (printL v).length) ∧ Hid (t.data.toList = (printL v).take t.size) ∧ Hid (∀ j, t.size ≤ j → j < (printL v).length → (printL v)[j]? = some 48)) (fun x => strLen x)
    case atStart => exact ⟨S, rfl, hSs, by show _ ≤ _; rw [size_list, HSL.out]; exact Nat.le_refl _, by show _ = _; rw [size_list, HSL.out, List.take_length], fun j h1 h2 => by rw [size_list, HSL.out] at h1; omega⟩
    case round =>
      obtain ⟨t, rfl, hts, hk, htl, hz⟩ := hrel
      have hpos := strip_at hk.out hz.out
      obtain ⟨p, hp⟩ : ∃ p, t.size = p + 1 := ⟨t.size - 1, by omega⟩
      have hpl : p < t.data.toList.length := by rw [← size_list]; omega
      have hps : p < t.size := by omega
      have hg := get_list t p hps
      obtain ⟨m, hm⟩ : ∃ m : Nat, t[p].toNat = m := ⟨_, rfl⟩
      have hm' : (t.data[p]'hps).toNat = m := hm
      have HAT : Hid ((printL v)[p]? = some (UInt8.ofNat m)) := by
        show _ = _
        have h1 : t.data.toList[p]? = (printL v)[p]? := by rw [htl.out, List.getElem?_take_of_lt hps]
        rw [← h1, List.getElem?_eq_getElem hpl, ← hm, hg]
        simp
      have hm256 : m < 256 := by rw [← hm]; exact UInt8.toNat_lt _
      have HTK : Hid ((t.extract 0 p).data.toList = (printL v).take p) := by
        show _ = _
        rw [take_list, htl.out, List.take_take, Nat.min_eq_left (by omega)]
      have HSZ : Hid ((t.extract 0 p).size = p) := by
        show _ = _
        rw [size_list, HTK.out, List.length_take]
        have := hk.out
        omega
      clear hg hpos
      by_cases h48 : m = 48
      · subst h48
        have HZ2 : Hid (∀ j, p ≤ j → j < (printL v).length → (printL v)[j]? = some 48) := fun j h1 h2 => by
          by_cases hj : j = p
          · subst hj; exact HAT.out
          · exact hz.out j (by omega) h2
        have hHZ : (t.extract 0 p).size ≤ 100 := by rw [HSZ.out]; omega
        have HK2 : Hid ((t.extract 0 p).size ≤ (printL v).length) := by show _ ≤ _; rw [HSZ.out]; have := hk.out; omega
        go_wp2
        go_round
        case rel => exact ⟨_, rfl, hHZ, HK2, by show _ = _; rw [HSZ.out]; exact HTK.out, fun j h1 h2 => HZ2.out j (by rw [HSZ.out] at h1; exact h1) h2⟩
        case measure => rw [strLen_string, strLen_string, HSZ.out]; omega
      · have h48' : ¬ (m : Int) = 48 := by omega
        by_cases h46 : m = 46
        · subst h46
          have HPS : Hid (parseV ((printL v).take p) = (v, 0)) := by
            show _ = _
            have := parse_strip_dot hk.out hz.out (by rw [show t.size - 1 = p by omega]; exact HAT.out)
            rw [show t.size - 1 = p by omega] at this
            rw [this, HBV.out]
          go_wp2_with fail
          refine (parse_any (t.extract 0 p) _ (by rw [HSZ.out]; omega)).mono ?_
          rw [HTK.out, HPS.out]
          rintro e w4 ⟨rfl, hb4⟩
          have hb04 : Below w.heap.size w w4 := hb02.trans (hb4.mono hb02.size)
          go_wp2_with fail
          refine (alive_any _ (AE.out hb04)).mono ?_
          rintro e w5 ⟨rfl, hb5⟩
          have hb05 : Below w.heap.size w w5 := hb04.trans (hb5.mono hb04.size)
          go_wp2
          go_ret
          exact ⟨rfl, hb05⟩
        · have h46' : ¬ (m : Int) = 46 := by omega
          have HPS : Hid (parseV ((printL v).take t.size) = (v, 0)) := by
            show _ = _
            have := parse_strip hk.out hz.out (by
              rw [show t.size - 1 = p by omega, HAT.out]
              intro e
              have e2 := Option.some.inj e
              have := congrArg UInt8.toNat e2
              rw [UInt8.toNat_ofNat', Nat.mod_eq_of_lt hm256] at this
              exact h46 this)
            rw [this, HBV.out]
          go_wp2_with fail
          refine (parse_any t _ (by omega)).mono ?_
          rw [htl.out, HPS.out]
          rintro e w4 ⟨rfl, hb4⟩
          have hb04 : Below w.heap.size w w4 := hb02.trans (hb4.mono hb02.size)
          go_wp2_with fail
          refine (alive_any _ (AE.out hb04)).mono ?_
          rintro e w5 ⟨rfl, hb5⟩
          have hb05 : Below w.heap.size w w5 := hb04.trans (hb5.mono hb04.size)
          go_wp2
          go_ret
          exact ⟨rfl, hb05⟩

end Go.Proofs.YtpnghjfcfeaemaaDoor
