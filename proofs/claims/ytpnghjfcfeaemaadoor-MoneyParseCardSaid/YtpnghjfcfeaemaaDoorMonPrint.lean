/-
  The walks over Print of money and over the reference's Figures and Print.
-/
import Derived.Test.YtpnghjfcfeaemaaDoorMonSum
import Derived.Test.YtpnghjfcfeaemaaDoorMonBackP
import Derived.Handy
set_option linter.unusedVariables false
namespace Go.Proofs.YtpnghjfcfeaemaaDoor
open Go.RowKit

theorem rep_zeros (k : Nat) : Lib.repeatL (⟨#[48]⟩ : ByteArray).data.toList k = List.replicate k 48 := by
  induction k with
  | zero => rfl
  | succ k ih => show [48] ++ Lib.repeatL _ k = _; rw [ih]; rfl

theorem str_app (a b : List UInt8) : (⟨a.toArray⟩ : ByteArray) ++ ⟨b.toArray⟩ = ⟨(a ++ b).toArray⟩ := by
  apply ByteArray.ext
  simp

set_option maxHeartbeats 1000000 in
theorem print_any (v : Nat) (w : World) (hv : v < 18446744073709551616) (ht : Tab w) :
    Calls Tryd.prog 14 #[.int .u64 (v : Int)] w fun e w' => e = .returned (.string ⟨(printL v).toArray⟩) ∧ Below w.heap.size w w' := by
  obtain ⟨p, hp⟩ : ∃ p, p = v % 100000000 := ⟨_, rfl⟩
  obtain ⟨q, hq⟩ : ∃ q, q = v / 100000000 := ⟨_, rfl⟩
  have hp1 : p < 100000000 := by omega
  have hl8 := dec_len8 hp1
  have hq1 : q < 18446744073709551616 := by omega
  have HPR : Hid (printL v = Lib.decDigits q ++ [46] ++ (List.replicate (8 - (Lib.decDigits p).length) 48 ++ Lib.decDigits p)) := by
    show _ = _
    rw [hp, hq]; rfl
  have HP : Hid ((v : Int) % 100000000 = (p : Int)) := by show _ = _; omega
  have HQ : Hid ((v : Int) / 100000000 = (q : Int)) := by show _ = _; omega
  clear hp hq
  go_enter Tryd.func14, Tryd.ntmps14
  go_wp2_with fail
  rw [HP.out]
  refine (format_any p (by omega) _ ht).mono ?_
  rintro e w1 ⟨rfl, hb1⟩
  obtain ⟨P, hP⟩ : ∃ P : ByteArray, P = ⟨(Lib.decDigits p).toArray⟩ := ⟨_, rfl⟩
  have hPs : P.size = (Lib.decDigits p).length := by rw [hP]; show (Lib.decDigits p).toArray.size = _; simp
  obtain ⟨k, hk⟩ : ∃ k, k = (Lib.decDigits p).length := ⟨_, rfl⟩
  rw [← hk] at hPs hl8
  have hPs' : (P.size : Int) = (k : Int) := by omega
  have HPP := Lib.hid hP
  have HK := Lib.hid hk
  rw [← hP]
  clear hP hk hPs
  go_wp2_with fail
  rw [HQ.out]
  refine (format_any q hq1 _ (ht.below hb1 ht.lt)).mono ?_
  rintro e w2 ⟨rfl, hb2⟩
  have hb02 : Below w.heap.size w w2 := hb1.trans (hb2.mono hb1.size)
  clear hb1 hb2
  obtain ⟨Q, hQ⟩ : ∃ Q : ByteArray, Q = ⟨(Lib.decDigits q).toArray⟩ := ⟨_, rfl⟩
  have HQQ := Lib.hid hQ
  have hQs : Q.size ≤ 20 := by rw [hQ]; show (Lib.decDigits q).toArray.size ≤ _; rw [List.size_toArray, Lib.decDigits_length]; exact nDigits_le 19 q (by omega)
  rw [← hQ]
  clear hQ
  have hk8 : (8 : Int) - (k : Int) = ((8 - k : Nat) : Int) := by omega
  have HK8 := Lib.hid hk8
  clear hk8
  go_wp2_with fail
  rw [HK8.out]
  refine (Tryd.strings_Repeat ⟨#[48]⟩ (8 - k) _ (by omega) (by show 1 * (8 - k) ≤ _; omega)).mono ?_
  rintro e w3 ⟨rfl, hb3⟩
  rw [rep_zeros]
  have hb03 : Below w.heap.size w w3 := hb02.trans (hb3.mono hb02.size)
  obtain ⟨R, hR⟩ : ∃ R : ByteArray, R = ⟨(List.replicate (8 - k) 48).toArray⟩ := ⟨_, rfl⟩
  have HRR := Lib.hid hR
  have hRs : R.size ≤ 8 := by rw [hR]; show (List.replicate (8 - k) (48 : UInt8)).toArray.size ≤ _; rw [List.size_toArray, List.length_replicate]; omega
  rw [← hR]
  have hs1 : (Q ++ ⟨#[46]⟩).size ≤ 21 := by rw [ByteArray.size_append]; show Q.size + 1 ≤ _; omega
  have hs2 : (Q ++ ⟨#[46]⟩ ++ R).size ≤ 29 := by rw [ByteArray.size_append]; omega
  clear hR
  go_wp2
  go_ret
  refine ⟨?_, hb03⟩
  rw [HPR.out, HQQ.out, HPP.out, HRR.out, ← HK.out]
  show Ending.returned (.string (((⟨(Lib.decDigits q).toArray⟩ ++ ⟨[46].toArray⟩) ++ ⟨(List.replicate (8 - k) 48).toArray⟩) ++ ⟨(Lib.decDigits p).toArray⟩)) = _
  rw [str_app, str_app, str_app, List.append_assoc]

theorem figsL_len : ∀ (k n least : Nat), n < 10 ^ k → (figsL n least).length ≤ k + least
  | 0, n, 0, h => by
    have h0 : n = 0 := by simpa using h
    subst h0
    rw [figsL_stop]
    simp
  | 0, n, least + 1, h => by
    have h0 : n = 0 := by simpa using h
    subst h0
    rw [figsL_go (by omega), List.length_append, List.length_singleton]
    have := figsL_len 0 0 least (by simp)
    simp only [Nat.zero_div, Nat.add_sub_cancel] at *
    omega
  | k + 1, n, least, h => by
    by_cases hn : n = 0 ∧ least = 0
    · rw [hn.1, hn.2, figsL_stop]
      simp
    · rw [figsL_go hn, List.length_append, List.length_singleton]
      have := figsL_len k (n / 10) (least - 1) (by rw [Nat.pow_succ] at h; omega)
      omega

theorem strOf {w : World} {B n : Nat} {A : Option Addr} {bs : List UInt8} (h : RdB w B A n bs) (c : Nat) : (convert 41 9 (.slice A n c)).run Tryd.prog w = .ok (.string ⟨bs.toArray⟩) w :=
  h.convert c 41 5 9 Tryd.underlying41 Tryd.underlying5 Tryd.underlying9
theorem rdb_lit (w : World) (cs : Array Value) (bs : List UInt8) (n : Nat) (hn : cs.size = n) (hb : cs.toList = Lib.byteCells bs) (hm : n ≤ maxLen) : RdB (w.alloc (.cells cs 5)) (w.alloc (.cells cs 5)).heap.size (some ⟨w.heap.size, 0, none⟩) n bs := by
  have h := World.ownsRow_lit (base := w.heap.size) (e := 5) (size := 1) w cs n (Nat.le_refl _) hm (by simpa using hn)
  rw [hb] at h
  exact RdB.of_own h

set_option maxHeartbeats 1000000 in
theorem figures_any (n : Nat) (least : Nat) (w : World) (hn : n < 18446744073709551616) (hl : least ≤ 8) :
    Calls Tryd.prog 22 #[.int .u64 (n : Int), .int .i64 (least : Int)] w fun e w' => e = .returned (.string ⟨(figsL n least).toArray⟩) ∧ Below w.heap.size w w' := by
  have HLEN : Hid ((figsL n least).length ≤ 28) := by
    show _ ≤ _
    have := figsL_len 20 n least (by omega)
    omega
  obtain ⟨E, hE⟩ : ∃ E : Ending → World → Prop, E = fun e w' => e = .returned (.string ⟨(figsL n least).toArray⟩) ∧ Below w.heap.size w w' := ⟨_, rfl⟩
  rw [← hE]
  have HE := Lib.hid hE
  clear hE
  go_enter Tryd.func22, Tryd.ntmps22
  go_wp2
  go_loopw [0, 1, 5] (fun a b s wr => ∃ (m : Nat) (t : Int) (S : ByteArray) (r : List UInt8), a = .int .u64 (m : Int) ∧ b = .int .i64 t ∧ s = .string S ∧ Hid (S = ⟨r.toArray⟩) ∧ Hid (figsL n least = figsL m t.toNat ++ r) ∧ Hid (t = (least : Int) - (r.length : Int)) ∧ m < 18446744073709551616 ∧ -28 ≤ t ∧ t ≤ 8 ∧ S.size ≤ 28 ∧ Below w.heap.size w wr)
    (fun a b _ _ => (intOf a).toNat + (intOf b).toNat)
  case atStart => exact ⟨n, least, _, [], rfl, rfl, rfl, rfl, by show figsL n least = figsL n (least : Int).toNat ++ []; rw [List.append_nil, Int.toNat_natCast], by show (least : Int) = _; simp, hn, by omega, by omega, by decide, Below.refl _ _⟩
  case round =>
    obtain ⟨m, t, S, r, rfl, rfl, rfl, hS, hF, ht, hm, ht1, ht2, hSs, hb⟩ := hrel
    by_cases hgo : 0 < m ∨ 0 < t
    · obtain ⟨d, hd⟩ : ∃ d, d = UInt8.ofNat (48 + m % 10) := ⟨_, rfl⟩
      have hdn : ((d.toNat : Nat) : Int) = 48 + (m : Int) % 10 := by rw [hd, UInt8.toNat_ofNat', Nat.mod_eq_of_lt (by omega)]; omega
      have hcv := strOf (rdb_lit wr #[.int .u8 (48 + (m : Int) % 10)] [d] 1 rfl (by rw [← hdn]; rfl) (by unfold maxLen; omega)) 1
      have hF2 : figsL n least = figsL (m / 10) (t - 1).toNat ++ ([d] ++ r) := by
        rw [hF.out, figsL_go (n := m) (least := t.toNat) (by omega), hd, show t.toNat - 1 = (t - 1).toNat by omega]
        simp
      have hlen : r.length + 1 ≤ 28 := by
        have h1 := HLEN.out
        rw [hF2] at h1
        simp only [List.length_append, List.length_cons, List.length_nil] at h1
        omega
      have HF2 := Lib.hid hF2
      have hS2 : (⟨#[d]⟩ : ByteArray) ++ S = ⟨([d] ++ r).toArray⟩ := by
        rw [hS.out]
        exact str_app [d] r
      have HS2 := Lib.hid hS2
      have hSl : (⟨#[d]⟩ ++ S : ByteArray).size ≤ 28 := by rw [hS2]; show ([d] ++ r).toArray.size ≤ _; rw [List.size_toArray, List.length_append, List.length_singleton]; omega
      have HT2 : Hid (t - 1 = (least : Int) - (([d] ++ r).length : Int)) := by show _ = _; rw [List.length_append, List.length_singleton]; have := ht.out; push_cast; omega
      have hw1 : IntKind.u64.wrap (48 + (m : Int) % 10) = 48 + (m : Int) % 10 := by rw [IntKind.wrap_u64]; omega
      have hw2 : IntKind.u8.wrap (48 + (m : Int) % 10) = 48 + (m : Int) % 10 := by simp [IntKind.wrap, IntKind.signed, IntKind.bits]; omega
      have ht3 : -28 ≤ t - 1 := by have := HT2.out; rw [List.length_append, List.length_singleton] at this; push_cast at this; omega
      clear hd hdn hF2 hlen hS2 hF
      have hbn : Below w.heap.size w (wr.alloc (.cells #[.int .u8 (48 + (m : Int) % 10)] 5)) := hb.alloc hb.size _
      rcases (show 0 < m ∨ (m = 0 ∧ 0 < t) by omega) with hm0 | ⟨hm0, ht0⟩
      · have hm0' : (0 : Int) < (m : Int) := by omega
        go_wp2
        go_roundw
        case rel => exact ⟨m / 10, t - 1, _, [d] ++ r, by simp, rfl, rfl, HS2, HF2, HT2, by omega, ht3, by omega, hSl, hbn⟩
        case measure => simp [intOf]; omega
      · have ht0' : (0 : Int) < t := by omega
        subst hm0
        simp only [Int.natCast_zero, Int.zero_emod, Int.add_zero, Nat.zero_div] at hcv hbn HF2
        clear hw1 hw2
        go_wp2
        go_roundw
        case rel => exact ⟨0, t - 1, _, [d] ++ r, by simp, rfl, rfl, HS2, HF2, HT2, by omega, ht3, by omega, hSl, hbn⟩
        case measure => simp [intOf]; omega
    · have hm0 : m = 0 := by omega
      have ht0 : t ≤ 0 := by omega
      have HFF : Hid (S = ⟨(figsL n least).toArray⟩) := by
        show _ = _
        rw [hS.out, hF.out, hm0, show t.toNat = 0 by omega, figsL_stop, List.nil_append]
      subst hm0
      have ht0' : ¬ (0 : Int) < t := by omega
      go_wp2
      rw [HE.out]
      exact ⟨by rw [HFF.out], hb⟩

end Go.Proofs.YtpnghjfcfeaemaaDoor
