/-
  The walks over Encode of bech where there is no word, and over the reference's Encode.
-/
import Derived.Test.YtkacplgfkokdcaaBechEnc
set_option linter.unusedVariables false
namespace Go.Proofs.Ytkacplgfkokdcaa
open Go.RowKit

/-- What Encode answers. -/
def EncEnd (r : Option (List UInt8)) (w : World) (e : Ending) (w' : World) : Prop :=
  (match r with | some l => e = .returned (.tuple #[.string ⟨l.toArray⟩, .int .i64 0]) | none => e = .returned (.tuple #[.string ⟨#[]⟩, .int .i64 1])) ∧ Below w.heap.size w w'

set_option maxHeartbeats 1000000 in
theorem encode_any (s : ByteArray) (A : Option Addr) (n c : Nat) (bs : List UInt8) (w : World) (h : RdB w w.heap.size A n bs) (hs : s.size ≤ 1000000) (hn : n ≤ 1000000) :
    Calls Try.prog 19 #[.string s, .slice A n c] w (EncEnd (encL s.data.toList bs) w) := by
  cases hh : headOk s.data.toList with
  | false =>
    have hr : encL s.data.toList bs = none := by unfold encL; rw [hh]; rfl
    rw [hr]
    have HH := Lib.hid hh
    clear hr hh
    go_enter Try.func19, Try.ntmps19
    go_wp2_with fail
    refine (isHead_any s _ hs).mono ?_
    rintro e w1 ⟨rfl, hb1⟩
    rw [HH.out]
    go_wp2
    go_ret2
    exact ⟨rfl, hb1⟩
  | true =>
    cases hd : dataOk bs with
    | false =>
      have hr : encL s.data.toList bs = none := by unfold encL; rw [hh, hd]; rfl
      rw [hr]
      have HH := Lib.hid hh
      have HD := Lib.hid hd
      have H := Lib.hid h
      clear hr hh hd h
      go_enter Try.func19, Try.ntmps19
      go_wp2_with fail
      refine (isHead_any s _ hs).mono ?_
      rintro e w1 ⟨rfl, hb1⟩
      rw [HH.out]
      go_wp2_with fail
      refine (isData_any A n c bs _ ((H.out.below hb1).more hb1.size) hn).mono ?_
      rintro e w2 ⟨rfl, hb2⟩
      rw [HD.out]
      go_wp2
      go_ret2
      exact ⟨rfl, hb1.trans (hb2.mono hb1.size)⟩
    | true =>
      have hr : encL s.data.toList bs = some (encW s.data.toList bs) := by unfold encL; rw [hh, hd]; rfl
      rw [hr]
      exact (encode_some s A n c bs w h hh hd).mono fun e w' h' => h'

theorem letters_cut (i : Nat) (hi : i < 32) : (⟨#[113, 112, 122, 114, 121, 57, 120, 56, 103, 102, 50, 116, 118, 100, 119, 48, 115, 51, 106, 110, 53, 52, 107, 104, 99, 101, 54, 109, 117, 97, 55, 108]⟩ : ByteArray).extract i (i + 1) = ⟨#[letter i]⟩ := by
  have : ∀ j : Fin 32, (⟨#[113, 112, 122, 114, 121, 57, 120, 56, 103, 102, 50, 116, 118, 100, 119, 48, 115, 51, 106, 110, 53, 52, 107, 104, 99, 101, 54, 109, 117, 97, 55, 108]⟩ : ByteArray).extract j.1 (j.1 + 1) = ⟨#[letter j.1]⟩ := by decide
  exact this ⟨i, hi⟩

theorem str_more (a b : List UInt8) (c : UInt8) (h : b = a ++ [c]) : (⟨a.toArray⟩ : ByteArray) ++ (⟨#[c]⟩ : ByteArray) = ⟨b.toArray⟩ := by
  subst h
  apply ByteArray.ext
  simp

theorem encTo_next {h d : List UInt8} {k m : Nat} (hk : k < d.length) (hm : d[k].toNat = m) : encTo h d (k + 1) = encTo h d k ++ [letter m] := by
  unfold encTo
  rw [List.take_succ_eq_append_getElem hk, lettersOf_append, ← List.append_assoc]
  simp [lettersOf, hm]

theorem encSix_next {h d : List UInt8} {k v : Nat} (hk : k < 6) (hv : (digits6 (lackOf h d))[k]? = some v) : encSix h d (k + 1) = encSix h d k ++ [letter v] := by
  unfold encSix
  have hl : k < (six (lackOf h d)).length := hk
  rw [List.take_succ_eq_append_getElem hl, ← List.append_assoc]
  congr 2
  have : (six (lackOf h d))[k]? = some (letter v) := by unfold six; rw [List.getElem?_map, hv]; rfl
  rw [List.getElem?_eq_getElem hl] at this
  exact Option.some.inj this

theorem enc_first (s : ByteArray) (d : List UInt8) : s ++ ⟨#[49]⟩ = ⟨(encTo s.data.toList d 0).toArray⟩ := by
  have h := str_more s.data.toList (encTo s.data.toList d 0) 49 (by simp [encTo, lettersOf])
  rw [← h]

set_option maxHeartbeats 1000000 in
theorem refEncode_some (s : ByteArray) (A : Option Addr) (n c : Nat) (bs : List UInt8) (w : World) (h : RdB w w.heap.size A n bs) (hh : headOk s.data.toList = true) (hd : dataOk bs = true) :
    Calls Try.prog 20 #[.string s, .slice A n c] w fun e w' => e = .returned (.tuple #[.string ⟨(encW s.data.toList bs).toArray⟩, .int .i64 0]) ∧ Below w.heap.size w w' := by
  have HS := Lib.hid (size_list s)
  have HL := Lib.hid h.len
  have H := Lib.hid h
  have h20 : s.size ≤ 20 := by
    simp only [headOk, Bool.and_eq_true, decide_eq_true_eq] at hh
    rw [HS.out]; omega
  have h80 : n ≤ 80 := by
    simp only [dataOk, Bool.and_eq_true, decide_eq_true_eq] at hd
    rw [← HL.out]; omega
  have HSM : Hid (Small5 bs) := by
    simp only [dataOk, Bool.and_eq_true] at hd
    exact small_all.1 hd.1
  have HOK : Hid ((headOk s.data.toList && dataOk bs) = true) := by
    show _ = true
    rw [hh, hd]; rfl
  clear h hh hd
  obtain ⟨i0, hi, hz0, hz1, hz2⟩ := info_parts infoByte
  go_enter Try.func20, Try.ntmps20
  go_wp2_with fail
  refine (refMay_any s A n c bs _ H.out (by omega) (by omega)).mono ?_
  rintro e w1 ⟨rfl, hb1⟩
  rw [HOK.out]
  go_wp2_with fail
  refine (refHeaded_any s _ (by omega)).mono ?_
  intro e w2 h2
  obtain ⟨A2, c2, rfl, hown2, hb2⟩ := h2
  have hb02 : Below w.heap.size w w2 := hb1.trans (hb2.mono hb1.size)
  have HO2 := Lib.hid hown2
  have hs1 := Lib.hid hb1.size
  have hb1' := hb1
  clear hown2 hb1
  go_wp2_with (at_builtin; refine wpList_append_any w2 rfl _ _ 22 rfl w1.heap.size 5 i0 (.int .u8 0) 1 1 Try.underlying22 hi hz0 hz1 hz2 rfl (by decide) _ _ _ rfl HO2.out w.heap.size A n c (Lib.byteCells bs) rfl (H.out.below hb02) (byteCells_one bs) (by unfold maxLen; omega) (by omega) hb2.size ?_)
  intro v3 w3 hown3 hg3 _
  have hb13 : Below w1.heap.size w1 w3 := hb2.grown hg3 hb2.size (fun k hk => (HO2.out.lt k hk).1)
  have HO3 := Lib.hid hown3
  clear hown3 hg3 hb02 hb2 HO2
  have hrz := Lib.hid (rdb_lit w3 #[.int .u8 0, .int .u8 0, .int .u8 0, .int .u8 0, .int .u8 0, .int .u8 0] nought6 6 rfl rfl (by unfold maxLen; omega))
  go_wp2_with (at_builtin; refine wpList_append_any (w3.alloc (.cells #[.int .u8 0, .int .u8 0, .int .u8 0, .int .u8 0, .int .u8 0, .int .u8 0] 5)) rfl _ _ 22 rfl w1.heap.size 5 i0 (.int .u8 0) 1 1 Try.underlying22 hi hz0 hz1 hz2 rfl (by decide) _ _ _ rfl (HO3.out.alloc _) _ _ 6 6 (Lib.byteCells nought6) rfl hrz.out (byteCells_one _) (by unfold maxLen; omega) (by omega) (by have := hb13.size; simp; omega) ?_)
  intro v4 w4 hown4 hg4 _
  have hb14 : Below w1.heap.size w1 w4 := (hb13.alloc hb13.size _).grown hg4 (by have := hb13.size; simp; omega) (fun k hk => (HO3.out.lt k hk).1)
  have hb04 : Below w.heap.size w w4 := (hb1').trans (hb14.mono hs1.out)
  obtain ⟨N, hN⟩ : ∃ N, N = s.size + 1 + s.size + n + 6 := ⟨_, rfl⟩
  rw [← hN] at hown4
  obtain ⟨A4, c4, rfl⟩ : ∃ A4 c4, v4 = .slice A4 N c4 := by
    rcases hown4.2 with ⟨_, h0⟩ | ⟨g, cap, cur, hv, _⟩
    · omega
    · exact ⟨_, _, hv⟩
  rw [← Lib.byteCells_append, ← Lib.byteCells_append] at hown4
  have HR4 := Lib.hid (RdB.of_own hown4)
  have hN1 : N ≤ 1000 := by omega
  clear hown4 hg4 HO3 hrz hb13 hb14 hN hi hz0 hz1 hz2
  go_wp2_with fail
  refine (refCheck_any _ _ _ _ _ HR4.out (by omega)).mono ?_
  rintro e w5 ⟨rfl, hb5⟩
  have hb05 : Below w.heap.size w w5 := hb04.trans (hb5.mono hb04.size)
  obtain ⟨f, hf⟩ : ∃ f, f = bMore 1 (headL s.data.toList ++ (bs ++ nought6)) := ⟨_, rfl⟩
  have hf1 : f < 1073741824 := by rw [hf]; exact bMore_lt _ _ (by omega)
  obtain ⟨L, hL⟩ : ∃ L, L = f ^^^ 734539939 := ⟨_, rfl⟩
  have hL1 : L < 1073741824 := by rw [hL]; exact xor_lt30 hf1 (by omega)
  have HLK : Hid (L = lackOf s.data.toList bs) := by
    show L = _
    unfold lackOf
    rw [hL, hf, List.append_assoc]
  have hxor : bits .xor .u32 (f : Int) 734539939 = (L : Int) := by
    have := u32_xor_nat f 734539939 (by omega) (by omega)
    rw [hL]
    exact this
  rw [← hf]
  clear hf hL hb5 hb04
  go_wp2
  go_loopw [8, 9] (fun v i wr => ∃ (k : Nat) (t : ByteArray), k ≤ n ∧ i = .int .i64 k ∧ v = .string t ∧ Hid (t = ⟨(encTo s.data.toList bs k).toArray⟩) ∧ t.size ≤ 1000 ∧ Below w.heap.size w wr) (fun _ i _ => n - (intOf i).toNat)
  case atStart => exact ⟨0, _, Nat.zero_le _, rfl, rfl, enc_first s bs, by rw [ByteArray.size_append]; show s.size + 1 ≤ _; omega, hb05⟩
  case round =>
    obtain ⟨k, t, hk, rfl, rfl, ht, hts, hb⟩ := hrel
    by_cases hlt : k < n
    · have hkl : k < bs.length := by rw [HL.out]; exact hlt
      obtain ⟨ad, rfl, hadlt, hcell⟩ := (H.out.below hb).at_ hlt
      have hm1 := HSM.out _ (List.getElem_mem hkl)
      obtain ⟨m, hm⟩ : ∃ m : Nat, (bs[k]'hkl).toNat = m := ⟨_, rfl⟩
      rw [hm] at hcell hm1
      have hm32 : (m : Int) < 32 := by omega
      have hw : IntKind.u8.wrap ((m : Int) + 1) = (m : Int) + 1 := by simp [IntKind.wrap, IntKind.signed, IntKind.bits]; omega
      have hcut := letters_cut m hm1
      have HN := Lib.hid (encTo_next (h := s.data.toList) hkl hm)
      clear hm
      go_wp2_with fail
      go_quiet (fail)
      have hbq := below_drewN hb nq
      clear hb
      generalize wr.drewN nq = wq at hbq ⊢
      have HT : Hid (t ++ ⟨#[letter m]⟩ = ⟨(encTo s.data.toList bs (k + 1)).toArray⟩) := by
        show _ = _
        rw [ht.out]
        exact str_more _ _ _ HN.out
      go_wp2
      go_roundw
      case rel => exact ⟨k + 1, _, by omega, by go_num, rfl, HT.out, by rw [HT.out]; have := encTo_length s.data.toList bs (k + 1); rw [← HS.out, HL.out] at this; show (encTo s.data.toList bs (k + 1)).toArray.size ≤ _; rw [List.size_toArray]; omega, hbq⟩
      case measure => simp [intOf]; omega
    · have HT8 : Hid (t = ⟨(encSix s.data.toList bs 0).toArray⟩) := by
        have e : encTo s.data.toList bs k = encSix s.data.toList bs 0 := by
          unfold encTo encSix
          rw [List.take_of_length_le (by rw [HL.out]; omega)]
          simp
        show _ = _
        rw [ht.out, e]
      clear ht
      go_wp2
      go_loopw [8, 10] (fun v i wr => ∃ (k : Nat) (t : ByteArray), k ≤ 6 ∧ i = .int .i64 k ∧ v = .string t ∧ Hid (t = ⟨(encSix s.data.toList bs k).toArray⟩) ∧ t.size ≤ 1000 ∧ Below w.heap.size w wr) (fun _ i _ => 6 - (intOf i).toNat)
      case atStart => exact ⟨0, _, by omega, rfl, rfl, HT8, hts, hb⟩
      case round =>
      clear HT8 hb hk hlt
      obtain ⟨k, t, hk, rfl, rfl, ht, hts, hb⟩ := hrel
      rcases (show k = 0 ∨ k = 1 ∨ k = 2 ∨ k = 3 ∨ k = 4 ∨ k = 5 ∨ k = 6 by omega) with rfl | rfl | rfl | rfl | rfl | rfl | rfl
      · obtain ⟨v, hv⟩ : ∃ v : Nat, L / 33554432 % 32 = v := ⟨_, rfl⟩
        have hv1 : v < 32 := by rw [← hv]; omega
        have hv32 : (v : Int) < 32 := by omega
        have hq : ((L : Int) / 33554432) % 32 = (v : Int) := by rw [← hv]; rfl
        have hw : IntKind.u32.wrap ((v : Int) + 1) = (v : Int) + 1 := by simp [IntKind.wrap, IntKind.signed, IntKind.bits]; omega
        have hcut := letters_cut v hv1
        have HN := Lib.hid (encSix_next (h := s.data.toList) (d := bs) (k := 0) (v := v) (by omega) (by rw [← HLK.out]; show some _ = some v; rw [← hv]))
        clear hv
        have HT : Hid (t ++ ⟨#[letter v]⟩ = ⟨(encSix s.data.toList bs 1).toArray⟩) := by
          show _ = _
          rw [ht.out]
          exact str_more _ _ _ HN.out
        go_wp2
        go_roundw
        case rel => exact ⟨1, _, by omega, by simp, rfl, HT.out, by rw [HT.out]; have := encSix_length s.data.toList bs 1; rw [← HS.out, HL.out] at this; show (encSix s.data.toList bs 1).toArray.size ≤ _; rw [List.size_toArray]; omega, hb⟩
        case measure => simp [intOf]
      · obtain ⟨v, hv⟩ : ∃ v : Nat, L / 1048576 % 32 = v := ⟨_, rfl⟩
        have hv1 : v < 32 := by rw [← hv]; omega
        have hv32 : (v : Int) < 32 := by omega
        have hq : ((L : Int) / 1048576) % 32 = (v : Int) := by rw [← hv]; rfl
        have hw : IntKind.u32.wrap ((v : Int) + 1) = (v : Int) + 1 := by simp [IntKind.wrap, IntKind.signed, IntKind.bits]; omega
        have hcut := letters_cut v hv1
        have HN := Lib.hid (encSix_next (h := s.data.toList) (d := bs) (k := 1) (v := v) (by omega) (by rw [← HLK.out]; show some _ = some v; rw [← hv]))
        clear hv
        have HT : Hid (t ++ ⟨#[letter v]⟩ = ⟨(encSix s.data.toList bs 2).toArray⟩) := by
          show _ = _
          rw [ht.out]
          exact str_more _ _ _ HN.out
        go_wp2
        go_roundw
        case rel => exact ⟨2, _, by omega, by simp, rfl, HT.out, by rw [HT.out]; have := encSix_length s.data.toList bs 2; rw [← HS.out, HL.out] at this; show (encSix s.data.toList bs 2).toArray.size ≤ _; rw [List.size_toArray]; omega, hb⟩
        case measure => simp [intOf]
      · obtain ⟨v, hv⟩ : ∃ v : Nat, L / 32768 % 32 = v := ⟨_, rfl⟩
        have hv1 : v < 32 := by rw [← hv]; omega
        have hv32 : (v : Int) < 32 := by omega
        have hq : ((L : Int) / 32768) % 32 = (v : Int) := by rw [← hv]; rfl
        have hw : IntKind.u32.wrap ((v : Int) + 1) = (v : Int) + 1 := by simp [IntKind.wrap, IntKind.signed, IntKind.bits]; omega
        have hcut := letters_cut v hv1
        have HN := Lib.hid (encSix_next (h := s.data.toList) (d := bs) (k := 2) (v := v) (by omega) (by rw [← HLK.out]; show some _ = some v; rw [← hv]))
        clear hv
        have HT : Hid (t ++ ⟨#[letter v]⟩ = ⟨(encSix s.data.toList bs 3).toArray⟩) := by
          show _ = _
          rw [ht.out]
          exact str_more _ _ _ HN.out
        go_wp2
        go_roundw
        case rel => exact ⟨3, _, by omega, by simp, rfl, HT.out, by rw [HT.out]; have := encSix_length s.data.toList bs 3; rw [← HS.out, HL.out] at this; show (encSix s.data.toList bs 3).toArray.size ≤ _; rw [List.size_toArray]; omega, hb⟩
        case measure => simp [intOf]
      · obtain ⟨v, hv⟩ : ∃ v : Nat, L / 1024 % 32 = v := ⟨_, rfl⟩
        have hv1 : v < 32 := by rw [← hv]; omega
        have hv32 : (v : Int) < 32 := by omega
        have hq : ((L : Int) / 1024) % 32 = (v : Int) := by rw [← hv]; rfl
        have hw : IntKind.u32.wrap ((v : Int) + 1) = (v : Int) + 1 := by simp [IntKind.wrap, IntKind.signed, IntKind.bits]; omega
        have hcut := letters_cut v hv1
        have HN := Lib.hid (encSix_next (h := s.data.toList) (d := bs) (k := 3) (v := v) (by omega) (by rw [← HLK.out]; show some _ = some v; rw [← hv]))
        clear hv
        have HT : Hid (t ++ ⟨#[letter v]⟩ = ⟨(encSix s.data.toList bs 4).toArray⟩) := by
          show _ = _
          rw [ht.out]
          exact str_more _ _ _ HN.out
        go_wp2
        go_roundw
        case rel => exact ⟨4, _, by omega, by simp, rfl, HT.out, by rw [HT.out]; have := encSix_length s.data.toList bs 4; rw [← HS.out, HL.out] at this; show (encSix s.data.toList bs 4).toArray.size ≤ _; rw [List.size_toArray]; omega, hb⟩
        case measure => simp [intOf]
      · obtain ⟨v, hv⟩ : ∃ v : Nat, L / 32 % 32 = v := ⟨_, rfl⟩
        have hv1 : v < 32 := by rw [← hv]; omega
        have hv32 : (v : Int) < 32 := by omega
        have hq : ((L : Int) / 32) % 32 = (v : Int) := by rw [← hv]; rfl
        have hw : IntKind.u32.wrap ((v : Int) + 1) = (v : Int) + 1 := by simp [IntKind.wrap, IntKind.signed, IntKind.bits]; omega
        have hcut := letters_cut v hv1
        have HN := Lib.hid (encSix_next (h := s.data.toList) (d := bs) (k := 4) (v := v) (by omega) (by rw [← HLK.out]; show some _ = some v; rw [← hv]))
        clear hv
        have HT : Hid (t ++ ⟨#[letter v]⟩ = ⟨(encSix s.data.toList bs 5).toArray⟩) := by
          show _ = _
          rw [ht.out]
          exact str_more _ _ _ HN.out
        go_wp2
        go_roundw
        case rel => exact ⟨5, _, by omega, by simp, rfl, HT.out, by rw [HT.out]; have := encSix_length s.data.toList bs 5; rw [← HS.out, HL.out] at this; show (encSix s.data.toList bs 5).toArray.size ≤ _; rw [List.size_toArray]; omega, hb⟩
        case measure => simp [intOf]
      · obtain ⟨v, hv⟩ : ∃ v : Nat, L / 1 % 32 = v := ⟨_, rfl⟩
        have hv1 : v < 32 := by rw [← hv]; omega
        have hv32 : (v : Int) < 32 := by omega
        have hq : (L : Int) % 32 = (v : Int) := by rw [← hv, Nat.div_one]; rfl
        have hw : IntKind.u32.wrap ((v : Int) + 1) = (v : Int) + 1 := by simp [IntKind.wrap, IntKind.signed, IntKind.bits]; omega
        have hcut := letters_cut v hv1
        have HN := Lib.hid (encSix_next (h := s.data.toList) (d := bs) (k := 5) (v := v) (by omega) (by rw [← HLK.out]; show some _ = some v; rw [← hv]; rw [Nat.div_one]))
        clear hv
        have HT : Hid (t ++ ⟨#[letter v]⟩ = ⟨(encSix s.data.toList bs 6).toArray⟩) := by
          show _ = _
          rw [ht.out]
          exact str_more _ _ _ HN.out
        go_wp2
        go_roundw
        case rel => exact ⟨6, _, by omega, by simp, rfl, HT.out, by rw [HT.out]; have := encSix_length s.data.toList bs 6; rw [← HS.out, HL.out] at this; show (encSix s.data.toList bs 6).toArray.size ≤ _; rw [List.size_toArray]; omega, hb⟩
        case measure => simp [intOf]
      · rw [encSix_full] at ht
        go_wp2
        go_ret2
        exact ⟨by rw [ht.out]; rfl, hb⟩

set_option maxHeartbeats 1000000 in
theorem refEncode_any (s : ByteArray) (A : Option Addr) (n c : Nat) (bs : List UInt8) (w : World) (h : RdB w w.heap.size A n bs) (hs : s.size ≤ 1000000) (hn : n ≤ 1000000) :
    Calls Try.prog 20 #[.string s, .slice A n c] w (EncEnd (encL s.data.toList bs) w) := by
  cases hh : (headOk s.data.toList && dataOk bs) with
  | false =>
    have hr : encL s.data.toList bs = none := by
      unfold encL
      cases h1 : headOk s.data.toList with
      | false => rfl
      | true => rw [h1] at hh; simp at hh; rw [hh]; rfl
    rw [hr]
    have HH := Lib.hid hh
    have H := Lib.hid h
    clear hr hh h
    go_enter Try.func20, Try.ntmps20
    go_wp2_with fail
    refine (refMay_any s A n c bs _ H.out (by omega) (by omega)).mono ?_
    rintro e w1 ⟨rfl, hb1⟩
    rw [HH.out]
    go_wp2
    go_ret2
    exact ⟨rfl, hb1⟩
  | true =>
    have hh2 := Bool.and_eq_true_iff.1 hh
    have hr : encL s.data.toList bs = some (encW s.data.toList bs) := by unfold encL; rw [hh2.1, hh2.2]; rfl
    rw [hr]
    exact (refEncode_some s A n c bs w h hh2.1 hh2.2).mono fun e w' h' => h'

end Go.Proofs.Ytkacplgfkokdcaa
