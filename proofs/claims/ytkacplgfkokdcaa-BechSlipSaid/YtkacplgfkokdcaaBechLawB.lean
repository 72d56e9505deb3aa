/-
  The walk over the law BechBack.
-/
import Derived.Test.YtkacplgfkokdcaaBechBackP
set_option linter.unusedVariables false
namespace Go.Proofs.Ytkacplgfkokdcaa
open Go.RowKit

theorem addrL_enc {bs a : List UInt8} (h : addrL bs = some a) : ∃ v0 v1 p, bs = v0 :: v1 :: p ∧ encL [101, 110] (UInt8.ofNat (verOf v0.toNat) :: spreadL p) = some a := by
  match bs, h with
  | [], h => cases h
  | [_], h => cases h
  | v0 :: v1 :: p, h =>
    by_cases hc : 2 ≤ p.length ∧ p.length ≤ 40 ∧ v1.toNat = p.length ∧ (v0.toNat = 0 ∨ (80 < v0.toNat ∧ v0.toNat ≤ 96))
    · rw [addrL_some hc] at h
      exact ⟨v0, v1, p, rfl, h⟩
    · rw [addrL_not hc] at h
      cases h
theorem encL_small {h d l : List UInt8} (he : encL h d = some l) : h.length ≤ 20 ∧ d.length ≤ 80 := by
  unfold encL at he
  split at he
  · rename_i hb
    simp [headOk, dataOk] at hb
    omega
  · cases he

set_option maxHeartbeats 4000000 in
theorem lawBack (s : ByteArray) (A : Option Addr) (n c : Nat) (bs : List UInt8) (w : World) (h : RdB w w.heap.size A n bs) (hnc : n ≤ c) (hs : s.size ≤ maxLen) (hc : n ≤ maxLen) :
    Calls Try.prog 9 #[.string s, .slice A n c] w fun e w' => e = .returned (.bool true) ∧ Below w.heap.size w w' := by
  have H := Lib.hid h
  clear h
  by_cases hs2 : 200 < s.size
  · have hs2' : (200 : Int) < (s.size : Int) := by omega
    go_enter Try.func9, Try.ntmps9
    go_wp2_with fail
    refine (alive_any _).mono ?_
    rintro e w1 ⟨rfl, hb1⟩
    go_wp2
    go_ret
    exact ⟨rfl, hb1⟩
  · have hs2' : ¬ (200 : Int) < (s.size : Int) := by omega
    by_cases hn : 200 < n
    · have hn' : (200 : Int) < (n : Int) := by omega
      go_enter Try.func9, Try.ntmps9
      go_wp2_with fail
      refine (alive_any _).mono ?_
      rintro e w1 ⟨rfl, hb1⟩
      go_wp2
      go_ret
      exact ⟨rfl, hb1⟩
    · have hn' : ¬ (200 : Int) < (n : Int) := by omega
      go_enter Try.func9, Try.ntmps9
      go_wp2_with fail
      refine (spread_any _ _ _ bs _ H.out (by omega)).mono ?_
      intro e w1 h1
      obtain ⟨A1, c1, rfl, hr1, hb1⟩ := sliceEnd_rd h1
      have hsl : (spreadL bs).length ≤ 1000 := by rw [spreadL_length, H.out.len]; omega
      obtain ⟨N, hN⟩ : ∃ N, N = (spreadL bs).length := ⟨_, rfl⟩
      rw [← hN] at hr1 hsl ⊢
      have HR1 := Lib.hid hr1
      clear h1 hN hr1
      go_wp2_with fail
      refine (gather_any _ _ _ (spreadL bs) _ HR1.out (by omega)).mono ?_
      intro e w2 h2
      obtain ⟨A2, c2, rfl, hr2, hb2⟩ := maybe_own h2 (gather_spread bs)
      have hbn : bs.length = n := H.out.len
      rw [hbn] at hr2 ⊢
      have HR2 := Lib.hid hr2
      clear h2 hr2 hbn
      have hb02 : Below w.heap.size w w2 := hb1.trans (hb2.mono hb1.size)
      have hc2 := strOf HR2.out c2
      have hc3 := strOf (H.out.below hb02) c
      clear HR1 HR2 hb1 hb2
      go_wp2_with fail
      refine (encode_any s A n c bs _ ((H.out.below hb02).more hb02.size) (by omega) (by omega)).mono ?_
      clear hc2 hc3
      intro e w3 h3
      cases he : encL s.data.toList bs with
      | none =>
        rw [he] at h3
        obtain ⟨rfl, hb3⟩ := encEnd_is h3
        rw [show encTxt none = ⟨#[]⟩ from rfl, show encNo none = 1 from rfl]
        have hb03 : Below w.heap.size w w3 := hb02.trans (hb3.mono hb02.size)
        clear h3 he hb3
        go_wp2_with fail
        refine (address_any A n c bs _ ((H.out.below hb03).more hb03.size) hnc (by omega)).mono ?_
        intro e w6 h6
        cases ha : addrL bs with
        | none =>
          rw [ha] at h6
          obtain ⟨rfl, hb6⟩ := encEnd_is h6
          have hb06 : Below w.heap.size w w6 := hb03.trans (hb6.mono hb03.size)
          rw [show encTxt none = ⟨#[]⟩ from rfl, show encNo none = 1 from rfl]
          clear h6 ha hb6
          go_wp2_with fail
          refine (alive_any _).mono ?_
          rintro e w7 ⟨rfl, hb7⟩
          have hb07 : Below w.heap.size w w7 := hb06.trans (hb7.mono hb06.size)
          go_wp2
          go_ret
          exact ⟨rfl, hb07⟩
        | some a =>
          have HSA := Lib.hid (script_address ha)
          rw [ha] at h6
          obtain ⟨rfl, hb6⟩ := encEnd_is h6
          have hb06 : Below w.heap.size w w6 := hb03.trans (hb6.mono hb03.size)
          obtain ⟨t, ht⟩ : ∃ t : ByteArray, t = encTxt (some a) := ⟨_, rfl⟩
          have htl : t.data.toList = a := by rw [ht]; rfl
          have hts : t.size ≤ 1000000 := by
            rw [size_list, htl]
            obtain ⟨v0, v1, p, _, he⟩ := addrL_enc ha
            have := encL_length he
            obtain ⟨_, _, _, _, hsm, he2⟩ := encL_shape he
            have := encL_small he
            simp only [List.length_cons, List.length_nil] at *
            omega
          rw [← ht, show encNo (some a) = 0 from rfl]
          have HTL := Lib.hid htl
          clear h6 ha hb6 ht htl
          go_wp2_with fail
          refine (script_any t _ hts).mono ?_
          rw [HTL.out]
          intro e w7 h7
          obtain ⟨A7, c7, rfl, hr7, hb7⟩ := maybe_own h7 HSA.out
          have HR7 := Lib.hid hr7
          have hbn : bs.length = n := H.out.len
          rw [hbn] at HR7 ⊢
          clear h7 hr7 hbn
          have hb07 : Below w.heap.size w w7 := hb06.trans (hb7.mono hb06.size)
          go_wp2_with fail
          refine (alive_any _).mono ?_
          rintro e w8 ⟨rfl, hb8⟩
          have hb08 : Below w.heap.size w w8 := hb07.trans (hb8.mono hb07.size)
          have hc7 := strOf (HR7.out.below hb8) c7
          have hc8 := strOf (H.out.below hb08) c
          go_wp2
          go_ret
          exact ⟨rfl, hb08⟩

      | some l =>
        have HDL := Lib.hid (decL_enc he)
        have hlen := encL_length he
        have hsm := encL_small he
        rw [he] at h3
        obtain ⟨rfl, hb3⟩ := encEnd_is h3
        obtain ⟨u, hu⟩ : ∃ u : ByteArray, u = encTxt (some l) := ⟨_, rfl⟩
        have hul : u.data.toList = l := by rw [hu]; rfl
        have hus : u.size = s.size + n + 7 := by rw [size_list, hul, hlen, size_list s, H.out.len]
        have hus2 : u.size ≤ 1000000 := by omega
        rw [← hu, show encNo (some l) = 0 from rfl]
        have HUL := Lib.hid hul
        have hb03 : Below w.heap.size w w3 := hb02.trans (hb3.mono hb02.size)
        clear h3 he hb3 hu hul hlen hsm
        go_wp2_with fail
        refine (decode_any u _ hus2).mono ?_
        rw [HUL.out]
        intro e w4 h4
        obtain ⟨A4, c4, rfl, _, _, hr4, hb4⟩ := decEnd_is_some h4 HDL.out
        have hbn : bs.length = n := H.out.len
        rw [hbn] at hr4 ⊢
        have HR4 := Lib.hid hr4
        clear h4 hr4 hbn
        rw [show (⟨s.data.toList.toArray⟩ : ByteArray) = s from rfl]
        have hb04 : Below w.heap.size w w4 := hb03.trans (hb4.mono hb03.size)
        have hc4 := strOf HR4.out c4
        have hc5 := strOf (H.out.below hb04) c
        have hus3 : (u.size : Int) = (s.size : Int) + (n : Int) + 7 := by omega
        go_wp2_with fail
        refine (address_any A n c bs _ ((H.out.below hb04).more hb04.size) hnc (by omega)).mono ?_
        clear hc4 hc5 hus3
        intro e w6 h6
        cases ha : addrL bs with
        | none =>
          rw [ha] at h6
          obtain ⟨rfl, hb6⟩ := encEnd_is h6
          have hb06 : Below w.heap.size w w6 := hb04.trans (hb6.mono hb04.size)
          rw [show encTxt none = ⟨#[]⟩ from rfl, show encNo none = 1 from rfl]
          clear h6 ha hb6
          go_wp2_with fail
          refine (alive_any _).mono ?_
          rintro e w7 ⟨rfl, hb7⟩
          have hb07 : Below w.heap.size w w7 := hb06.trans (hb7.mono hb06.size)
          go_wp2
          go_ret
          exact ⟨rfl, hb07⟩
        | some a =>
          have HSA := Lib.hid (script_address ha)
          rw [ha] at h6
          obtain ⟨rfl, hb6⟩ := encEnd_is h6
          have hb06 : Below w.heap.size w w6 := hb04.trans (hb6.mono hb04.size)
          obtain ⟨t, ht⟩ : ∃ t : ByteArray, t = encTxt (some a) := ⟨_, rfl⟩
          have htl : t.data.toList = a := by rw [ht]; rfl
          have hts : t.size ≤ 1000000 := by
            rw [size_list, htl]
            obtain ⟨v0, v1, p, _, he⟩ := addrL_enc ha
            have := encL_length he
            obtain ⟨_, _, _, _, hsm, he2⟩ := encL_shape he
            have := encL_small he
            simp only [List.length_cons, List.length_nil] at *
            omega
          rw [← ht, show encNo (some a) = 0 from rfl]
          have HTL := Lib.hid htl
          clear h6 ha hb6 ht htl
          go_wp2_with fail
          refine (script_any t _ hts).mono ?_
          rw [HTL.out]
          intro e w7 h7
          obtain ⟨A7, c7, rfl, hr7, hb7⟩ := maybe_own h7 HSA.out
          have HR7 := Lib.hid hr7
          have hbn : bs.length = n := H.out.len
          rw [hbn] at HR7 ⊢
          clear h7 hr7 hbn
          have hb07 : Below w.heap.size w w7 := hb06.trans (hb7.mono hb06.size)
          go_wp2_with fail
          refine (alive_any _).mono ?_
          rintro e w8 ⟨rfl, hb8⟩
          have hb08 : Below w.heap.size w w8 := hb07.trans (hb8.mono hb07.size)
          have hc7 := strOf (HR7.out.below hb8) c7
          have hc8 := strOf (H.out.below hb08) c
          go_wp2
          go_ret
          exact ⟨rfl, hb08⟩


end Go.Proofs.Ytkacplgfkokdcaa
