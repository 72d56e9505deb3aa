/-
  The walk over the law BechSlip.
-/
import Derived.Test.YtkacplgfkokdcaaBechSlipP
set_option linter.unusedVariables false
namespace Go.Proofs.Ytkacplgfkokdcaa
open Go.RowKit

theorem cut_one (u : ByteArray) (a : Nat) (ha : a < u.size) : u.extract a (a + 1) = ⟨#[u.data.toList[a]'(by rw [← size_list]; exact ha)]⟩ := by
  apply ByteArray.ext
  apply Array.toList_inj.1
  simp only [ByteArray.data_extract, Array.toList_extract]
  rw [List.extract_eq_take_drop, show a + 1 - a = 1 by omega]
  have hl : a < u.data.toList.length := by rw [← size_list]; exact ha
  rw [List.drop_eq_getElem_cons hl]
  rfl
theorem cut_set (u : ByteArray) (a : Nat) (c : UInt8) (ha : a < u.size) : (u.extract 0 a ++ ⟨#[c]⟩ ++ u.extract (a + 1) u.size).data.toList = u.data.toList.set a c := by
  have hl : a < u.data.toList.length := by rw [← size_list]; exact ha
  simp only [ByteArray.data_append, Array.toList_append, ByteArray.data_extract, Array.toList_extract]
  rw [List.extract_eq_take_drop, List.extract_eq_take_drop, List.set_eq_take_append_cons_drop, if_pos hl, List.drop_zero, Nat.sub_zero,
    List.take_of_length_le (l := u.data.toList.drop (a + 1)) (by rw [List.length_drop, ← size_list]; exact Nat.le_refl _)]
  simp

set_option maxHeartbeats 4000000 in
theorem lawSlip (s : ByteArray) (A : Option Addr) (n c : Nat) (bs : List UInt8) (x y : Int) (w : World) (h : RdB w w.heap.size A n bs) (hnc : n ≤ c) (hs : s.size ≤ maxLen) (hc : n ≤ maxLen) (hx1 : -9223372036854775808 ≤ x) (hx2 : x ≤ 9223372036854775807) :
    Calls Try.prog 7 #[.string s, .slice A n c, .agg #[.int .i64 x, .int .i64 y]] w fun e w' => e = .returned (.bool true) ∧ Below w.heap.size w w' := by
  have H := Lib.hid h
  clear h
  go_enter Try.func7, Try.ntmps7
  go_wp2_with fail
  go_quiet (fail)
  have hbq : Below w.heap.size w ((w.alloc (.cells #[.int .i64 x, .int .i64 y] 37)).drewN nq) := below_drewN ((Below.refl _ _).alloc (Nat.le_refl _) _) nq
  generalize (w.alloc (.cells #[.int .i64 x, .int .i64 y] 37)).drewN nq = wq at hbq ⊢
  by_cases hs2 : 200 < s.size
  · have hs2' : (200 : Int) < (s.size : Int) := by omega
    go_wp2_with fail
    refine (alive_any _).mono ?_
    rintro e w1 ⟨rfl, hb1⟩
    have hb01 : Below w.heap.size w w1 := hbq.trans (hb1.mono hbq.size)
    go_wp2
    go_ret
    exact ⟨rfl, hb01⟩
  have hs2' : ¬ (200 : Int) < (s.size : Int) := by omega
  by_cases hn : 200 < n
  · have hn' : (200 : Int) < (n : Int) := by omega
    go_wp2_with fail
    refine (alive_any _).mono ?_
    rintro e w1 ⟨rfl, hb1⟩
    have hb01 : Below w.heap.size w w1 := hbq.trans (hb1.mono hbq.size)
    go_wp2
    go_ret
    exact ⟨rfl, hb01⟩
  have hn' : ¬ (200 : Int) < (n : Int) := by omega
  by_cases hy : y < 0
  · 
    go_wp2_with fail
    refine (alive_any _).mono ?_
    rintro e w1 ⟨rfl, hb1⟩
    have hb01 : Below w.heap.size w w1 := hbq.trans (hb1.mono hbq.size)
    go_wp2
    go_ret
    exact ⟨rfl, hb01⟩
  by_cases hy2 : 31 < y
  · 
    go_wp2_with fail
    refine (alive_any _).mono ?_
    rintro e w1 ⟨rfl, hb1⟩
    have hb01 : Below w.heap.size w w1 := hbq.trans (hb1.mono hbq.size)
    go_wp2
    go_ret
    exact ⟨rfl, hb01⟩
  obtain ⟨m, rfl⟩ : ∃ m : Nat, y = m := ⟨y.toNat, by omega⟩
  have hm : m < 32 := by omega
  have hm' : (m : Int) < 32 := by omega
  clear hy hy2
  have hcut := letters_cut m hm
  cases he : encL s.data.toList bs with
  | none =>
    go_wp2_with fail
    refine (encode_any s A n c bs _ ((H.out.below hbq).more hbq.size) (by omega) (by omega)).mono ?_
    intro e w3 h3
    rw [he] at h3
    obtain ⟨rfl, hb3q⟩ := encEnd_is h3
    have hb3 : Below w.heap.size w w3 := hbq.trans (hb3q.mono hbq.size)
    rw [show encTxt none = ⟨#[]⟩ from rfl, show encNo none = 1 from rfl]
    clear h3 he
    go_wp2_with fail
    refine (alive_any _).mono ?_
    rintro e w4 ⟨rfl, hb4⟩
    have hb04 : Below w.heap.size w w4 := hb3.trans (hb4.mono hb3.size)
    go_wp2
    go_ret
    exact ⟨rfl, hb04⟩
  | some l =>
    obtain ⟨u, hu⟩ : ∃ u : ByteArray, u = encTxt (some l) := ⟨_, rfl⟩
    have hul : u.data.toList = l := by rw [hu]; rfl
    have hus : u.size = s.size + n + 7 := by rw [size_list, hul, encL_length he, size_list s, H.out.len]
    have HE := Lib.hid he
    have HU := Lib.hid hu
    have HUL := Lib.hid hul
    clear he hu hul
    by_cases h90 : 90 < u.size
    · have h90' : (90 : Int) < (u.size : Int) := by omega
      clear hus
      go_wp2_with fail
      refine (encode_any s A n c bs _ ((H.out.below hbq).more hbq.size) (by omega) (by omega)).mono ?_
      intro e w3 h3
      rw [HE.out] at h3
      obtain ⟨rfl, hb3q⟩ := encEnd_is h3
      have hb3 : Below w.heap.size w w3 := hbq.trans (hb3q.mono hbq.size)
      rw [← HU.out, show encNo (some l) = 0 from rfl]
      clear h3
      go_wp2_with fail
      refine (alive_any _).mono ?_
      rintro e w4 ⟨rfl, hb4⟩
      have hb04 : Below w.heap.size w w4 := hb3.trans (hb4.mono hb3.size)
      go_wp2
      go_ret
      exact ⟨rfl, hb04⟩
    have h90' : ¬ (90 : Int) < (u.size : Int) := by omega
    by_cases hx : x ≤ (s.size : Int)
    · clear hus
      go_wp2_with fail
      refine (encode_any s A n c bs _ ((H.out.below hbq).more hbq.size) (by omega) (by omega)).mono ?_
      intro e w3 h3
      rw [HE.out] at h3
      obtain ⟨rfl, hb3q⟩ := encEnd_is h3
      have hb3 : Below w.heap.size w w3 := hbq.trans (hb3q.mono hbq.size)
      rw [← HU.out, show encNo (some l) = 0 from rfl]
      clear h3
      go_wp2_with fail
      refine (alive_any _).mono ?_
      rintro e w4 ⟨rfl, hb4⟩
      have hb04 : Below w.heap.size w w4 := hb3.trans (hb4.mono hb3.size)
      go_wp2
      go_ret
      exact ⟨rfl, hb04⟩
    by_cases hxu : (u.size : Int) ≤ x
    · clear hus
      go_wp2_with fail
      refine (encode_any s A n c bs _ ((H.out.below hbq).more hbq.size) (by omega) (by omega)).mono ?_
      intro e w3 h3
      rw [HE.out] at h3
      obtain ⟨rfl, hb3q⟩ := encEnd_is h3
      have hb3 : Below w.heap.size w w3 := hbq.trans (hb3q.mono hbq.size)
      rw [← HU.out, show encNo (some l) = 0 from rfl]
      clear h3
      go_wp2_with fail
      refine (alive_any _).mono ?_
      rintro e w4 ⟨rfl, hb4⟩
      have hb04 : Below w.heap.size w w4 := hb3.trans (hb4.mono hb3.size)
      go_wp2
      go_ret
      exact ⟨rfl, hb04⟩
    obtain ⟨a, rfl⟩ : ∃ a : Nat, x = a := ⟨x.toNat, by omega⟩
    have ha : a < u.size := by omega
    have ha' : (a : Int) < (u.size : Int) := by omega
    have has : Hid (s.size < a) := by show _ < _; omega
    have hus1 : u.size ≤ 1000 := by omega
    clear hus
    have hcut2 : u.extract a (a + 1) = ⟨#[u.data.toList[a]'(by rw [← size_list]; exact ha)]⟩ := cut_one u a ha
    obtain ⟨t, ht⟩ : ∃ t : ByteArray, t = u.extract 0 a ++ ⟨#[letter m]⟩ ++ u.extract (a + 1) u.size := ⟨_, rfl⟩
    have htl : t.data.toList = l.set a (letter m) := by rw [ht, ← HUL.out]; exact cut_set u a _ ha
    have hts : t.size = u.size := by rw [size_list, htl, List.length_set, ← HUL.out, ← size_list]
    have HT := Lib.hid ht
    have HTL := Lib.hid htl
    have hts1 : t.size ≤ 1000000 := by omega
    clear ht htl hts
    go_wp2_with fail
    refine (encode_any s A n c bs _ ((H.out.below hbq).more hbq.size) (by omega) (by omega)).mono ?_
    intro e w3 h3
    rw [HE.out] at h3
    obtain ⟨rfl, hb3q⟩ := encEnd_is h3
    have hb3 : Below w.heap.size w w3 := hbq.trans (hb3q.mono hbq.size)
    rw [← HU.out, show encNo (some l) = 0 from rfl]
    clear h3
    go_wp2_with fail
    go_quiet (fail)
    have hb3n := below_drewN hb3 nq
    generalize w3.drewN nq = w4 at hb3n ⊢
    go_wp2_with fail
    rw [← HT.out]
    refine (decode_any t _ hts1).mono ?_
    rw [HTL.out]
    intro e w5 h5
    by_cases hsame : letter m = u.data.toList[a]'(by rw [← size_list]; exact ha)
    · have hdl : decL (l.set a (letter m)) = some (s.data.toList, bs) := by
        have h1 : l.set a (letter m) = l := by
          have h2 : a < l.length := by rw [← HUL.out, ← size_list]; exact ha
          have h3 : letter m = l[a]'h2 := by rw [hsame]; simp only [HUL.out]
          rw [h3]
          exact List.set_getElem_self h2
        rw [h1]
        exact decL_enc HE.out
      obtain ⟨A5, c5, rfl, _, _, _, hb5⟩ := decEnd_is_some h5 hdl
      have hb05 : Below w.heap.size w w5 := hb3n.trans (hb5.mono hb3n.size)
      rw [← hsame] at hcut2
      clear h5 hdl hsame
      go_wp2_with fail
      refine (alive_any _).mono ?_
      rintro e w6 ⟨rfl, hb6⟩
      have hb06 : Below w.heap.size w w6 := hb05.trans (hb6.mono hb05.size)
      go_wp2
      go_ret
      exact ⟨rfl, hb06⟩
    · have hdl : decL (l.set a (letter m)) = none := slip_none HE.out (by rw [← size_list]; exact has.out) (by rw [← HUL.out, ← size_list]; exact ha) hm (by simpa only [HUL.out] using hsame)
      obtain ⟨rfl, hb5⟩ := decEnd_is_none h5 hdl
      have hb05 : Below w.heap.size w w5 := hb3n.trans (hb5.mono hb3n.size)
      obtain ⟨z, hz⟩ : ∃ z : UInt8, z = u.data.toList[a]'(by rw [← size_list]; exact ha) := ⟨_, rfl⟩
      rw [← hz] at hcut2 hsame
      clear h5 hdl hz
      go_wp2_with fail
      refine (alive_any _).mono ?_
      rintro e w6 ⟨rfl, hb6⟩
      have hb06 : Below w.heap.size w w6 := hb05.trans (hb6.mono hb05.size)
      have hbeq : (!letter m == z) = true := by rw [beq_eq_false_iff_ne.2 hsame]; rfl
      go_wp2
      go_ret
      exact ⟨rfl, hb06⟩

end Go.Proofs.Ytkacplgfkokdcaa
