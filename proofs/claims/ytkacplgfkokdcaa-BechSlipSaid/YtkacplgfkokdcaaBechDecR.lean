/-
  The walk over the reference's Decode.
-/
import Derived.Test.YtkacplgfkokdcaaBechDec
import Derived.Test.YtkacplgfkokdcaaBechLawE
set_option linter.unusedVariables false
namespace Go.Proofs.Ytkacplgfkokdcaa
open Go.RowKit

theorem one_at {s : ByteArray} {h r : List UInt8} {a : Nat} (e : s.data.toList = h ++ 49 :: r) (ha : a = h.length) (hl : a < s.data.toList.length) : (s.data.toList[a]'hl).toNat = 49 := by
  subst ha
  have : s.data.toList[h.length]? = some 49 := by rw [e]; simp
  rw [List.getElem?_eq_getElem hl] at this
  rw [Option.some.inj this]
  rfl
theorem behind_at {s : ByteArray} {h r : List UInt8} {a j p : Nat} (e : s.data.toList = h ++ 49 :: r) (ha : a = h.length) (hp : p = a + 1 + j) (hj : j < r.length) (hl : p < s.data.toList.length) : s.data.toList[p]'hl = r[j]'hj := by
  subst ha hp
  have : s.data.toList[h.length + 1 + j]? = some (r[j]'hj) := by
    rw [e, List.getElem?_append_right (by omega), show h.length + 1 + j - h.length = j + 1 by omega, List.getElem?_cons_succ, List.getElem?_eq_getElem hj]
  rw [List.getElem?_eq_getElem hl] at this
  exact Option.some.inj this

set_option maxHeartbeats 1000000 in
theorem refDecode_any (s : ByteArray) (w : World) (hs : s.size ≤ 1000000) :
    Calls Try.prog 18 #[.string s] w (DecEnd (decL s.data.toList) w) := by
  obtain ⟨E, hE⟩ : ∃ E, E = DecEnd (decL s.data.toList) w := ⟨_, rfl⟩
  rw [← hE]
  have HE := Lib.hid hE
  have HS := Lib.hid (size_list s)
  clear hE
  cases hl : lastOne s.data.toList with
  | none =>
    have HN := Lib.hid (decL_none hl)
    have HL : Hid (∀ v ∈ s.data.toList, v ≠ 49) := lastOne_none hl
    clear hl
    go_enter Try.func18, Try.ntmps18
    go_wp2
    go_loop [5] (fun i => ∃ z : Int, i = .int .i64 z ∧ -1 ≤ z ∧ z < s.size) (fun i => (intOf i + 1).toNat)
    case atStart => exact ⟨_, rfl, by omega, by omega⟩
    case round =>
      obtain ⟨z, rfl, hz1, hz2⟩ := hrel
      by_cases hz : z = -1
      · subst hz
        go_wp2
        rw [HE.out]
        exact decEnd_none HN.out (Below.refl _ _)
      · obtain ⟨p, rfl⟩ : ∃ p : Nat, z = p := ⟨z.toNat, by omega⟩
        have hlt : p < s.size := by omega
        have hkl : p < s.data.toList.length := by rw [← HS.out]; exact hlt
        have hg := get_list s p hlt
        obtain ⟨m, hm⟩ : ∃ m : Nat, s[p].toNat = m := ⟨_, rfl⟩
        have hm49 : ¬ m = 49 := by
          intro e
          rw [← hm, hg] at e
          exact HL.out _ (List.getElem_mem hkl) (UInt8.toNat_inj.1 e)
        clear hg
        have hm' : (s.data[p]'hlt).toNat = m := hm
        have hm3 : ¬ (m : Int) = 49 := by omega
        go_wp2
        go_round
        case rel => exact ⟨_, rfl, by omega, by omega⟩
        case measure => simp [intOf]
  | some x =>
    obtain ⟨h, r⟩ := x
    obtain ⟨he, hn⟩ := lastOne_some hl
    have hlen : s.size = h.length + (r.length + 1) := by rw [size_list, he]; simp
    have HX := Lib.hid hl
    have HH := Lib.hid (cut_head he)
    have HEQ := Lib.hid he
    have HNO : Hid (∀ v ∈ r, v ≠ 49) := hn
    obtain ⟨a, ha⟩ : ∃ a, a = h.length := ⟨_, rfl⟩
    obtain ⟨b, hb⟩ : ∃ b, b = r.length := ⟨_, rfl⟩
    have HB := Lib.hid hb
    have HA := Lib.hid ha
    rw [← ha] at HH
    rw [← ha, ← hb] at hlen
    clear hl he hn ha hb
    have hlen' : (s.size : Int) = a + (b + 1) := by omega
    go_enter Try.func18, Try.ntmps18
    go_wp2
    go_loop [5] (fun i => ∃ p : Nat, i = .int .i64 (p : Int) ∧ a ≤ p ∧ p ≤ a + b) (fun i => (intOf i).toNat)
    case atStart => exact ⟨a + b, by congr 1; omega, by omega, by omega⟩
    case round =>
      obtain ⟨p, rfl, hp1, hp2⟩ := hrel
      have hlt : p < s.size := by omega
      have hlt' : (p : Int) < s.size := by omega
      have hkl : p < s.data.toList.length := by rw [← HS.out]; exact hlt
      have hg := get_list s p hlt
      obtain ⟨m, hm⟩ : ∃ m : Nat, s[p].toNat = m := ⟨_, rfl⟩
      by_cases hpa : p = a
      · subst hpa
        have hm49 : m = 49 := by rw [← hm, hg]; exact one_at HEQ.out HA.out hkl
        subst hm49
        clear hg
        have hm' : (s.data[p]'hlt).toNat = 49 := hm
        by_cases h6 : b < 6
        · have h6s : (s.size : Int) - p < 7 := by omega
          have HN := Lib.hid (decL_short HX.out (by rw [← HB.out]; omega))
          go_wp2
          rw [HE.out]
          exact decEnd_none HN.out (Below.refl _ _)
        · have h6s : ¬ (s.size : Int) - p < 7 := by omega
          have HDL := Lib.hid (decL_tail HX.out (by rw [← HB.out]; omega))
          obtain ⟨b6, hb6⟩ : ∃ b6, b = b6 + 6 := ⟨b - 6, by omega⟩
          have HLEN : Hid (s.size = p + (b6 + 7)) := by show s.size = _; omega
          have HB6 : Hid (b6 = r.length - 6 ∧ b6 + 6 = r.length) := by have := HB.out; exact ⟨by omega, by omega⟩
          have HOWN := Lib.hid (World.ownsRow_lit (base := w.heap.size) (e := 5) (size := 1) w #[] 0 (Nat.le_refl _) (by unfold maxLen; omega) rfl)
          have hb0 : Below w.heap.size w (w.alloc (.cells #[] 5)) := (Below.refl _ _).alloc (Nat.le_refl _) _
          have hp8 : p ≤ 1000000 := by omega
          have hb8 : b6 ≤ 1000000 := by omega
          go_wp2
          go_loopw [6, 7] (fun d i wr => ∃ (k q : Nat) (A : Option Addr) (c : Nat) (x : List UInt8), k ≤ b6 ∧ Hid (q = p + 1 + k) ∧ i = .int .i64 (q : Int) ∧ d = .slice A k c ∧ Hid (numsOf (r.take k) = some x) ∧
              Hid (wr.ownsRow w.heap.size 5 1 (.slice A k c) k (Lib.byteCells x)) ∧ Below w.heap.size w wr) (fun _ i _ => p + 1 + b6 - (intOf i).toNat)
          case atStart => exact ⟨0, p + 1, _, _, [], by omega, rfl, rfl, rfl, rfl, HOWN.out, hb0⟩
          case round =>
            clear hlen hlen' hlt hlt' h6s HOWN hb0 hm hm' hkl h6 hb6 hp2 hp1
            obtain ⟨k, q, A, c, x, hk, hq, rfl, rfl, hx, hown, hb⟩ := hrel
            by_cases hkb : k < b6
            · have hqs : q < s.size := by have h1 := hq.out; have h2 := HLEN.out; omega
              have hqs' : (q : Int) < (s.size : Int) - 6 := by have h1 := hq.out; have h2 := HLEN.out; omega
              have hkr : k < r.length := by have := HB6.out.2; omega
              have hql : q < s.data.toList.length := by rw [← HS.out]; exact hqs
              have hg := get_list s q hqs
              obtain ⟨m, hm⟩ : ∃ m : Nat, s[q].toNat = m := ⟨_, rfl⟩
              have hm' : (s.data[q]'hqs).toNat = m := hm
              have hpl := place_any (r[k]'hkr)
              rw [show (r[k]'hkr).toNat = m by rw [← hm, hg, behind_at HEQ.out HA.out hq.out hkr hql]] at hpl
              have HPL := Lib.hid hpl
              clear hpl hg
              go_wp2_with fail
              refine (HPL.out _).mono ?_
              rintro e w4 ⟨rfl, rfl⟩
              cases hp : placeL (r[k]'hkr) with
              | none =>
                have HN : Hid (decL s.data.toList = none) := by
                  show _ = none
                  rw [HDL.out, tailR_nums (numsOf_bad (c := r[k]'hkr) (List.mem_of_getElem? (i := k) (by rw [List.getElem?_take_of_lt (by have := HB6.out.1; omega), List.getElem?_eq_getElem hkr])) hp)]
                  rfl
                clear hp
                go_wp2
                rw [HE.out]
                exact decEnd_none HN.out hb
              | some v =>
                have hv1 : v < 32 := (place_some hp).1
                have HXN : Hid (numsOf (r.take (k + 1)) = some (x ++ [UInt8.ofNat v])) := by
                  show _ = _
                  rw [List.take_succ_eq_append_getElem hkr]
                  exact numsOf_snoc hx.out hp
                have HQ2 : Hid (q + 1 = p + 1 + (k + 1)) := by have := hq.out; show _ = _; omega
                clear hp
                go_wp2_with (at_builtin; refine wpList_push w4 _ Try.underlying22 infoByte rfl rfl _ _ rfl w.heap.size _ _ _ rfl hown.out rfl rfl (by unfold maxLen; omega) (by omega) hb.size ?_)
                intro A2 c2 w5 hown2 hb2
                rw [cells_snoc hv1] at hown2
                have HOWN2 := Lib.hid hown2
                have hb25 : Below w.heap.size w w5 := hb.trans hb2
                clear hown2 hown hx
                go_wp2
                go_roundw
                case rel => exact ⟨k + 1, q + 1, A2, c2, _, by omega, HQ2.out, by go_num, rfl, HXN, HOWN2, hb25⟩
                case measure => simp [intOf]; have := hq.out; omega
            · have hkb2 : k = b6 := by omega
              subst hkb2
              have hqs' : ¬ (q : Int) < (s.size : Int) - 6 := by have h1 := hq.out; have h2 := HLEN.out; omega
              have hps : (p : Int) ≤ (s.size : Int) := by have h2 := HLEN.out; omega
              have hps2 : p ≤ s.size := by have h2 := HLEN.out; omega
              have HX2 : Hid (numsOf (r.take (r.length - 6)) = some x) := by
                have := hx.out
                rw [HB6.out.1] at this
                exact this
              have hxl : x.length = k := by have := hown.out.1; rw [Lib.byteCells_length] at this; omega
              have HXL := Lib.hid hxl
              have hcp := own_cap hown.out
              clear hx hxl
              go_wp2_with fail
              refine (refEncode_any _ A k c x _ (RdB.of_own hown.out) (by rw [HH.out]; show h.toArray.size ≤ _; rw [List.size_toArray, ← HA.out]; omega) (by omega)).mono ?_
              rw [show (s.extract 0 p).data.toList = h by rw [HH.out]]
              intro e w5 h5
              obtain ⟨rfl, hb5⟩ := encEnd_is h5
              clear h5
              have hb05 : Below w.heap.size w w5 := hb.trans (hb5.mono hb.size)
              have HR5 := Lib.hid (((RdB.of_own hown.out).below hb5).more hb5.size)
              clear hown hb5
              cases he : encL h x with
              | none =>
                have HF : Hid (decL s.data.toList = none) := by
                  show _ = _
                  rw [HDL.out, tailR_not HX2.out (by rw [he]; exact fun hx => by cases hx)]
                  rfl
                rw [show encTxt none = ⟨#[]⟩ from rfl, show encNo none = 1 from rfl]
                clear he
                go_wp2
                rw [HE.out]
                exact decEnd_none HF.out hb05
              | some l =>
                obtain ⟨t, ht⟩ : ∃ t, t = encTxt (some l) := ⟨_, rfl⟩
                rw [← ht, show encNo (some l) = 0 from rfl]
                by_cases hl : l = h ++ [49] ++ r
                · have hts : t = s := by
                    rw [ht, hl]
                    show (⟨(h ++ [49] ++ r).toArray⟩ : ByteArray) = s
                    apply ByteArray.ext
                    apply Array.toList_inj.1
                    rw [HEQ.out]
                    simp
                  subst hts
                  have HF : Hid (decL t.data.toList = some (h, x)) := by
                    show _ = _
                    rw [HDL.out, tailR_some HX2.out (by rw [he, hl])]
                    rfl
                  clear he ht hl
                  go_wp2
                  rw [HE.out]
                  exact decEnd_some HF.out HH.out HXL.out hcp.1 hcp.2 HR5.out hb05
                · have hts : ¬ t = s := by
                    intro e
                    apply hl
                    have : t.data.toList = l := by rw [ht]; rfl
                    rw [← this, e, HEQ.out]
                    simp
                  have HF : Hid (decL s.data.toList = none) := by
                    show _ = _
                    rw [HDL.out, tailR_not HX2.out (by rw [he]; exact fun hx => hl (Option.some.inj hx))]
                    rfl
                  have hts2 : (t.toList == s.toList) = false := by
                    rw [beq_eq_false_iff_ne, toList_data, toList_data]
                    exact fun e => hts (ByteArray.ext (Array.toList_inj.1 e))
                  clear he ht hl
                  go_wp2
                  rw [HE.out]
                  exact decEnd_none HF.out hb05
      · have hm49 : ¬ m = 49 := by
          intro e
          rw [← hm, hg, behind_at HEQ.out HA.out (show p = a + 1 + (p - a - 1) by omega) (by rw [← HB.out]; omega) hkl] at e
          exact HNO.out _ (List.getElem_mem _) (UInt8.toNat_inj.1 e)
        clear hg
        have hm' : (s.data[p]'hlt).toNat = m := hm
        have hm3 : ¬ (m : Int) = 49 := by omega
        go_wp2
        go_round
        case rel => exact ⟨p - 1, by congr 1; omega, by omega, by omega⟩
        case measure => simp [intOf]; omega

end Go.Proofs.Ytkacplgfkokdcaa
