/-
  The walks over the reference's Spread and Gather, and over the live question of bech.
-/
import Derived.Test.YtkacplgfkokdcaaPack
import Derived.Deep.RegionWith
import Derived.RegionTactic
set_option linter.unusedVariables false
namespace Go.Proofs.Ytkacplgfkokdcaa
open Go.RowKit

/-- 'string(b)' at this dump. -/
theorem strOf {w : World} {B n : Nat} {A : Option Addr} {bs : List UInt8} (h : RdB w B A n bs) (c : Nat) : (convert 22 9 (.slice A n c)).run Try.prog w = .ok (.string ⟨bs.toArray⟩) w :=
  h.convert c 22 5 9 Try.underlying22 Try.underlying5 Try.underlying9

set_option maxHeartbeats 1000000 in
theorem refSpread_any (A : Option Addr) (n cap : Nat) (bs : List UInt8) (w : World) (h : RdB w w.heap.size A n bs) (hn : n ≤ 1000000) :
    Calls Try.prog 16 #[.slice A n cap] w (SliceEnd (spreadL bs) w) := by
  have hr : spreadL bs = packL (bitAt 8 bs) 5 ((n * 8 + 4) / 5) := by unfold spreadL; rw [h.len]
  rw [hr]
  obtain ⟨r, hrr⟩ : ∃ r, r = packL (bitAt 8 bs) 5 ((n * 8 + 4) / 5) := ⟨_, rfl⟩
  rw [← hrr]
  have HR := Lib.hid hrr
  have H := Lib.hid h
  clear hr hrr h
  go_enter Try.func16, Try.ntmps16
  go_wp2_with fail
  rw [show ((n : Int) * 8 + 4) / 5 = (((n * 8 + 4) / 5 : Nat) : Int) by omega]
  refine (packed_85 A n cap _ bs _ H.out hn (by omega)).mono ?_
  rintro e w1 ⟨A1, c1, rfl, hown, hb⟩
  have HO := Lib.hid hown
  clear hown
  go_wp2
  go_ret
  exact sliceEnd_mk HR.out rfl HO.out hb

set_option maxHeartbeats 1000000 in
theorem refGather_any (A : Option Addr) (n cap : Nat) (bs : List UInt8) (w : World) (h : RdB w w.heap.size A n bs) (hn : n ≤ 1000000) :
    Calls Try.prog 14 #[.slice A n cap] w (MaybeEnd (gatherL bs) w) := by
  have hl := h.len
  have HL := Lib.hid hl
  have H := Lib.hid h
  clear hl h
  obtain ⟨r, hr⟩ : ∃ r, r = gatherL bs := ⟨_, rfl⟩
  rw [← hr]
  have HR := Lib.hid hr
  clear hr
  go_enter Try.func14, Try.ntmps14
  go_wp2
  go_loop [4] (fun i => ∃ k : Nat, k ≤ n ∧ i = .int .i64 k ∧ SmallTo bs k) (fun i => n - (intOf i).toNat)
  case atStart => exact ⟨0, by omega, rfl, fun i _ hi => by omega⟩
  case round =>
    obtain ⟨k, hk, rfl, hS⟩ := hrel
    by_cases hlt : k < n
    · obtain ⟨ad, rfl, hadlt, hcell⟩ := H.out.at_ hlt
      have hkl : k < bs.length := by rw [HL.out]; exact hlt
      obtain ⟨m, hm⟩ : ∃ m : Nat, (bs[k]'hkl).toNat = m := ⟨_, rfl⟩
      rw [hm] at hcell
      have HM := Lib.hid hm
      clear hm
      by_cases h31 : m ≤ 31
      · go_wp2
        go_round
        case rel =>
          refine ⟨k + 1, by omega, by go_num, fun i hi hik => ?_⟩
          rcases Nat.lt_or_ge i k with h1 | h1
          · exact hS i hi h1
          · obtain rfl : i = k := by omega
            rw [HM.out]; exact h31
        case measure => simp [intOf]; omega
      · have HN : Hid (r = none) := by
          rw [HR.out]
          show gatherL bs = none
          unfold gatherL
          rw [if_neg]
          rintro ⟨hall, _⟩
          have := hall _ (List.getElem_mem hkl)
          rw [HM.out] at this
          exact h31 this
        go_wp2
        go_ret2
        exact maybe_none HN.out (Below.refl _ _)
    · obtain rfl : k = n := by omega
      have hall : ∀ u ∈ bs, u.toNat ≤ 31 := SmallTo.all (by rw [HL.out]; exact hS)
      have HALL := Lib.hid hall
      clear hall hS hlt hk
      go_wp2_with fail
      rw [show ((k : Int) * 5) / 8 = ((k * 5 / 8 : Nat) : Int) by omega]
      refine (packed_58 A k cap _ bs _ H.out hn (by omega)).mono ?_
      rintro e w1 ⟨A1, c1, rfl, hown, hb⟩
      obtain ⟨g, hg⟩ : ∃ g, packL (bitAt 5 bs) 8 (k * 5 / 8) = g := ⟨_, rfl⟩
      have hgl : g.length = k * 5 / 8 := by rw [← hg, packL_length]
      have HGL := Lib.hid hgl
      have hiff := gather_iff bs HALL.out
      rw [HL.out, hg] at hiff
      rw [hg] at hown
      rw [hg]
      have HO := Lib.hid hown
      have HO1 := Lib.hid (RdB.of_own hown)
      have HR2 : Hid (r = if spreadL g = bs then some g else none) := by
        rw [HR.out]
        show gatherL bs = _
        unfold gatherL
        rw [HL.out, hg]
        by_cases hs : spreadL g = bs
        · rw [if_pos hs, if_pos ⟨HALL.out, hiff.1 hs⟩]
        · rw [if_neg hs, if_neg fun h => hs (hiff.2 h.2)]
      have hcA : (convert 22 9 (.slice A k cap)).run Try.prog w1.drew = .ok (.string ⟨bs.toArray⟩) w1.drew := strOf (H.out.below hb).drew cap
      clear hown hg hgl hiff
      by_cases hs : spreadL g = bs
      · have HN : Hid (r = some g) := by rw [HR2.out]; exact if_pos hs
        have hq : (spreadL g == bs) = true := by rw [beq_iff_eq]; exact hs
        clear hs
        go_wp2_with fail
        go_region_with (go_at_call 16; refine (refSpread_any _ _ _ _ _ (by exact HO1.out) (by rw [HGL.out]; omega)).mono ?_; rintro e w' ⟨A2, c2, rfl, hown2, hb2⟩; have hc1 := strOf (RdB.of_own hown2) c2; have hc2 := strOf ((H.out.below hb).drew.below' hb2 (by exact hb.size)) cap; clear hown2)
        all_goals go_wp2
        all_goals go_ret2
        all_goals exact maybe_some HN.out rfl (hb.drew.trans (hb2.mono hb.size)) (own_below (w := w1.drew) HO.out hb2)
      · have HN : Hid (r = none) := by rw [HR2.out]; exact if_neg hs
        have hq : (spreadL g == bs) = false := by rw [beq_eq_false_iff_ne]; exact hs
        clear hs
        go_wp2_with fail
        go_region_with (go_at_call 16; refine (refSpread_any _ _ _ _ _ (by exact HO1.out) (by rw [HGL.out]; omega)).mono ?_; rintro e w' ⟨A2, c2, rfl, hown2, hb2⟩; have hc1 := strOf (RdB.of_own hown2) c2; have hc2 := strOf ((H.out.below hb).drew.below' hb2 (by exact hb.size)) cap; clear hown2)
        all_goals go_wp2
        all_goals go_ret2
        all_goals exact maybe_none HN.out (hb.drew.trans (hb2.mono hb.size))

end Go.Proofs.Ytkacplgfkokdcaa
