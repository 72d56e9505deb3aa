/-
  The walk over the law BechBits, where the bits are gathered: it returns true, and writes nothing that was there.
-/
import Derived.Test.YtkacplgfkokdcaaBechLaw1
set_option linter.unusedVariables false
namespace Go.Proofs.Ytkacplgfkokdcaa
open Go.RowKit

set_option maxHeartbeats 8000000 in
theorem lawBits_some (A : Option Addr) (n c : Nat) (bs : List UInt8) (w : World) (h : RdB w w.heap.size A n bs) (hc : n ≤ maxLen) (hn : ¬ 200 < n) (l : List UInt8) (hg : gatherL bs = some l) :
    Calls Try.prog 4 #[.slice A n c] w fun e w' => e = .returned (.bool true) ∧ Below w.heap.size w w' := by
  have H := Lib.hid h
  clear h
  have hn' : (n : Int) ≤ 200 := by omega
  have HG := Lib.hid hg
  clear hg
  go_enter Try.func4, Try.ntmps4
  go_wp2_with fail
  refine (gather_any _ _ _ bs _ H.out (by omega)).mono ?_
  intro e w1 h1
  obtain ⟨A1, c1, rfl, hr1, hb1⟩ := maybeEnd_some h1 HG.out
  have HR1 := Lib.hid hr1
  clear h1 hr1
  go_wp2_with fail
  refine (refGather_any _ _ _ bs _ ((H.out.below hb1).more hb1.size) (by omega)).mono ?_
  intro e w2 h2
  obtain ⟨A2, c2, rfl, hr2, hb2⟩ := maybeEnd_some h2 HG.out
  have HR1b := Lib.hid (HR1.out.below hb2)
  have HR2 := Lib.hid (hr2.more (Nat.le_refl _))
  have hs12 := Lib.hid hb2.size
  clear h2 hr2
  have hb02 : Below w.heap.size w w2 := hb1.trans (hb2.mono hb1.size)
  clear hb1 hb2
  go_wp2_with fail
  go_region_with (first | (go_at_call 10; go_must (refine (alive_any _).mono ?_; rintro e w3 ⟨rfl, hb3⟩)) | (go_at_call 15; go_must (refine (spread_any _ _ _ bs _ ((H.out.below hb02).drew.below' hb3 hb02.size |>.more (Nat.le_trans hb02.size hb3.size)) (by omega)).mono ?_; intro e w4 h4; obtain ⟨A4, c4, rfl, hr4, hb4⟩ := sliceEnd_rd h4; clear h4; have hc4 := strOf hr4 c4)) | (go_at_call 16; go_must (refine (refSpread_any _ _ _ bs _ (((H.out.below hb02).drew.below' hb3 hb02.size).below' hb4 (Nat.le_trans hb02.size hb3.size) |>.more (Nat.le_trans hb02.size (Nat.le_trans hb3.size hb4.size))) (by omega)).mono ?_; intro e w5 h5; obtain ⟨A5, c5, rfl, hr5, hb5⟩ := sliceEnd_rd h5; clear h5; have hc5 := strOf hr5 c5; have hc45 := strOf (hr4.below hb5) c4; have hcx := strOf (((HR1b.out.drew.below' hb3 hs12.out).below' hb4 (Nat.le_trans hs12.out hb3.size)).below' hb5 (Nat.le_trans hs12.out (Nat.le_trans hb3.size hb4.size))) c1; have hcy := strOf (((HR2.out.drew.below hb3).below' hb4 hb3.size).below' hb5 (Nat.le_trans hb3.size hb4.size)) c2)))
  all_goals (simp only [List.getElem_toArray, List.getElem_cons_succ, List.getElem_cons_zero, Act.put, List.setIfInBounds_toArray, List.set_cons_succ, List.set_cons_zero])
  all_goals go_wp2
  all_goals go_ret
  all_goals first | exact ⟨rfl, hb02.drew.trans ((hb3.mono hb02.size).trans ((hb4.mono (Nat.le_trans hb02.size hb3.size)).trans (hb5.mono (Nat.le_trans hb02.size (Nat.le_trans hb3.size hb4.size)))))⟩ | trace_state

end Go.Proofs.Ytkacplgfkokdcaa
