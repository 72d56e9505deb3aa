/-
  The walk over the law BechDecode.
-/
import Derived.Test.YtkacplgfkokdcaaBechDecR
set_option linter.unusedVariables false
namespace Go.Proofs.Ytkacplgfkokdcaa
open Go.RowKit

theorem decEnd_is_none {r : Option (List UInt8 × List UInt8)} {w w' : World} {e : Ending} (h : DecEnd r w e w') (hr : r = none) : e = .returned (.tuple #[.string ⟨#[]⟩, .slice none 0 0, .int .i64 3]) ∧ Below w.heap.size w w' := by
  subst hr; exact h
theorem decEnd_is_some {r : Option (List UInt8 × List UInt8)} {h d : List UInt8} {w w' : World} {e : Ending} (hd : DecEnd r w e w') (hr : r = some (h, d)) :
    ∃ A c, e = .returned (.tuple #[.string ⟨h.toArray⟩, .slice A d.length c, .int .i64 0]) ∧ d.length ≤ c ∧ c ≤ maxLen ∧ RdB w' w'.heap.size A d.length d ∧ Below w.heap.size w w' := by
  subst hr
  obtain ⟨⟨A, c, he, hc, hm, hr⟩, hb⟩ := hd
  exact ⟨A, c, he, hc, hm, hr, hb⟩

set_option maxHeartbeats 1000000 in
theorem lawDecode (s : ByteArray) (w : World) (hs : s.size ≤ maxLen) :
    Calls Try.prog 5 #[.string s] w fun e w' => e = .returned (.bool true) ∧ Below w.heap.size w w' := by
  by_cases hs2 : 200 < s.size
  · have hs2' : (200 : Int) < (s.size : Int) := by omega
    go_enter Try.func5, Try.ntmps5
    go_wp2_with fail
    refine (alive_any _).mono ?_
    rintro e w1 ⟨rfl, hb1⟩
    go_wp2
    go_ret
    exact ⟨rfl, hb1⟩
  · have hs2' : ¬ (200 : Int) < (s.size : Int) := by omega
    cases hd : decL s.data.toList with
    | none =>
      have HD := Lib.hid hd
      clear hd
      go_enter Try.func5, Try.ntmps5
      go_wp2_with fail
      refine (decode_any s _ (by omega)).mono ?_
      intro e w1 h1
      obtain ⟨rfl, hb1⟩ := decEnd_is_none h1 HD.out
      clear h1
      go_wp2_with fail
      refine (refDecode_any s _ (by omega)).mono ?_
      intro e w2 h2
      obtain ⟨rfl, hb2⟩ := decEnd_is_none h2 HD.out
      clear h2
      have hb02 : Below w.heap.size w w2 := hb1.trans (hb2.mono hb1.size)
      clear hb1 hb2
      go_wp2_with fail
      refine (alive_any _).mono ?_
      rintro e w3 ⟨rfl, hb3⟩
      have hb03 : Below w.heap.size w w3 := hb02.trans (hb3.mono hb02.size)
      have hc1 := strOf (RdB.none_ w3 w3.heap.size) 0
      go_wp2
      go_ret
      exact ⟨rfl, hb03⟩
    | some x =>
      obtain ⟨h, d⟩ := x
      have HD := Lib.hid hd
      clear hd
      go_enter Try.func5, Try.ntmps5
      go_wp2_with fail
      refine (decode_any s _ (by omega)).mono ?_
      intro e w1 h1
      obtain ⟨A1, c1, rfl, _, _, hr1, hb1⟩ := decEnd_is_some h1 HD.out
      clear h1
      have HR1 := Lib.hid hr1
      clear hr1
      go_wp2_with fail
      refine (refDecode_any s _ (by omega)).mono ?_
      intro e w2 h2
      obtain ⟨A2, c2, rfl, _, _, hr2, hb2⟩ := decEnd_is_some h2 HD.out
      have HR2 := Lib.hid hr2
      clear h2 hr2
      go_wp2_with fail
      refine (alive_any _).mono ?_
      rintro e w3 ⟨rfl, hb3⟩
      have hb13 : Below w1.heap.size w1 w3 := hb2.trans (hb3.mono hb2.size)
      have hb03 : Below w.heap.size w w3 := hb1.trans (hb13.mono hb1.size)
      have hc1 := strOf (HR1.out.below hb13) c1
      have hc2 := strOf (HR2.out.below hb3) c2
      go_wp2
      go_ret
      exact ⟨rfl, hb03⟩

end Go.Proofs.Ytkacplgfkokdcaa
