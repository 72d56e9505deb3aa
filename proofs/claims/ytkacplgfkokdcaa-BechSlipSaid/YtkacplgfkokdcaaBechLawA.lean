/-
  The walk over the law BechAddress.
-/
import Derived.Test.YtkacplgfkokdcaaBechScrR
set_option linter.unusedVariables false
namespace Go.Proofs.Ytkacplgfkokdcaa
open Go.RowKit

set_option maxHeartbeats 1000000 in
theorem lawAddress (A : Option Addr) (n c : Nat) (bs : List UInt8) (s : ByteArray) (w : World) (h : RdB w w.heap.size A n bs) (hnc : n ≤ c) (hs : s.size ≤ maxLen) (hc : n ≤ maxLen) :
    Calls Try.prog 8 #[.slice A n c, .string s] w fun e w' => e = .returned (.bool true) ∧ Below w.heap.size w w' := by
  have H := Lib.hid h
  clear h
  by_cases hn : 200 < n
  · have hn' : (200 : Int) < (n : Int) := by omega
    go_enter Try.func8, Try.ntmps8
    go_wp2_with fail
    refine (alive_any _).mono ?_
    rintro e w1 ⟨rfl, hb1⟩
    go_wp2
    go_ret
    exact ⟨rfl, hb1⟩
  · have hn' : ¬ (200 : Int) < (n : Int) := by omega
    by_cases hs2 : 200 < s.size
    · have hs2' : (200 : Int) < (s.size : Int) := by omega
      go_enter Try.func8, Try.ntmps8
      go_wp2_with fail
      refine (alive_any _).mono ?_
      rintro e w1 ⟨rfl, hb1⟩
      go_wp2
      go_ret
      exact ⟨rfl, hb1⟩
    · have hs2' : ¬ (200 : Int) < (s.size : Int) := by omega
      go_enter Try.func8, Try.ntmps8
      go_wp2_with fail
      refine (address_any A n c bs _ H.out hnc (by omega)).mono ?_
      intro e w1 h1
      obtain ⟨rfl, hb1⟩ := encEnd_is h1
      clear h1
      go_wp2_with fail
      refine (refAddress_any A n c bs _ ((H.out.below hb1).more hb1.size) hnc (by omega)).mono ?_
      intro e w2 h2
      obtain ⟨rfl, hb2⟩ := encEnd_is h2
      clear h2
      have hb02 : Below w.heap.size w w2 := hb1.trans (hb2.mono hb1.size)
      clear hb1 hb2
      go_wp2_with fail
      refine (script_any s _ (by omega)).mono ?_
      intro e w3 h3
      cases hd : scriptL s.data.toList with
      | none =>
        obtain ⟨rfl, hb3⟩ := maybeEnd_none h3 hd
        have HD := Lib.hid hd
        clear h3 hd
        have hb03 : Below w.heap.size w w3 := hb02.trans (hb3.mono hb02.size)
        clear hb02 hb3
        go_wp2_with fail
        refine (refScript_any s _ (by omega)).mono ?_
        intro e w4 h4
        obtain ⟨rfl, hb4⟩ := maybeEnd_none h4 HD.out
        clear h4
        have hb04 : Below w.heap.size w w4 := hb03.trans (hb4.mono hb03.size)
        clear hb03 hb4
        go_wp2_with fail
        refine (alive_any _).mono ?_
        rintro e w5 ⟨rfl, hb5⟩
        have hb05 : Below w.heap.size w w5 := hb04.trans (hb5.mono hb04.size)
        have hc1 := strOf (RdB.none_ w5 w5.heap.size) 0
        go_wp2
        go_ret
        exact ⟨rfl, hb05⟩
      | some p =>
        obtain ⟨A3, c3, rfl, hr3, hb3⟩ := maybe_own h3 hd
        have HD := Lib.hid hd
        have HR3 := Lib.hid hr3
        clear h3 hd hr3
        have hb03 : Below w.heap.size w w3 := hb02.trans (hb3.mono hb02.size)
        clear hb02 hb3
        go_wp2_with fail
        refine (refScript_any s _ (by omega)).mono ?_
        intro e w4 h4
        obtain ⟨A4, c4, rfl, hr4, hb4⟩ := maybe_own h4 HD.out
        have HR4 := Lib.hid hr4
        clear h4 hr4
        go_wp2_with fail
        refine (alive_any _).mono ?_
        rintro e w5 ⟨rfl, hb5⟩
        have hb35 : Below w3.heap.size w3 w5 := hb4.trans (hb5.mono hb4.size)
        have hb05 : Below w.heap.size w w5 := hb03.trans (hb35.mono hb03.size)
        have hc1 := strOf (HR3.out.below hb35) c3
        have hc2 := strOf (HR4.out.below hb5) c4
        go_wp2
        go_ret
        exact ⟨rfl, hb05⟩

end Go.Proofs.Ytkacplgfkokdcaa
