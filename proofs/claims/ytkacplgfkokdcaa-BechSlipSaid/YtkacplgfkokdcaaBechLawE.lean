/-
  The walk over the law BechEncode.
-/
import Derived.Test.YtkacplgfkokdcaaBechEncR
set_option linter.unusedVariables false
namespace Go.Proofs.Ytkacplgfkokdcaa
open Go.RowKit

/-- What Encode answers, as a text and a number. -/
def encTxt (r : Option (List UInt8)) : ByteArray := match r with | some l => ⟨l.toArray⟩ | none => ⟨#[]⟩
def encNo (r : Option (List UInt8)) : Nat := match r with | some _ => 0 | none => 1
theorem encEnd_is {r : Option (List UInt8)} {w w' : World} {e : Ending} (h : EncEnd r w e w') : e = .returned (.tuple #[.string (encTxt r), .int .i64 (encNo r : Nat)]) ∧ Below w.heap.size w w' := by
  cases r with
  | none => exact h
  | some l => exact h

set_option maxHeartbeats 1000000 in
theorem lawEncode (s : ByteArray) (A : Option Addr) (n c : Nat) (bs : List UInt8) (w : World) (h : RdB w w.heap.size A n bs) (hs : s.size ≤ maxLen) (hc : n ≤ maxLen) :
    Calls Try.prog 6 #[.string s, .slice A n c] w fun e w' => e = .returned (.bool true) ∧ Below w.heap.size w w' := by
  have H := Lib.hid h
  clear h
  by_cases hs2 : 200 < s.size
  · have hs2' : (200 : Int) < (s.size : Int) := by omega
    go_enter Try.func6, Try.ntmps6
    go_wp2_with fail
    refine (alive_any _).mono ?_
    rintro e w1 ⟨rfl, hb1⟩
    go_wp2
    go_ret
    exact ⟨rfl, hb1⟩
  · have hs2' : ¬ (200 : Int) < (s.size : Int) := by omega
    by_cases hn : 200 < n
    · have hn' : (200 : Int) < (n : Int) := by omega
      go_enter Try.func6, Try.ntmps6
      go_wp2_with fail
      refine (alive_any _).mono ?_
      rintro e w1 ⟨rfl, hb1⟩
      go_wp2
      go_ret
      exact ⟨rfl, hb1⟩
    · have hn' : ¬ (200 : Int) < (n : Int) := by omega
      go_enter Try.func6, Try.ntmps6
      go_wp2_with fail
      refine (encode_any s A n c bs _ H.out (by omega) (by omega)).mono ?_
      intro e w1 h1
      obtain ⟨rfl, hb1⟩ := encEnd_is h1
      clear h1
      go_wp2_with fail
      refine (refEncode_any s A n c bs _ ((H.out.below hb1).more hb1.size) (by omega) (by omega)).mono ?_
      intro e w2 h2
      obtain ⟨rfl, hb2⟩ := encEnd_is h2
      clear h2
      have hb02 : Below w.heap.size w w2 := hb1.trans (hb2.mono hb1.size)
      clear hb1 hb2
      go_wp2_with fail
      refine (alive_any _).mono ?_
      rintro e w3 ⟨rfl, hb3⟩
      have hb03 : Below w.heap.size w w3 := hb02.trans (hb3.mono hb02.size)
      go_wp2
      go_ret
      exact ⟨rfl, hb03⟩

end Go.Proofs.Ytkacplgfkokdcaa
