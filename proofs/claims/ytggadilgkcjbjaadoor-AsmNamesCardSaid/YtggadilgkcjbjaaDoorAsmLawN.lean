/-
  The walk over the law AsmNames.
-/
import Derived.Test.YtggadilgkcjbjaaDoorAsmAlive
import Derived.Test.YtggadilgkcjbjaaDoorAsmEnts
set_option linter.unusedVariables false
namespace Go.Proofs.YtggadilgkcjbjaaDoor
open Go.RowKit Go.Sort

set_option maxRecDepth 100000 in
set_option maxHeartbeats 1000000 in
theorem lawNames (m : Nat) (s : ByteArray) (w : World) (hm : m < 256) (hs : s.size ≤ maxLen) (hg : Gd w) :
    Calls Tryd.prog 5 #[.int .u8 (m : Int), .string s] w fun e w' => e = .returned (.bool true) ∧ Below w.heap.size w w' := by
  obtain ⟨E, hE⟩ : ∃ E : Ending → World → Prop, E = fun e w' => e = .returned (.bool true) ∧ Below w.heap.size w w' := ⟨_, rfl⟩
  rw [← hE]
  have HE := Lib.hid hE
  have HG := Lib.hid hg
  have hm' : s.size ≤ 9223372036854775807 := Nat.le_trans hs (by unfold maxLen; omega)
  clear hE hs
  by_cases hn : 300 < s.size
  · have hn' : (300 : Int) < (s.size : Int) := by omega
    go_enter Tryd.func5, Tryd.ntmps5
    go_wp2_with fail
    refine (alive_any _ HG.out).mono ?_
    rintro e w1 ⟨rfl, hb1⟩
    go_wp2
    rw [HE.out]
    exact ⟨rfl, hb1⟩
  · have hn' : ¬ (300 : Int) < (s.size : Int) := by omega
    have H1 := Lib.hid (name_any m · hm)
    have H2 := Lib.hid (refName_any m · hm)
    have H3 := Lib.hid (op_any s)
    have H4 := Lib.hid (refOp_any s)
    obtain ⟨nm, hnm⟩ : ∃ nm, nm = nameB m := ⟨_, rfl⟩
    obtain ⟨b1, hb1⟩ : ∃ b1, b1 = decide (nm ≠ ⟨#[]⟩) := ⟨_, rfl⟩
    obtain ⟨o, ho⟩ : ∃ o, o = (opB s).getD 0 := ⟨_, rfl⟩
    obtain ⟨b2, hb2⟩ : ∃ b2, b2 = (opB s).isSome := ⟨_, rfl⟩
    unfold OpEnd at H3
    rw [← hnm, ← hb1] at H1 H2
    rw [← ho, ← hb2] at H3 H4
    clear hnm hb1 ho hb2
    go_enter Tryd.func5, Tryd.ntmps5
    go_wp2_with fail
    refine (H1.out _).mono ?_
    rintro e w1 ⟨rfl, rfl⟩
    go_wp2_with fail
    refine (H2.out _).mono ?_
    rintro e w2 ⟨rfl, hb2⟩
    go_wp2_with fail
    refine (H3.out _).mono ?_
    rintro e w3 ⟨rfl, rfl⟩
    go_wp2_with fail
    refine (H4.out _).mono ?_
    rintro e w4 ⟨rfl, hb4⟩
    have hb04 := hb2.trans (hb4.mono hb2.size)
    have HG4 := Lib.hid (HG.out.below hb04)
    clear hb2 hb4
    go_wp2_with fail
    refine (alive_any _ HG4.out).mono ?_
    rintro e w5 ⟨rfl, hb5⟩
    have hb05 := hb04.trans (hb5.mono hb04.size)
    clear hb5 hb04
    go_wp2
    rw [HE.out]
    exact ⟨rfl, hb05⟩

end Go.Proofs.YtggadilgkcjbjaaDoor
