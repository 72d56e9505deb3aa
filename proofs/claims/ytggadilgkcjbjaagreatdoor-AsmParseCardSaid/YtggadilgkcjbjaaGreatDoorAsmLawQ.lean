/-
  The walk over the law AsmParse.
-/
import Derived.Test.YtggadilgkcjbjaaGreatDoorRefParse
import Derived.Test.YtggadilgkcjbjaaGreatDoorAsmAlive
set_option linter.unusedVariables false
namespace Go.Proofs.YtggadilgkcjbjaaGreatDoor
open Go.RowKit Go.Sort

set_option maxRecDepth 100000 in
set_option maxHeartbeats 1000000 in
theorem lawParse (s : ByteArray) (w : World) (hs : s.size ≤ maxLen) (hg : Gd w) :
    Calls Tryz.prog 4 #[.string s] w fun e w' => e = .returned (.bool true) ∧ Below w.heap.size w w' := by
  obtain ⟨E, hE⟩ : ∃ E : Ending → World → Prop, E = fun e w' => e = .returned (.bool true) ∧ Below w.heap.size w w' := ⟨_, rfl⟩
  rw [← hE]
  have HE := Lib.hid hE
  have HG := Lib.hid hg
  have hm' : s.size ≤ 9223372036854775807 := Nat.le_trans hs (by unfold maxLen; omega)
  clear hE hs
  by_cases hn : 300 < s.size
  · have hn' : (300 : Int) < (s.size : Int) := by omega
    go_enter Tryz.func4, Tryz.ntmps4
    go_wp2_with fail
    refine (alive_any _ HG.out).mono ?_
    rintro e w1 ⟨rfl, hb1⟩
    go_wp2
    rw [HE.out]
    exact ⟨rfl, hb1⟩
  · have hn' : ¬ (300 : Int) < (s.size : Int) := by omega
    have H1 := Lib.hid (parse_any s w HG.out (by omega))
    have H2 : Hid (∀ w', Calls Tryz.prog 9 #[.string s] w' (ParseEnd (parseL s.data.toList) w')) := fun w' => refParse_any s w' (by omega)
    go_enter Tryz.func4, Tryz.ntmps4
    go_wp2_with fail
    refine H1.out.mono ?_
    intro e w1 h1
    have HR2 := Lib.hid (H2.out w1)
    cases hp : parseL s.data.toList with
    | none =>
      rw [hp] at h1 HR2
      obtain ⟨rfl, hb1⟩ := h1
      clear hp
      go_wp2_with fail
      refine HR2.out.mono ?_
      rintro e w2 ⟨rfl, hb2⟩
      have hb02 := hb1.trans (hb2.mono hb1.size)
      clear hb1 hb2
      go_wp2_with fail
      refine (alive_any _ (HG.out.below hb02)).mono ?_
      rintro e w3 ⟨rfl, hb3⟩
      have hb03 := hb02.trans (hb3.mono hb02.size)
      have s1 := strOf (RdB.none_ w3 0) 0
      clear hb3 hb02
      go_wp2
      rw [HE.out]
      exact ⟨rfl, hb03⟩
    | some l =>
      rw [hp] at h1 HR2
      obtain ⟨⟨v1, rfl, hv1⟩, hb1⟩ := h1
      have HV1 := Lib.hid hv1
      clear hp hv1
      go_wp2_with fail
      refine HR2.out.mono ?_
      rintro e w2 ⟨⟨v2, rfl, hv2⟩, hb2⟩
      have HV2 := Lib.hid hv2
      have HV12 := Lib.hid (HV1.out.below hb2)
      have hb02 := hb1.trans (hb2.mono hb1.size)
      clear hv2 hb1 hb2
      go_wp2_with fail
      refine (alive_any _ (HG.out.below hb02)).mono ?_
      rintro e w3 ⟨rfl, hb3⟩
      have hb03 := hb02.trans (hb3.mono hb02.size)
      have s1 := strPush (HV12.out.below hb3)
      have s2 := strPush (HV2.out.below hb3)
      clear hb3 hb02
      go_wp2
      rw [HE.out]
      exact ⟨rfl, hb03⟩

end Go.Proofs.YtggadilgkcjbjaaGreatDoor
