/-
  The walk over the law AsmPrint.
-/
import Derived.Test.YtggadilgkcjbjaaGreatDoorRefPrint
import Derived.Test.YtggadilgkcjbjaaGreatDoorAsmAlive
set_option linter.unusedVariables false
namespace Go.Proofs.YtggadilgkcjbjaaGreatDoor
open Go.RowKit Go.Sort

theorem PushAt.str_ {w w' : World} {n : Nat} {A : Option Addr} {bs : List UInt8} (h : RdB w w.heap.size A n bs) (hb : Below w.heap.size w w') (c : Nat) : (convert 22 9 (.slice A n c)).run Tryz.prog w' = .ok (.string ⟨bs.toArray⟩) w' := strOf (h.below hb) c

set_option maxRecDepth 100000 in
set_option maxHeartbeats 1000000 in
theorem lawPrint (A : Option Addr) (n c : Nat) (bs : List UInt8) (w : World) (h : RdB w w.heap.size A n bs) (hnc : n ≤ c) (hcm : c ≤ maxLen) (hg : Gd w) :
    Calls Tryz.prog 3 #[.slice A n c] w fun e w' => e = .returned (.bool true) ∧ Below w.heap.size w w' := by
  obtain ⟨E, hE⟩ : ∃ E : Ending → World → Prop, E = fun e w' => e = .returned (.bool true) ∧ Below w.heap.size w w' := ⟨_, rfl⟩
  rw [← hE]
  have HE := Lib.hid hE
  have HG := Lib.hid hg
  have H := Lib.hid h
  have HCM : Hid (c ≤ maxLen) := hcm
  clear hE h hcm
  by_cases hn : 300 < n
  · have hn' : (300 : Int) < (n : Int) := by omega
    go_enter Tryz.func3, Tryz.ntmps3
    go_wp2_with fail
    refine (alive_any _ HG.out).mono ?_
    rintro e w1 ⟨rfl, hb1⟩
    go_wp2
    rw [HE.out]
    exact ⟨rfl, hb1⟩
  · have hn' : ¬ (300 : Int) < (n : Int) := by omega
    obtain ⟨i0, hi, hz0, hz1, hz2⟩ := info_parts infoByte
    have HOWN := Lib.hid (World.ownsRow_lit (base := w.heap.size) (e := 5) (size := 1) w #[] 0 (Nat.le_refl _) (Nat.zero_le _) rfl)
    have hb0 : Below w.heap.size w (w.alloc (.cells #[] 5)) := (Below.refl _ _).alloc (Nat.le_refl _) _
    have HH := Lib.hid (H.out.below hb0)
    go_enter Tryz.func3, Tryz.ntmps3
    go_wp2_with (at_builtin; refine wpList_append_any (w.alloc (.cells #[] 5)) rfl _ _ 22 rfl w.heap.size 5 i0 (.int .u8 0) 1 1 Tryz.underlying22 hi hz0 hz1 hz2 rfl (by decide) _ _ _ rfl HOWN.out w.heap.size A n c (Lib.byteCells bs) rfl HH.out (byteCells_one bs) (by unfold maxLen; omega) (by omega) hb0.size ?_)
    intro v w1 hown hg' _
    have hb1 : Below w.heap.size w w1 := hb0.grown hg' hb0.size (fun k hk => by simp [Value.ownBlock] at hk; omega)
    have hbs : bs.length = n := H.out.len
    obtain ⟨A', c', hv⟩ := own_slice hown
    subst hv
    have hba : ByteAt w1 w1.heap.size (.slice A' n c') bs := ByteAt.of_own hown
    obtain ⟨A2, c2, e2, hr2, hl2, hm2, _⟩ := hba
    have HR2 : Hid (RdB w1 w1.heap.size A' n bs) := by
      injection e2 with e3 e4 e5
      rw [e3, ← hbs]
      exact hr2
    have hnc' : n ≤ c' := by injection e2 with e3 e4 e5; omega
    have hcm' : c' ≤ maxLen := by injection e2 with e3 e4 e5; omega
    have HG1 := Lib.hid (HG.out.below hb1)
    have HPR := Lib.hid (print_any A' n c' bs w1 HR2.out hnc' hcm' (by omega) HG1.out)
    have HRP : Hid (∀ w', Below w.heap.size w w' → Calls Tryz.prog 7 #[.slice A n c] w' (PrintEnd (printL bs) w')) := fun w' hb => refPrint_any A n c bs w' ((H.out.below hb).more hb.size) hnc HCM.out (by omega)
    clear hown hg' hb0 e2 hr2 hl2 hm2 hcm'
    go_wp2_with fail
    refine HPR.out.mono ?_
    intro e w2 h2
    cases hp : printL bs with
    | none =>
      rw [hp] at h2
      obtain ⟨rfl, hb2⟩ := h2
      have hb02 := hb1.trans (hb2.mono hb1.size)
      have HRP2 := Lib.hid (HRP.out w2 hb02)
      rw [hp] at HRP2
      clear hp
      go_wp2_with fail
      refine HRP2.out.mono ?_
      rintro e w3 ⟨rfl, hb3⟩
      have hb12 := hb2.trans (hb3.mono hb2.size)
      have hb03 := hb02.trans (hb3.mono hb02.size)
      go_wp2_with fail
      refine (alive_any _ (HG.out.below hb03)).mono ?_
      rintro e w4 ⟨rfl, hb4⟩
      have hb04 := hb03.trans (hb4.mono hb03.size)
      have hb14 := hb12.trans (hb4.mono hb12.size)
      have s1 := (PushAt.str_ HR2.out hb14) c'
      have s2 := (PushAt.str_ H.out hb04) c
      clear hb1 hb2 hb02 hb3 hb12 hb03 hb4 hb14
      go_wp2
      rw [HE.out]
      exact ⟨rfl, hb04⟩
    | some t =>
      rw [hp] at h2
      obtain ⟨rfl, hb2⟩ := h2
      have hb02 := hb1.trans (hb2.mono hb1.size)
      have HRP2 := Lib.hid (HRP.out w2 hb02)
      rw [hp] at HRP2
      clear hp
      go_wp2_with fail
      refine HRP2.out.mono ?_
      rintro e w3 ⟨rfl, hb3⟩
      have hb12 := hb2.trans (hb3.mono hb2.size)
      have hb03 := hb02.trans (hb3.mono hb02.size)
      go_wp2_with fail
      refine (alive_any _ (HG.out.below hb03)).mono ?_
      rintro e w4 ⟨rfl, hb4⟩
      have hb04 := hb03.trans (hb4.mono hb03.size)
      have hb14 := hb12.trans (hb4.mono hb12.size)
      have s1 := (PushAt.str_ HR2.out hb14) c'
      have s2 := (PushAt.str_ H.out hb04) c
      clear hb1 hb2 hb02 hb3 hb12 hb03 hb4 hb14
      go_wp2
      rw [HE.out]
      exact ⟨rfl, hb04⟩

end Go.Proofs.YtggadilgkcjbjaaGreatDoor
