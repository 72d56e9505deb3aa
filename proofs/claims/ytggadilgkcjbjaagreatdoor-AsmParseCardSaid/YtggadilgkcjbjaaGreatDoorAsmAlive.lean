/-
  The walk over the live question of asm.
-/
import Derived.Test.YtggadilgkcjbjaaGreatDoorAsmParse
import Derived.Test.YtggadilgkcjbjaaGreatDoorAsmPrint
set_option linter.unusedVariables false
namespace Go.Proofs.YtggadilgkcjbjaaGreatDoor
open Go.RowKit Go.Sort

/-- 'string(b)' at this dump. -/
theorem strOf {w : World} {B n : Nat} {A : Option Addr} {bs : List UInt8} (h : RdB w B A n bs) (c : Nat) : (convert 22 9 (.slice A n c)).run Tryz.prog w = .ok (.string ⟨bs.toArray⟩) w :=
  h.convert c 22 5 9 Tryz.underlying22 Tryz.underlying5 Tryz.underlying9
theorem strPush {w : World} {v : Value} {bs : List UInt8} (h : PushAt w v bs) : (convert 22 9 v).run Tryz.prog w = .ok (.string ⟨bs.toArray⟩) w := by
  obtain ⟨A, c, e, hr, _⟩ := h.byte
  rw [e]
  exact strOf hr c

set_option maxRecDepth 100000 in
theorem live_print : printL [81, 2, 1, 2, 118, 135] = some [49, 32, 60, 48, 49, 48, 50, 62, 32, 68, 85, 80, 32, 69, 81, 85, 65, 76] := by decide +kernel
set_option maxRecDepth 100000 in
theorem live_parse : parseL [49, 32, 32, 60, 48, 49, 48, 50, 62, 32, 68, 85, 80, 32, 69, 81, 85, 65, 76] = some [81, 2, 1, 2, 118, 135] := by decide +kernel
set_option maxRecDepth 100000 in
theorem live_not : parseL [60, 48, 55, 62] = none := by decide +kernel

set_option maxRecDepth 100000 in
set_option maxHeartbeats 1000000 in
theorem alive_any (w : World) (hg : Gd w) : Calls Tryz.prog 5 #[] w fun e w' => e = .returned (.bool true) ∧ Below w.heap.size w w' := by
  obtain ⟨E, hE⟩ : ∃ E : Ending → World → Prop, E = fun e w' => e = .returned (.bool true) ∧ Below w.heap.size w w' := ⟨_, rfl⟩
  rw [← hE]
  have HE := Lib.hid hE
  have HG := Lib.hid hg
  clear hE
  have hlit : RdB (w.alloc (.cells #[.int .u8 81, .int .u8 2, .int .u8 1, .int .u8 2, .int .u8 118, .int .u8 135] 5)) (w.alloc (.cells #[.int .u8 81, .int .u8 2, .int .u8 1, .int .u8 2, .int .u8 118, .int .u8 135] 5)).heap.size (some ⟨w.heap.size, 0, none⟩) 6 [81, 2, 1, 2, 118, 135] :=
    RdB.of_own (base := w.heap.size) (e := 5) (c := 6) (World.ownsRow_lit (base := w.heap.size) (e := 5) (size := 1) w #[.int .u8 81, .int .u8 2, .int .u8 1, .int .u8 2, .int .u8 118, .int .u8 135] 6 (Nat.le_refl _) (by unfold maxLen; omega) rfl)
  have hb0 : Below w.heap.size w (w.alloc (.cells #[.int .u8 81, .int .u8 2, .int .u8 1, .int .u8 2, .int .u8 118, .int .u8 135] 5)) := (Below.refl _ _).alloc (Nat.le_refl _) _
  have HP := Lib.hid (print_any _ 6 6 _ _ hlit (Nat.le_refl _) (by unfold maxLen; omega) (by omega) (HG.out.below hb0))
  rw [live_print] at HP
  clear hlit
  go_enter Tryz.func5, Tryz.ntmps5
  go_wp2_with fail
  refine HP.out.mono ?_
  rintro e w1 ⟨rfl, hb1⟩
  have hb01 := hb0.trans (hb1.mono hb0.size)
  have HPA := Lib.hid (parse_any ⟨#[49, 32, 32, 60, 48, 49, 48, 50, 62, 32, 68, 85, 80, 32, 69, 81, 85, 65, 76]⟩ w1 (HG.out.below hb01) (by decide))
  rw [show (⟨#[49, 32, 32, 60, 48, 49, 48, 50, 62, 32, 68, 85, 80, 32, 69, 81, 85, 65, 76]⟩ : ByteArray).data.toList = [49, 32, 32, 60, 48, 49, 48, 50, 62, 32, 68, 85, 80, 32, 69, 81, 85, 65, 76] from rfl, live_parse] at HPA
  go_wp2_with fail
  refine HPA.out.mono ?_
  rintro e w2 ⟨⟨v, rfl, hv⟩, hb2⟩
  have hb02 := hb01.trans (hb2.mono hb01.size)
  have HPN := Lib.hid (parse_any ⟨#[60, 48, 55, 62]⟩ w2 (HG.out.below hb02) (by decide))
  rw [show (⟨#[60, 48, 55, 62]⟩ : ByteArray).data.toList = [60, 48, 55, 62] from rfl, live_not] at HPN
  have HV := Lib.hid hv
  clear hv
  go_wp2_with fail
  refine HPN.out.mono ?_
  rintro e w3 ⟨rfl, hb3⟩
  have hb03 := hb02.trans (hb3.mono hb02.size)
  have hst := strPush (HV.out.below hb3)
  clear hb0 hb1 hb2 hb3 hb01 hb02
  go_wp2
  rw [HE.out]
  exact ⟨rfl, hb03⟩

end Go.Proofs.YtggadilgkcjbjaaGreatDoor
