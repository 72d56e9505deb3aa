/-
  The walk over the law HexesBack: it returns true, and writes nothing that was there.
-/
import Derived.Test.YtifjpjbjlgeifaaHexLaw2
set_option linter.unusedVariables false
namespace Go.Proofs.Ytifjpjbjlgeifaa
open Go.RowKit

/-- The last byte alone, out of the array's block. -/
theorem Blk.rd1 {w : World} {g n : Nat} {t : TypeId} {bs : List UInt8} (h : Blk w g t (Lib.byteCells bs).toArray) (hl : bs.length = n + 1) (z : UInt8) (hz : bs[n]? = some z) : RdB w w.heap.size (some ⟨g, n, none⟩) 1 [z] := by
  refine ⟨by simp [Lib.byteCells_length], fun _ => ⟨_, rfl, h.lt, fun j u hu => ?_⟩⟩
  obtain rfl : j = 0 := by
    have := (List.getElem?_eq_some_iff.1 hu).1
    simp [Lib.byteCells_length] at this
    omega
  rw [show (⟨g, n, none⟩ : Addr).add 0 = ⟨g, n, none⟩ by unfold Addr.add; simp, h.cell]
  simp only [Lib.byteCells, List.getElem?_toArray, List.getElem?_map, hz, Option.map_some]
  simpa [Lib.byteCells] using hu

/-- What lies as it lay. -/
def HeldB (w : World) (g0 g1 : Nat) (hs : List UInt8) (A : Option Addr) (n : Nat) (bs : List UInt8) (B : Nat) (Ax : Option Addr) (w' : World) : Prop :=
  Below w.heap.size w w' ∧ Blk w' g0 30 (Lib.byteCells hs).toArray ∧ Blk w' g1 30 (Lib.byteCells hs).toArray ∧ RdB w' w.heap.size A n bs ∧ B ≤ w'.heap.size ∧ RdB w' B Ax bs.length bs

theorem HeldB.call {w wA w' : World} {g0 g1 : Nat} {hs : List UInt8} {A : Option Addr} {n : Nat} {bs : List UInt8} {B : Nat} {Ax : Option Addr} (h : HeldB w g0 g1 hs A n bs B Ax wA) (hb : Below wA.heap.size wA w') : HeldB w g0 g1 hs A n bs B Ax w' :=
  ⟨h.1.trans (hb.mono h.1.size), h.2.1.below hb h.2.1.lt, h.2.2.1.below hb h.2.2.1.lt, h.2.2.2.1.below' hb h.1.size, Nat.le_trans h.2.2.2.2.1 hb.size, h.2.2.2.2.2.below' hb h.2.2.2.2.1⟩

theorem hexEnc_first (l : List UInt8) (z : UInt8) (r : List UInt8) (h : l = z :: r) : (hexEnc l).take 2 = hexEnc [z] := by
  subst h; rfl

theorem first_two {t : ByteArray} {hs : List UInt8} {z : UInt8} (ht : t = ⟨(hexEnc hs.reverse).toArray⟩) (hl : hs.length = 32) (hz : hs[31]? = some z) : ((t.extract 0 2).toList == hexEnc [z]) = true := by
  have hr : hs.reverse = z :: (hs.take 31).reverse := by
    have h1 : hs = hs.take 31 ++ [z] := by
      apply List.ext_getElem?
      intro i
      by_cases hi : i < 31
      · rw [List.getElem?_append_left (by simp; omega), List.getElem?_take_of_lt hi]
      · rw [List.getElem?_append_right (by simp; omega)]
        by_cases h31 : i = 31
        · subst h31; rw [hz]; simp [hl]
        · rw [List.getElem?_eq_none (by omega), List.getElem?_eq_none (by simp; omega)]
    conv => lhs; rw [h1]
    simp
  rw [beq_iff_eq, toList_data, ← hexEnc_first _ z _ hr, ht]
  rw [Lib.extract_data]
  simp

set_option maxHeartbeats 1000000 in
theorem lawBack (A : Option Addr) (n c : Nat) (bs hs : List UInt8) (w : World) (h : RdB w w.heap.size A n bs) (hl : hs.length = 32) (hc : n ≤ maxLen) :
    Calls Try.prog 7 #[.slice A n c, .agg (Lib.byteCells hs).toArray] w fun e w' => e = .returned (.bool true) ∧ Below w.heap.size w w' := by
  have HLB := Lib.hid h.len
  have H := Lib.hid h
  have HL := Lib.hid hl
  clear h hl
  have HB0 := Lib.hid (Blk.new w 30 (Lib.byteCells hs).toArray)
  have hb0 : Below w.heap.size w (w.alloc (.cells (Lib.byteCells hs).toArray 30)) := (Below.refl _ _).alloc (Nat.le_refl _) _
  by_cases hn : 300 < n
  · have hn' : (300 : Int) < (n : Int) := by omega
    go_enter Try.func7, Try.ntmps7
    go_wp2_with fail
    refine (alive_any _).mono ?_
    rintro e w1 ⟨rfl, hb1⟩
    go_wp2
    go_ret
    exact ⟨rfl, hb0.trans (hb1.mono hb0.size)⟩
  · have hn' : (n : Int) ≤ 300 := by omega
    go_enter Try.func7, Try.ntmps7
    go_wp2_with fail
    refine (encode_any A n c bs _ ((H.out.below hb0).more hb0.size) (by omega)).mono ?_
    rintro e w1 ⟨rfl, hb1⟩
    have hb01 : Below w.heap.size w w1 := hb0.trans (hb1.mono hb0.size)
    have HB1 := Lib.hid (HB0.out.below hb1 HB0.out.lt)
    clear hb0 hb1 HB0
    obtain ⟨s, hs0⟩ : ∃ s : ByteArray, s = ⟨(hexEnc bs).toArray⟩ := ⟨_, rfl⟩
    have hsl : s.size = 2 * n := by
      rw [hs0]
      show (hexEnc bs).toArray.size = 2 * n
      rw [List.size_toArray, hexEnc_length, HLB.out]
    have HD : Hid (hexDec s.data.toList = some bs) := by
      show hexDec s.data.toList = some bs
      rw [hs0]
      exact hexDec_enc bs
    rw [← hs0]
    have HSL := Lib.hid hsl
    clear hs0
    go_wp2_with fail
    refine (dec_some s bs _ HD.out (by omega)).mono ?_
    rintro e w2 ⟨Ax, cx, rfl, hrx, hb2⟩
    have hb02 : Below w.heap.size w w2 := hb01.trans (hb2.mono hb01.size)
    have HB2 := Lib.hid (HB1.out.below hb2 HB1.out.lt)
    have HX2 := Lib.hid hrx
    clear hb01 hb2 HB1 hrx
    go_wp2_with (refine wpList_loadB 30 _ rfl rfl rfl HB2.out _ Try.underlying30 rfl 32 info32 ((bytes_size _).trans HL.out) ?_)
    go_wp2_with fail
    refine (name_any hs _ HL.out).mono ?_
    rintro e w3 ⟨rfl, hb3⟩
    have hb03 : Below w.heap.size w w3 := hb02.trans (hb3.mono hb02.size)
    have HB3 := Lib.hid (HB2.out.below hb3 HB2.out.lt)
    have HX3 := Lib.hid (HX2.out.below hb3)
    have hz23 := Lib.hid hb3.size
    clear hb02 hb3 HB2 HX2
    obtain ⟨t, ht0⟩ : ∃ t : ByteArray, t = ⟨(hexEnc hs.reverse).toArray⟩ := ⟨_, rfl⟩
    have htl : t.size = 64 := by
      rw [ht0]
      show (hexEnc hs.reverse).toArray.size = 64
      rw [List.size_toArray, hexEnc_length, List.length_reverse, HL.out]
    have HDT : Hid (hexDec t.data.toList = some hs.reverse) := by
      show hexDec t.data.toList = some hs.reverse
      rw [ht0]
      exact hexDec_enc _
    have HT0 := Lib.hid ht0
    rw [← ht0]
    have HTL := Lib.hid htl
    clear ht0
    go_wp2_with fail
    refine (parse_some t hs.reverse _ HDT.out (by rw [List.length_reverse]; exact HL.out) (by omega)).mono ?_
    rw [List.reverse_reverse]
    rintro e w4 ⟨rfl, hb4⟩
    have hb04 : Below w.heap.size w w4 := hb03.trans (hb4.mono hb03.size)
    have HB4 := Lib.hid (HB3.out.below hb4 HB3.out.lt)
    have HX4 := Lib.hid (HX3.out.below' hb4 hz23.out)
    have hz24 := Lib.hid (Nat.le_trans hz23.out hb4.size)
    clear hb03 hb4 HB3 HX3
    have HZ4 := Lib.hid (Blk.new32 w4)
    go_wp2_with (refine wpList_storeB 30 _ _ rfl rfl _ rfl rfl HZ4.out 32 info32 rfl ((bytes_size _).trans HL.out) (bytes_cells_one hs) ?_)
    intro w5 hB5 hg5
    have hb45 : Below w4.heap.size w4 w5 := (below_new32 w4).grown hg5 (below_new32 w4).size (fun k hk => by injection hk with hk; omega)
    have hb05 : Below w.heap.size w w5 := hb04.trans (hb45.mono hb04.size)
    obtain ⟨z, hz⟩ : ∃ z, hs[31]? = some z := ⟨hs[31]'(by rw [HL.out]; omega), List.getElem?_eq_getElem _⟩
    have HZ := Lib.hid hz
    have hfirst := first_two HT0.out HL.out hz
    have HS : Hid (HeldB w w.heap.size w4.heap.size hs A n bs w2.heap.size Ax w5.drew) :=
      ⟨hb05.drew, HB4.out.below hb45.drew HB4.out.lt, hB5, H.out.below hb05.drew, Nat.le_trans hz24.out hb45.size, HX4.out.below' hb45.drew hz24.out⟩
    clear hB5 hg5 HZ4 HB4 HX4 hb04 hb45 hb05 hz
    have heq := run_eql_bytes hs HL.out
    have heg : Try.prog.eqGuardType Try.prog.depth 30 = false := by kernel_rfl
    have hw2 : IntKind.i64.wrap (2 * (n : Int)) = 2 * (n : Int) := IntWalk.i64_in _ (by omega)
    go_wp2_with fail
    refine calm_region (HeldB w w.heap.size w4.heap.size hs A n bs w2.heap.size Ax) (by kernel_rfl) (by kernel_rfl) HS.out ?_
    repeat (first
      | ((first
          | (refine calm_load 30 _ rfl (by rfl) w.heap.size rfl _ (fun w' h' => load32 h'.2.1 HL.out) ?_)
          | (refine calm_load 30 _ rfl (by rfl) w4.heap.size rfl _ (fun w' h' => load32 h'.2.2.1 HL.out) ?_)
          | (refine calm_step (by rfl) (.bool true) (fun w5 hw5 => ?_) ?_
             · (go_simp; go_at_call 8; exact (alive_any _).mono fun e w' h' => ⟨h'.1, hw5.call h'.2⟩))
          | (refine calm_val (by rfl) (.string ⟨bs.toArray⟩) (fun w' h' => ?_) ?_
             · (have hc1 := strOf h'.2.2.2.2.2 cx; have hc2 := strOf h'.2.2.2.1 c; go_simp; done))
          | (refine calm_step (by rfl) (.string ⟨(hexEnc [z]).toArray⟩) (fun w5 hw5 => ?_) ?_
             · (go_simp; go_at_call 9; exact (encode_any _ _ _ [z] _ (hw5.2.1.rd1 (n := 31) HL.out z HZ.out) (by omega)).mono fun e w' h' => ⟨h'.1, hw5.call h'.2⟩))); (try simp only [Act.put, List.setIfInBounds_toArray, List.set_cons_zero, List.set_cons_succ]))
      | (refine calm_val (by rfl) ?_ (fun _ _ => ?_) ?_; rotate_left; (focus (go_simp; first | done | with_reducible rfl | rfl)); all_goals (try simp only [Act.put, List.setIfInBounds_toArray, List.set_cons_zero, List.set_cons_succ])) | (refine calm_skip (by rfl) ?_; (try simp only [Act.put, List.setIfInBounds_toArray, List.set_cons_zero, List.set_cons_succ])))
    refine calm_nil (fun w' hw' => ?_)
    go_wp2
    go_ret
    exact ⟨rfl, hw'.1⟩

end Go.Proofs.Ytifjpjbjlgeifaa
