/-
  The walk over pushText of asm.
-/
import Derived.Test.YtggadilgkcjbjaaGreatDoorAsmWorld
set_option linter.unusedVariables false
namespace Go.Proofs.YtggadilgkcjbjaaGreatDoor
open Go.RowKit Go.Sort

/-- A text comes back. -/
def StrEnd (s : List UInt8) (w : World) (e : Ending) (w' : World) : Prop := e = .returned (.string ⟨s.toArray⟩) ∧ Below w.heap.size w w'
theorem strEnd_mk {s : List UInt8} {t : ByteArray} {w w' : World} (h : t = ⟨s.toArray⟩) (hb : Below w.heap.size w w') : StrEnd s w (.returned (.string t)) w' := by
  subst h; exact ⟨rfl, hb⟩
theorem bytes_app (a b : List UInt8) : (⟨a.toArray⟩ : ByteArray) ++ (⟨b.toArray⟩ : ByteArray) = ⟨(a ++ b).toArray⟩ := by
  apply ByteArray.ext
  simp

theorem text_join (l : List UInt8) : (⟨#[60]⟩ : ByteArray) ++ (⟨l.toArray⟩ : ByteArray) ++ (⟨#[62]⟩ : ByteArray) = ⟨(60 :: (l ++ [62])).toArray⟩ := by
  have h1 := bytes_app [60] l
  have h2 := bytes_app ([60] ++ l) [62]
  rw [← h1] at h2
  exact h2

set_option maxRecDepth 100000 in
set_option maxHeartbeats 1000000 in
theorem pushText_any (v : Value) (x : Wd) (w : World) (h : WordAt w v x) (hn : x.2.length ≤ 65535) (hg : Gd w) :
    Calls Tryz.prog 22 #[v] w (StrEnd (pushTextL x) w) := by
  obtain ⟨p, rfl, hp⟩ := h
  obtain ⟨A, c, rfl⟩ := hp.slice
  obtain ⟨E, hE⟩ : ∃ E, E = StrEnd (pushTextL x) w := ⟨_, rfl⟩
  rw [← hE]
  have HE := Lib.hid hE
  have HP := Lib.hid hp
  have HG := Lib.hid hg
  clear hE hp hg
  obtain ⟨op, bs⟩ := x
  obtain ⟨y, hy⟩ : ∃ y : Nat, op.toNat = y := ⟨_, rfl⟩
  have hy1 : y < 256 := by rw [← hy]; exact UInt8.toNat_lt _
  obtain ⟨n, hnn⟩ : ∃ n, n = bs.length := ⟨_, rfl⟩
  have HY := Lib.hid hy
  have HNN := Lib.hid hnn
  show Calls Tryz.prog 22 #[.agg #[.int .u8 (op.toNat : Int), .slice A bs.length c]] w E
  rw [hy, ← hnn]
  have hn' : n ≤ 65535 := by rw [hnn]; exact hn
  clear hy hnn hn
  obtain ⟨X, hX⟩ : ∃ X, X = w.alloc (.cells #[.int .u8 (y : Int), .slice A n c] 36) := ⟨_, rfl⟩
  have hbX : Below w.heap.size w X := by rw [hX]; exact (Below.refl _ _).alloc (Nat.le_refl _) _
  have hblk : Blk X w.heap.size 36 #[.int .u8 (y : Int), .slice A n c] := by rw [hX]; exact Blk.new w _ _
  have HGX := Lib.hid (HG.out.below hbX)
  have hbX' : Below w.heap.size w (w.alloc (.cells #[.int .u8 (y : Int), .slice A n c] 36)) := by rw [← hX]; exact hbX
  by_cases h79 : y = 79
  · have h79i : (y : Int) = 79 := by omega
    have HV : Hid (pushTextL (op, bs) = [45, 49]) := by
      show _ = _
      unfold pushTextL
      simp only [HY.out]
      rw [if_neg (by omega), if_pos h79]
    rw [h79i] at hbX' ⊢
    clear hX hblk h79 h79i hy1
    go_enter Tryz.func22, Tryz.ntmps22
    go_wp2
    rw [HE.out, HV.out]
    exact strEnd_mk rfl hbX'
  have g79 : ((y : Int) == 79) = false := by rw [beq_eq_false_iff_ne]; omega
  by_cases h80 : 80 < y
  · have h80i : (80 : Int) < (y : Int) := by omega
    have g0 : ((y : Int) == 0) = false := by rw [beq_eq_false_iff_ne]; omega
    have hw : IntKind.i64.wrap ((y : Int) - 80) = ((y - 80 : Nat) : Int) := by rw [IntKind.wrap_i64]; omega
    have hwy : IntKind.i64.wrap (y : Int) = (y : Int) := by rw [IntKind.wrap_i64]; omega
    have HV : Hid (pushTextL (op, bs) = dec3 (y - 80)) := by
      show _ = _
      unfold pushTextL
      simp only [HY.out]
      rw [if_neg (by omega), if_neg h79, if_pos h80]
    have hlt : y - 80 < 1000 := by omega
    clear h79 h80 hblk hy1
    go_enter Tryz.func22, Tryz.ntmps22
    go_wp2_with fail
    rw [← hX]
    refine (itoa_any _ hlt _ HGX.out).mono ?_
    rintro e w1 ⟨rfl, hb1⟩
    go_wp2
    rw [HE.out, HV.out]
    exact strEnd_mk rfl (hbX.trans (hb1.mono hbX.size))
  have g80 : ¬ (80 : Int) < (y : Int) := by omega
  have g80' : decide ((80 : Int) < (y : Int)) = false := decide_eq_false g80
  have HWX : Hid (WordAt X (.agg #[.int .u8 (y : Int), .slice A n c]) (op, bs)) := ⟨_, by rw [HY.out, HNN.out], HP.out.below hbX⟩
  by_cases h00 : y = 0 ∧ n = 0
  · have HV : Hid (pushTextL (op, bs) = [48]) := by
      show _ = _
      unfold pushTextL
      simp only [HY.out]
      rw [if_pos ⟨h00.1, List.eq_nil_of_length_eq_zero (by rw [← HNN.out]; exact h00.2)⟩]
    obtain ⟨hy0, hn0⟩ := h00
    have hyi : (y : Int) = 0 := by omega
    have hni : (n : Int) = 0 := by omega
    rw [hyi] at hbX' ⊢
    clear hX hblk hyi hy0 g79 g80 g80' HWX h79 h80 hy1 hn'
    subst hn0
    go_enter Tryz.func22, Tryz.ntmps22
    go_wp2
    rw [HE.out, HV.out]
    exact strEnd_mk rfl hbX'
  have hcase : (y = 0 ∧ n ≠ 0) ∨ y ≠ 0 := by omega
  have HV : Hid (pushTextL (op, bs) = (if shortL (op, bs) then [] else dec3 y) ++ 60 :: (hexEnc bs ++ [62])) := by
    show _ = _
    unfold pushTextL
    simp only [HY.out]
    rw [if_neg (by
      rintro ⟨ha, hb⟩
      exact h00 ⟨ha, by rw [HNN.out, hb]; rfl⟩), if_neg h79, if_neg h80]
    split <;> rfl
  have HRX : Hid (RdB X X.heap.size A n bs) := by
    obtain ⟨A', c', e, hr, _⟩ := (HP.out.below hbX).byte
    cases e
    rw [HNN.out]
    exact hr
  have hlt : y < 1000 := by omega
  have hwy : IntKind.i64.wrap (y : Int) = (y : Int) := by rw [IntKind.wrap_i64]; omega
  have HSH : Hid (∀ w', Below X.heap.size X w' → Calls Tryz.prog 46 #[.agg #[.int .u8 (y : Int), .slice A n c]] w' fun e w'' => e = .returned (.bool (shortL (op, bs))) ∧ Below w'.heap.size w' w'') := fun w' hb => short_any _ (op, bs) _ (by obtain ⟨p, e, hp⟩ := HWX.out; exact ⟨p, e, hp.below hb⟩) (by show bs.length ≤ _; rw [← HNN.out]; omega)
  have HEN : Hid (Calls Tryz.prog 45 #[.slice A n c] X fun e w' => e = .returned (.string ⟨(hexEnc bs).toArray⟩) ∧ Below X.heap.size X w') := encode_any A n c bs X HRX.out (by omega)
  have hlv : ∀ w', Below X.heap.size X w' → Blk w' w.heap.size 36 #[.int .u8 (y : Int), .slice A n c] := fun w' hb => hblk.below hb hblk.lt
  have HLV := Lib.hid hlv
  have hel : (hexEnc bs).length ≤ 131070 := by rw [hexEnc_length, ← HNN.out]; omega
  clear h79 h80 h00 hblk hlv hy1 hn'
  have main : ∀ (g0 : ((y : Int) == 0) = false ∨ (((y : Int) == 0) = true ∧ ((n : Int) == 0) = false)), Calls Tryz.prog 22 #[.agg #[.int .u8 (y : Int), .slice A n c]] w E := by
    intro g0
    rcases g0 with g0 | ⟨g0, g1⟩
    · go_enter Tryz.func22, Tryz.ntmps22
      go_wp2_with fail
      rw [← hX]
      refine HEN.out.mono ?_
      rintro e w1 ⟨rfl, hb1⟩
      have hblk1 := HLV.out w1 hb1
      have hb01 := hbX.trans (hb1.mono hbX.size)
      have hd0 := hblk1.cell 0
      have hd1 := hblk1.cell 1
      simp only [List.getElem?_toArray, List.getElem?_cons_zero, List.getElem?_cons_succ] at hd0 hd1
      have HG1 := Lib.hid (HGX.out.below hb1)
      clear hX hblk1
      go_wp2_with fail
      refine (HSH.out _ hb1).mono ?_
      rintro e w2 ⟨rfl, hb2⟩
      have hblk2 := HLV.out w2 (hb1.trans (hb2.mono hb1.size))
      have hb02 := hb01.trans (hb2.mono hb01.size)
      have hd0 := hblk2.cell 0
      have hd1 := hblk2.cell 1
      simp only [List.getElem?_toArray, List.getElem?_cons_zero, List.getElem?_cons_succ] at hd0 hd1
      have HG2 := Lib.hid (HG1.out.below hb2)
      clear hb1 hb2 hblk2
      cases hs : shortL (op, bs) with
      | true =>
        have HVV : Hid (pushTextL (op, bs) = 60 :: (hexEnc bs ++ [62])) := by show _ = _; rw [HV.out, hs]; rfl
        clear hs
        go_wp2
        rw [HE.out, HVV.out]
        exact strEnd_mk (text_join _) hb02
      | false =>
        have HVV : Hid (pushTextL (op, bs) = dec3 y ++ 60 :: (hexEnc bs ++ [62])) := by show _ = _; rw [HV.out, hs]; rfl
        have hdl : (dec3 y).length ≤ 3 := dec3_length y
        clear hs
        go_wp2_with fail
        refine (itoa_any _ hlt _ HG2.out).mono ?_
        rintro e w3 ⟨rfl, hb3⟩
        have hb03 := hb02.trans (hb3.mono hb02.size)
        clear hb3
        go_wp2
        rw [HE.out, HVV.out]
        exact strEnd_mk (by rw [text_join, bytes_app]) hb03
    · go_enter Tryz.func22, Tryz.ntmps22
      go_wp2_with fail
      rw [← hX]
      refine HEN.out.mono ?_
      rintro e w1 ⟨rfl, hb1⟩
      have hblk1 := HLV.out w1 hb1
      have hb01 := hbX.trans (hb1.mono hbX.size)
      have hd0 := hblk1.cell 0
      have hd1 := hblk1.cell 1
      simp only [List.getElem?_toArray, List.getElem?_cons_zero, List.getElem?_cons_succ] at hd0 hd1
      have HG1 := Lib.hid (HGX.out.below hb1)
      clear hX hblk1
      go_wp2_with fail
      refine (HSH.out _ hb1).mono ?_
      rintro e w2 ⟨rfl, hb2⟩
      have hblk2 := HLV.out w2 (hb1.trans (hb2.mono hb1.size))
      have hb02 := hb01.trans (hb2.mono hb01.size)
      have hd0 := hblk2.cell 0
      have hd1 := hblk2.cell 1
      simp only [List.getElem?_toArray, List.getElem?_cons_zero, List.getElem?_cons_succ] at hd0 hd1
      have HG2 := Lib.hid (HG1.out.below hb2)
      clear hb1 hb2 hblk2
      cases hs : shortL (op, bs) with
      | true =>
        have HVV : Hid (pushTextL (op, bs) = 60 :: (hexEnc bs ++ [62])) := by show _ = _; rw [HV.out, hs]; rfl
        clear hs
        go_wp2
        rw [HE.out, HVV.out]
        exact strEnd_mk (text_join _) hb02
      | false =>
        have HVV : Hid (pushTextL (op, bs) = dec3 y ++ 60 :: (hexEnc bs ++ [62])) := by show _ = _; rw [HV.out, hs]; rfl
        have hdl : (dec3 y).length ≤ 3 := dec3_length y
        clear hs
        go_wp2_with fail
        refine (itoa_any _ hlt _ HG2.out).mono ?_
        rintro e w3 ⟨rfl, hb3⟩
        have hb03 := hb02.trans (hb3.mono hb02.size)
        clear hb3
        go_wp2
        rw [HE.out, HVV.out]
        exact strEnd_mk (by rw [text_join, bytes_app]) hb03
  rcases hcase with ⟨ha, hb⟩ | ha
  · exact main (.inr ⟨by rw [beq_iff_eq]; omega, by rw [beq_eq_false_iff_ne]; omega⟩)
  · exact main (.inl (by rw [beq_eq_false_iff_ne]; omega))

end Go.Proofs.YtggadilgkcjbjaaGreatDoor
