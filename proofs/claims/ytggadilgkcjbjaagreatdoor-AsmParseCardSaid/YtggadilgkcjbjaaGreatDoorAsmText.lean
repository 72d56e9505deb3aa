/-
  The walk over text of asm.
-/
import Derived.Test.YtggadilgkcjbjaaGreatDoorAsmPush
set_option linter.unusedVariables false
namespace Go.Proofs.YtggadilgkcjbjaaGreatDoor
open Go.RowKit Go.Sort

theorem name_str (m : Nat) : nameB m = ⟨(nameL m).toArray⟩ := rfl
theorem name_ne {m : Nat} (h : nameB m ≠ ⟨#[]⟩) : nameL m ≠ [] := by
  intro e
  apply h
  rw [name_str, e]
theorem name_no {m : Nat} (h : nameB m = ⟨#[]⟩) : nameL m = [] := by
  unfold nameL
  rw [h]

set_option maxRecDepth 100000 in
set_option maxHeartbeats 1000000 in
theorem text_any (v : Value) (x : Wd) (w : World) (h : WordAt w v x) (hn : x.2.length ≤ 65535) (hg : Gd w) :
    Calls Tryz.prog 11 #[v] w (StrEnd (textL x) w) := by
  obtain ⟨p, rfl, hp⟩ := h
  obtain ⟨A, c, rfl⟩ := hp.slice
  obtain ⟨E, hE⟩ : ∃ E, E = StrEnd (textL x) w := ⟨_, rfl⟩
  rw [← hE]
  have HE := Lib.hid hE
  have HP := Lib.hid hp
  have HG := Lib.hid hg
  clear hE hp hg
  obtain ⟨op, bs⟩ := x
  obtain ⟨y, hy⟩ : ∃ y : Nat, op.toNat = y := ⟨_, rfl⟩
  have hy1 : y < 256 := by rw [← hy]; exact UInt8.toNat_lt _
  obtain ⟨n, hnn⟩ : ∃ n, n = bs.length := ⟨_, rfl⟩
  have HY := Lib.hid hy
  have HNN := Lib.hid hnn
  show Calls Tryz.prog 11 #[.agg #[.int .u8 (op.toNat : Int), .slice A bs.length c]] w E
  rw [hy, ← hnn]
  have hn' : n ≤ 65535 := by rw [hnn]; exact hn
  clear hy hnn hn
  obtain ⟨X, hX⟩ : ∃ X, X = w.alloc (.cells #[.int .u8 (y : Int), .slice A n c] 36) := ⟨_, rfl⟩
  have hbX : Below w.heap.size w X := by rw [hX]; exact (Below.refl _ _).alloc (Nat.le_refl _) _
  have hblk : Blk X w.heap.size 36 #[.int .u8 (y : Int), .slice A n c] := by rw [hX]; exact Blk.new w _ _
  have HGX := Lib.hid (HG.out.below hbX)
  have HWX : Hid (WordAt X (.agg #[.int .u8 (y : Int), .slice A n c]) (op, bs)) := ⟨_, by rw [HY.out, HNN.out], HP.out.below hbX⟩
  have HPU : Hid (Calls Tryz.prog 21 #[.agg #[.int .u8 (y : Int), .slice A n c]] X (PushesEnd (pushesL (op, bs)) X)) := pushes_any _ (op, bs) _ HWX.out (by show bs.length ≤ _; rw [← HNN.out]; omega)
  have HPT : Hid (∀ w', Below X.heap.size X w' → Calls Tryz.prog 22 #[.agg #[.int .u8 (y : Int), .slice A n c]] w' (StrEnd (pushTextL (op, bs)) w')) := fun w' hb => pushText_any _ (op, bs) _ (by obtain ⟨p, e, hp⟩ := HWX.out; exact ⟨p, e, hp.below hb⟩) (by show bs.length ≤ _; rw [← HNN.out]; omega) (HGX.out.below hb)
  have hlv : ∀ w', Below X.heap.size X w' → Blk w' w.heap.size 36 #[.int .u8 (y : Int), .slice A n c] := fun w' hb => hblk.below hb hblk.lt
  have HLV := Lib.hid hlv
  have hlt : y < 1000 := by omega
  have hwy : IntKind.i64.wrap (y : Int) = (y : Int) := by rw [IntKind.wrap_i64]; omega
  clear hblk hlv
  go_enter Tryz.func11, Tryz.ntmps11
  go_wp2_with fail
  rw [← hX]
  refine HPU.out.mono ?_
  intro e w1 h1
  clear hX
  cases hpu : pushesL (op, bs) with
  | some b =>
    rw [hpu] at h1
    obtain ⟨⟨q, rfl, hq⟩, hb1⟩ := h1
    have HV : Hid (textL (op, bs) = pushTextL (op, bs)) := by show _ = _; unfold textL; rw [hpu]; rfl
    have hb01 := hbX.trans (hb1.mono hbX.size)
    have hblk1 := HLV.out w1 hb1
    have hd0 := hblk1.cell 0
    have hd1 := hblk1.cell 1
    simp only [List.getElem?_toArray, List.getElem?_cons_zero, List.getElem?_cons_succ] at hd0 hd1
    clear hpu hq hblk1
    go_wp2_with fail
    refine (HPT.out _ hb1).mono ?_
    rintro e w2 ⟨rfl, hb2⟩
    go_wp2
    rw [HE.out, HV.out]
    exact strEnd_mk rfl (hb01.trans (hb2.mono hb01.size))
  | none =>
    rw [hpu] at h1
    obtain ⟨rfl, hb1⟩ := h1
    have HV : Hid (textL (op, bs) = if nameL y ≠ [] then nameL y else 111 :: 112 :: dec3 y) := by
      show _ = _
      unfold textL
      rw [hpu]
      simp only [HY.out]
      rfl
    have hb01 := hbX.trans (hb1.mono hbX.size)
    have hblk1 := HLV.out w1 hb1
    have hd0 := hblk1.cell 0
    have hd1 := hblk1.cell 1
    simp only [List.getElem?_toArray, List.getElem?_cons_zero, List.getElem?_cons_succ] at hd0 hd1
    have HG1 := Lib.hid (HGX.out.below hb1)
    clear hpu hblk1
    go_wp2_with fail
    refine (name_any y _ hy1).mono ?_
    rintro e w2 ⟨rfl, rfl⟩
    by_cases hs : nameB y = ⟨#[]⟩
    · have HVV : Hid (textL (op, bs) = 111 :: 112 :: dec3 y) := by show _ = _; rw [HV.out, if_neg (by simp [name_no hs])]
      rw [show decide (nameB y ≠ ⟨#[]⟩) = false by rw [hs]; rfl]
      have hdl : (dec3 y).length ≤ 3 := dec3_length y
      clear hs
      go_wp2_with fail
      refine (itoa_any _ hlt _ HG1.out).mono ?_
      rintro e w3 ⟨rfl, hb3⟩
      have hb03 := hb01.trans (hb3.mono hb01.size)
      clear hb3
      go_wp2
      rw [HE.out, HVV.out]
      exact strEnd_mk (bytes_app [111, 112] (dec3 y)) hb03
    · have HVV : Hid (textL (op, bs) = nameL y) := by show _ = _; rw [HV.out, if_pos (name_ne hs)]
      rw [show decide (nameB y ≠ ⟨#[]⟩) = true from decide_eq_true hs]
      have HNS : Hid (nameB y = ⟨(nameL y).toArray⟩) := name_str y
      clear hs
      obtain ⟨t, ht⟩ : ∃ t, t = nameB y := ⟨_, rfl⟩
      rw [← ht] at HNS ⊢
      clear ht
      go_wp2
      rw [HE.out, HVV.out]
      exact strEnd_mk HNS.out hb01

end Go.Proofs.YtggadilgkcjbjaaGreatDoor
