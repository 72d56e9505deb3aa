/-
  The walk over word of asm.
-/
import Derived.Test.YtggadilgkcjbjaaGreatDoorAsmPushed
set_option linter.unusedVariables false
namespace Go.Proofs.YtggadilgkcjbjaaGreatDoor
open Go.RowKit Go.Sort

theorem containslt_any (s : ByteArray) (w : World) : Calls Tryz.prog 35 #[.string s, .string ⟨#[60]⟩] w fun e w' => e = .returned (.bool (decide (60 ∈ s.data.toList))) ∧ w' = w := by
  refine (Tryz.strings_Contains_one s 60 w).mono ?_
  rintro e w' ⟨rfl, rfl⟩
  rw [contains_lt]
  exact ⟨rfl, rfl⟩

set_option maxRecDepth 100000 in
set_option maxHeartbeats 2000000 in
theorem wordPush_any (s : ByteArray) (w : World) (hg : Gd w) (hs : s.size ≤ 100000) (hlt : (60 : UInt8) ∈ s.data.toList) :
    Calls Tryz.prog 16 #[.string s] w (PushedEnd (wordL s.data.toList) 65535 w) := by
  obtain ⟨E, hE⟩ : ∃ E, E = PushedEnd (wordL s.data.toList) 65535 w := ⟨_, rfl⟩
  rw [← hE]
  have HE := Lib.hid hE
  have HP := Lib.hid (pushed_any s · · hs)
  have HC := Lib.hid (containslt_any s)
  rw [decide_eq_true hlt] at HC
  have HG := Lib.hid hg
  clear hE
  go_enter Tryz.func16, Tryz.ntmps16
  obtain ⟨X, hX⟩ : ∃ X, X = w.alloc (.cells #[.int .u8 0, .slice none 0 0] 36) := ⟨_, rfl⟩
  have hbX : Below w.heap.size w X := by rw [hX]; exact (Below.refl _ _).alloc (Nat.le_refl _) _
  have hblk : Blk X w.heap.size 36 #[.int .u8 0, .slice none 0 0] := by rw [hX]; exact Blk.new w _ _
  have HLV : Hid (∀ w', Below X.heap.size X w' → Blk w' w.heap.size 36 #[.int .u8 0, .slice none 0 0]) := fun w' hb => hblk.below hb hblk.lt
  go_wp2_with fail
  rw [← hX]
  have HGX := Lib.hid (HG.out.below hbX)
  clear hX hblk
  refine (HC.out X).mono ?_
  rintro e w1 ⟨rfl, hw⟩
  rw [hw]
  clear hw w1
  go_wp2_with fail
  refine (HP.out _ HGX.out).mono ?_
  rintro e w2 ⟨v, x, rfl, ⟨p, rfl, hp⟩, hxl, hx, hb2⟩
  obtain ⟨A2, c2, e2⟩ := hp.slice
  subst e2
  obtain ⟨z, hz⟩ : ∃ z, z = x.1.toNat := ⟨_, rfl⟩
  have HZ := Lib.hid hz
  obtain ⟨m, hm⟩ : ∃ m, m = x.2.length := ⟨_, rfl⟩
  have HM := Lib.hid hm
  have HPP := Lib.hid hp
  rw [← hz, ← hm]
  rw [← hm] at hxl HPP
  have hb02 := hbX.trans (hb2.mono hbX.size)
  have hblk2 := HLV.out _ hb2
  clear hp hz hm
  obtain ⟨Y, hY⟩ : ∃ Y, Y = w2.alloc (.cells #[.int .u8 (z : Int), .slice A2 m c2] 36) := ⟨_, rfl⟩
  have hbY : Below w2.heap.size w2 Y := by rw [hY]; exact (Below.refl _ _).alloc (Nat.le_refl _) _
  have hYs : Y.heap.size = w2.heap.size + 1 := by rw [hY]; simp
  have hblkY : Blk Y w2.heap.size 36 #[.int .u8 (z : Int), .slice A2 m c2] := by rw [hY]; exact Blk.new w2 _ _
  have hal : Below Y.heap.size Y (Y.alloc (.cells #[.int .u8 (z : Int), .slice A2 m c2] 36)) := (Below.refl _ _).alloc (Nat.le_refl _) _
  have hbZ := hb02.trans ((hbY.trans (hal.mono hbY.size)).mono hb02.size)
  have HB2Z : Hid (Below w2.heap.size w2 (Y.alloc (.cells #[.int .u8 (z : Int), .slice A2 m c2] 36))) := hbY.trans (hal.mono hbY.size)
  have HROW : Hid (RowAt (Y.alloc (.cells #[.int .u8 (z : Int), .slice A2 m c2] 36)) 0 (.slice (some ⟨w2.heap.size + 1, 0, none⟩) 1 1) [x]) := by
    refine ⟨[.int .u8 (z : Int), .slice A2 m c2], ?_, by rw [HZ.out], HPP.out.below HB2Z.out, trivial⟩
    have := World.ownsRow_lit (base := 0) (e := 36) (size := 2) Y #[.int .u8 (z : Int), .slice A2 m c2] 1 (Nat.zero_le _) (by unfold maxLen; omega) rfl
    rw [hYs] at this
    exact this
  have HBU := Lib.hid (build_any _ [x] 0 _ HROW.out (by simp) (by intro y hy; rw [List.mem_singleton.1 hy]; have := HM.out; omega))
  have hbl : buildL [x] = (layL x).map (· ++ []) := by rw [buildL_cons]; cases layL x <;> rfl
  have HBL := Lib.hid hbl
  have HLV3 : Hid (∀ w', Below (Y.alloc (.cells #[.int .u8 (z : Int), .slice A2 m c2] 36)).heap.size (Y.alloc (.cells #[.int .u8 (z : Int), .slice A2 m c2] 36)) w' →
      Blk w' w2.heap.size 36 #[.int .u8 (z : Int), .slice A2 m c2] ∧ Blk w' w.heap.size 36 #[.int .u8 0, .slice none 0 0] ∧ Below w.heap.size w w' ∧ PushAt w' (.slice A2 m c2) x.2) := by
    intro w' hb
    have h1 := (hblkY.below hal hblkY.lt)
    have h2 := hblk2.below HB2Z.out hblk2.lt
    have h3 := HPP.out.below HB2Z.out
    exact ⟨h1.below hb h1.lt, h2.below hb h2.lt, hbZ.trans (hb.mono hbZ.size), h3.below hb⟩
  rw [hY] at HBU HLV3
  clear hY hbY hYs hblkY hal hbZ HB2Z HROW hblk2 hb2 hbl
  go_wp2_with fail
  refine HBU.out.mono ?_
  intro e w3 h3
  have hb3 : Below ((w2.alloc (.cells #[.int .u8 (z : Int), .slice A2 m c2] 36)).alloc (.cells #[.int .u8 (z : Int), .slice A2 m c2] 36)).heap.size ((w2.alloc (.cells #[.int .u8 (z : Int), .slice A2 m c2] 36)).alloc (.cells #[.int .u8 (z : Int), .slice A2 m c2] 36)) w3 := h3.2
  obtain ⟨hw, hr, hb03, hp3⟩ := HLV3.out w3 hb3
  have HW := Lib.hid hw
  have HR := Lib.hid hr
  have HP3 := Lib.hid hp3
  have hd0 := hw.cell 0
  have hd1 := hw.cell 1
  have hc0 := hr.cell 0
  have hc1 := hr.cell 1
  have hf0 := hr.frozen 0
  have hf1 := hr.frozen 1
  simp only [List.getElem?_toArray, List.getElem?_cons_zero, List.getElem?_cons_succ] at hc0 hc1 hd0 hd1
  have HG3 := Lib.hid (HG.out.below hb03)
  have h3e := h3.1
  clear h3 hb3 hw hr hp3 HLV3 HBU
  have HEND : Hid (∀ (w4 : World) (fl : Bool), PushAt w4 (.slice A2 m c2) x.2 → Blk w4 w.heap.size 36 #[.int .u8 0, .slice none 0 0] → Below w.heap.size w w4 → (wordL s.data.toList).isSome = fl → (∀ y, wordL s.data.toList = some y → x = y) → E (.returned (.tuple #[.agg #[.int .u8 (z : Int), .slice A2 m c2], .bool fl])) ((w4.setCell ⟨w.heap.size, 0, none⟩ (.int .u8 (z : Int))).setCell ⟨w.heap.size, 1, none⟩ (.slice A2 m c2))) := by
    intro w4 fl h1 h2 h3 h4 h5
    rw [HE.out]
    exact ⟨_, x, by rw [h4], ⟨_, by rw [HZ.out], (h1.setB h2 (by decide) 0 _).setB (h2.set_ 0 _) (by decide) 1 _⟩, by have := HM.out; omega, h5, (h3.setCell (p := ⟨w.heap.size, 0, none⟩) (Nat.le_refl _) _).setCell (p := ⟨w.heap.size, 1, none⟩) (Nat.le_refl _) _⟩
  have HWL : Hid (wordL s.data.toList = match pushedL s.data.toList with | none => none | some y => if (layL y).isSome ∧ textL y = s.data.toList then some y else none) := by
    show _ = _
    unfold wordL
    rw [if_pos hlt]
    cases pushedL s.data.toList <;> rfl
  clear hlt
  cases hpl : pushedL s.data.toList with
  | none =>
    have HN : Hid (wordL s.data.toList = none) := by show _ = _; rw [HWL.out, hpl]
    simp only [Option.isSome_none]
    clear hpl hx
    cases hbd : buildL [x] with
    | none =>
      rw [hbd] at h3e
      subst h3e
      clear hbd
      go_wp2_with fail
      refine wp_region_any (by kernel_rfl) ?_
      try (change wpAny _ _ _ _ _ _ _ (World.drew _))
      refine wpAny_take (i := 1) (v := ?_) rfl (by kernel_rfl) (by kernel_rfl) (by kernel_rfl) (fun _ _ _ h => h) (.inl ⟨by rfl, ?_⟩) ?_
      rotate_left
      focus (intro wx; go_simp; first | done | with_reducible rfl | rfl)
      simp only [List.getElem_toArray, List.getElem_cons_succ, List.getElem_cons_zero, Act.put, List.setIfInBounds_toArray, List.set_cons_zero, List.set_cons_succ]
      refine wpAny_take (i := 2) (v := ?_) rfl (by kernel_rfl) (by kernel_rfl) (by kernel_rfl) (fun _ _ _ h => h) (.inl ⟨by rfl, ?_⟩) ?_
      rotate_left
      focus (intro wx; go_simp; first | done | with_reducible rfl | rfl)
      simp only [List.getElem_toArray, List.getElem_cons_succ, List.getElem_cons_zero, Act.put, List.setIfInBounds_toArray, List.set_cons_zero, List.set_cons_succ]
      refine wpAny_take (i := 3) (v := undef) rfl (by kernel_rfl) (by kernel_rfl) (by kernel_rfl) (fun _ _ _ h => h) (.inr ⟨by rfl, rfl⟩) ?_
      simp only [List.getElem_toArray, List.getElem_cons_succ, List.getElem_cons_zero, Act.put, List.setIfInBounds_toArray, List.set_cons_zero, List.set_cons_succ]
      refine wpAny_take (i := 4) (v := undef) rfl (by kernel_rfl) (by kernel_rfl) (by kernel_rfl) (fun _ _ _ h => h) (.inr ⟨by rfl, rfl⟩) ?_
      simp only [List.getElem_toArray, List.getElem_cons_succ, List.getElem_cons_zero, Act.put, List.setIfInBounds_toArray, List.set_cons_zero, List.set_cons_succ]
      refine wpAny_take (i := 5) (v := ?_) rfl (by kernel_rfl) (by kernel_rfl) (by kernel_rfl) (fun _ _ _ h => h) (.inl ⟨by rfl, ?_⟩) ?_
      rotate_left
      focus (intro wx; go_simp; first | done | with_reducible rfl | rfl)
      simp only [List.getElem_toArray, List.getElem_cons_succ, List.getElem_cons_zero, Act.put, List.setIfInBounds_toArray, List.set_cons_zero, List.set_cons_succ]
      refine wpAny_take (i := 6) (v := ?_) rfl (by kernel_rfl) (by kernel_rfl) (by kernel_rfl) (fun _ _ _ h => h) (.inl ⟨by rfl, ?_⟩) ?_
      rotate_left
      focus (intro wx; go_simp; first | done | with_reducible rfl | rfl)
      simp only [List.getElem_toArray, List.getElem_cons_succ, List.getElem_cons_zero, Act.put, List.setIfInBounds_toArray, List.set_cons_zero, List.set_cons_succ]
      refine wpAny_take (i := 7) (v := undef) rfl (by kernel_rfl) (by kernel_rfl) (by kernel_rfl) (fun _ _ _ h => h) (.inr ⟨by rfl, rfl⟩) ?_
      simp only [List.getElem_toArray, List.getElem_cons_succ, List.getElem_cons_zero, Act.put, List.setIfInBounds_toArray, List.set_cons_zero, List.set_cons_succ]
      refine wpAny_take (i := 8) (v := undef) rfl (by kernel_rfl) (by kernel_rfl) (by kernel_rfl) (fun _ _ _ h => h) (.inr ⟨by rfl, rfl⟩) ?_
      simp only [List.getElem_toArray, List.getElem_cons_succ, List.getElem_cons_zero, Act.put, List.setIfInBounds_toArray, List.set_cons_zero, List.set_cons_succ]
      refine wpAny_take (i := 9) (v := undef) rfl (by kernel_rfl) (by kernel_rfl) (by kernel_rfl) (fun _ _ _ h => h) (.inr ⟨by rfl, rfl⟩) ?_
      simp only [List.getElem_toArray, List.getElem_cons_succ, List.getElem_cons_zero, Act.put, List.setIfInBounds_toArray, List.set_cons_zero, List.set_cons_succ]
      refine wpAny_take (i := 10) (v := undef) rfl (by kernel_rfl) (by kernel_rfl) (by kernel_rfl) (fun _ _ _ h => h) (.inr ⟨by rfl, rfl⟩) ?_
      simp only [List.getElem_toArray, List.getElem_cons_succ, List.getElem_cons_zero, Act.put, List.setIfInBounds_toArray, List.set_cons_zero, List.set_cons_succ]
      refine wpAny_take (i := 11) (v := ?_) rfl (by kernel_rfl) (by kernel_rfl) (by kernel_rfl) (fun _ _ _ h => h) (.inl ⟨by rfl, ?_⟩) ?_
      rotate_left
      focus (intro wx; go_simp; first | done | with_reducible rfl | rfl)
      simp only [List.getElem_toArray, List.getElem_cons_succ, List.getElem_cons_zero, Act.put, List.setIfInBounds_toArray, List.set_cons_zero, List.set_cons_succ]
      refine wpAny_ready (rs := [0]) (by kernel_rfl) (by simp) ?_
      refine AllReady.cons rfl (fun K hK => ?_) AllReady.nil
      go_simp
      refine hK _ _ ?_
      clear hK K
      refine wpAny_ready (rs := [12]) (by kernel_rfl) (by simp) ?_
      refine AllReady.cons rfl (fun K hK => ?_) AllReady.nil
      go_simp
      refine hK _ _ ?_
      clear hK K
      refine wpAny_ready (rs := [13]) (by kernel_rfl) (by simp) ?_
      refine AllReady.cons rfl (fun K hK => ?_) AllReady.nil
      go_simp
      refine hK _ _ ?_
      clear hK K
      refine wpAny_done (by kernel_rfl) ?_ _
      all_goals go_wp2
      all_goals refine bodyPost_ret (results_cellB rfl rfl (loadWord ((HR.out.drew.set_ 0 _).set_ 1 _))) rfl ?_
      all_goals exact HEND.out w3.drew _ HP3.out HR.out.drew hb03.drew (by rw [HN.out]; rfl) (fun y e => by rw [HN.out] at e; cases e)
    | some l =>
      rw [hbd] at h3e
      obtain ⟨v5, rfl, _⟩ := h3e
      clear hbd
      go_wp2_with fail
      refine wp_region_any (by kernel_rfl) ?_
      try (change wpAny _ _ _ _ _ _ _ (World.drew _))
      refine wpAny_take (i := 1) (v := ?_) rfl (by kernel_rfl) (by kernel_rfl) (by kernel_rfl) (fun _ _ _ h => h) (.inl ⟨by rfl, ?_⟩) ?_
      rotate_left
      focus (intro wx; go_simp; first | done | with_reducible rfl | rfl)
      simp only [List.getElem_toArray, List.getElem_cons_succ, List.getElem_cons_zero, Act.put, List.setIfInBounds_toArray, List.set_cons_zero, List.set_cons_succ]
      refine wpAny_take (i := 2) (v := ?_) rfl (by kernel_rfl) (by kernel_rfl) (by kernel_rfl) (fun _ _ _ h => h) (.inl ⟨by rfl, ?_⟩) ?_
      rotate_left
      focus (intro wx; go_simp; first | done | with_reducible rfl | rfl)
      simp only [List.getElem_toArray, List.getElem_cons_succ, List.getElem_cons_zero, Act.put, List.setIfInBounds_toArray, List.set_cons_zero, List.set_cons_succ]
      refine wpAny_take (i := 3) (v := undef) rfl (by kernel_rfl) (by kernel_rfl) (by kernel_rfl) (fun _ _ _ h => h) (.inr ⟨by rfl, rfl⟩) ?_
      simp only [List.getElem_toArray, List.getElem_cons_succ, List.getElem_cons_zero, Act.put, List.setIfInBounds_toArray, List.set_cons_zero, List.set_cons_succ]
      refine wpAny_take (i := 4) (v := undef) rfl (by kernel_rfl) (by kernel_rfl) (by kernel_rfl) (fun _ _ _ h => h) (.inr ⟨by rfl, rfl⟩) ?_
      simp only [List.getElem_toArray, List.getElem_cons_succ, List.getElem_cons_zero, Act.put, List.setIfInBounds_toArray, List.set_cons_zero, List.set_cons_succ]
      refine wpAny_take (i := 5) (v := ?_) rfl (by kernel_rfl) (by kernel_rfl) (by kernel_rfl) (fun _ _ _ h => h) (.inl ⟨by rfl, ?_⟩) ?_
      rotate_left
      focus (intro wx; go_simp; first | done | with_reducible rfl | rfl)
      simp only [List.getElem_toArray, List.getElem_cons_succ, List.getElem_cons_zero, Act.put, List.setIfInBounds_toArray, List.set_cons_zero, List.set_cons_succ]
      refine wpAny_take (i := 6) (v := ?_) rfl (by kernel_rfl) (by kernel_rfl) (by kernel_rfl) (fun _ _ _ h => h) (.inl ⟨by rfl, ?_⟩) ?_
      rotate_left
      focus (intro wx; go_simp; first | done | with_reducible rfl | rfl)
      simp only [List.getElem_toArray, List.getElem_cons_succ, List.getElem_cons_zero, Act.put, List.setIfInBounds_toArray, List.set_cons_zero, List.set_cons_succ]
      refine wpAny_take (i := 7) (v := undef) rfl (by kernel_rfl) (by kernel_rfl) (by kernel_rfl) (fun _ _ _ h => h) (.inr ⟨by rfl, rfl⟩) ?_
      simp only [List.getElem_toArray, List.getElem_cons_succ, List.getElem_cons_zero, Act.put, List.setIfInBounds_toArray, List.set_cons_zero, List.set_cons_succ]
      refine wpAny_take (i := 8) (v := undef) rfl (by kernel_rfl) (by kernel_rfl) (by kernel_rfl) (fun _ _ _ h => h) (.inr ⟨by rfl, rfl⟩) ?_
      simp only [List.getElem_toArray, List.getElem_cons_succ, List.getElem_cons_zero, Act.put, List.setIfInBounds_toArray, List.set_cons_zero, List.set_cons_succ]
      refine wpAny_take (i := 9) (v := undef) rfl (by kernel_rfl) (by kernel_rfl) (by kernel_rfl) (fun _ _ _ h => h) (.inr ⟨by rfl, rfl⟩) ?_
      simp only [List.getElem_toArray, List.getElem_cons_succ, List.getElem_cons_zero, Act.put, List.setIfInBounds_toArray, List.set_cons_zero, List.set_cons_succ]
      refine wpAny_take (i := 10) (v := undef) rfl (by kernel_rfl) (by kernel_rfl) (by kernel_rfl) (fun _ _ _ h => h) (.inr ⟨by rfl, rfl⟩) ?_
      simp only [List.getElem_toArray, List.getElem_cons_succ, List.getElem_cons_zero, Act.put, List.setIfInBounds_toArray, List.set_cons_zero, List.set_cons_succ]
      refine wpAny_take (i := 11) (v := ?_) rfl (by kernel_rfl) (by kernel_rfl) (by kernel_rfl) (fun _ _ _ h => h) (.inl ⟨by rfl, ?_⟩) ?_
      rotate_left
      focus (intro wx; go_simp; first | done | with_reducible rfl | rfl)
      simp only [List.getElem_toArray, List.getElem_cons_succ, List.getElem_cons_zero, Act.put, List.setIfInBounds_toArray, List.set_cons_zero, List.set_cons_succ]
      refine wpAny_ready (rs := [0]) (by kernel_rfl) (by simp) ?_
      refine AllReady.cons rfl (fun K hK => ?_) AllReady.nil
      go_simp
      refine hK _ _ ?_
      clear hK K
      refine wpAny_ready (rs := [12]) (by kernel_rfl) (by simp) ?_
      refine AllReady.cons rfl (fun K hK => ?_) AllReady.nil
      go_simp
      refine hK _ _ ?_
      clear hK K
      refine wpAny_ready (rs := [13]) (by kernel_rfl) (by simp) ?_
      refine AllReady.cons rfl (fun K hK => ?_) AllReady.nil
      go_simp
      refine hK _ _ ?_
      clear hK K
      refine wpAny_done (by kernel_rfl) ?_ _
      all_goals go_wp2
      all_goals refine bodyPost_ret (results_cellB rfl rfl (loadWord ((HR.out.drew.set_ 0 _).set_ 1 _))) rfl ?_
      all_goals exact HEND.out w3.drew _ HP3.out HR.out.drew hb03.drew (by rw [HN.out]; rfl) (fun y e => by rw [HN.out] at e; cases e)
  | some y =>
    have hxy : x = y := hx y hpl
    subst hxy
    have HWX : Hid (wordL s.data.toList = if (layL x).isSome ∧ textL x = s.data.toList then some x else none) := by show _ = _; rw [HWL.out, hpl]
    simp only [Option.isSome_some]
    clear hpl hx
    cases hlx : layL x with
    | none =>
      have HN : Hid (wordL s.data.toList = none) := by show _ = _; rw [HWX.out, hlx]; rfl
      rw [HBL.out, hlx] at h3e
      have h3f : e = .returned (.tuple #[.slice none 0 0, .int .i64 1]) := h3e
      subst h3f
      clear hlx h3e
      go_wp2_with fail
      refine wp_region_any (by kernel_rfl) ?_
      try (change wpAny _ _ _ _ _ _ _ (World.drew _))
      refine wpAny_take (i := 1) (v := ?_) rfl (by kernel_rfl) (by kernel_rfl) (by kernel_rfl) (fun _ _ _ h => h) (.inl ⟨by rfl, ?_⟩) ?_
      rotate_left
      focus (intro wx; go_simp; first | done | with_reducible rfl | rfl)
      simp only [List.getElem_toArray, List.getElem_cons_succ, List.getElem_cons_zero, Act.put, List.setIfInBounds_toArray, List.set_cons_zero, List.set_cons_succ]
      refine wpAny_take (i := 2) (v := ?_) rfl (by kernel_rfl) (by kernel_rfl) (by kernel_rfl) (fun _ _ _ h => h) (.inl ⟨by rfl, ?_⟩) ?_
      rotate_left
      focus (intro wx; go_simp; first | done | with_reducible rfl | rfl)
      simp only [List.getElem_toArray, List.getElem_cons_succ, List.getElem_cons_zero, Act.put, List.setIfInBounds_toArray, List.set_cons_zero, List.set_cons_succ]
      refine wpAny_take (i := 3) (v := ?_) rfl (by kernel_rfl) (by kernel_rfl) (by kernel_rfl) (fun _ _ _ h => h) (.inl ⟨by rfl, ?_⟩) ?_
      rotate_left
      focus (intro wx; go_simp; first | done | with_reducible rfl | rfl)
      simp only [List.getElem_toArray, List.getElem_cons_succ, List.getElem_cons_zero, Act.put, List.setIfInBounds_toArray, List.set_cons_zero, List.set_cons_succ]
      refine wpAny_take (i := 4) (v := ?_) rfl (by kernel_rfl) (by kernel_rfl) (by kernel_rfl) (fun _ _ _ h => h) (.inl ⟨by rfl, ?_⟩) ?_
      rotate_left
      focus (intro wx; go_simp; first | done | with_reducible rfl | rfl)
      simp only [List.getElem_toArray, List.getElem_cons_succ, List.getElem_cons_zero, Act.put, List.setIfInBounds_toArray, List.set_cons_zero, List.set_cons_succ]
      refine wpAny_take (i := 5) (v := ?_) rfl (by kernel_rfl) (by kernel_rfl) (by kernel_rfl) (fun _ _ _ h => h) (.inl ⟨by rfl, ?_⟩) ?_
      rotate_left
      focus (intro wx; go_simp; first | done | with_reducible rfl | rfl)
      simp only [List.getElem_toArray, List.getElem_cons_succ, List.getElem_cons_zero, Act.put, List.setIfInBounds_toArray, List.set_cons_zero, List.set_cons_succ]
      refine wpAny_take (i := 6) (v := ?_) rfl (by kernel_rfl) (by kernel_rfl) (by kernel_rfl) (fun _ _ _ h => h) (.inl ⟨by rfl, ?_⟩) ?_
      rotate_left
      focus (intro wx; go_simp; first | done | with_reducible rfl | rfl)
      simp only [List.getElem_toArray, List.getElem_cons_succ, List.getElem_cons_zero, Act.put, List.setIfInBounds_toArray, List.set_cons_zero, List.set_cons_succ]
      refine wpAny_take (i := 7) (v := undef) rfl (by kernel_rfl) (by kernel_rfl) (by kernel_rfl) (fun _ _ _ h => h) (.inr ⟨by rfl, rfl⟩) ?_
      simp only [List.getElem_toArray, List.getElem_cons_succ, List.getElem_cons_zero, Act.put, List.setIfInBounds_toArray, List.set_cons_zero, List.set_cons_succ]
      refine wpAny_take (i := 8) (v := undef) rfl (by kernel_rfl) (by kernel_rfl) (by kernel_rfl) (fun _ _ _ h => h) (.inr ⟨by rfl, rfl⟩) ?_
      simp only [List.getElem_toArray, List.getElem_cons_succ, List.getElem_cons_zero, Act.put, List.setIfInBounds_toArray, List.set_cons_zero, List.set_cons_succ]
      refine wpAny_take (i := 9) (v := undef) rfl (by kernel_rfl) (by kernel_rfl) (by kernel_rfl) (fun _ _ _ h => h) (.inr ⟨by rfl, rfl⟩) ?_
      simp only [List.getElem_toArray, List.getElem_cons_succ, List.getElem_cons_zero, Act.put, List.setIfInBounds_toArray, List.set_cons_zero, List.set_cons_succ]
      refine wpAny_take (i := 10) (v := undef) rfl (by kernel_rfl) (by kernel_rfl) (by kernel_rfl) (fun _ _ _ h => h) (.inr ⟨by rfl, rfl⟩) ?_
      simp only [List.getElem_toArray, List.getElem_cons_succ, List.getElem_cons_zero, Act.put, List.setIfInBounds_toArray, List.set_cons_zero, List.set_cons_succ]
      refine wpAny_take (i := 11) (v := ?_) rfl (by kernel_rfl) (by kernel_rfl) (by kernel_rfl) (fun _ _ _ h => h) (.inl ⟨by rfl, ?_⟩) ?_
      rotate_left
      focus (intro wx; go_simp; first | done | with_reducible rfl | rfl)
      simp only [List.getElem_toArray, List.getElem_cons_succ, List.getElem_cons_zero, Act.put, List.setIfInBounds_toArray, List.set_cons_zero, List.set_cons_succ]
      refine wpAny_ready (rs := [0]) (by kernel_rfl) (by simp) ?_
      refine AllReady.cons rfl (fun K hK => ?_) AllReady.nil
      go_simp
      refine hK _ _ ?_
      clear hK K
      refine wpAny_ready (rs := [12]) (by kernel_rfl) (by simp) ?_
      refine AllReady.cons rfl (fun K hK => ?_) AllReady.nil
      go_simp
      refine hK _ _ ?_
      clear hK K
      refine wpAny_ready (rs := [13]) (by kernel_rfl) (by simp) ?_
      refine AllReady.cons rfl (fun K hK => ?_) AllReady.nil
      go_simp
      refine hK _ _ ?_
      clear hK K
      refine wpAny_done (by kernel_rfl) ?_ _
      all_goals go_wp2
      all_goals refine bodyPost_ret (results_cellB rfl rfl (loadWord ((HR.out.drew.set_ 0 _).set_ 1 _))) rfl ?_
      all_goals exact HEND.out w3.drew _ HP3.out HR.out.drew hb03.drew (by rw [HN.out]; rfl) (fun y e => by rw [HN.out] at e; cases e)
    | some l =>
      have HN : Hid (wordL s.data.toList = if textL x = s.data.toList then some x else none) := by show _ = _; rw [HWX.out, hlx]; simp
      rw [HBL.out, hlx] at h3e
      obtain ⟨v5, rfl, _⟩ := h3e
      have HTX : Hid (∀ w', Below w3.heap.size w3 w' → Calls Tryz.prog 11 #[.agg #[.int .u8 (z : Int), .slice A2 m c2]] w' (StrEnd (textL x) w')) := fun w' hb => text_any _ x w' ⟨_, by rw [HZ.out], PushAt.below HP3.out hb⟩ (by have := HM.out; omega) (HG3.out.below hb)
      have HDB : Hid (Blk w3 w2.heap.size 36 #[.int .u8 (z : Int), .slice A2 m c2]) := HW.out
      clear hlx
      obtain ⟨t, ht⟩ : ∃ t, t = (⟨(textL x).toArray⟩ : ByteArray) := ⟨_, rfl⟩
      by_cases hq : t = s
      · have HV : Hid (wordL s.data.toList = some x) := by show _ = _; rw [HN.out, if_pos (str_eq_iff.1 (ht.symm.trans hq))]
        have HT2 : Hid (∀ w', Below w3.heap.size w3 w' → Calls Tryz.prog 11 #[.agg #[.int .u8 (z : Int), .slice A2 m c2]] w' (fun e w'' => e = .returned (.string s) ∧ Below w'.heap.size w' w'')) := fun w' hb => (HTX.out w' hb).mono fun e w'' h => ⟨by rw [h.1, ← ht, hq], h.2⟩
        clear hq ht
        go_wp2_with fail
        refine wp_region_any (by kernel_rfl) ?_
        try (change wpAny _ _ _ _ _ _ _ (World.drew _))
        refine wpAny_take (i := 1) (v := ?_) rfl (by kernel_rfl) (by kernel_rfl) (by kernel_rfl) (fun _ _ _ h => h) (.inl ⟨by rfl, ?_⟩) ?_
        rotate_left
        focus (intro wx; go_simp; first | done | with_reducible rfl | rfl)
        simp only [List.getElem_toArray, List.getElem_cons_succ, List.getElem_cons_zero, Act.put, List.setIfInBounds_toArray, List.set_cons_zero, List.set_cons_succ]
        refine wpAny_take (i := 2) (v := ?_) rfl (by kernel_rfl) (by kernel_rfl) (by kernel_rfl) (fun _ _ _ h => h) (.inl ⟨by rfl, ?_⟩) ?_
        rotate_left
        focus (intro wx; go_simp; first | done | with_reducible rfl | rfl)
        simp only [List.getElem_toArray, List.getElem_cons_succ, List.getElem_cons_zero, Act.put, List.setIfInBounds_toArray, List.set_cons_zero, List.set_cons_succ]
        refine wpAny_take (i := 3) (v := ?_) rfl (by kernel_rfl) (by kernel_rfl) (by kernel_rfl) (fun _ _ _ h => h) (.inl ⟨by rfl, ?_⟩) ?_
        rotate_left
        focus (intro wx; go_simp; first | done | with_reducible rfl | rfl)
        simp only [List.getElem_toArray, List.getElem_cons_succ, List.getElem_cons_zero, Act.put, List.setIfInBounds_toArray, List.set_cons_zero, List.set_cons_succ]
        refine wpAny_take (i := 4) (v := ?_) rfl (by kernel_rfl) (by kernel_rfl) (by kernel_rfl) (fun _ _ _ h => h) (.inl ⟨by rfl, ?_⟩) ?_
        rotate_left
        focus (intro wx; go_simp; first | done | with_reducible rfl | rfl)
        simp only [List.getElem_toArray, List.getElem_cons_succ, List.getElem_cons_zero, Act.put, List.setIfInBounds_toArray, List.set_cons_zero, List.set_cons_succ]
        refine wpAny_take (i := 5) (v := ?_) rfl (by kernel_rfl) (by kernel_rfl) (by kernel_rfl) (fun _ _ _ h => h) (.inl ⟨by rfl, ?_⟩) ?_
        rotate_left
        focus (intro wx; go_simp; first | done | with_reducible rfl | rfl)
        simp only [List.getElem_toArray, List.getElem_cons_succ, List.getElem_cons_zero, Act.put, List.setIfInBounds_toArray, List.set_cons_zero, List.set_cons_succ]
        refine wpAny_take (i := 6) (v := ?_) rfl (by kernel_rfl) (by kernel_rfl) (by kernel_rfl) (fun _ _ _ h => h) (.inl ⟨by rfl, ?_⟩) ?_
        rotate_left
        focus (intro wx; go_simp; first | done | with_reducible rfl | rfl)
        simp only [List.getElem_toArray, List.getElem_cons_succ, List.getElem_cons_zero, Act.put, List.setIfInBounds_toArray, List.set_cons_zero, List.set_cons_succ]
        refine wpAny_take (i := 9) (v := ?_) rfl (by kernel_rfl) (by kernel_rfl) (by kernel_rfl) (fun _ _ _ h => h) (.inl ⟨by rfl, ?_⟩) ?_
        rotate_left
        focus (intro wx; go_simp; first | done | with_reducible rfl | rfl)
        simp only [List.getElem_toArray, List.getElem_cons_succ, List.getElem_cons_zero, Act.put, List.setIfInBounds_toArray, List.set_cons_zero, List.set_cons_succ]
        refine wpAny_ready (rs := [0, 7]) (by kernel_rfl) (by simp) ?_
        refine AllReady.cons rfl (fun K hK => ?_) (AllReady.cons rfl (fun K hK => ?_) AllReady.nil)
        · go_simp
          refine hK _ _ ?_
          clear hK K
          refine wpAny_ready (rs := [7]) (by kernel_rfl) (by simp) ?_
          refine AllReady.cons rfl (fun K hK => ?_) AllReady.nil
          go_simp
          refine hK _ _ ?_
          clear hK K
          refine wpAny_ready (rs := [8]) (by kernel_rfl) (by simp) ?_
          refine AllReady.cons rfl (fun K hK => ?_) AllReady.nil
          go_simp
          go_wp2_with (go_at_call 11; refine (HT2.out _ (Below.refl _ _).drew).mono ?_; intro e w4 h4; obtain ⟨e4, hb4⟩ := h4; subst e4; have hblk4 := HR.out.drew.below hb4 HR.out.lt; have hc0' := hblk4.cell 0; have hc1' := hblk4.cell 1; have hf0' := hblk4.frozen 0; have hf1' := hblk4.frozen 1; have hdb4 := HDB.out.drew.below hb4 HDB.out.lt; have hd0' := hdb4.cell 0; have hd1' := hdb4.cell 1; simp only [List.getElem?_toArray, List.getElem?_cons_zero, List.getElem?_cons_succ] at hc0' hc1' hd0' hd1'; have HB4 := Lib.hid hb4; have HBK4 := Lib.hid hblk4; clear hb4 hblk4 hdb4)
          refine wpAny_take (i := 10) (v := ?_) rfl (by kernel_rfl) (by kernel_rfl) (by kernel_rfl) (fun _ _ _ h => h) (.inl ⟨by rfl, ?_⟩) ?_
          rotate_left
          focus (intro wx; go_simp; first | done | with_reducible rfl | rfl)
          simp only [List.getElem_toArray, List.getElem_cons_succ, List.getElem_cons_zero, Act.put, List.setIfInBounds_toArray, List.set_cons_zero, List.set_cons_succ]
          refine wpAny_take (i := 11) (v := ?_) rfl (by kernel_rfl) (by kernel_rfl) (by kernel_rfl) (fun _ _ _ h => h) (.inl ⟨by rfl, ?_⟩) ?_
          rotate_left
          focus (intro wx; go_simp; first | done | with_reducible rfl | rfl)
          simp only [List.getElem_toArray, List.getElem_cons_succ, List.getElem_cons_zero, Act.put, List.setIfInBounds_toArray, List.set_cons_zero, List.set_cons_succ]
          refine wpAny_ready (rs := [12]) (by kernel_rfl) (by simp) ?_
          refine AllReady.cons rfl (fun K hK => ?_) AllReady.nil
          go_simp
          refine hK _ _ ?_
          clear hK K
          refine wpAny_ready (rs := [13]) (by kernel_rfl) (by simp) ?_
          refine AllReady.cons rfl (fun K hK => ?_) AllReady.nil
          go_simp
          refine hK _ _ ?_
          clear hK K
          refine wpAny_done (by kernel_rfl) ?_ _
          go_wp2
          refine bodyPost_ret (results_cellB rfl rfl (loadWord ((HBK4.out.set_ 0 _).set_ 1 _))) rfl ?_
          exact HEND.out w4 _ (PushAt.below HP3.out ((Below.refl _ _).drew.trans HB4.out)) HBK4.out (hb03.drew.trans (HB4.out.mono hb03.size)) (by rw [HV.out]; rfl) (fun y e => by rw [HV.out] at e; exact Option.some.inj e)
        · go_simp
          refine hK _ _ ?_
          clear hK K
          refine wpAny_ready (rs := [0, 8]) (by kernel_rfl) (by simp) ?_
          refine AllReady.cons rfl (fun K hK => ?_) (AllReady.cons rfl (fun K hK => ?_) AllReady.nil)
          · go_simp
            refine hK _ _ ?_
            clear hK K
            refine wpAny_ready (rs := [8]) (by kernel_rfl) (by simp) ?_
            refine AllReady.cons rfl (fun K hK => ?_) AllReady.nil
            go_simp
            go_wp2_with (go_at_call 11; refine (HT2.out _ (Below.refl _ _).drew).mono ?_; intro e w4 h4; obtain ⟨e4, hb4⟩ := h4; subst e4; have hblk4 := HR.out.drew.below hb4 HR.out.lt; have hc0' := hblk4.cell 0; have hc1' := hblk4.cell 1; have hf0' := hblk4.frozen 0; have hf1' := hblk4.frozen 1; have hdb4 := HDB.out.drew.below hb4 HDB.out.lt; have hd0' := hdb4.cell 0; have hd1' := hdb4.cell 1; simp only [List.getElem?_toArray, List.getElem?_cons_zero, List.getElem?_cons_succ] at hc0' hc1' hd0' hd1'; have HB4 := Lib.hid hb4; have HBK4 := Lib.hid hblk4; clear hb4 hblk4 hdb4)
            refine wpAny_take (i := 10) (v := ?_) rfl (by kernel_rfl) (by kernel_rfl) (by kernel_rfl) (fun _ _ _ h => h) (.inl ⟨by rfl, ?_⟩) ?_
            rotate_left
            focus (intro wx; go_simp; first | done | with_reducible rfl | rfl)
            simp only [List.getElem_toArray, List.getElem_cons_succ, List.getElem_cons_zero, Act.put, List.setIfInBounds_toArray, List.set_cons_zero, List.set_cons_succ]
            refine wpAny_take (i := 11) (v := ?_) rfl (by kernel_rfl) (by kernel_rfl) (by kernel_rfl) (fun _ _ _ h => h) (.inl ⟨by rfl, ?_⟩) ?_
            rotate_left
            focus (intro wx; go_simp; first | done | with_reducible rfl | rfl)
            simp only [List.getElem_toArray, List.getElem_cons_succ, List.getElem_cons_zero, Act.put, List.setIfInBounds_toArray, List.set_cons_zero, List.set_cons_succ]
            refine wpAny_ready (rs := [12]) (by kernel_rfl) (by simp) ?_
            refine AllReady.cons rfl (fun K hK => ?_) AllReady.nil
            go_simp
            refine hK _ _ ?_
            clear hK K
            refine wpAny_ready (rs := [13]) (by kernel_rfl) (by simp) ?_
            refine AllReady.cons rfl (fun K hK => ?_) AllReady.nil
            go_simp
            refine hK _ _ ?_
            clear hK K
            refine wpAny_done (by kernel_rfl) ?_ _
            go_wp2
            refine bodyPost_ret (results_cellB rfl rfl (loadWord ((HBK4.out.set_ 0 _).set_ 1 _))) rfl ?_
            exact HEND.out w4 _ (PushAt.below HP3.out ((Below.refl _ _).drew.trans HB4.out)) HBK4.out (hb03.drew.trans (HB4.out.mono hb03.size)) (by rw [HV.out]; rfl) (fun y e => by rw [HV.out] at e; exact Option.some.inj e)
          · go_simp
            go_wp2_with (go_at_call 11; refine (HT2.out _ (Below.refl _ _).drew).mono ?_; intro e w4 h4; obtain ⟨e4, hb4⟩ := h4; subst e4; have hblk4 := HR.out.drew.below hb4 HR.out.lt; have hc0' := hblk4.cell 0; have hc1' := hblk4.cell 1; have hf0' := hblk4.frozen 0; have hf1' := hblk4.frozen 1; have hdb4 := HDB.out.drew.below hb4 HDB.out.lt; have hd0' := hdb4.cell 0; have hd1' := hdb4.cell 1; simp only [List.getElem?_toArray, List.getElem?_cons_zero, List.getElem?_cons_succ] at hc0' hc1' hd0' hd1'; have HB4 := Lib.hid hb4; have HBK4 := Lib.hid hblk4; clear hb4 hblk4 hdb4)
            refine wpAny_take (i := 10) (v := ?_) rfl (by kernel_rfl) (by kernel_rfl) (by kernel_rfl) (fun _ _ _ h => h) (.inl ⟨by rfl, ?_⟩) ?_
            rotate_left
            focus (intro wx; go_simp; first | done | with_reducible rfl | rfl)
            simp only [List.getElem_toArray, List.getElem_cons_succ, List.getElem_cons_zero, Act.put, List.setIfInBounds_toArray, List.set_cons_zero, List.set_cons_succ]
            refine wpAny_take (i := 11) (v := ?_) rfl (by kernel_rfl) (by kernel_rfl) (by kernel_rfl) (fun _ _ _ h => h) (.inl ⟨by rfl, ?_⟩) ?_
            rotate_left
            focus (intro wx; go_simp; first | done | with_reducible rfl | rfl)
            simp only [List.getElem_toArray, List.getElem_cons_succ, List.getElem_cons_zero, Act.put, List.setIfInBounds_toArray, List.set_cons_zero, List.set_cons_succ]
            refine wpAny_ready (rs := [0]) (by kernel_rfl) (by simp) ?_
            refine AllReady.cons rfl (fun K hK => ?_) AllReady.nil
            go_simp
            refine hK _ _ ?_
            clear hK K
            refine wpAny_ready (rs := [12]) (by kernel_rfl) (by simp) ?_
            refine AllReady.cons rfl (fun K hK => ?_) AllReady.nil
            go_simp
            refine hK _ _ ?_
            clear hK K
            refine wpAny_ready (rs := [13]) (by kernel_rfl) (by simp) ?_
            refine AllReady.cons rfl (fun K hK => ?_) AllReady.nil
            go_simp
            refine hK _ _ ?_
            clear hK K
            refine wpAny_done (by kernel_rfl) ?_ _
            go_wp2
            refine bodyPost_ret (results_cellB rfl rfl (loadWord ((HBK4.out.set_ 0 _).set_ 1 _))) rfl ?_
            exact HEND.out w4 _ (PushAt.below HP3.out ((Below.refl _ _).drew.trans HB4.out)) HBK4.out (hb03.drew.trans (HB4.out.mono hb03.size)) (by rw [HV.out]; rfl) (fun y e => by rw [HV.out] at e; exact Option.some.inj e)
      · have HV : Hid (wordL s.data.toList = none) := by show _ = _; rw [HN.out, if_neg (fun h => hq (ht.trans (str_eq_iff.2 h)))]
        have HT2 : Hid (∀ w', Below w3.heap.size w3 w' → Calls Tryz.prog 11 #[.agg #[.int .u8 (z : Int), .slice A2 m c2]] w' (fun e w'' => e = .returned (.string t) ∧ Below w'.heap.size w' w'')) := fun w' hb => (HTX.out w' hb).mono fun e w'' h => ⟨by rw [h.1, ← ht], h.2⟩
        have hq' := str_ne hq
        clear hq ht
        go_wp2_with fail
        refine wp_region_any (by kernel_rfl) ?_
        try (change wpAny _ _ _ _ _ _ _ (World.drew _))
        refine wpAny_take (i := 1) (v := ?_) rfl (by kernel_rfl) (by kernel_rfl) (by kernel_rfl) (fun _ _ _ h => h) (.inl ⟨by rfl, ?_⟩) ?_
        rotate_left
        focus (intro wx; go_simp; first | done | with_reducible rfl | rfl)
        simp only [List.getElem_toArray, List.getElem_cons_succ, List.getElem_cons_zero, Act.put, List.setIfInBounds_toArray, List.set_cons_zero, List.set_cons_succ]
        refine wpAny_take (i := 2) (v := ?_) rfl (by kernel_rfl) (by kernel_rfl) (by kernel_rfl) (fun _ _ _ h => h) (.inl ⟨by rfl, ?_⟩) ?_
        rotate_left
        focus (intro wx; go_simp; first | done | with_reducible rfl | rfl)
        simp only [List.getElem_toArray, List.getElem_cons_succ, List.getElem_cons_zero, Act.put, List.setIfInBounds_toArray, List.set_cons_zero, List.set_cons_succ]
        refine wpAny_take (i := 3) (v := ?_) rfl (by kernel_rfl) (by kernel_rfl) (by kernel_rfl) (fun _ _ _ h => h) (.inl ⟨by rfl, ?_⟩) ?_
        rotate_left
        focus (intro wx; go_simp; first | done | with_reducible rfl | rfl)
        simp only [List.getElem_toArray, List.getElem_cons_succ, List.getElem_cons_zero, Act.put, List.setIfInBounds_toArray, List.set_cons_zero, List.set_cons_succ]
        refine wpAny_take (i := 4) (v := ?_) rfl (by kernel_rfl) (by kernel_rfl) (by kernel_rfl) (fun _ _ _ h => h) (.inl ⟨by rfl, ?_⟩) ?_
        rotate_left
        focus (intro wx; go_simp; first | done | with_reducible rfl | rfl)
        simp only [List.getElem_toArray, List.getElem_cons_succ, List.getElem_cons_zero, Act.put, List.setIfInBounds_toArray, List.set_cons_zero, List.set_cons_succ]
        refine wpAny_take (i := 5) (v := ?_) rfl (by kernel_rfl) (by kernel_rfl) (by kernel_rfl) (fun _ _ _ h => h) (.inl ⟨by rfl, ?_⟩) ?_
        rotate_left
        focus (intro wx; go_simp; first | done | with_reducible rfl | rfl)
        simp only [List.getElem_toArray, List.getElem_cons_succ, List.getElem_cons_zero, Act.put, List.setIfInBounds_toArray, List.set_cons_zero, List.set_cons_succ]
        refine wpAny_take (i := 6) (v := ?_) rfl (by kernel_rfl) (by kernel_rfl) (by kernel_rfl) (fun _ _ _ h => h) (.inl ⟨by rfl, ?_⟩) ?_
        rotate_left
        focus (intro wx; go_simp; first | done | with_reducible rfl | rfl)
        simp only [List.getElem_toArray, List.getElem_cons_succ, List.getElem_cons_zero, Act.put, List.setIfInBounds_toArray, List.set_cons_zero, List.set_cons_succ]
        refine wpAny_take (i := 9) (v := ?_) rfl (by kernel_rfl) (by kernel_rfl) (by kernel_rfl) (fun _ _ _ h => h) (.inl ⟨by rfl, ?_⟩) ?_
        rotate_left
        focus (intro wx; go_simp; first | done | with_reducible rfl | rfl)
        simp only [List.getElem_toArray, List.getElem_cons_succ, List.getElem_cons_zero, Act.put, List.setIfInBounds_toArray, List.set_cons_zero, List.set_cons_succ]
        refine wpAny_ready (rs := [0, 7]) (by kernel_rfl) (by simp) ?_
        refine AllReady.cons rfl (fun K hK => ?_) (AllReady.cons rfl (fun K hK => ?_) AllReady.nil)
        · go_simp
          refine hK _ _ ?_
          clear hK K
          refine wpAny_ready (rs := [7]) (by kernel_rfl) (by simp) ?_
          refine AllReady.cons rfl (fun K hK => ?_) AllReady.nil
          go_simp
          refine hK _ _ ?_
          clear hK K
          refine wpAny_ready (rs := [8]) (by kernel_rfl) (by simp) ?_
          refine AllReady.cons rfl (fun K hK => ?_) AllReady.nil
          go_simp
          go_wp2_with (go_at_call 11; refine (HT2.out _ (Below.refl _ _).drew).mono ?_; intro e w4 h4; obtain ⟨e4, hb4⟩ := h4; subst e4; have hblk4 := HR.out.drew.below hb4 HR.out.lt; have hc0' := hblk4.cell 0; have hc1' := hblk4.cell 1; have hf0' := hblk4.frozen 0; have hf1' := hblk4.frozen 1; have hdb4 := HDB.out.drew.below hb4 HDB.out.lt; have hd0' := hdb4.cell 0; have hd1' := hdb4.cell 1; simp only [List.getElem?_toArray, List.getElem?_cons_zero, List.getElem?_cons_succ] at hc0' hc1' hd0' hd1'; have HB4 := Lib.hid hb4; have HBK4 := Lib.hid hblk4; clear hb4 hblk4 hdb4)
          refine wpAny_take (i := 10) (v := ?_) rfl (by kernel_rfl) (by kernel_rfl) (by kernel_rfl) (fun _ _ _ h => h) (.inl ⟨by rfl, ?_⟩) ?_
          rotate_left
          focus (intro wx; go_simp; first | done | with_reducible rfl | rfl)
          simp only [List.getElem_toArray, List.getElem_cons_succ, List.getElem_cons_zero, Act.put, List.setIfInBounds_toArray, List.set_cons_zero, List.set_cons_succ]
          refine wpAny_take (i := 11) (v := ?_) rfl (by kernel_rfl) (by kernel_rfl) (by kernel_rfl) (fun _ _ _ h => h) (.inl ⟨by rfl, ?_⟩) ?_
          rotate_left
          focus (intro wx; go_simp; first | done | with_reducible rfl | rfl)
          simp only [List.getElem_toArray, List.getElem_cons_succ, List.getElem_cons_zero, Act.put, List.setIfInBounds_toArray, List.set_cons_zero, List.set_cons_succ]
          refine wpAny_ready (rs := [12]) (by kernel_rfl) (by simp) ?_
          refine AllReady.cons rfl (fun K hK => ?_) AllReady.nil
          go_simp
          refine hK _ _ ?_
          clear hK K
          refine wpAny_ready (rs := [13]) (by kernel_rfl) (by simp) ?_
          refine AllReady.cons rfl (fun K hK => ?_) AllReady.nil
          go_simp
          refine hK _ _ ?_
          clear hK K
          refine wpAny_done (by kernel_rfl) ?_ _
          go_wp2
          refine bodyPost_ret (results_cellB rfl rfl (loadWord ((HBK4.out.set_ 0 _).set_ 1 _))) rfl ?_
          exact HEND.out w4 _ (PushAt.below HP3.out ((Below.refl _ _).drew.trans HB4.out)) HBK4.out (hb03.drew.trans (HB4.out.mono hb03.size)) (by rw [HV.out]; rfl) (fun y e => by rw [HV.out] at e; cases e)
        · go_simp
          refine hK _ _ ?_
          clear hK K
          refine wpAny_ready (rs := [0, 8]) (by kernel_rfl) (by simp) ?_
          refine AllReady.cons rfl (fun K hK => ?_) (AllReady.cons rfl (fun K hK => ?_) AllReady.nil)
          · go_simp
            refine hK _ _ ?_
            clear hK K
            refine wpAny_ready (rs := [8]) (by kernel_rfl) (by simp) ?_
            refine AllReady.cons rfl (fun K hK => ?_) AllReady.nil
            go_simp
            go_wp2_with (go_at_call 11; refine (HT2.out _ (Below.refl _ _).drew).mono ?_; intro e w4 h4; obtain ⟨e4, hb4⟩ := h4; subst e4; have hblk4 := HR.out.drew.below hb4 HR.out.lt; have hc0' := hblk4.cell 0; have hc1' := hblk4.cell 1; have hf0' := hblk4.frozen 0; have hf1' := hblk4.frozen 1; have hdb4 := HDB.out.drew.below hb4 HDB.out.lt; have hd0' := hdb4.cell 0; have hd1' := hdb4.cell 1; simp only [List.getElem?_toArray, List.getElem?_cons_zero, List.getElem?_cons_succ] at hc0' hc1' hd0' hd1'; have HB4 := Lib.hid hb4; have HBK4 := Lib.hid hblk4; clear hb4 hblk4 hdb4)
            refine wpAny_take (i := 10) (v := ?_) rfl (by kernel_rfl) (by kernel_rfl) (by kernel_rfl) (fun _ _ _ h => h) (.inl ⟨by rfl, ?_⟩) ?_
            rotate_left
            focus (intro wx; go_simp; first | done | with_reducible rfl | rfl)
            simp only [List.getElem_toArray, List.getElem_cons_succ, List.getElem_cons_zero, Act.put, List.setIfInBounds_toArray, List.set_cons_zero, List.set_cons_succ]
            refine wpAny_take (i := 11) (v := ?_) rfl (by kernel_rfl) (by kernel_rfl) (by kernel_rfl) (fun _ _ _ h => h) (.inl ⟨by rfl, ?_⟩) ?_
            rotate_left
            focus (intro wx; go_simp; first | done | with_reducible rfl | rfl)
            simp only [List.getElem_toArray, List.getElem_cons_succ, List.getElem_cons_zero, Act.put, List.setIfInBounds_toArray, List.set_cons_zero, List.set_cons_succ]
            refine wpAny_ready (rs := [12]) (by kernel_rfl) (by simp) ?_
            refine AllReady.cons rfl (fun K hK => ?_) AllReady.nil
            go_simp
            refine hK _ _ ?_
            clear hK K
            refine wpAny_ready (rs := [13]) (by kernel_rfl) (by simp) ?_
            refine AllReady.cons rfl (fun K hK => ?_) AllReady.nil
            go_simp
            refine hK _ _ ?_
            clear hK K
            refine wpAny_done (by kernel_rfl) ?_ _
            go_wp2
            refine bodyPost_ret (results_cellB rfl rfl (loadWord ((HBK4.out.set_ 0 _).set_ 1 _))) rfl ?_
            exact HEND.out w4 _ (PushAt.below HP3.out ((Below.refl _ _).drew.trans HB4.out)) HBK4.out (hb03.drew.trans (HB4.out.mono hb03.size)) (by rw [HV.out]; rfl) (fun y e => by rw [HV.out] at e; cases e)
          · go_simp
            go_wp2_with (go_at_call 11; refine (HT2.out _ (Below.refl _ _).drew).mono ?_; intro e w4 h4; obtain ⟨e4, hb4⟩ := h4; subst e4; have hblk4 := HR.out.drew.below hb4 HR.out.lt; have hc0' := hblk4.cell 0; have hc1' := hblk4.cell 1; have hf0' := hblk4.frozen 0; have hf1' := hblk4.frozen 1; have hdb4 := HDB.out.drew.below hb4 HDB.out.lt; have hd0' := hdb4.cell 0; have hd1' := hdb4.cell 1; simp only [List.getElem?_toArray, List.getElem?_cons_zero, List.getElem?_cons_succ] at hc0' hc1' hd0' hd1'; have HB4 := Lib.hid hb4; have HBK4 := Lib.hid hblk4; clear hb4 hblk4 hdb4)
            refine wpAny_take (i := 10) (v := ?_) rfl (by kernel_rfl) (by kernel_rfl) (by kernel_rfl) (fun _ _ _ h => h) (.inl ⟨by rfl, ?_⟩) ?_
            rotate_left
            focus (intro wx; go_simp; first | done | with_reducible rfl | rfl)
            simp only [List.getElem_toArray, List.getElem_cons_succ, List.getElem_cons_zero, Act.put, List.setIfInBounds_toArray, List.set_cons_zero, List.set_cons_succ]
            refine wpAny_take (i := 11) (v := ?_) rfl (by kernel_rfl) (by kernel_rfl) (by kernel_rfl) (fun _ _ _ h => h) (.inl ⟨by rfl, ?_⟩) ?_
            rotate_left
            focus (intro wx; go_simp; first | done | with_reducible rfl | rfl)
            simp only [List.getElem_toArray, List.getElem_cons_succ, List.getElem_cons_zero, Act.put, List.setIfInBounds_toArray, List.set_cons_zero, List.set_cons_succ]
            refine wpAny_ready (rs := [0]) (by kernel_rfl) (by simp) ?_
            refine AllReady.cons rfl (fun K hK => ?_) AllReady.nil
            go_simp
            refine hK _ _ ?_
            clear hK K
            refine wpAny_ready (rs := [12]) (by kernel_rfl) (by simp) ?_
            refine AllReady.cons rfl (fun K hK => ?_) AllReady.nil
            go_simp
            refine hK _ _ ?_
            clear hK K
            refine wpAny_ready (rs := [13]) (by kernel_rfl) (by simp) ?_
            refine AllReady.cons rfl (fun K hK => ?_) AllReady.nil
            go_simp
            refine hK _ _ ?_
            clear hK K
            refine wpAny_done (by kernel_rfl) ?_ _
            go_wp2
            refine bodyPost_ret (results_cellB rfl rfl (loadWord ((HBK4.out.set_ 0 _).set_ 1 _))) rfl ?_
            exact HEND.out w4 _ (PushAt.below HP3.out ((Below.refl _ _).drew.trans HB4.out)) HBK4.out (hb03.drew.trans (HB4.out.mono hb03.size)) (by rw [HV.out]; rfl) (fun y e => by rw [HV.out] at e; cases e)

end Go.Proofs.YtggadilgkcjbjaaGreatDoor
