/-
  The walks over the reference's Same, Short, May of words.
-/
import Derived.Test.YtggadilgkcjbjaaGreatDoorRefPush
set_option linter.unusedVariables false
namespace Go.Proofs.YtggadilgkcjbjaaGreatDoor
open Go.RowKit

set_option maxRecDepth 100000 in
set_option maxHeartbeats 1000000 in
theorem refSame_any (v1 v2 : Value) (x1 x2 : Wd) (w : World) (h1 : WordAt w v1 x1) (h2 : WordAt w v2 x2) :
    Calls Tryz.prog 54 #[v1, v2] w fun e w' => e = .returned (.bool (decide (x1 = x2))) ∧ Below w.heap.size w w' := by
  obtain ⟨p1, rfl, hp1⟩ := h1
  obtain ⟨p2, rfl, hp2⟩ := h2
  obtain ⟨E, hE⟩ : ∃ E : Ending → World → Prop, E = fun e w' => e = .returned (.bool (decide (x1 = x2))) ∧ Below w.heap.size w w' := ⟨_, rfl⟩
  rw [← hE]
  have HE := Lib.hid hE
  clear hE
  obtain ⟨A1, c1, e1⟩ := hp1.slice
  obtain ⟨A2, c2, e2⟩ := hp2.slice
  subst e1 e2
  obtain ⟨o1, b1⟩ := x1
  obtain ⟨o2, b2⟩ := x2
  have HP1 := Lib.hid hp1
  have HP2 := Lib.hid hp2
  obtain ⟨n1, hn1⟩ : ∃ n, n = b1.length := ⟨_, rfl⟩
  obtain ⟨n2, hn2⟩ : ∃ n, n = b2.length := ⟨_, rfl⟩
  obtain ⟨y1, hy1⟩ : ∃ y, y = o1.toNat := ⟨_, rfl⟩
  obtain ⟨y2, hy2⟩ : ∃ y, y = o2.toNat := ⟨_, rfl⟩
  obtain ⟨t1, ht1⟩ : ∃ t : ByteArray, t = ⟨b1.toArray⟩ := ⟨_, rfl⟩
  obtain ⟨t2, ht2⟩ : ∃ t : ByteArray, t = ⟨b2.toArray⟩ := ⟨_, rfl⟩
  have hst1 : ∀ w', Below w.heap.size w w' → (convert 22 9 (.slice A1 n1 c1)).run Tryz.prog w' = .ok (.string t1) w' := fun w' hb => by rw [hn1, ht1]; exact (PushAt.below HP1.out hb).byte.str
  have hst2 : ∀ w', Below w.heap.size w w' → (convert 22 9 (.slice A2 n2 c2)).run Tryz.prog w' = .ok (.string t2) w' := fun w' hb => by rw [hn2, ht2]; exact (PushAt.below HP2.out hb).byte.str
  show Calls Tryz.prog 54 #[.agg #[.int .u8 (o1.toNat : Int), .slice A1 b1.length c1], .agg #[.int .u8 (o2.toNat : Int), .slice A2 b2.length c2]] w E
  rw [← hn1, ← hn2, ← hy1, ← hy2]
  have hal : Below w.heap.size w ((w.alloc (.cells #[.int .u8 (y1 : Int), .slice A1 n1 c1] 36)).alloc (.cells #[.int .u8 (y2 : Int), .slice A2 n2 c2] 36)) := ((Below.refl w.heap.size w).alloc (Nat.le_refl _) _).alloc (by simp) _
  have s1 := hst1 _ hal
  have s2 := hst2 _ hal
  by_cases ho : y1 = y2
  · have ho' : ((y1 : Int) == (y2 : Int)) = true := by rw [beq_iff_eq]; omega
    have ho2 : o1 = o2 := UInt8.toNat_inj.1 (by rw [← hy1, ← hy2]; exact ho)
    have HR : Hid (decide ((o1, b1) = (o2, b2)) = (t1.toList == t2.toList)) := by
      show _ = _
      rw [ht1, ht2, toList_data, toList_data, ho2]
      by_cases h : b1 = b2
      · subst h; simp
      · rw [decide_eq_false (by simp [h])]
        simp [h]
    clear hst1 hst2 ho2 ho hn1 hn2 hy1 hy2 ht1 ht2 hp1 hp2
    go_enter Tryz.func54, Tryz.ntmps54
    go_wp2
    rw [HE.out]
    exact ⟨by rw [HR.out], hal⟩
  · have ho' : ((y1 : Int) == (y2 : Int)) = false := by rw [beq_eq_false_iff_ne]; omega
    have HR : Hid (decide ((o1, b1) = (o2, b2)) = false) := by
      show _ = _
      apply decide_eq_false
      intro e
      apply ho
      rw [hy1, hy2]
      rw [show o1 = o2 from congrArg Prod.fst e]
    clear hst1 hst2 ho hn1 hn2 hy1 hy2 ht1 ht2 hp1 hp2 s1 s2
    go_enter Tryz.func54, Tryz.ntmps54
    go_wp2
    rw [HE.out]
    exact ⟨by rw [HR.out], hal⟩

set_option maxRecDepth 100000 in
set_option maxHeartbeats 1000000 in
theorem refShort_any (v : Value) (x : Wd) (w : World) (h : WordAt w v x) (hn : x.2.length ≤ 65535) :
    Calls Tryz.prog 32 #[v] w fun e w' => e = .returned (.bool (shortL x)) ∧ Below w.heap.size w w' := by
  obtain ⟨p, rfl, hp⟩ := h
  obtain ⟨A, c, rfl⟩ := hp.slice
  obtain ⟨E, hE⟩ : ∃ E : Ending → World → Prop, E = fun e w' => e = .returned (.bool (shortL x)) ∧ Below w.heap.size w w' := ⟨_, rfl⟩
  rw [← hE]
  have HE := Lib.hid hE
  have HP := Lib.hid hp
  clear hE hp
  obtain ⟨op, bs⟩ := x
  obtain ⟨y, hy⟩ : ∃ y : Nat, op.toNat = y := ⟨_, rfl⟩
  have hy1 : y < 256 := by rw [← hy]; exact UInt8.toNat_lt _
  obtain ⟨n, hnn⟩ : ∃ n, n = bs.length := ⟨_, rfl⟩
  have HY := Lib.hid hy
  have HNN := Lib.hid hnn
  show Calls Tryz.prog 32 #[.agg #[.int .u8 (op.toNat : Int), .slice A bs.length c]] w E
  rw [hy, ← hnn]
  have hn' : n ≤ 65535 := by rw [hnn]; exact hn
  clear hy hnn hn
  obtain ⟨X, hX⟩ : ∃ X, X = w.alloc (.cells #[.int .u8 (y : Int), .slice A n c] 36) := ⟨_, rfl⟩
  have hbX : Below w.heap.size w X := by rw [hX]; exact (Below.refl _ _).alloc (Nat.le_refl _) _
  have hblk : Blk X w.heap.size 36 #[.int .u8 (y : Int), .slice A n c] := by rw [hX]; exact Blk.new w _ _
  have HPX := Lib.hid (HP.out.below hbX)
  have HWX : Hid (WordAt X (.agg #[.int .u8 (y : Int), .slice A n c]) (op, bs)) := ⟨_, by rw [HY.out, HNN.out], HPX.out⟩
  go_enter Tryz.func32, Tryz.ntmps32
  go_wp2_with fail
  rw [← hX]
  refine (refPushes_any _ (op, bs) _ HWX.out (by show bs.length ≤ _; rw [← HNN.out]; omega)).mono ?_
  intro e w1 h1
  cases hpu : pushesL (op, bs) with
  | none =>
    rw [hpu] at h1
    obtain ⟨rfl, hb1⟩ := h1
    have HS : Hid (shortL (op, bs) = true) := by show _ = _; unfold shortL; rw [hpu]
    have hb01 : Below w.heap.size w w1 := hbX.trans (hb1.mono hbX.size)
    clear hpu hX
    go_wp2_with fail
    refine wp_region_any (by kernel_rfl) ?_
    try (change wpAny _ _ _ _ _ _ _ (World.drew _))
    refine wpAny_take (i := 0) (v := ?_) rfl (by kernel_rfl) (by kernel_rfl) (by kernel_rfl) (fun _ _ _ h => h) (.inl ⟨by rfl, ?_⟩) ?_
    rotate_left
    focus (intro wx; go_simp; first | done | with_reducible rfl | rfl)
    simp only [List.getElem_toArray, List.getElem_cons_zero, Act.put, List.setIfInBounds_toArray, List.set_cons_zero, List.set_cons_succ]
    refine wpAny_take (i := 1) (v := ?_) rfl (by kernel_rfl) (by kernel_rfl) (by kernel_rfl) (fun _ _ _ h => h) (.inl ⟨by rfl, ?_⟩) ?_
    rotate_left
    focus (intro wx; go_simp; first | done | with_reducible rfl | rfl)
    simp only [List.getElem_toArray, List.getElem_cons_succ, List.getElem_cons_zero, Act.put, List.setIfInBounds_toArray, List.set_cons_zero, List.set_cons_succ]
    refine wpAny_take (i := 2) (v := ?_) rfl (by kernel_rfl) (by kernel_rfl) (by kernel_rfl) (fun _ _ _ h => h) (.inl ⟨by rfl, ?_⟩) ?_
    rotate_left
    focus (intro wx; go_simp; first | done | with_reducible rfl | rfl)
    simp only [List.getElem_toArray, List.getElem_cons_succ, List.getElem_cons_zero, Act.put, List.setIfInBounds_toArray, List.set_cons_zero, List.set_cons_succ]
    refine wpAny_take (i := 3) (v := undef) rfl (by kernel_rfl) (by kernel_rfl) (by kernel_rfl) (fun _ _ _ h => h) (.inr ⟨by rfl, rfl⟩) ?_
    simp only [List.getElem_toArray, List.getElem_cons_succ, List.getElem_cons_zero, Act.put, List.setIfInBounds_toArray, List.set_cons_zero, List.set_cons_succ]
    refine wpAny_take (i := 4) (v := undef) rfl (by kernel_rfl) (by kernel_rfl) (by kernel_rfl) (fun _ _ _ h => h) (.inr ⟨by rfl, rfl⟩) ?_
    simp only [List.getElem_toArray, List.getElem_cons_succ, List.getElem_cons_zero, Act.put, List.setIfInBounds_toArray, List.set_cons_zero, List.set_cons_succ]
    refine wpAny_take (i := 5) (v := undef) rfl (by kernel_rfl) (by kernel_rfl) (by kernel_rfl) (fun _ _ _ h => h) (.inr ⟨by rfl, rfl⟩) ?_
    simp only [List.getElem_toArray, List.getElem_cons_succ, List.getElem_cons_zero, Act.put, List.setIfInBounds_toArray, List.set_cons_zero, List.set_cons_succ]
    refine wpAny_take (i := 6) (v := undef) rfl (by kernel_rfl) (by kernel_rfl) (by kernel_rfl) (fun _ _ _ h => h) (.inr ⟨by rfl, rfl⟩) ?_
    simp only [List.getElem_toArray, List.getElem_cons_succ, List.getElem_cons_zero, Act.put, List.setIfInBounds_toArray, List.set_cons_zero, List.set_cons_succ]
    refine wpAny_take (i := 7) (v := ?_) rfl (by kernel_rfl) (by kernel_rfl) (by kernel_rfl) (fun _ _ _ h => h) (.inl ⟨by rfl, ?_⟩) ?_
    rotate_left
    focus (intro wx; go_simp; first | done | with_reducible rfl | rfl)
    simp only [List.getElem_toArray, List.getElem_cons_succ, List.getElem_cons_zero, Act.put, List.setIfInBounds_toArray, List.set_cons_zero, List.set_cons_succ]
    refine wpAny_take (i := 8) (v := ?_) rfl (by kernel_rfl) (by kernel_rfl) (by kernel_rfl) (fun _ _ _ h => h) (.inl ⟨by rfl, ?_⟩) ?_
    rotate_left
    focus (intro wx; go_simp; first | done | with_reducible rfl | rfl)
    simp only [List.getElem_toArray, List.getElem_cons_succ, List.getElem_cons_zero, Act.put, List.setIfInBounds_toArray, List.set_cons_zero, List.set_cons_succ]
    refine wpAny_done (by kernel_rfl) ?_ _
    go_wp2
    rw [HE.out]
    exact ⟨by rw [HS.out]; rfl, hb01.drew⟩
  | some b =>
    rw [hpu] at h1
    obtain ⟨⟨q, rfl, hq⟩, hb1⟩ := h1
    have hbl : b.length ≤ 65535 := by
      unfold pushesL at hpu
      simp only at hpu
      split at hpu
      · simp only [Option.some.injEq] at hpu; rw [← hpu, ← HNN.out]; omega
      · split at hpu
        · simp only [Option.some.injEq] at hpu; rw [← hpu]; simp
        · split at hpu
          · simp only [Option.some.injEq] at hpu; rw [← hpu]; simp
          · cases hpu
    have HS : Hid (shortL (op, bs) = decide (pushL b = (op, bs))) := by show _ = _; unfold shortL; rw [hpu]
    have hb01 : Below w.heap.size w w1 := hbX.trans (hb1.mono hbX.size)
    have HQ := Lib.hid hq
    have hblk1 := hblk.below hb1 hblk.lt
    have HP1 := Lib.hid (HPX.out.below hb1)
    obtain ⟨A1, c1, e1⟩ := hq.slice
    subst e1
    have HPUSH : Hid (∀ w', Below w1.heap.size w1 w' → Calls Tryz.prog 55 #[.slice A1 b.length c1] w' (PushEnd (pushL b) w')) := fun w' hb => refPush_any _ b _ (PushAt.below HQ.out hb).byte hbl
    have HB1 := Lib.hid hblk1
    have HWA : Hid (∀ w', Below w1.heap.size w1 w' → WordAt w' (.agg #[.int .u8 (y : Int), .slice A n c]) (op, bs)) := fun w' hb => ⟨_, by rw [HY.out, HNN.out], PushAt.below HP1.out hb⟩
    have hd0 := hblk1.cell 0
    have hd1 := hblk1.cell 1
    simp only [List.getElem?_toArray, List.getElem?_cons_zero, List.getElem?_cons_succ] at hd0 hd1
    clear hpu hq hb1 hblk hX HWX HPX hbX hblk1
    go_wp2_with fail
    refine wp_region_any (by kernel_rfl) ?_
    try (change wpAny _ _ _ _ _ _ _ (World.drew _))
    refine wpAny_take (i := 0) (v := ?_) rfl (by kernel_rfl) (by kernel_rfl) (by kernel_rfl) (fun _ _ _ h => h) (.inl ⟨by rfl, ?_⟩) ?_
    rotate_left
    focus (intro wx; go_simp; first | done | with_reducible rfl | rfl)
    simp only [List.getElem_toArray, List.getElem_cons_zero, Act.put, List.setIfInBounds_toArray, List.set_cons_zero, List.set_cons_succ]
    refine wpAny_take (i := 1) (v := ?_) rfl (by kernel_rfl) (by kernel_rfl) (by kernel_rfl) (fun _ _ _ h => h) (.inl ⟨by rfl, ?_⟩) ?_
    rotate_left
    focus (intro wx; go_simp; first | done | with_reducible rfl | rfl)
    simp only [List.getElem_toArray, List.getElem_cons_succ, List.getElem_cons_zero, Act.put, List.setIfInBounds_toArray, List.set_cons_zero, List.set_cons_succ]
    refine wpAny_take (i := 2) (v := ?_) rfl (by kernel_rfl) (by kernel_rfl) (by kernel_rfl) (fun _ _ _ h => h) (.inl ⟨by rfl, ?_⟩) ?_
    rotate_left
    focus (intro wx; go_simp; first | done | with_reducible rfl | rfl)
    simp only [List.getElem_toArray, List.getElem_cons_succ, List.getElem_cons_zero, Act.put, List.setIfInBounds_toArray, List.set_cons_zero, List.set_cons_succ]
    refine wpAny_take (i := 3) (v := ?_) rfl (by kernel_rfl) (by kernel_rfl) (by kernel_rfl) (fun _ _ _ h => h) (.inl ⟨by rfl, ?_⟩) ?_
    rotate_left
    focus (intro wx; go_simp; first | done | with_reducible rfl | rfl)
    simp only [List.getElem_toArray, List.getElem_cons_succ, List.getElem_cons_zero, Act.put, List.setIfInBounds_toArray, List.set_cons_zero, List.set_cons_succ]
    refine wpAny_ready (rs := [4, 5]) (by kernel_rfl) (by simp) ?_
    refine AllReady.cons rfl (fun K hK => ?_) (AllReady.cons rfl (fun K hK => ?_) AllReady.nil)
    · go_simp
      go_wp2_with (go_at_call 55; refine (HPUSH.out _ (Below.refl _ _).drew).mono ?_; intro e w2 h2; obtain ⟨v2, e2, hw2, hb2⟩ := h2; subst e2; have HW2 := Lib.hid hw2; have hblk2 := HB1.out.drew.below hb2 HB1.out.lt; have hd0' := hblk2.cell 0; have hd1' := hblk2.cell 1; simp only [List.getElem?_toArray, List.getElem?_cons_zero, List.getElem?_cons_succ] at hd0' hd1'; have HWW := Lib.hid (HWA.out w2 ((Below.refl _ _).drew.trans hb2)); have HB2 := Lib.hid hb2; clear hb2 hblk2 hw2)
      refine wpAny_ready (rs := [5]) (by kernel_rfl) (by simp) ?_
      refine AllReady.cons rfl (fun K hK => ?_) AllReady.nil
      go_simp
      refine hK _ _ ?_
      clear hK K
      refine wpAny_ready (rs := [6]) (by kernel_rfl) (by simp) ?_
      refine AllReady.cons rfl (fun K hK => ?_) AllReady.nil
      go_simp
      go_wp2_with (go_at_call 54; refine (refSame_any _ _ (pushL b) (op, bs) _ HW2.out HWW.out).mono ?_; intro e w3 h3; obtain ⟨e3, hb3⟩ := h3; subst e3; have HB3 := Lib.hid hb3; clear hb3)
      refine wpAny_take (i := 7) (v := ?_) rfl (by kernel_rfl) (by kernel_rfl) (by kernel_rfl) (fun _ _ _ h => h) (.inl ⟨by rfl, ?_⟩) ?_
      rotate_left
      focus (intro wx; go_simp; first | done | with_reducible rfl | rfl)
      simp only [List.getElem_toArray, List.getElem_cons_succ, List.getElem_cons_zero, Act.put, List.setIfInBounds_toArray, List.set_cons_zero, List.set_cons_succ]
      refine wpAny_take (i := 8) (v := ?_) rfl (by kernel_rfl) (by kernel_rfl) (by kernel_rfl) (fun _ _ _ h => h) (.inl ⟨by rfl, ?_⟩) ?_
      rotate_left
      focus (intro wx; go_simp; first | done | with_reducible rfl | rfl)
      simp only [List.getElem_toArray, List.getElem_cons_succ, List.getElem_cons_zero, Act.put, List.setIfInBounds_toArray, List.set_cons_zero, List.set_cons_succ]
      refine wpAny_done (by kernel_rfl) ?_ _
      go_wp2
      rw [HE.out]
      have hb13 := (Below.refl w1.heap.size w1).drew.trans (HB2.out.trans (HB3.out.mono HB2.out.size))
      exact ⟨by rw [HS.out]; rfl, hb01.trans (hb13.mono hb01.size)⟩
    · go_simp
      refine hK _ _ ?_
      clear hK K
      refine wpAny_ready (rs := [4]) (by kernel_rfl) (by simp) ?_
      refine AllReady.cons rfl (fun K hK => ?_) AllReady.nil
      go_simp
      go_wp2_with (go_at_call 55; refine (HPUSH.out _ (Below.refl _ _).drew).mono ?_; intro e w2 h2; obtain ⟨v2, e2, hw2, hb2⟩ := h2; subst e2; have HW2 := Lib.hid hw2; have hblk2 := HB1.out.drew.below hb2 HB1.out.lt; have hd0' := hblk2.cell 0; have hd1' := hblk2.cell 1; simp only [List.getElem?_toArray, List.getElem?_cons_zero, List.getElem?_cons_succ] at hd0' hd1'; have HWW := Lib.hid (HWA.out w2 ((Below.refl _ _).drew.trans hb2)); have HB2 := Lib.hid hb2; clear hb2 hblk2 hw2)
      refine wpAny_ready (rs := [6]) (by kernel_rfl) (by simp) ?_
      refine AllReady.cons rfl (fun K hK => ?_) AllReady.nil
      go_simp
      go_wp2_with (go_at_call 54; refine (refSame_any _ _ (pushL b) (op, bs) _ HW2.out HWW.out).mono ?_; intro e w3 h3; obtain ⟨e3, hb3⟩ := h3; subst e3; have HB3 := Lib.hid hb3; clear hb3)
      refine wpAny_take (i := 7) (v := ?_) rfl (by kernel_rfl) (by kernel_rfl) (by kernel_rfl) (fun _ _ _ h => h) (.inl ⟨by rfl, ?_⟩) ?_
      rotate_left
      focus (intro wx; go_simp; first | done | with_reducible rfl | rfl)
      simp only [List.getElem_toArray, List.getElem_cons_succ, List.getElem_cons_zero, Act.put, List.setIfInBounds_toArray, List.set_cons_zero, List.set_cons_succ]
      refine wpAny_take (i := 8) (v := ?_) rfl (by kernel_rfl) (by kernel_rfl) (by kernel_rfl) (fun _ _ _ h => h) (.inl ⟨by rfl, ?_⟩) ?_
      rotate_left
      focus (intro wx; go_simp; first | done | with_reducible rfl | rfl)
      simp only [List.getElem_toArray, List.getElem_cons_succ, List.getElem_cons_zero, Act.put, List.setIfInBounds_toArray, List.set_cons_zero, List.set_cons_succ]
      refine wpAny_done (by kernel_rfl) ?_ _
      go_wp2
      rw [HE.out]
      have hb13 := (Below.refl w1.heap.size w1).drew.trans (HB2.out.trans (HB3.out.mono HB2.out.size))
      exact ⟨by rw [HS.out]; rfl, hb01.trans (hb13.mono hb01.size)⟩

set_option maxRecDepth 100000 in
set_option maxHeartbeats 1000000 in
theorem refMay_any (v : Value) (x : Wd) (w : World) (h : WordAt w v x) :
    Calls Tryz.prog 42 #[v] w fun e w' => e = .returned (.bool (layL x).isSome) ∧ Below w.heap.size w w' := by
  obtain ⟨p, rfl, hp⟩ := h
  obtain ⟨A, c, rfl⟩ := hp.slice
  obtain ⟨E, hE⟩ : ∃ E : Ending → World → Prop, E = fun e w' => e = .returned (.bool (layL x).isSome) ∧ Below w.heap.size w w' := ⟨_, rfl⟩
  rw [← hE]
  have HE := Lib.hid hE
  clear hE hp
  obtain ⟨op, bs⟩ := x
  obtain ⟨y, hy⟩ : ∃ y : Nat, op.toNat = y := ⟨_, rfl⟩
  have hy1 : y < 256 := by rw [← hy]; exact UInt8.toNat_lt _
  obtain ⟨n, hnn⟩ : ∃ n, n = bs.length := ⟨_, rfl⟩
  show Calls Tryz.prog 42 #[.agg #[.int .u8 (op.toNat : Int), .slice A bs.length c]] w E
  have HL : Hid ((layL (op, bs)).isSome = if 0 < y ∧ y ≤ 75 then decide (n = y) else if y = 76 then decide (n ≤ 255) else if y = 77 then decide (n ≤ 65535) else decide (n = 0)) := by
    show _ = _
    unfold layL
    simp only [hy, ← hnn]
    split
    · split <;> simp_all
    · split
      · split <;> simp_all
      · split
        · split <;> simp_all
        · split <;> simp_all
  rw [hy, ← hnn]
  have hal : Below w.heap.size w (w.alloc (.cells #[.int .u8 (y : Int), .slice A n c] 36)) := (Below.refl _ _).alloc (Nat.le_refl _) _
  have fin : ∀ b1 b2 : Bool, (layL (op, bs)).isSome = b2 → b1 = b2 → Hid (E (.returned (.bool b1)) (w.alloc (.cells #[.int .u8 (y : Int), .slice A n c] 36))) := fun b1 b2 h1 h2 => by
    show E _ _
    rw [HE.out, h2]
    exact ⟨by rw [h1], hal⟩
  clear hy hnn
  by_cases h1 : 0 < y ∧ y ≤ 75
  · have h1a : (1 : Int) ≤ (y : Int) := by omega
    have h1b : (y : Int) ≤ 75 := by omega
    have HF := fin ((n : Int) == (y : Int)) (decide (n = y)) (by rw [HL.out, if_pos h1]) (by rw [Bool.eq_iff_iff]; simp; omega)
    clear h1 fin
    go_enter Tryz.func42, Tryz.ntmps42
    go_wp2
    exact HF.out
  by_cases h2 : y = 76
  · subst h2
    have HF := fin (decide ((n : Int) ≤ 255)) (decide (n ≤ 255)) (by rw [HL.out, if_neg h1, if_pos rfl]) (by rw [Bool.eq_iff_iff]; simp; omega)
    clear h1 fin
    go_enter Tryz.func42, Tryz.ntmps42
    go_wp2
    exact HF.out
  by_cases h3 : y = 77
  · subst h3
    have HF := fin (decide ((n : Int) ≤ 65535)) (decide (n ≤ 65535)) (by rw [HL.out, if_neg h1, if_neg h2, if_pos rfl]) (by rw [Bool.eq_iff_iff]; simp; omega)
    clear h1 h2 fin
    go_enter Tryz.func42, Tryz.ntmps42
    go_wp2
    exact HF.out
  have h2' : ((y : Int) == 76) = false := by rw [beq_eq_false_iff_ne]; omega
  have h3' : ((y : Int) == 77) = false := by rw [beq_eq_false_iff_ne]; omega
  by_cases h0 : 1 ≤ y
  · have h0a : (1 : Int) ≤ (y : Int) := by omega
    have h0b : ¬ (y : Int) ≤ 75 := by omega
    have HF := fin ((n : Int) == 0) (decide (n = 0)) (by rw [HL.out, if_neg h1, if_neg h2, if_neg h3]) (by rw [Bool.eq_iff_iff]; simp)
    clear h1 h2 h3 h0 fin
    go_enter Tryz.func42, Tryz.ntmps42
    go_wp2
    exact HF.out
  · have h0a : ¬ (1 : Int) ≤ (y : Int) := by omega
    have HF := fin ((n : Int) == 0) (decide (n = 0)) (by rw [HL.out, if_neg h1, if_neg h2, if_neg h3]) (by rw [Bool.eq_iff_iff]; simp)
    clear h1 h2 h3 h0 fin
    go_enter Tryz.func42, Tryz.ntmps42
    go_wp2
    exact HF.out

end Go.Proofs.YtggadilgkcjbjaaGreatDoor
