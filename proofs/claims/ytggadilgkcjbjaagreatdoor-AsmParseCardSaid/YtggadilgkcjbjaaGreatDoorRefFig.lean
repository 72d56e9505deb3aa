/-
  The walk over the reference's figures.
-/
import Derived.Test.YtggadilgkcjbjaaGreatDoorAsmText
set_option linter.unusedVariables false
namespace Go.Proofs.YtggadilgkcjbjaaGreatDoor
open Go.RowKit Go.Sort

theorem dec3_more {n : Nat} (h1 : 10 ≤ n) (h2 : n < 1000) : dec3 n = dec3 (n / 10) ++ [UInt8.ofNat (48 + n % 10)] := by
  unfold dec3
  by_cases h3 : n < 100
  · rw [if_neg (by omega), if_pos h3, if_pos (by omega)]
    rfl
  · rw [if_neg (by omega), if_neg h3, if_neg (by omega), if_pos (by omega), show n / 10 / 10 = n / 100 by omega]
    rfl
theorem conv_lit (w w' : World) (d : Nat) (hd : d < 256) (z : Int) (hz : z = d) (hb : Below (w.heap.size + 1) (w.alloc (.cells #[.int .u8 z] 5)) w') : (convert 22 9 (.slice (some ⟨w.heap.size, 0, none⟩) 1 1)).run Tryz.prog w' = .ok (.string ⟨#[UInt8.ofNat d]⟩) w' := by
  have hp := push_lit w #[.int .u8 z] [UInt8.ofNat d] rfl (by
    show [Value.int .u8 z] = [Value.int .u8 ((UInt8.ofNat d).toNat : Int)]
    rw [UInt8.toNat_ofNat', Nat.mod_eq_of_lt (by omega), hz]) (by simp; unfold maxLen; omega) w.heap.size rfl
  have hb2 : Below (w.alloc (.cells #[.int .u8 z] 5)).heap.size (w.alloc (.cells #[.int .u8 z] 5)) w' := by
    have e : (w.alloc (.cells #[.int .u8 z] 5)).heap.size = w.heap.size + 1 := by simp
    rw [e]
    exact hb
  exact (hp.below hb2).byte.str

set_option maxRecDepth 100000 in
set_option maxHeartbeats 1000000 in
theorem figOne (n : Nat) (hn : n < 10) (w : World) : Calls Tryz.prog 29 #[.int .i64 (n : Int)] w (StrEnd (dec3 n) w) := by
  obtain ⟨E, hE⟩ : ∃ E, E = StrEnd (dec3 n) w := ⟨_, rfl⟩
  rw [← hE]
  have HE := Lib.hid hE
  clear hE
  have hn' : (n : Int) < 10 := by omega
  have hw1 : IntKind.u8.wrap (48 + (n : Int)) = 48 + (n : Int) := by simp [IntKind.wrap, IntKind.signed, IntKind.bits]; omega
  obtain ⟨ch, hch⟩ : ∃ ch, ch = UInt8.ofNat (48 + n) := ⟨_, rfl⟩
  have hc := conv_lit w _ (48 + n) (by omega) (48 + (n : Int)) (by omega) (Below.refl _ _)
  rw [← hch] at hc
  have hb : Below w.heap.size w (w.alloc (.cells #[.int .u8 (48 + (n : Int))] 5)) := (Below.refl _ _).alloc (Nat.le_refl _) _
  have HD : Hid (dec3 n = [ch]) := by show _ = _; unfold dec3; rw [if_pos hn, hch]
  clear hch
  go_enter Tryz.func29, Tryz.ntmps29
  go_wp2
  rw [HE.out, HD.out]
  exact strEnd_mk rfl hb

set_option maxRecDepth 100000 in
set_option maxHeartbeats 1000000 in
theorem figMore (n : Nat) (h10 : 10 ≤ n) (hn : n < 1000) (ih : ∀ w, Calls Tryz.prog 29 #[.int .i64 ((n / 10 : Nat) : Int)] w (StrEnd (dec3 (n / 10)) w)) (w : World) : Calls Tryz.prog 29 #[.int .i64 (n : Int)] w (StrEnd (dec3 n) w) := by
  obtain ⟨E, hE⟩ : ∃ E, E = StrEnd (dec3 n) w := ⟨_, rfl⟩
  rw [← hE]
  have HE := Lib.hid hE
  clear hE
  have hn' : ¬ (n : Int) < 10 := by omega
  obtain ⟨q, hq⟩ : ∃ q, q = n / 10 := ⟨_, rfl⟩
  obtain ⟨r, hr⟩ : ∃ r, r = n % 10 := ⟨_, rfl⟩
  have hqI : (n : Int).tdiv 10 = (q : Int) := by rw [hq]; rfl
  have hrI : (n : Int).tmod 10 = (r : Int) := by rw [hr]; rfl
  have hq2 : (n : Int) / 10 = (q : Int) := by omega
  have hr2 : (n : Int) % 10 = (r : Int) := by omega
  obtain ⟨ch, hch⟩ : ∃ ch, ch = UInt8.ofNat (48 + r) := ⟨_, rfl⟩
  have HCH := Lib.hid hch
  have HD : Hid (dec3 n = dec3 q ++ [ch]) := by show _ = _; rw [dec3_more h10 hn, hq, hch, hr]
  have HSJ : Hid ((⟨(dec3 q).toArray⟩ : ByteArray) ++ (⟨#[ch]⟩ : ByteArray) = ⟨(dec3 q ++ [ch]).toArray⟩) := bytes_app (dec3 q) [ch]
  have hwq : IntKind.i64.wrap (q : Int) = (q : Int) := by rw [IntKind.wrap_i64]; omega
  have hlq : ¬ 9223372036854775807 < (dec3 q).length + 1 := by have := dec3_length q; omega
  have hw1 : IntKind.u8.wrap (48 + (r : Int)) = 48 + (r : Int) := by simp [IntKind.wrap, IntKind.signed, IntKind.bits]; omega
  have hw2 : IntKind.i64.wrap (48 + (r : Int)) = 48 + (r : Int) := by rw [IntKind.wrap_i64]; omega
  have hcB : ∀ w', Below (w.heap.size + 1) (w.alloc (.cells #[.int .u8 (48 + (r : Int))] 5)) w' → (convert 22 9 (.slice (some ⟨w.heap.size, 0, none⟩) 1 1)).run Tryz.prog w' = .ok (.string ⟨#[ch]⟩) w' := fun w' hb => by rw [hch]; exact conv_lit w w' (48 + r) (by omega) (48 + (r : Int)) (by omega) hb
  have hr9 : r < 10 := by omega
  rw [← hq] at ih
  have HIH := Lib.hid ih
  have HCL : Hid (∀ w' : World, (convert 22 9 (.slice (some ⟨w'.heap.size, 0, none⟩) 1 1)).run Tryz.prog (w'.alloc (.cells #[.int .u8 (48 + (r : Int))] 5)) = .ok (.string ⟨#[ch]⟩) (w'.alloc (.cells #[.int .u8 (48 + (r : Int))] 5))) := fun w' => by rw [hch]; exact conv_lit w' _ (48 + r) (by omega) (48 + (r : Int)) (by omega) (Below.refl _ _)
  have HCB := Lib.hid hcB
  clear hcB
  clear ih hq hr hch
  go_enter Tryz.func29, Tryz.ntmps29
  go_wp2_with fail
  refine wp_region_any (by kernel_rfl) ?_
  try (change wpAny _ _ _ _ _ _ _ (World.drew _))
  refine wpAny_take (i := 0) (v := ?_) rfl (by kernel_rfl) (by kernel_rfl) (by kernel_rfl) (fun _ _ _ h => h) (.inl ⟨by rfl, ?_⟩) ?_
  rotate_left
  focus (intro wx; go_simp; first | done | with_reducible rfl | rfl)
  simp only [List.getElem_toArray, List.getElem_cons_zero, Act.put, List.setIfInBounds_toArray, List.set_cons_zero, List.set_cons_succ]
  refine wpAny_take (i := 1) (v := ?_) rfl (by kernel_rfl) (by kernel_rfl) (by kernel_rfl) (fun _ _ _ h => h) (.inl ⟨by rfl, ?_⟩) ?_
  rotate_left
  focus (intro wx; go_simp; first | done | with_reducible rfl | rfl)
  simp only [List.getElem_toArray, List.getElem_cons_succ, List.getElem_cons_zero, Act.put, List.setIfInBounds_toArray, List.set_cons_zero, List.set_cons_succ]
  refine wpAny_take (i := 3) (v := ?_) rfl (by kernel_rfl) (by kernel_rfl) (by kernel_rfl) (fun _ _ _ h => h) (.inl ⟨by rfl, ?_⟩) ?_
  rotate_left
  focus (intro wx; go_simp; first | done | with_reducible rfl | rfl)
  simp only [List.getElem_toArray, List.getElem_cons_succ, List.getElem_cons_zero, Act.put, List.setIfInBounds_toArray, List.set_cons_zero, List.set_cons_succ]
  refine wpAny_take (i := 4) (v := ?_) rfl (by kernel_rfl) (by kernel_rfl) (by kernel_rfl) (fun _ _ _ h => h) (.inl ⟨by rfl, ?_⟩) ?_
  rotate_left
  focus (intro wx; go_simp; first | done | with_reducible rfl | rfl)
  simp only [List.getElem_toArray, List.getElem_cons_succ, List.getElem_cons_zero, Act.put, List.setIfInBounds_toArray, List.set_cons_zero, List.set_cons_succ]
  refine wpAny_take (i := 5) (v := ?_) rfl (by kernel_rfl) (by kernel_rfl) (by kernel_rfl) (fun _ _ _ h => h) (.inl ⟨by rfl, ?_⟩) ?_
  rotate_left
  focus (intro wx; go_simp; first | done | with_reducible rfl | rfl)
  simp only [List.getElem_toArray, List.getElem_cons_succ, List.getElem_cons_zero, Act.put, List.setIfInBounds_toArray, List.set_cons_zero, List.set_cons_succ]
  refine wpAny_take (i := 6) (v := ?_) rfl (by kernel_rfl) (by kernel_rfl) (by kernel_rfl) (fun _ _ _ h => h) (.inl ⟨by rfl, ?_⟩) ?_
  rotate_left
  focus (intro wx; go_simp; first | done | with_reducible rfl | rfl)
  simp only [List.getElem_toArray, List.getElem_cons_succ, List.getElem_cons_zero, Act.put, List.setIfInBounds_toArray, List.set_cons_zero, List.set_cons_succ]
  refine wpAny_ready (rs := [2, 7]) (by kernel_rfl) (by simp) ?_
  refine AllReady.cons rfl (fun K hK => ?_) (AllReady.cons rfl (fun K hK => ?_) AllReady.nil)
  · go_simp
    go_wp2_with (go_at_call 29; refine (HIH.out _).mono ?_; intro e w2 h2; obtain ⟨e2, hb2⟩ := h2; subst e2; have HB2 := Lib.hid hb2; clear hb2)
    have hc := HCL.out w2
    refine wpAny_ready (rs := [7]) (by kernel_rfl) (by simp) ?_
    refine AllReady.cons rfl (fun K hK => ?_) AllReady.nil
    go_simp
    refine hK _ _ ?_
    clear hK K
    refine wpAny_ready (rs := [8]) (by kernel_rfl) (by simp) ?_
    refine AllReady.cons rfl (fun K hK => ?_) AllReady.nil
    go_simp
    refine hK _ _ ?_
    clear hK K
    refine wpAny_take (i := 9) (v := ?_) rfl (by kernel_rfl) (by kernel_rfl) (by kernel_rfl) (fun _ _ _ h => h) (.inl ⟨by rfl, ?_⟩) ?_
    rotate_left
    focus (intro wx; go_simp; first | done | with_reducible rfl | rfl)
    simp only [List.getElem_toArray, List.getElem_cons_succ, List.getElem_cons_zero, Act.put, List.setIfInBounds_toArray, List.set_cons_zero, List.set_cons_succ]
    refine wpAny_take (i := 10) (v := ?_) rfl (by kernel_rfl) (by kernel_rfl) (by kernel_rfl) (fun _ _ _ h => h) (.inl ⟨by rfl, ?_⟩) ?_
    rotate_left
    focus (intro wx; go_simp; first | done | with_reducible rfl | rfl)
    simp only [List.getElem_toArray, List.getElem_cons_succ, List.getElem_cons_zero, Act.put, List.setIfInBounds_toArray, List.set_cons_zero, List.set_cons_succ]
    refine wpAny_done (by kernel_rfl) ?_ _
    clear hc
    go_wp2
    rw [HE.out, HD.out]
    exact strEnd_mk HSJ.out (((Below.refl w.heap.size w).drew.trans HB2.out).alloc HB2.out.size _)
  · go_simp
    refine hK _ _ ?_
    clear hK K
    refine wpAny_ready (rs := [2, 8]) (by kernel_rfl) (by simp) ?_
    refine AllReady.cons rfl (fun K hK => ?_) (AllReady.cons rfl (fun K hK => ?_) AllReady.nil)
    · go_simp
      go_wp2_with (go_at_call 29; refine (HIH.out _).mono ?_; intro e w2 h2; obtain ⟨e2, hb2⟩ := h2; subst e2; have HB2 := Lib.hid hb2; clear hb2)
      have hc2 := HCB.out w2 ((Below.refl (w.heap.size + 1) _).drew.trans (HB2.out.mono (by simp)))
      refine wpAny_ready (rs := [8]) (by kernel_rfl) (by simp) ?_
      refine AllReady.cons rfl (fun K hK => ?_) AllReady.nil
      go_simp
      refine hK _ _ ?_
      clear hK K
      refine wpAny_take (i := 9) (v := ?_) rfl (by kernel_rfl) (by kernel_rfl) (by kernel_rfl) (fun _ _ _ h => h) (.inl ⟨by rfl, ?_⟩) ?_
      rotate_left
      focus (intro wx; go_simp; first | done | with_reducible rfl | rfl)
      simp only [List.getElem_toArray, List.getElem_cons_succ, List.getElem_cons_zero, Act.put, List.setIfInBounds_toArray, List.set_cons_zero, List.set_cons_succ]
      refine wpAny_take (i := 10) (v := ?_) rfl (by kernel_rfl) (by kernel_rfl) (by kernel_rfl) (fun _ _ _ h => h) (.inl ⟨by rfl, ?_⟩) ?_
      rotate_left
      focus (intro wx; go_simp; first | done | with_reducible rfl | rfl)
      simp only [List.getElem_toArray, List.getElem_cons_succ, List.getElem_cons_zero, Act.put, List.setIfInBounds_toArray, List.set_cons_zero, List.set_cons_succ]
      refine wpAny_done (by kernel_rfl) ?_ _
      clear hc2
      go_wp2
      rw [HE.out, HD.out]
      exact strEnd_mk HSJ.out ((((Below.refl w.heap.size w).alloc (Nat.le_refl _) _).drew).trans (HB2.out.mono (by simp)))
    · have hc2 := HCB.out _ (Below.refl _ _).drew
      go_simp
      refine hK _ _ ?_
      clear hK K
      refine wpAny_ready (rs := [2]) (by kernel_rfl) (by simp) ?_
      refine AllReady.cons rfl (fun K hK => ?_) AllReady.nil
      go_simp
      go_wp2_with (go_at_call 29; refine (HIH.out _).mono ?_; intro e w2 h2; obtain ⟨e2, hb2⟩ := h2; subst e2; have HB2 := Lib.hid hb2; clear hb2)
      refine wpAny_take (i := 9) (v := ?_) rfl (by kernel_rfl) (by kernel_rfl) (by kernel_rfl) (fun _ _ _ h => h) (.inl ⟨by rfl, ?_⟩) ?_
      rotate_left
      focus (intro wx; go_simp; first | done | with_reducible rfl | rfl)
      simp only [List.getElem_toArray, List.getElem_cons_succ, List.getElem_cons_zero, Act.put, List.setIfInBounds_toArray, List.set_cons_zero, List.set_cons_succ]
      refine wpAny_take (i := 10) (v := ?_) rfl (by kernel_rfl) (by kernel_rfl) (by kernel_rfl) (fun _ _ _ h => h) (.inl ⟨by rfl, ?_⟩) ?_
      rotate_left
      focus (intro wx; go_simp; first | done | with_reducible rfl | rfl)
      simp only [List.getElem_toArray, List.getElem_cons_succ, List.getElem_cons_zero, Act.put, List.setIfInBounds_toArray, List.set_cons_zero, List.set_cons_succ]
      refine wpAny_done (by kernel_rfl) ?_ _
      clear hc2
      go_wp2
      rw [HE.out, HD.out]
      exact strEnd_mk HSJ.out ((((Below.refl w.heap.size w).alloc (Nat.le_refl _) _).drew).trans (HB2.out.mono (by simp)))

theorem refFig_any (n : Nat) (hn : n < 1000) (w : World) : Calls Tryz.prog 29 #[.int .i64 (n : Int)] w (StrEnd (dec3 n) w) := by
  have h1 : ∀ m : Nat, m < 10 → ∀ w, Calls Tryz.prog 29 #[.int .i64 (m : Int)] w (StrEnd (dec3 m) w) := figOne
  have h2 : ∀ m : Nat, m < 100 → ∀ w, Calls Tryz.prog 29 #[.int .i64 (m : Int)] w (StrEnd (dec3 m) w) := fun m hm w => by
    by_cases h : m < 10
    · exact h1 m h w
    · exact figMore m (by omega) (by omega) (h1 (m / 10) (by omega)) w
  by_cases h : n < 10
  · exact h1 n h w
  · exact figMore n (by omega) hn (h2 (n / 10) (by omega)) w

end Go.Proofs.YtggadilgkcjbjaaGreatDoor
