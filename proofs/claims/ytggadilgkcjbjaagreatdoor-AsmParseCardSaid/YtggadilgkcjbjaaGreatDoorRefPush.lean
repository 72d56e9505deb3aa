/-
  The walks over the reference's Pushes and Push of words.
-/
import Derived.Test.YtggadilgkcjbjaaGreatDoorWordBuild
set_option linter.unusedVariables false
namespace Go.Proofs.YtggadilgkcjbjaaGreatDoor
open Go.RowKit

set_option maxRecDepth 100000 in
set_option maxHeartbeats 1000000 in
theorem refPushes_any (v : Value) (x : Wd) (w : World) (h : WordAt w v x) (hn : x.2.length ≤ 1000000) :
    Calls Tryz.prog 30 #[v] w (PushesEnd (pushesL x) w) := by
  obtain ⟨p, rfl, hp⟩ := h
  obtain ⟨A, c, rfl⟩ := hp.slice
  obtain ⟨E, hE⟩ : ∃ E, E = PushesEnd (pushesL x) w := ⟨_, rfl⟩
  rw [← hE]
  have HE := Lib.hid hE
  have HP := Lib.hid hp
  clear hE hp
  obtain ⟨op, bs⟩ := x
  obtain ⟨y, hy⟩ : ∃ y : Nat, op.toNat = y := ⟨_, rfl⟩
  have hy1 : y < 256 := by rw [← hy]; exact UInt8.toNat_lt _
  obtain ⟨n, hnn⟩ : ∃ n, n = bs.length := ⟨_, rfl⟩
  have HY := Lib.hid hy
  have HNN := Lib.hid hnn
  show Calls Tryz.prog 30 #[.agg #[.int .u8 (op.toNat : Int), .slice A bs.length c]] w E
  rw [hy, ← hnn]
  clear hy hnn
  by_cases h1 : y ≤ 77
  · have h1' : (y : Int) ≤ 77 := by omega
    have HR : Hid (pushesL (op, bs) = some bs) := by show _ = _; unfold pushesL; simp only [HY.out, if_pos h1]
    go_enter Tryz.func30, Tryz.ntmps30
    have hal : Below w.heap.size w (w.alloc (.cells #[.int .u8 (y : Int), .slice A n c] 36)) := (Below.refl _ _).alloc (Nat.le_refl _) _
    have HV : Hid (PushAt (w.alloc (.cells #[.int .u8 (y : Int), .slice A n c] 36)) (.slice A n c) bs) := by
      have := HP.out.below hal
      rw [← HNN.out] at this
      exact this
    go_wp2
    rw [HE.out, HR.out]
    exact ⟨⟨_, rfl, HV.out⟩, hal⟩
  have h1' : ¬ (y : Int) ≤ 77 := by omega
  have hal : Below w.heap.size w (w.alloc (.cells #[.int .u8 (y : Int), .slice A n c] 36)) := (Below.refl _ _).alloc (Nat.le_refl _) _
  by_cases h2 : y = 79
  · subst h2
    have HR : Hid (pushesL (op, bs) = some [129]) := by show _ = _; unfold pushesL; simp only [HY.out]; rfl
    have HL := Lib.hid (push_lit (w.alloc (.cells #[.int .u8 ((79 : Nat) : Int), .slice A n c] 36)) #[.int .u8 129] [129] rfl rfl (by unfold maxLen; simp) (w.heap.size + 1) (by simp))
    have hbl : Below w.heap.size w ((w.alloc (.cells #[.int .u8 ((79 : Nat) : Int), .slice A n c] 36)).alloc (.cells #[.int .u8 129] 5)) := hal.alloc hal.size _
    go_enter Tryz.func30, Tryz.ntmps30
    go_wp2
    rw [HE.out, HR.out]
    exact ⟨⟨_, rfl, HL.out⟩, hbl⟩
  have h2' : ((y : Int) == 79) = false := by rw [beq_eq_false_iff_ne]; omega
  by_cases h3 : 80 < y ∧ y ≤ 96
  · have h3a : (81 : Int) ≤ (y : Int) := by omega
    have h3b : (y : Int) ≤ 96 := by omega
    have HR : Hid (pushesL (op, bs) = some [UInt8.ofNat (y - 80)]) := by show _ = _; unfold pushesL; simp only [HY.out]; rw [if_neg h1, if_neg h2, if_pos h3]
    have hw : IntKind.u8.wrap ((y : Int) - 80) = (y : Int) - 80 := by simp [IntKind.wrap, IntKind.signed, IntKind.bits]; omega
    have HL := Lib.hid (push_lit (w.alloc (.cells #[.int .u8 (y : Int), .slice A n c] 36)) #[.int .u8 ((y : Int) - 80)] [UInt8.ofNat (y - 80)] rfl (by
      show [Value.int .u8 ((y : Int) - 80)] = [Value.int .u8 ((UInt8.ofNat (y - 80)).toNat : Int)]
      rw [UInt8.toNat_ofNat', Nat.mod_eq_of_lt (by omega)]
      congr 2
      omega) (by unfold maxLen; simp) (w.heap.size + 1) (by simp))
    have hbl : Below w.heap.size w ((w.alloc (.cells #[.int .u8 (y : Int), .slice A n c] 36)).alloc (.cells #[.int .u8 ((y : Int) - 80)] 5)) := hal.alloc hal.size _
    clear h3
    go_enter Tryz.func30, Tryz.ntmps30
    go_wp2
    rw [HE.out, HR.out]
    exact ⟨⟨_, rfl, HL.out⟩, hbl⟩
  have HR : Hid (pushesL (op, bs) = none) := by show _ = _; unfold pushesL; simp only [HY.out]; rw [if_neg h1, if_neg h2, if_neg h3]
  by_cases h4 : 80 < y
  · have h4a : (81 : Int) ≤ (y : Int) := by omega
    have h4b : ¬ (y : Int) ≤ 96 := by omega
    clear h3
    go_enter Tryz.func30, Tryz.ntmps30
    go_wp2
    rw [HE.out, HR.out]
    exact ⟨rfl, hal⟩
  · have h4a : ¬ (81 : Int) ≤ (y : Int) := by omega
    clear h3
    go_enter Tryz.func30, Tryz.ntmps30
    go_wp2
    rw [HE.out, HR.out]
    exact ⟨rfl, hal⟩

set_option maxRecDepth 100000 in
set_option maxHeartbeats 1000000 in
theorem refPush_any (v : Value) (bs : List UInt8) (w : World) (h : ByteAt w w.heap.size v bs) (hn : bs.length ≤ 65535) :
    Calls Tryz.prog 55 #[v] w (PushEnd (pushL bs) w) := by
  obtain ⟨A, c, rfl, hr, hc, hm, hnil⟩ := h
  obtain ⟨E, hE⟩ : ∃ E, E = PushEnd (pushL bs) w := ⟨_, rfl⟩
  rw [← hE]
  have HE := Lib.hid hE
  clear hE hnil
  obtain ⟨i0, hi, hz0, hz1, hz2⟩ := info_parts infoByte
  have hal : Below w.heap.size w (w.alloc (.cells #[.int .u8 0, .slice none 0 0] 36)) := (Below.refl _ _).alloc (Nat.le_refl _) _
  have hal2 : Below w.heap.size w ((w.alloc (.cells #[.int .u8 0, .slice none 0 0] 36)).alloc (.cells #[] 5)) := hal.alloc hal.size _
  have HSRC0 := Lib.hid (hr.below hal2)
  have HOWN : Hid (((w.alloc (.cells #[.int .u8 0, .slice none 0 0] 36)).alloc (.cells #[] 5)).ownsRow 0 5 1 (.slice (some ⟨w.heap.size + 1, 0, none⟩) 0 0) 0 []) := by
    have h0 := World.ownsRow_lit (base := 0) (e := 5) (size := 1) (w.alloc (.cells #[.int .u8 0, .slice none 0 0] 36)) #[] 0 (Nat.zero_le _) (Nat.zero_le _) rfl
    have e : (w.alloc (.cells #[.int .u8 0, .slice none 0 0] 36)).heap.size = w.heap.size + 1 := by simp
    rw [e] at h0
    exact h0
  by_cases hl1 : bs.length = 1
  · obtain ⟨b, rfl⟩ : ∃ b, bs = [b] := by
      match bs, hl1 with
      | [b], _ => exact ⟨b, rfl⟩
    obtain ⟨y, hy⟩ : ∃ y : Nat, b.toNat = y := ⟨_, rfl⟩
    have hy1 : y < 256 := by rw [← hy]; exact UInt8.toNat_lt _
    have HY := Lib.hid hy
    obtain ⟨b0, o0, rfl, hb0, hk0⟩ := hr.plain (by simp)
    have d0 : w.cell? ⟨b0, o0, none⟩ = some (.int .u8 (y : Int)) := by have := hk0 0 (by simp); rw [← hy]; exact this
    have d1 : (w.alloc (.cells #[.int .u8 0, .slice none 0 0] 36)).cell? ⟨b0, o0, none⟩ = some (.int .u8 (y : Int)) := (World.cell?_alloc_lt w _ _ hb0).trans d0
    have HNL : Hid ([b].length = 1) := rfl
    have HSRC : Hid (RdB ((w.alloc (.cells #[.int .u8 0, .slice none 0 0] 36)).alloc (.cells #[] 5)) w.heap.size (some ⟨b0, o0, none⟩) 1 [b]) := HSRC0.out
    show Calls Tryz.prog 55 #[.slice (some ⟨b0, o0, none⟩) 1 c] w E
    have hc1 : 1 ≤ c := hc
    clear hk0 hr hy d0 hm hc hl1 hn hal2 HSRC0
    by_cases h16 : 1 ≤ y ∧ y ≤ 16
    · have ha : (1 : Int) ≤ (y : Int) := by omega
      have hb : (y : Int) ≤ 16 := by omega
      have HR : Hid (pushL [b] = (UInt8.ofNat (80 + y), [])) := by show _ = _; unfold pushL; rw [if_pos ⟨rfl, by show 1 ≤ b.toNat; rw [HY.out]; exact h16.1, by show b.toNat ≤ 16; rw [HY.out]; exact h16.2⟩]; show (UInt8.ofNat (80 + b.toNat), ([] : List UInt8)) = _; rw [HY.out]
      have hw : IntKind.u8.wrap (80 + (y : Int)) = 80 + (y : Int) := by simp [IntKind.wrap, IntKind.signed, IntKind.bits]; omega
      have HV : Hid ((80 : Int) + (y : Int) = ((UInt8.ofNat (80 + y)).toNat : Int)) := by show _ = _; rw [UInt8.toNat_ofNat', Nat.mod_eq_of_lt (by omega)]; omega
      clear h16
      go_enter Tryz.func55, Tryz.ntmps55
      go_wp2
      refine bodyPost_ret (results_cellA rfl rfl (loadWord (Blk.new w 36 _))) rfl ?_
      rw [HE.out, HR.out]
      exact ⟨_, rfl, ⟨_, by rw [HV.out], ⟨rfl, .inl ⟨rfl, rfl⟩⟩⟩, (Below.refl _ _).alloc (Nat.le_refl _) _⟩
    · by_cases h129 : y = 129
      · subst h129
        have HR : Hid (pushL [b] = (79, [])) := by show _ = _; unfold pushL; rw [if_neg (by rintro ⟨_, h1, h2⟩; exact h16 ⟨by rw [← HY.out]; exact h1, by rw [← HY.out]; exact h2⟩), if_pos ⟨rfl, HY.out⟩]
        clear h16
        go_enter Tryz.func55, Tryz.ntmps55
        go_wp2
        refine bodyPost_ret (results_cellA rfl rfl (loadWord (Blk.new w 36 _))) rfl ?_
        rw [HE.out, HR.out]
        exact ⟨_, rfl, ⟨_, rfl, ⟨rfl, .inl ⟨rfl, rfl⟩⟩⟩, (Below.refl _ _).alloc (Nat.le_refl _) _⟩
      · have h129' : ((y : Int) == 129) = false := by rw [beq_eq_false_iff_ne]; omega
        have HR : Hid (pushL [b] = (1, [b])) := by show _ = _; unfold pushL; rw [if_neg (by rintro ⟨_, h1, h2⟩; exact h16 ⟨by rw [← HY.out]; exact h1, by rw [← HY.out]; exact h2⟩), if_neg (by rintro ⟨_, h1⟩; exact h129 (by rw [← HY.out]; exact h1)), if_pos (by simp)]; rfl
        rcases (show y < 1 ∨ (1 ≤ y ∧ 16 < y) by omega) with hy0 | ⟨hy0, hy2⟩
        · have hya : ¬ (1 : Int) ≤ (y : Int) := by omega
          clear h16 h129
          have HZ : Hid ((1 : Int) = ((1 : UInt8).toNat : Int)) := by show _ = _; rfl
          go_enter Tryz.func55, Tryz.ntmps55
          go_wp2_with (at_builtin; refine wpList_append_any ((w.alloc (.cells #[.int .u8 0, .slice none 0 0] 36)).alloc (.cells #[] 5)) rfl _ _ 22 rfl 0 5 i0 (.int .u8 0) 1 1 Tryz.underlying22 hi hz0 hz1 hz2 rfl (by decide) _ _ _ rfl HOWN.out w.heap.size (some ⟨b0, o0, none⟩) 1 c (Lib.byteCells [b]) rfl HSRC.out (byteCells_one [b]) (by unfold maxLen; omega) (by omega) (Nat.zero_le _) ?_)
          intro v' w' hown' hg' _
          have hPv : PushAt w' v' [b] := by unfold PushAt; rw [HNL.out]; exact hown'
          obtain ⟨A', c', hv'⟩ := own_slice hown'
          subst hv'
          have HPV := Lib.hid hPv
          have hbX' : Below (w.alloc (.cells #[.int .u8 0, .slice none 0 0] 36)).heap.size (w.alloc (.cells #[.int .u8 0, .slice none 0 0] 36)) w' := ((Below.refl _ _).alloc (Nat.le_refl _) _).grown hg' (by simp) (fun k hk => by simp [Value.ownBlock] at hk; subst hk; simp)
          have hblk' := (Blk.new w 36 #[.int .u8 0, .slice none 0 0]).below hbX' (by simp)
          have hb0' := hal.trans (hbX'.mono hal.size)
          have hcc0 := hblk'.cell 0
          have hcc1 := hblk'.cell 1
          have hff0 := hblk'.frozen 0
          have hff1 := hblk'.frozen 1
          simp only [List.getElem?_toArray, List.getElem?_cons_zero, List.getElem?_cons_succ] at hcc0 hcc1
          have HBK' := Lib.hid hblk'
          clear hown' hPv hg' hbX' hblk'
          go_wp2
          refine bodyPost_ret (results_cellA rfl rfl (loadWord ((HBK'.out.set_ 0 _).set_ 1 _))) rfl ?_
          rw [HE.out, HR.out]
          refine ⟨_, rfl, ⟨_, by show Value.agg #[.int .u8 1, .slice A' _ c'] = _; rw [HZ.out], ?_⟩, (hb0'.setCell (Nat.le_refl _) _).setCell (Nat.le_refl _) _⟩
          exact (HPV.out.setB HBK'.out (by decide) 0 _).setB (HBK'.out.set_ 0 _) (by decide) 1 _
        · have hya : (1 : Int) ≤ (y : Int) := by omega
          have hyb : ¬ (y : Int) ≤ 16 := by omega
          clear h16 h129
          have HZ : Hid ((1 : Int) = ((1 : UInt8).toNat : Int)) := by show _ = _; rfl
          go_enter Tryz.func55, Tryz.ntmps55
          go_wp2_with (at_builtin; refine wpList_append_any ((w.alloc (.cells #[.int .u8 0, .slice none 0 0] 36)).alloc (.cells #[] 5)) rfl _ _ 22 rfl 0 5 i0 (.int .u8 0) 1 1 Tryz.underlying22 hi hz0 hz1 hz2 rfl (by decide) _ _ _ rfl HOWN.out w.heap.size (some ⟨b0, o0, none⟩) 1 c (Lib.byteCells [b]) rfl HSRC.out (byteCells_one [b]) (by unfold maxLen; omega) (by omega) (Nat.zero_le _) ?_)
          intro v' w' hown' hg' _
          have hPv : PushAt w' v' [b] := by unfold PushAt; rw [HNL.out]; exact hown'
          obtain ⟨A', c', hv'⟩ := own_slice hown'
          subst hv'
          have HPV := Lib.hid hPv
          have hbX' : Below (w.alloc (.cells #[.int .u8 0, .slice none 0 0] 36)).heap.size (w.alloc (.cells #[.int .u8 0, .slice none 0 0] 36)) w' := ((Below.refl _ _).alloc (Nat.le_refl _) _).grown hg' (by simp) (fun k hk => by simp [Value.ownBlock] at hk; subst hk; simp)
          have hblk' := (Blk.new w 36 #[.int .u8 0, .slice none 0 0]).below hbX' (by simp)
          have hb0' := hal.trans (hbX'.mono hal.size)
          have hcc0 := hblk'.cell 0
          have hcc1 := hblk'.cell 1
          have hff0 := hblk'.frozen 0
          have hff1 := hblk'.frozen 1
          simp only [List.getElem?_toArray, List.getElem?_cons_zero, List.getElem?_cons_succ] at hcc0 hcc1
          have HBK' := Lib.hid hblk'
          clear hown' hPv hg' hbX' hblk'
          go_wp2
          refine bodyPost_ret (results_cellA rfl rfl (loadWord ((HBK'.out.set_ 0 _).set_ 1 _))) rfl ?_
          rw [HE.out, HR.out]
          refine ⟨_, rfl, ⟨_, by show Value.agg #[.int .u8 1, .slice A' _ c'] = _; rw [HZ.out], ?_⟩, (hb0'.setCell (Nat.le_refl _) _).setCell (Nat.le_refl _) _⟩
          exact (HPV.out.setB HBK'.out (by decide) 0 _).setB (HBK'.out.set_ 0 _) (by decide) 1 _
  · have hl1' : ((bs.length : Int) == 1) = false := by rw [beq_eq_false_iff_ne]; omega
    obtain ⟨n, hnn⟩ : ∃ n, n = bs.length := ⟨_, rfl⟩
    have HNL : Hid (bs.length = n) := hnn.symm
    have HSRC : Hid (RdB ((w.alloc (.cells #[.int .u8 0, .slice none 0 0] 36)).alloc (.cells #[] 5)) w.heap.size A n bs) := by rw [hnn]; exact HSRC0.out
    rw [← hnn] at hl1' hc hn ⊢
    by_cases h75 : bs.length ≤ 75
    · have HR : Hid (pushL bs = (UInt8.ofNat n, bs)) := by show _ = _; unfold pushL; rw [if_neg (fun h => hl1 h.1), if_neg (fun h => hl1 h.1), if_pos h75, hnn]
      have ha : (n : Int) ≤ 75 := by omega
      have hb : (n : Int) ≤ 255 := by omega
      have hwn : IntKind.u8.wrap (n : Int) = (n : Int) := by simp [IntKind.wrap, IntKind.signed, IntKind.bits]; omega
      have hn75 : n ≤ 75 := by omega
      clear h75 hl1 hnn hr hal2 HSRC0
      have HZ : Hid (((n : Int) : Int) = ((UInt8.ofNat n : UInt8).toNat : Int)) := by show _ = _; rw [UInt8.toNat_ofNat', Nat.mod_eq_of_lt (by omega)]
      go_enter Tryz.func55, Tryz.ntmps55
      go_wp2_with (at_builtin; refine wpList_append_any ((w.alloc (.cells #[.int .u8 0, .slice none 0 0] 36)).alloc (.cells #[] 5)) rfl _ _ 22 rfl 0 5 i0 (.int .u8 0) 1 1 Tryz.underlying22 hi hz0 hz1 hz2 rfl (by decide) _ _ _ rfl HOWN.out w.heap.size A n c (Lib.byteCells bs) rfl HSRC.out (byteCells_one bs) (by unfold maxLen; omega) (by omega) (Nat.zero_le _) ?_)
      intro v' w' hown' hg' _
      have hPv : PushAt w' v' bs := by unfold PushAt; rw [HNL.out]; exact hown'
      obtain ⟨A', c', hv'⟩ := own_slice hown'
      subst hv'
      have HPV := Lib.hid hPv
      have hbX' : Below (w.alloc (.cells #[.int .u8 0, .slice none 0 0] 36)).heap.size (w.alloc (.cells #[.int .u8 0, .slice none 0 0] 36)) w' := ((Below.refl _ _).alloc (Nat.le_refl _) _).grown hg' (by simp) (fun k hk => by simp [Value.ownBlock] at hk; subst hk; simp)
      have hblk' := (Blk.new w 36 #[.int .u8 0, .slice none 0 0]).below hbX' (by simp)
      have hb0' := hal.trans (hbX'.mono hal.size)
      have hcc0 := hblk'.cell 0
      have hcc1 := hblk'.cell 1
      have hff0 := hblk'.frozen 0
      have hff1 := hblk'.frozen 1
      simp only [List.getElem?_toArray, List.getElem?_cons_zero, List.getElem?_cons_succ] at hcc0 hcc1
      have HBK' := Lib.hid hblk'
      clear hown' hPv hg' hbX' hblk'
      go_wp2
      refine bodyPost_ret (results_cellA rfl rfl (loadWord ((HBK'.out.set_ 0 _).set_ 1 _))) rfl ?_
      rw [HE.out, HR.out]
      refine ⟨_, rfl, ⟨_, by show Value.agg #[.int .u8 (n : Int), .slice A' _ c'] = _; rw [HZ.out], ?_⟩, (hb0'.setCell (Nat.le_refl _) _).setCell (Nat.le_refl _) _⟩
      exact (HPV.out.setB HBK'.out (by decide) 0 _).setB (HBK'.out.set_ 0 _) (by decide) 1 _
    · have ha : ¬ (n : Int) ≤ 75 := by omega
      by_cases h255 : bs.length ≤ 255
      · have HR : Hid (pushL bs = (76, bs)) := by show _ = _; unfold pushL; rw [if_neg (fun h => hl1 h.1), if_neg (fun h => hl1 h.1), if_neg h75, if_pos h255]
        have hb : (n : Int) ≤ 255 := by omega
        clear h75 h255 hl1 hnn hr hal2 HSRC0
        have HZ : Hid ((76 : Int) = ((76 : UInt8).toNat : Int)) := by show _ = _; rfl
        go_enter Tryz.func55, Tryz.ntmps55
        go_wp2_with (at_builtin; refine wpList_append_any ((w.alloc (.cells #[.int .u8 0, .slice none 0 0] 36)).alloc (.cells #[] 5)) rfl _ _ 22 rfl 0 5 i0 (.int .u8 0) 1 1 Tryz.underlying22 hi hz0 hz1 hz2 rfl (by decide) _ _ _ rfl HOWN.out w.heap.size A n c (Lib.byteCells bs) rfl HSRC.out (byteCells_one bs) (by unfold maxLen; omega) (by omega) (Nat.zero_le _) ?_)
        intro v' w' hown' hg' _
        have hPv : PushAt w' v' bs := by unfold PushAt; rw [HNL.out]; exact hown'
        obtain ⟨A', c', hv'⟩ := own_slice hown'
        subst hv'
        have HPV := Lib.hid hPv
        have hbX' : Below (w.alloc (.cells #[.int .u8 0, .slice none 0 0] 36)).heap.size (w.alloc (.cells #[.int .u8 0, .slice none 0 0] 36)) w' := ((Below.refl _ _).alloc (Nat.le_refl _) _).grown hg' (by simp) (fun k hk => by simp [Value.ownBlock] at hk; subst hk; simp)
        have hblk' := (Blk.new w 36 #[.int .u8 0, .slice none 0 0]).below hbX' (by simp)
        have hb0' := hal.trans (hbX'.mono hal.size)
        have hcc0 := hblk'.cell 0
        have hcc1 := hblk'.cell 1
        have hff0 := hblk'.frozen 0
        have hff1 := hblk'.frozen 1
        simp only [List.getElem?_toArray, List.getElem?_cons_zero, List.getElem?_cons_succ] at hcc0 hcc1
        have HBK' := Lib.hid hblk'
        clear hown' hPv hg' hbX' hblk'
        go_wp2
        refine bodyPost_ret (results_cellA rfl rfl (loadWord ((HBK'.out.set_ 0 _).set_ 1 _))) rfl ?_
        rw [HE.out, HR.out]
        refine ⟨_, rfl, ⟨_, by show Value.agg #[.int .u8 76, .slice A' _ c'] = _; rw [HZ.out], ?_⟩, (hb0'.setCell (Nat.le_refl _) _).setCell (Nat.le_refl _) _⟩
        exact (HPV.out.setB HBK'.out (by decide) 0 _).setB (HBK'.out.set_ 0 _) (by decide) 1 _
      · have HR : Hid (pushL bs = (77, bs)) := by show _ = _; unfold pushL; rw [if_neg (fun h => hl1 h.1), if_neg (fun h => hl1 h.1), if_neg h75, if_neg h255]
        have hb : ¬ (n : Int) ≤ 255 := by omega
        clear h75 h255 hl1 hnn hr hal2 HSRC0
        have HZ : Hid ((77 : Int) = ((77 : UInt8).toNat : Int)) := by show _ = _; rfl
        go_enter Tryz.func55, Tryz.ntmps55
        go_wp2_with (at_builtin; refine wpList_append_any ((w.alloc (.cells #[.int .u8 0, .slice none 0 0] 36)).alloc (.cells #[] 5)) rfl _ _ 22 rfl 0 5 i0 (.int .u8 0) 1 1 Tryz.underlying22 hi hz0 hz1 hz2 rfl (by decide) _ _ _ rfl HOWN.out w.heap.size A n c (Lib.byteCells bs) rfl HSRC.out (byteCells_one bs) (by unfold maxLen; omega) (by omega) (Nat.zero_le _) ?_)
        intro v' w' hown' hg' _
        have hPv : PushAt w' v' bs := by unfold PushAt; rw [HNL.out]; exact hown'
        obtain ⟨A', c', hv'⟩ := own_slice hown'
        subst hv'
        have HPV := Lib.hid hPv
        have hbX' : Below (w.alloc (.cells #[.int .u8 0, .slice none 0 0] 36)).heap.size (w.alloc (.cells #[.int .u8 0, .slice none 0 0] 36)) w' := ((Below.refl _ _).alloc (Nat.le_refl _) _).grown hg' (by simp) (fun k hk => by simp [Value.ownBlock] at hk; subst hk; simp)
        have hblk' := (Blk.new w 36 #[.int .u8 0, .slice none 0 0]).below hbX' (by simp)
        have hb0' := hal.trans (hbX'.mono hal.size)
        have hcc0 := hblk'.cell 0
        have hcc1 := hblk'.cell 1
        have hff0 := hblk'.frozen 0
        have hff1 := hblk'.frozen 1
        simp only [List.getElem?_toArray, List.getElem?_cons_zero, List.getElem?_cons_succ] at hcc0 hcc1
        have HBK' := Lib.hid hblk'
        clear hown' hPv hg' hbX' hblk'
        go_wp2
        refine bodyPost_ret (results_cellA rfl rfl (loadWord ((HBK'.out.set_ 0 _).set_ 1 _))) rfl ?_
        rw [HE.out, HR.out]
        refine ⟨_, rfl, ⟨_, by show Value.agg #[.int .u8 77, .slice A' _ c'] = _; rw [HZ.out], ?_⟩, (hb0'.setCell (Nat.le_refl _) _).setCell (Nat.le_refl _) _⟩
        exact (HPV.out.setB HBK'.out (by decide) 0 _).setB (HBK'.out.set_ 0 _) (by decide) 1 _

end Go.Proofs.YtggadilgkcjbjaaGreatDoor
