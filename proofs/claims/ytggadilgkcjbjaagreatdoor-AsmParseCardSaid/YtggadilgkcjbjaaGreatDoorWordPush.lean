/-
  The walks over Pushes, Push and Short of words.
-/
import Derived.Test.YtggadilgkcjbjaaGreatDoorWordAll
set_option linter.unusedVariables false
namespace Go.Proofs.YtggadilgkcjbjaaGreatDoor
open Go.RowKit

/-- What Pushes answers. -/
def PushesEnd (r : Option (List UInt8)) (w : World) (e : Ending) (w' : World) : Prop :=
  (match r with
    | none => e = .returned (.tuple #[.slice none 0 0, .bool false])
    | some b => ∃ p, e = .returned (.tuple #[p, .bool true]) ∧ PushAt w' p b) ∧ Below w.heap.size w w'

theorem push_lit (w : World) (cs : Array Value) (bs : List UInt8) (hn : cs.size = bs.length) (hb : cs.toList = Lib.byteCells bs) (hm : bs.length ≤ maxLen) (g : Nat) (hg : w.heap.size = g) : PushAt (w.alloc (.cells cs 5)) (.slice (some ⟨g, 0, none⟩) bs.length bs.length) bs := by
  subst hg
  have h := World.ownsRow_lit (base := 0) (e := 5) (size := 1) w cs bs.length (Nat.zero_le _) hm (by simpa using hn)
  rw [hb] at h
  exact h

set_option maxRecDepth 100000 in
set_option maxHeartbeats 1000000 in
theorem pushes_any (v : Value) (x : Wd) (w : World) (h : WordAt w v x) (hn : x.2.length ≤ 1000000) :
    Calls Tryz.prog 21 #[v] w (PushesEnd (pushesL x) w) := by
  obtain ⟨p, rfl, hp⟩ := h
  obtain ⟨A, c, rfl⟩ := hp.slice
  obtain ⟨E, hE⟩ : ∃ E, E = PushesEnd (pushesL x) w := ⟨_, rfl⟩
  rw [← hE]
  have HE := Lib.hid hE
  have HP := Lib.hid hp
  clear hE hp
  obtain ⟨op, bs⟩ := x
  obtain ⟨y, hy⟩ : ∃ y : Nat, op.toNat = y := ⟨_, rfl⟩
  have hy1 : y < 256 := by rw [← hy]; exact UInt8.toNat_lt _
  obtain ⟨n, hnn⟩ : ∃ n, n = bs.length := ⟨_, rfl⟩
  have HY := Lib.hid hy
  have HNN := Lib.hid hnn
  show Calls Tryz.prog 21 #[.agg #[.int .u8 (op.toNat : Int), .slice A bs.length c]] w E
  rw [hy, ← hnn]
  clear hy hnn
  by_cases h1 : y ≤ 77
  · have h1' : (y : Int) ≤ 77 := by omega
    have HR : Hid (pushesL (op, bs) = some bs) := by show _ = _; unfold pushesL; simp only [HY.out, if_pos h1]
    go_enter Tryz.func21, Tryz.ntmps21
    have hal : Below w.heap.size w (w.alloc (.cells #[.int .u8 (y : Int), .slice A n c] 36)) := (Below.refl _ _).alloc (Nat.le_refl _) _
    have HB : Hid (ByteAt (w.alloc (.cells #[.int .u8 (y : Int), .slice A n c] 36)) (w.alloc (.cells #[.int .u8 (y : Int), .slice A n c] 36)).heap.size (.slice A n c) bs) := by
      have := (HP.out.below hal).byte
      rw [← HNN.out] at this
      exact this
    go_wp2_with fail
    refine (clone_any _ bs _ HB.out hn).mono ?_
    rintro e w1 ⟨p1, rfl, hp1, hb1⟩
    have hb01 : Below w.heap.size w w1 := hal.trans (hb1.mono hal.size)
    have HP1 := Lib.hid hp1
    obtain ⟨A1, c1, e1⟩ := hp1.slice
    subst e1
    clear hp1 hal hb1
    go_wp2
    rw [HE.out, HR.out]
    exact ⟨⟨_, rfl, HP1.out⟩, hb01⟩
  have h1' : ¬ (y : Int) ≤ 77 := by omega
  have hal : Below w.heap.size w (w.alloc (.cells #[.int .u8 (y : Int), .slice A n c] 36)) := (Below.refl _ _).alloc (Nat.le_refl _) _
  by_cases h2 : y = 79
  · subst h2
    have HR : Hid (pushesL (op, bs) = some [129]) := by show _ = _; unfold pushesL; simp only [HY.out]; rfl
    have HL := Lib.hid (push_lit (w.alloc (.cells #[.int .u8 ((79 : Nat) : Int), .slice A n c] 36)) #[.int .u8 129] [129] rfl rfl (by unfold maxLen; simp) (w.heap.size + 1) (by simp))
    have hbl : Below w.heap.size w ((w.alloc (.cells #[.int .u8 ((79 : Nat) : Int), .slice A n c] 36)).alloc (.cells #[.int .u8 129] 5)) := hal.alloc hal.size _
    go_enter Tryz.func21, Tryz.ntmps21
    go_wp2
    rw [HE.out, HR.out]
    exact ⟨⟨_, rfl, HL.out⟩, hbl⟩
  have h2' : ((y : Int) == 79) = false := by rw [beq_eq_false_iff_ne]; omega
  by_cases h3 : 80 < y ∧ y ≤ 96
  · have h3a : (80 : Int) < (y : Int) := by omega
    have h3b : (y : Int) ≤ 96 := by omega
    have HR : Hid (pushesL (op, bs) = some [UInt8.ofNat (y - 80)]) := by show _ = _; unfold pushesL; simp only [HY.out]; rw [if_neg h1, if_neg h2, if_pos h3]
    have hw : IntKind.u8.wrap ((y : Int) - 80) = (y : Int) - 80 := by simp [IntKind.wrap, IntKind.signed, IntKind.bits]; omega
    have HL := Lib.hid (push_lit (w.alloc (.cells #[.int .u8 (y : Int), .slice A n c] 36)) #[.int .u8 ((y : Int) - 80)] [UInt8.ofNat (y - 80)] rfl (by
      show [Value.int .u8 ((y : Int) - 80)] = [Value.int .u8 ((UInt8.ofNat (y - 80)).toNat : Int)]
      rw [UInt8.toNat_ofNat', Nat.mod_eq_of_lt (by omega)]
      congr 2
      omega) (by unfold maxLen; simp) (w.heap.size + 1) (by simp))
    have hbl : Below w.heap.size w ((w.alloc (.cells #[.int .u8 (y : Int), .slice A n c] 36)).alloc (.cells #[.int .u8 ((y : Int) - 80)] 5)) := hal.alloc hal.size _
    clear h3
    go_enter Tryz.func21, Tryz.ntmps21
    go_wp2
    rw [HE.out, HR.out]
    exact ⟨⟨_, rfl, HL.out⟩, hbl⟩
  have HR : Hid (pushesL (op, bs) = none) := by show _ = _; unfold pushesL; simp only [HY.out]; rw [if_neg h1, if_neg h2, if_neg h3]
  by_cases h4 : 80 < y
  · have h4a : (80 : Int) < (y : Int) := by omega
    have h4b : ¬ (y : Int) ≤ 96 := by omega
    clear h3
    go_enter Tryz.func21, Tryz.ntmps21
    go_wp2
    rw [HE.out, HR.out]
    exact ⟨rfl, hal⟩
  · have h4a : ¬ (80 : Int) < (y : Int) := by omega
    clear h3
    go_enter Tryz.func21, Tryz.ntmps21
    go_wp2
    rw [HE.out, HR.out]
    exact ⟨rfl, hal⟩

/-- What Push answers. -/
def PushEnd (x : Wd) (w : World) (e : Ending) (w' : World) : Prop := ∃ v, e = .returned v ∧ WordAt w' v x ∧ Below w.heap.size w w'

set_option maxRecDepth 100000 in
set_option maxHeartbeats 1000000 in
theorem push_any (v : Value) (bs : List UInt8) (w : World) (h : ByteAt w w.heap.size v bs) (hn : bs.length ≤ 65535) :
    Calls Tryz.prog 63 #[v] w (PushEnd (pushL bs) w) := by
  obtain ⟨A, c, rfl, hr, hc, hm, hnil⟩ := h
  obtain ⟨E, hE⟩ : ∃ E, E = PushEnd (pushL bs) w := ⟨_, rfl⟩
  rw [← hE]
  have HE := Lib.hid hE
  have HB : Hid (ByteAt w w.heap.size (.slice A bs.length c) bs) := ⟨A, c, rfl, hr, hc, hm, hnil⟩
  clear hE
  by_cases hl1 : bs.length = 1
  · obtain ⟨b, rfl⟩ : ∃ b, bs = [b] := by
      match bs, hl1 with
      | [b], _ => exact ⟨b, rfl⟩
    obtain ⟨y, hy⟩ : ∃ y : Nat, b.toNat = y := ⟨_, rfl⟩
    have hy1 : y < 256 := by rw [← hy]; exact UInt8.toNat_lt _
    have HY := Lib.hid hy
    obtain ⟨b0, o0, rfl, hb0, hk0⟩ := hr.plain (by simp)
    have d0 : w.cell? ⟨b0, o0, none⟩ = some (.int .u8 (y : Int)) := by have := hk0 0 (by simp); rw [← hy]; exact this
    have d1 : (w.alloc (.cells #[.int .u8 0, .slice none 0 0] 36)).cell? ⟨b0, o0, none⟩ = some (.int .u8 (y : Int)) := (World.cell?_alloc_lt w _ _ hb0).trans d0
    clear hk0 hr hy d0 hnil hm hc hl1 hn
    by_cases h16 : 1 ≤ y ∧ y ≤ 16
    · have ha : (1 : Int) ≤ (y : Int) := by omega
      have hb : (y : Int) ≤ 16 := by omega
      have HR : Hid (pushL [b] = (UInt8.ofNat (80 + y), [])) := by show _ = _; unfold pushL; rw [if_pos ⟨rfl, by show 1 ≤ b.toNat; rw [HY.out]; exact h16.1, by show b.toNat ≤ 16; rw [HY.out]; exact h16.2⟩]; show (UInt8.ofNat (80 + b.toNat), ([] : List UInt8)) = _; rw [HY.out]
      have hw : IntKind.u8.wrap (80 + (y : Int)) = 80 + (y : Int) := by simp [IntKind.wrap, IntKind.signed, IntKind.bits]; omega
      have HV : Hid ((80 : Int) + (y : Int) = ((UInt8.ofNat (80 + y)).toNat : Int)) := by show _ = _; rw [UInt8.toNat_ofNat', Nat.mod_eq_of_lt (by omega)]; omega
      show Calls Tryz.prog 63 #[.slice (some ⟨b0, o0, none⟩) 1 c] w E
      clear h16
      go_enter Tryz.func63, Tryz.ntmps63
      go_wp2
      refine bodyPost_ret (results_cellA rfl rfl (loadWord (Blk.new w 36 _))) rfl ?_
      rw [HE.out, HR.out]
      exact ⟨_, rfl, ⟨_, by rw [HV.out], ⟨rfl, .inl ⟨rfl, rfl⟩⟩⟩, (Below.refl _ _).alloc (Nat.le_refl _) _⟩
    · have hab : ¬ ((1 : Int) ≤ (y : Int) ∧ (y : Int) ≤ 16) := by omega
      by_cases h129 : y = 129
      · subst h129
        have HR : Hid (pushL [b] = (79, [])) := by show _ = _; unfold pushL; rw [if_neg (by rintro ⟨_, h1, h2⟩; exact h16 ⟨by rw [← HY.out]; exact h1, by rw [← HY.out]; exact h2⟩), if_pos ⟨rfl, HY.out⟩]
        show Calls Tryz.prog 63 #[.slice (some ⟨b0, o0, none⟩) 1 c] w E
        clear h16 hab
        go_enter Tryz.func63, Tryz.ntmps63
        go_wp2
        refine bodyPost_ret (results_cellA rfl rfl (loadWord (Blk.new w 36 _))) rfl ?_
        rw [HE.out, HR.out]
        exact ⟨_, rfl, ⟨_, rfl, ⟨rfl, .inl ⟨rfl, rfl⟩⟩⟩, (Below.refl _ _).alloc (Nat.le_refl _) _⟩
      · have h129' : ((y : Int) == 129) = false := by rw [beq_eq_false_iff_ne]; omega
        have HR : Hid (pushL [b] = (1, [b])) := by show _ = _; unfold pushL; rw [if_neg (by rintro ⟨_, h1, h2⟩; exact h16 ⟨by rw [← HY.out]; exact h1, by rw [← HY.out]; exact h2⟩), if_neg (by rintro ⟨_, h1⟩; exact h129 (by rw [← HY.out]; exact h1)), if_pos (by simp)]; rfl
        have hal : Below w.heap.size w (w.alloc (.cells #[.int .u8 0, .slice none 0 0] 36)) := (Below.refl _ _).alloc (Nat.le_refl _) _
        rcases (show y < 1 ∨ (1 ≤ y ∧ 16 < y) by omega) with hy0 | ⟨hy0, hy2⟩
        · have hya : ¬ (1 : Int) ≤ (y : Int) := by omega
          show Calls Tryz.prog 63 #[.slice (some ⟨b0, o0, none⟩) 1 c] w E
          clear h16 hab h129
          go_enter Tryz.func63, Tryz.ntmps63
          go_wp2_with fail
          refine (clone_any _ [b] _ ((HB.out.below hal).more hal.size) (by simp)).mono ?_
          rintro e w1 ⟨p1, rfl, hp1, hb1⟩
          have hblk := (Blk.new w 36 #[.int .u8 0, .slice none 0 0]).below hb1 (by simp)
          have hb01 : Below w.heap.size w w1 := hal.trans (hb1.mono hal.size)
          have HP1 := Lib.hid hp1
          obtain ⟨A1, c1, e1⟩ := hp1.slice
          simp only [List.length_singleton] at e1
          subst e1
          obtain ⟨X, hX⟩ : ∃ X, X = w1.alloc (.cells #[.int .u8 1, .slice A1 1 c1] 36) := ⟨_, rfl⟩
          have hblk2 : Blk X w.heap.size 36 #[.int .u8 0, .slice none 0 0] := by rw [hX]; exact hblk.alloc _
          have HBK2 := Lib.hid hblk2
          have hc0 := hblk2.cell 0
          have hc1 := hblk2.cell 1
          have hf0 := hblk2.frozen 0
          have hf1 := hblk2.frozen 1
          simp only [List.getElem?_toArray, List.getElem?_cons_zero, List.getElem?_cons_succ] at hc0 hc1
          have HPX : Hid (PushAt X (.slice A1 1 c1) [b]) := by rw [hX]; exact HP1.out.below ((Below.refl _ _).alloc (Nat.le_refl _) _)
          have hbX : Below w.heap.size w X := by rw [hX]; exact hb01.alloc hb01.size _
          rw [hX] at hc0 hc1 hf0 hf1 HPX hbX HBK2
          clear hp1 hal hb1 hblk hblk2 hX
          go_wp2
          refine bodyPost_ret (results_cellA rfl rfl (loadWord ((HBK2.out.set_ 0 _).set_ 1 _))) rfl ?_
          rw [HE.out, HR.out]
          exact ⟨_, rfl, ⟨_, rfl, (HPX.out.setB HBK2.out (by decide) 0 _).setB (HBK2.out.set_ 0 _) (by decide) 1 _⟩, (hbX.setCell (Nat.le_refl _) _).setCell (Nat.le_refl _) _⟩
        · have hya : (1 : Int) ≤ (y : Int) := by omega
          have hyb : ¬ (y : Int) ≤ 16 := by omega
          show Calls Tryz.prog 63 #[.slice (some ⟨b0, o0, none⟩) 1 c] w E
          clear h16 hab h129
          go_enter Tryz.func63, Tryz.ntmps63
          go_wp2_with fail
          refine (clone_any _ [b] _ ((HB.out.below hal).more hal.size) (by simp)).mono ?_
          rintro e w1 ⟨p1, rfl, hp1, hb1⟩
          have hblk := (Blk.new w 36 #[.int .u8 0, .slice none 0 0]).below hb1 (by simp)
          have hb01 : Below w.heap.size w w1 := hal.trans (hb1.mono hal.size)
          have HP1 := Lib.hid hp1
          obtain ⟨A1, c1, e1⟩ := hp1.slice
          simp only [List.length_singleton] at e1
          subst e1
          obtain ⟨X, hX⟩ : ∃ X, X = w1.alloc (.cells #[.int .u8 1, .slice A1 1 c1] 36) := ⟨_, rfl⟩
          have hblk2 : Blk X w.heap.size 36 #[.int .u8 0, .slice none 0 0] := by rw [hX]; exact hblk.alloc _
          have HBK2 := Lib.hid hblk2
          have hc0 := hblk2.cell 0
          have hc1 := hblk2.cell 1
          have hf0 := hblk2.frozen 0
          have hf1 := hblk2.frozen 1
          simp only [List.getElem?_toArray, List.getElem?_cons_zero, List.getElem?_cons_succ] at hc0 hc1
          have HPX : Hid (PushAt X (.slice A1 1 c1) [b]) := by rw [hX]; exact HP1.out.below ((Below.refl _ _).alloc (Nat.le_refl _) _)
          have hbX : Below w.heap.size w X := by rw [hX]; exact hb01.alloc hb01.size _
          rw [hX] at hc0 hc1 hf0 hf1 HPX hbX HBK2
          clear hp1 hal hb1 hblk hblk2 hX
          go_wp2
          refine bodyPost_ret (results_cellA rfl rfl (loadWord ((HBK2.out.set_ 0 _).set_ 1 _))) rfl ?_
          rw [HE.out, HR.out]
          exact ⟨_, rfl, ⟨_, rfl, (HPX.out.setB HBK2.out (by decide) 0 _).setB (HBK2.out.set_ 0 _) (by decide) 1 _⟩, (hbX.setCell (Nat.le_refl _) _).setCell (Nat.le_refl _) _⟩
  · obtain ⟨n, hnn⟩ : ∃ n, n = bs.length := ⟨_, rfl⟩
    have HNN := Lib.hid hnn
    have hal : Below w.heap.size w (w.alloc (.cells #[.int .u8 0, .slice none 0 0] 36)) := (Below.refl _ _).alloc (Nat.le_refl _) _
    have hn1 : ((n : Int) == 1) = false := by rw [beq_eq_false_iff_ne]; omega
    have HLB : Hid (bs.length ≤ 1000000) := by show _ ≤ _; omega
    rw [← hnn] at HB hn ⊢
    have hp1 : ¬ (bs.length = 1 ∧ 1 ≤ (bs.headD 0).toNat ∧ (bs.headD 0).toNat ≤ 16) := fun h => hl1 h.1
    have hp2 : ¬ (bs.length = 1 ∧ (bs.headD 0).toNat = 129) := fun h => hl1 h.1
    clear hr hc hm hnil
    by_cases h75 : n ≤ 75
    · have h75' : (n : Int) ≤ 75 := by omega
      have hw : IntKind.u8.wrap (n : Int) = (n : Int) := by simp [IntKind.wrap, IntKind.signed, IntKind.bits]; omega
      have HR : Hid (pushL bs = (UInt8.ofNat n, bs)) := by show _ = _; unfold pushL; rw [if_neg hp1, if_neg hp2, if_pos (by omega), hnn]
      have HV : Hid ((n : Int) = ((UInt8.ofNat n).toNat : Int)) := by show _ = _; rw [UInt8.toNat_ofNat', Nat.mod_eq_of_lt (by omega)]
      clear hp1 hp2 hnn hl1 h75
      go_enter Tryz.func63, Tryz.ntmps63
      go_wp2_with fail
      refine (clone_any _ bs _ ((HB.out.below hal).more hal.size) (HLB.out)).mono ?_
      rintro e w1 ⟨p1, rfl, hp1, hb1⟩
      have hblk := (Blk.new w 36 #[.int .u8 0, .slice none 0 0]).below hb1 (by simp)
      have hb01 : Below w.heap.size w w1 := hal.trans (hb1.mono hal.size)
      have HP1 := Lib.hid hp1
      obtain ⟨A1, c1, e1⟩ := hp1.slice
      rw [← HNN.out] at e1
      subst e1
      obtain ⟨X, hX⟩ : ∃ X, X = w1.alloc (.cells #[.int .u8 (n : Int), .slice A1 n c1] 36) := ⟨_, rfl⟩
      have hblk2 : Blk X w.heap.size 36 #[.int .u8 0, .slice none 0 0] := by rw [hX]; exact hblk.alloc _
      have HBK2 := Lib.hid hblk2
      have hc0 := hblk2.cell 0
      have hc1 := hblk2.cell 1
      have hf0 := hblk2.frozen 0
      have hf1 := hblk2.frozen 1
      simp only [List.getElem?_toArray, List.getElem?_cons_zero, List.getElem?_cons_succ] at hc0 hc1
      have HPX : Hid (PushAt X (.slice A1 n c1) bs) := by rw [hX]; exact HP1.out.below ((Below.refl _ _).alloc (Nat.le_refl _) _)
      have hbX : Below w.heap.size w X := by rw [hX]; exact hb01.alloc hb01.size _
      rw [hX] at hc0 hc1 hf0 hf1 HPX hbX HBK2
      clear hp1 hal hb1 hblk hblk2 hX
      go_wp2
      refine bodyPost_ret (results_cellA rfl rfl (loadWord ((HBK2.out.set_ 0 _).set_ 1 _))) rfl ?_
      rw [HE.out, HR.out]
      exact ⟨_, rfl, ⟨_, by rw [← HV.out]; rfl, (HPX.out.setB HBK2.out (by decide) 0 _).setB (HBK2.out.set_ 0 _) (by decide) 1 _⟩, (hbX.setCell (Nat.le_refl _) _).setCell (Nat.le_refl _) _⟩
    · have h75' : ¬ (n : Int) ≤ 75 := by omega
      by_cases h255 : n ≤ 255
      · have h255' : (n : Int) ≤ 255 := by omega
        have HR : Hid (pushL bs = (76, bs)) := by show _ = _; unfold pushL; rw [if_neg hp1, if_neg hp2, if_neg (by omega), if_pos (by omega)]
        clear hp1 hp2 hnn hl1 h75 h255
        go_enter Tryz.func63, Tryz.ntmps63
        go_wp2_with fail
        refine (clone_any _ bs _ ((HB.out.below hal).more hal.size) (HLB.out)).mono ?_
        rintro e w1 ⟨p1, rfl, hp1, hb1⟩
        have hblk := (Blk.new w 36 #[.int .u8 0, .slice none 0 0]).below hb1 (by simp)
        have hb01 : Below w.heap.size w w1 := hal.trans (hb1.mono hal.size)
        have HP1 := Lib.hid hp1
        obtain ⟨A1, c1, e1⟩ := hp1.slice
        rw [← HNN.out] at e1
        subst e1
        obtain ⟨X, hX⟩ : ∃ X, X = w1.alloc (.cells #[.int .u8 76, .slice A1 n c1] 36) := ⟨_, rfl⟩
        have hblk2 : Blk X w.heap.size 36 #[.int .u8 0, .slice none 0 0] := by rw [hX]; exact hblk.alloc _
        have HBK2 := Lib.hid hblk2
        have hc0 := hblk2.cell 0
        have hc1 := hblk2.cell 1
        have hf0 := hblk2.frozen 0
        have hf1 := hblk2.frozen 1
        simp only [List.getElem?_toArray, List.getElem?_cons_zero, List.getElem?_cons_succ] at hc0 hc1
        have HPX : Hid (PushAt X (.slice A1 n c1) bs) := by rw [hX]; exact HP1.out.below ((Below.refl _ _).alloc (Nat.le_refl _) _)
        have hbX : Below w.heap.size w X := by rw [hX]; exact hb01.alloc hb01.size _
        rw [hX] at hc0 hc1 hf0 hf1 HPX hbX HBK2
        clear hp1 hal hb1 hblk hblk2 hX
        go_wp2
        refine bodyPost_ret (results_cellA rfl rfl (loadWord ((HBK2.out.set_ 0 _).set_ 1 _))) rfl ?_
        rw [HE.out, HR.out]
        exact ⟨_, rfl, ⟨_, rfl, (HPX.out.setB HBK2.out (by decide) 0 _).setB (HBK2.out.set_ 0 _) (by decide) 1 _⟩, (hbX.setCell (Nat.le_refl _) _).setCell (Nat.le_refl _) _⟩
      · have h255' : ¬ (n : Int) ≤ 255 := by omega
        have HR : Hid (pushL bs = (77, bs)) := by show _ = _; unfold pushL; rw [if_neg hp1, if_neg hp2, if_neg (by omega), if_neg (by omega)]
        clear hp1 hp2 hnn hl1 h75 h255
        go_enter Tryz.func63, Tryz.ntmps63
        go_wp2_with fail
        refine (clone_any _ bs _ ((HB.out.below hal).more hal.size) (HLB.out)).mono ?_
        rintro e w1 ⟨p1, rfl, hp1, hb1⟩
        have hblk := (Blk.new w 36 #[.int .u8 0, .slice none 0 0]).below hb1 (by simp)
        have hb01 : Below w.heap.size w w1 := hal.trans (hb1.mono hal.size)
        have HP1 := Lib.hid hp1
        obtain ⟨A1, c1, e1⟩ := hp1.slice
        rw [← HNN.out] at e1
        subst e1
        obtain ⟨X, hX⟩ : ∃ X, X = w1.alloc (.cells #[.int .u8 77, .slice A1 n c1] 36) := ⟨_, rfl⟩
        have hblk2 : Blk X w.heap.size 36 #[.int .u8 0, .slice none 0 0] := by rw [hX]; exact hblk.alloc _
        have HBK2 := Lib.hid hblk2
        have hc0 := hblk2.cell 0
        have hc1 := hblk2.cell 1
        have hf0 := hblk2.frozen 0
        have hf1 := hblk2.frozen 1
        simp only [List.getElem?_toArray, List.getElem?_cons_zero, List.getElem?_cons_succ] at hc0 hc1
        have HPX : Hid (PushAt X (.slice A1 n c1) bs) := by rw [hX]; exact HP1.out.below ((Below.refl _ _).alloc (Nat.le_refl _) _)
        have hbX : Below w.heap.size w X := by rw [hX]; exact hb01.alloc hb01.size _
        rw [hX] at hc0 hc1 hf0 hf1 HPX hbX HBK2
        clear hp1 hal hb1 hblk hblk2 hX
        go_wp2
        refine bodyPost_ret (results_cellA rfl rfl (loadWord ((HBK2.out.set_ 0 _).set_ 1 _))) rfl ?_
        rw [HE.out, HR.out]
        exact ⟨_, rfl, ⟨_, rfl, (HPX.out.setB HBK2.out (by decide) 0 _).setB (HBK2.out.set_ 0 _) (by decide) 1 _⟩, (hbX.setCell (Nat.le_refl _) _).setCell (Nat.le_refl _) _⟩

end Go.Proofs.YtggadilgkcjbjaaGreatDoor
