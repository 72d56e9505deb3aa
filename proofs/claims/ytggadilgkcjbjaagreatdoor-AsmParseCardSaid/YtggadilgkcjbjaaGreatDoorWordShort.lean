/-
  The walk over Short of words.
-/
import Derived.Test.YtggadilgkcjbjaaGreatDoorWordPush
set_option linter.unusedVariables false
namespace Go.Proofs.YtggadilgkcjbjaaGreatDoor
open Go.RowKit

theorem ByteAt.str {w : World} {B n c : Nat} {A : Option Addr} {bs : List UInt8} (h : ByteAt w B (.slice A n c) bs) : (convert 22 9 (.slice A n c)).run Tryz.prog w = .ok (.string ⟨bs.toArray⟩) w := by
  obtain ⟨A', c', e, hr, _⟩ := h
  cases e
  exact hr.convert c 22 5 9 Tryz.underlying22 Tryz.underlying5 Tryz.underlying9

theorem equal_any (v1 v2 : Value) (xs ys : List UInt8) (w : World) (h1 : (convert 22 9 v1).run Tryz.prog w = .ok (.string ⟨xs.toArray⟩) w) (h2 : (convert 22 9 v2).run Tryz.prog w = .ok (.string ⟨ys.toArray⟩) w) :
    Calls Tryz.prog 68 #[v1, v2] w fun e w' => e = .returned (.bool (decide (xs = ys))) ∧ w' = w := by
  obtain ⟨r, hr⟩ : ∃ r, r = decide (xs = ys) := ⟨_, rfl⟩
  rw [← hr]
  have HR : Hid (((⟨xs.toArray⟩ : ByteArray).toList == (⟨ys.toArray⟩ : ByteArray).toList) = r) := by
    show _ = _
    rw [hr, toList_data, toList_data]
    by_cases h : xs = ys
    · subst h; simp
    · simp [h]
  clear hr
  obtain ⟨s1, hs1⟩ : ∃ s1 : ByteArray, s1 = ⟨xs.toArray⟩ := ⟨_, rfl⟩
  obtain ⟨s2, hs2⟩ : ∃ s2 : ByteArray, s2 = ⟨ys.toArray⟩ := ⟨_, rfl⟩
  rw [← hs1, ← hs2] at HR
  rw [← hs1] at h1
  rw [← hs2] at h2
  clear hs1 hs2
  go_enter Tryz.func68, Tryz.ntmps68
  go_wp2
  go_ret
  exact ⟨by rw [HR.out]; rfl, rfl⟩

set_option maxRecDepth 100000 in
set_option maxHeartbeats 1000000 in
theorem short_any (v : Value) (x : Wd) (w : World) (h : WordAt w v x) (hn : x.2.length ≤ 65535) :
    Calls Tryz.prog 46 #[v] w fun e w' => e = .returned (.bool (shortL x)) ∧ Below w.heap.size w w' := by
  obtain ⟨p, rfl, hp⟩ := h
  obtain ⟨A, c, rfl⟩ := hp.slice
  obtain ⟨E, hE⟩ : ∃ E : Ending → World → Prop, E = fun e w' => e = .returned (.bool (shortL x)) ∧ Below w.heap.size w w' := ⟨_, rfl⟩
  rw [← hE]
  have HE := Lib.hid hE
  have HP := Lib.hid hp
  clear hE hp
  obtain ⟨op, bs⟩ := x
  obtain ⟨y, hy⟩ : ∃ y : Nat, op.toNat = y := ⟨_, rfl⟩
  have hy1 : y < 256 := by rw [← hy]; exact UInt8.toNat_lt _
  obtain ⟨n, hnn⟩ : ∃ n, n = bs.length := ⟨_, rfl⟩
  have HY := Lib.hid hy
  have HNN := Lib.hid hnn
  show Calls Tryz.prog 46 #[.agg #[.int .u8 (op.toNat : Int), .slice A bs.length c]] w E
  rw [hy, ← hnn]
  have hn' : n ≤ 65535 := by rw [hnn]; exact hn
  clear hy hnn hn
  obtain ⟨X, hX⟩ : ∃ X, X = w.alloc (.cells #[.int .u8 (y : Int), .slice A n c] 36) := ⟨_, rfl⟩
  have hbX : Below w.heap.size w X := by rw [hX]; exact (Below.refl _ _).alloc (Nat.le_refl _) _
  have hblk : Blk X w.heap.size 36 #[.int .u8 (y : Int), .slice A n c] := by rw [hX]; exact Blk.new w _ _
  have HPX := Lib.hid (HP.out.below hbX)
  have HWX : Hid (WordAt X (.agg #[.int .u8 (y : Int), .slice A n c]) (op, bs)) := ⟨_, by rw [HY.out, HNN.out], HPX.out⟩
  go_enter Tryz.func46, Tryz.ntmps46
  go_wp2_with fail
  rw [← hX]
  refine (pushes_any _ (op, bs) _ HWX.out (by show bs.length ≤ _; rw [← HNN.out]; omega)).mono ?_
  intro e w1 h1
  cases hpu : pushesL (op, bs) with
  | none =>
    rw [hpu] at h1
    obtain ⟨rfl, hb1⟩ := h1
    have HS : Hid (shortL (op, bs) = true) := by show _ = _; unfold shortL; rw [hpu]
    have hb01 : Below w.heap.size w w1 := hbX.trans (hb1.mono hbX.size)
    clear hpu hX
    go_wp2
    rw [HE.out]
    exact ⟨by rw [HS.out]; rfl, hb01⟩
  | some b =>
    rw [hpu] at h1
    obtain ⟨⟨q, rfl, hq⟩, hb1⟩ := h1
    have hbl : b.length ≤ 65535 := by
      unfold pushesL at hpu
      simp only at hpu
      split at hpu
      · simp only [Option.some.injEq] at hpu; rw [← hpu, ← HNN.out]; omega
      · split at hpu
        · simp only [Option.some.injEq] at hpu; rw [← hpu]; simp
        · split at hpu
          · simp only [Option.some.injEq] at hpu; rw [← hpu]; simp
          · cases hpu
    have HS : Hid (shortL (op, bs) = decide (pushL b = (op, bs))) := by show _ = _; unfold shortL; rw [hpu]
    have hb01 : Below w.heap.size w w1 := hbX.trans (hb1.mono hbX.size)
    have HQ := Lib.hid hq
    have hblk1 := hblk.below hb1 hblk.lt
    have HP1 := Lib.hid (HPX.out.below hb1)
    obtain ⟨A1, c1, e1⟩ := hq.slice
    subst e1
    clear hpu hq hb1 hblk hX HWX HPX hbX
    go_wp2_with fail
    refine (push_any _ b _ HQ.out.byte hbl).mono ?_
    rintro e w2 ⟨v2, rfl, ⟨p2, rfl, hp2⟩, hb2⟩
    have hb02 : Below w.heap.size w w2 := hb01.trans (hb2.mono hb01.size)
    have hblk2 := hblk1.below hb2 hblk1.lt
    have HP2 := Lib.hid (HP1.out.below hb2)
    have HPP := Lib.hid hp2
    obtain ⟨A2, c2, e2⟩ := hp2.slice
    subst e2
    clear hp2 hb2 hblk1 HP1 hb01
    obtain ⟨z, hz⟩ : ∃ z, z = (pushL b).1.toNat := ⟨_, rfl⟩
    have HZ := Lib.hid hz
    obtain ⟨m, hmm⟩ : ∃ m, m = (pushL b).2.length := ⟨_, rfl⟩
    have HMM := Lib.hid hmm
    rw [← hz, ← hmm]
    obtain ⟨Y, hY⟩ : ∃ Y, Y = w2.alloc (.cells #[.int .u8 (z : Int), .slice A2 m c2] 36) := ⟨_, rfl⟩
    have hal : Below w2.heap.size w2 Y := by rw [hY]; exact (Below.refl _ _).alloc (Nat.le_refl _) _
    have hb0Y : Below w.heap.size w Y := hb02.trans (hal.mono hb02.size)
    have hblkY : Blk Y w.heap.size 36 #[.int .u8 (y : Int), .slice A n c] := hblk2.below hal hblk2.lt
    have hc0 := hblkY.cell 0
    have hc1 := hblkY.cell 1
    simp only [List.getElem?_toArray, List.getElem?_cons_zero, List.getElem?_cons_succ] at hc0 hc1
    have HS1 : Hid ((convert 22 9 (.slice A2 m c2)).run Tryz.prog Y = .ok (.string ⟨(pushL b).2.toArray⟩) Y) := by
      have := (HPP.out.below hal).byte.str
      rw [← HMM.out] at this
      exact this
    have HS2 : Hid ((convert 22 9 (.slice A n c)).run Tryz.prog Y = .ok (.string ⟨bs.toArray⟩) Y) := by
      have := (HP2.out.below hal).byte.str
      rw [show ((op, bs) : Wd).2.length = n from HNN.out.symm] at this
      exact this
    rw [hY] at hc0 hc1 HS1 HS2 hb0Y
    clear hz hmm hY hal hblkY hblk2 hb02
    by_cases hzy : z = y
    · have hzy' : ((z : Int) == (y : Int)) = true := by rw [beq_iff_eq]; omega
      have HF : Hid (shortL (op, bs) = decide ((pushL b).2 = bs)) := by
        show _ = _
        rw [HS.out]
        have e1 : (pushL b).1 = op := UInt8.toNat_inj.1 (by rw [← HZ.out, HY.out]; exact hzy)
        by_cases hpb : (pushL b).2 = bs
        · rw [decide_eq_true hpb, decide_eq_true (Prod.ext e1 hpb)]
        · rw [decide_eq_false hpb, decide_eq_false fun h => hpb (by rw [h])]
      clear hzy
      go_wp2_with fail
      refine (equal_any _ _ _ _ _ HS1.out HS2.out).mono ?_
      rw [← HF.out]
      rintro e w3 ⟨rfl, rfl⟩
      go_wp2
      rw [HE.out]
      exact ⟨rfl, hb0Y⟩
    · have hzy' : ((z : Int) == (y : Int)) = false := by rw [beq_eq_false_iff_ne]; omega
      have HF : Hid (shortL (op, bs) = false) := by
        show _ = _
        rw [HS.out, decide_eq_false_iff_not]
        intro h
        exact hzy (by rw [HZ.out, h]; exact HY.out)
      clear hzy
      go_wp2
      rw [HE.out]
      exact ⟨by rw [HF.out]; rfl, hb0Y⟩

end Go.Proofs.YtggadilgkcjbjaaGreatDoor
