/-
  The walk over pushed of asm.
-/
import Derived.Test.YtggadilgkcjbjaaGreatDoorAsmNum
import Derived.Test.YtggadilgkcjbjaaGreatDoorAsmCutP
set_option linter.unusedVariables false
namespace Go.Proofs.YtggadilgkcjbjaaGreatDoor
open Go.RowKit Go.Sort

theorem cutlt_any (s : ByteArray) (w : World) (hg : Gd w) (hs : s.size ≤ 1000000) : Calls Tryz.prog 60 #[.string s, .string ⟨#[60]⟩] w fun e w' =>
    e = .returned (.tuple #[.string ⟨(s.data.toList.takeWhile (· != 60)).toArray⟩, .string ⟨((s.data.toList.dropWhile (· != 60)).drop 1).toArray⟩, .bool (decide (60 ∈ s.data.toList))]) ∧ Below w.heap.size w w' := by
  obtain ⟨m, hm⟩ := hg.max
  refine (Tryz.strings_Cut s ⟨#[60]⟩ m w (by omega) hm).mono ?_
  rintro e w' ⟨rfl, k, rfl⟩
  refine ⟨?_, below_drewN (Below.refl _ _) k⟩
  rw [show (⟨#[60]⟩ : ByteArray).data.toList = [60] from rfl, cut_lt]
theorem cutgt_any (r : List UInt8) (w : World) (hs : r.length ≤ 1000000) : Calls Tryz.prog 61 #[.string ⟨r.toArray⟩, .string ⟨#[62]⟩] w fun e w' =>
    e = .returned (.tuple #[.string ⟨(if r.getLast? = some 62 then r.dropLast else r).toArray⟩, .bool (decide (r.getLast? = some 62))]) ∧ w' = w := by
  refine (Tryz.strings_CutSuffix ⟨r.toArray⟩ ⟨#[62]⟩ w (by show r.toArray.size ≤ _; simp; omega)).mono ?_
  rintro e w' ⟨rfl, rfl⟩
  refine ⟨?_, rfl⟩
  rw [show (⟨#[62]⟩ : ByteArray).data.toList = [62] from rfl, show (⟨r.toArray⟩ : ByteArray).data.toList = r from rfl, (suffix_one r).1, (suffix_one r).2]

/-- How pushed ends. -/
def PushedEnd (r : Option Wd) (m : Nat) (w : World) (e : Ending) (w' : World) : Prop :=
  ∃ (v : Value) (x : Wd), e = .returned (.tuple #[v, .bool r.isSome]) ∧ WordAt w' v x ∧ x.2.length ≤ m ∧ (∀ y, r = some y → x = y) ∧ Below w.heap.size w w'
theorem word_nil (w : World) : WordAt w (.agg #[.int .u8 0, .slice none 0 0]) (0, []) := ⟨_, rfl, rfl, .inl ⟨rfl, rfl⟩⟩

set_option maxRecDepth 100000 in
set_option maxHeartbeats 2000000 in
theorem pushed_any (s : ByteArray) (w : World) (hg : Gd w) (hs : s.size ≤ 100000) :
    Calls Tryz.prog 36 #[.string s] w (PushedEnd (pushedL s.data.toList) 65535 w) := by
  obtain ⟨E, hE⟩ : ∃ E, E = PushedEnd (pushedL s.data.toList) 65535 w := ⟨_, rfl⟩
  rw [← hE]
  have HE := Lib.hid hE
  clear hE
  have hsl : s.data.toList.length ≤ 100000 := by rw [Array.length_toList]; exact hs
  have HCUT := Lib.hid (cutlt_any s · · (by omega))
  obtain ⟨op, hop⟩ : ∃ op, op = s.data.toList.takeWhile (· != 60) := ⟨_, rfl⟩
  obtain ⟨r, hr⟩ : ∃ r, r = (s.data.toList.dropWhile (· != 60)).drop 1 := ⟨_, rfl⟩
  have hrl : r.length ≤ 100000 := by
    have := (List.dropWhile_sublist (l := s.data.toList) (· != 60)).length_le
    rw [hr, List.length_drop]
    omega
  have hol : op.length ≤ 100000 := by
    have := (List.takeWhile_sublist (l := s.data.toList) (· != 60)).length_le
    rw [hop]
    omega
  obtain ⟨d, hd⟩ : ∃ d, d = (if r.getLast? = some 62 then r.dropLast else r) := ⟨_, rfl⟩
  have hdl : d.length ≤ 100000 := by
    rw [hd]
    split
    · rw [List.length_dropLast]; omega
    · exact hrl
  have HP : Hid (pushedL s.data.toList = if r.getLast? = some 62 then (match hexDec d with | none => none | some b => if op = [] then some (pushL b) else (numL 77 op).map fun n => (UInt8.ofNat n, b)) else none) := by
    show _ = _
    unfold pushedL
    simp only [← hop, ← hr]
    by_cases hq : r.getLast? = some 62
    · rw [if_pos hq, if_pos hq, hd, if_pos hq]
      cases hexDec r.dropLast <;> rfl
    · rw [if_neg hq, if_neg hq]
  have HSUF := Lib.hid (fun w' => cutgt_any r w' (by omega))
  have HDEC := Lib.hid (fun w' => decode_any ⟨d.toArray⟩ w' (by show d.toArray.size ≤ _; simp; omega))
  rw [← hop, ← hr] at HCUT
  rw [← hd] at HSUF
  have HGW := Lib.hid hg
  clear hop hr hd hsl
  go_enter Tryz.func36, Tryz.ntmps36
  obtain ⟨X, hX⟩ : ∃ X, X = w.alloc (.cells #[.int .u8 0, .slice none 0 0] 36) := ⟨_, rfl⟩
  have hbX : Below w.heap.size w X := by rw [hX]; exact (Below.refl _ _).alloc (Nat.le_refl _) _
  have hblk : Blk X w.heap.size 36 #[.int .u8 0, .slice none 0 0] := by rw [hX]; exact Blk.new w _ _
  have HLV : Hid (∀ w', Below X.heap.size X w' → Blk w' w.heap.size 36 #[.int .u8 0, .slice none 0 0]) := fun w' hb => hblk.below hb hblk.lt
  go_wp2_with fail
  rw [← hX]
  refine (HCUT.out X (HGW.out.below hbX)).mono ?_
  rintro e w1 ⟨rfl, hb1⟩
  clear hX hblk
  go_wp2_with fail
  refine (HSUF.out w1).mono ?_
  rintro e w2 ⟨rfl, rfl⟩
  go_wp2_with fail
  refine (HDEC.out _).mono ?_
  rintro e w3 ⟨hb3, hdec⟩
  have hbX3 := hb1.trans (hb3.mono hb1.size)
  have hb03 := hbX.trans (hbX3.mono hbX.size)
  have hblk3 := HLV.out w3 hbX3
  have HBK := Lib.hid hblk3
  have hc0 := hblk3.cell 0
  have hc1 := hblk3.cell 1
  have hf0 := hblk3.frozen 0
  have hf1 := hblk3.frozen 1
  simp only [List.getElem?_toArray, List.getElem?_cons_zero, List.getElem?_cons_succ] at hc0 hc1
  have HG3 := Lib.hid (HGW.out.below hb03)
  have hsz3 := hblk3.lt
  clear hb3 hblk3 hbX hb1
  have hfin : ∀ v, Hid (pushedL s.data.toList = none) → E (.returned (.tuple #[.agg #[.int .u8 0, .slice none 0 0], .bool false])) ((w3.setCell ⟨w.heap.size, 0, none⟩ (.int .u8 0)).setCell ⟨w.heap.size, 1, none⟩ v) := fun v HN => by
    rw [HE.out, HN.out]
    exact ⟨_, (0, []), rfl, word_nil _, by simp, (fun y e => by cases e), (hb03.setCell (p := ⟨w.heap.size, 0, none⟩) (Nat.le_refl _) _).setCell (p := ⟨w.heap.size, 1, none⟩) (Nat.le_refl _) _⟩
  have HFIN := Lib.hid hfin
  clear hfin
  cases hq : hexDec (⟨d.toArray⟩ : ByteArray).data.toList with
  | none =>
    have HN : Hid (pushedL s.data.toList = none) := by
      show _ = _
      rw [HP.out, show hexDec d = none from hq]
      split <;> rfl
    rw [hq] at hdec
    subst hdec
    clear hq
    go_wp2
    all_goals (refine bodyPost_ret (results_cellB rfl rfl (loadWord ((HBK.out.set_ 0 _).set_ 1 _))) rfl ?_)
    all_goals exact HFIN.out _ HN
  | some b =>
    rw [hq] at hdec
    obtain ⟨A, c, rfl, hown⟩ := hdec
    have hbl : b.length ≤ 65535 := by
      have := hexDec_length hq
      have h2 : (⟨d.toArray⟩ : ByteArray).data.toList.length = d.length := by simp
      omega
    have hq' : hexDec d = some b := hq
    obtain ⟨m, hm⟩ : ∃ m, m = b.length := ⟨_, rfl⟩
    have HM := Lib.hid hm
    have HPB := Lib.hid (show PushAt w3 (.slice A b.length c) b from own_base hown)
    rw [← hm] at hbl HPB ⊢
    clear hq hown hm
    by_cases hl : r.getLast? = some 62
    · have HP2 : Hid (pushedL s.data.toList = if op = [] then some (pushL b) else (numL 77 op).map fun n => (UInt8.ofNat n, b)) := by
        show _ = _
        rw [HP.out, if_pos hl, hq']
      rw [decide_eq_true hl]
      clear hl hq'
      by_cases ho : op = []
      · have HN : Hid (pushedL s.data.toList = some (pushL b)) := by show _ = _; rw [HP2.out, if_pos ho]
        subst ho
        go_wp2_with fail
        refine (push_any _ b _ (by rw [HM.out] at HPB ⊢; exact HPB.out.byte) (by rw [← HM.out]; exact hbl)).mono ?_
        rintro e w4 ⟨v4, rfl, ⟨p4, rfl, hp4⟩, hb4⟩
        have hb04 := hb03.trans (hb4.mono hb03.size)
        have hblk4 := HLV.out w4 (hbX3.trans (hb4.mono hbX3.size))
        have HBK4 := Lib.hid hblk4
        have hc0 := hblk4.cell 0
        have hc1 := hblk4.cell 1
        have hf0 := hblk4.frozen 0
        have hf1 := hblk4.frozen 1
        simp only [List.getElem?_toArray, List.getElem?_cons_zero, List.getElem?_cons_succ] at hc0 hc1
        have HP4 := Lib.hid hp4
        obtain ⟨A4, c4, e4⟩ := hp4.slice
        subst e4
        obtain ⟨z, hz⟩ : ∃ z, z = (pushL b).1.toNat := ⟨_, rfl⟩
        have HZ := Lib.hid hz
        obtain ⟨m4, hm4⟩ : ∃ m, m = (pushL b).2.length := ⟨_, rfl⟩
        have HM4 := Lib.hid hm4
        rw [← hz, ← hm4]
        rw [← hm4] at HP4
        clear hz hm4 hp4 hb4 hblk4 hbX3
        go_wp2
        refine bodyPost_ret (results_cellB rfl rfl (loadWord ((HBK4.out.set_ 0 _).set_ 1 _))) rfl ?_
        rw [HE.out, HN.out]
        refine ⟨_, pushL b, rfl, ⟨_, by show Value.agg #[.int .u8 (z : Int), .slice A4 m4 c4] = _; rw [HZ.out], (HP4.out.setB HBK4.out (by decide) 0 _).setB (HBK4.out.set_ 0 _) (by decide) 1 _⟩, ?_, fun y e => Option.some.inj e, (hb04.setCell (p := ⟨w.heap.size, 0, none⟩) (Nat.le_refl _) _).setCell (p := ⟨w.heap.size, 1, none⟩) (Nat.le_refl _) _⟩
        have h5 := HM.out
        unfold pushL
        split
        · simp
        · split
          · simp
          · split
            · show b.length ≤ _; omega
            · split <;> (show b.length ≤ _; omega)
      · obtain ⟨t, ht⟩ : ∃ t, t = (⟨op.toArray⟩ : ByteArray) := ⟨_, rfl⟩
        have HT : Hid (t.data.toList = op) := by show _ = _; rw [ht]
        have htl : t.toList.isEmpty = false := nonempty_of_size (size_pos_of_ne (by
          rw [ht]
          intro e
          apply ho
          have := congrArg (fun b : ByteArray => b.data.toList) e
          simpa using this))
        have hts : t.size ≤ 1000000 := by rw [ht]; show op.toArray.size ≤ _; simp; omega
        have HNUM : Hid (Calls Tryz.prog 37 #[.string t, .int .i64 77] w3 (NumEnd (numL 77 op) w3)) := by
          have := number_any t 77 w3 HG3.out (by omega) hts
          rw [HT.out] at this
          exact this
        have HP3 : Hid (pushedL s.data.toList = (numL 77 op).map fun n => (UInt8.ofNat n, b)) := by show _ = _; rw [HP2.out, if_neg ho]
        rw [← ht]
        clear ht ho hts
        go_wp2_with fail
        refine HNUM.out.mono ?_
        rintro e w4 ⟨v, rfl, hv, hv1, hv2, hb4⟩
        have hwv : IntKind.u8.wrap v = v % 256 := by simp [IntKind.wrap, IntKind.signed, IntKind.bits]
        have hb04 := hb03.trans (hb4.mono hb03.size)
        have hblk4 := HLV.out w4 (hbX3.trans (hb4.mono hbX3.size))
        have HBK4 := Lib.hid hblk4
        have hc0 := hblk4.cell 0
        have hc1 := hblk4.cell 1
        have hf0 := hblk4.frozen 0
        have hf1 := hblk4.frozen 1
        simp only [List.getElem?_toArray, List.getElem?_cons_zero, List.getElem?_cons_succ] at hc0 hc1
        have HP4 : Hid (PushAt w4 (.slice A m c) b) := PushAt.below HPB.out hb4
        have HRS : Hid ((pushedL s.data.toList).isSome = (numL 77 op).isSome) := by show _ = _; rw [HP3.out]; cases numL 77 op <;> rfl
        have HVV : Hid (∀ y, pushedL s.data.toList = some y → (UInt8.ofNat (v % 256).toNat, b) = y) := by
          intro y e
          rw [HP3.out] at e
          cases hn : numL 77 op with
          | none => rw [hn] at e; cases e
          | some n =>
            rw [hn] at e
            have := hv n hn
            have h77 := (numL_some hn).1
            simp only [Option.map_some, Option.some.injEq] at e
            rw [← e, this, show ((n : Int) % 256).toNat = n by omega]
        obtain ⟨fl, hfl⟩ : ∃ fl, fl = (numL 77 op).isSome := ⟨_, rfl⟩
        rw [← hfl] at HRS ⊢
        clear hv hb4 hblk4 hbX3 hfl HNUM
        go_wp2
        refine bodyPost_ret (results_cellB rfl rfl (loadWord ((HBK4.out.set_ 0 _).set_ 1 _))) rfl ?_
        rw [HE.out]
        refine ⟨_, (UInt8.ofNat (v % 256).toNat, b), by rw [HRS.out]; rfl, ⟨_, by rw [show (((UInt8.ofNat (v % 256).toNat, b) : Wd).1.toNat : Int) = v % 256 by show ((UInt8.ofNat (v % 256).toNat).toNat : Int) = _; rw [UInt8.toNat_ofNat']; omega]; rfl, ?_⟩, by have := HM.out; show b.length ≤ _; omega, HVV.out, (hb04.setCell (p := ⟨w.heap.size, 0, none⟩) (Nat.le_refl _) _).setCell (p := ⟨w.heap.size, 1, none⟩) (Nat.le_refl _) _⟩
        exact (HP4.out.setB HBK4.out (by decide) 0 _).setB (HBK4.out.set_ 0 _) (by decide) 1 _
    · have HN : Hid (pushedL s.data.toList = none) := by
        show _ = _
        rw [HP.out, if_neg hl]
      rw [decide_eq_false hl]
      clear hl hq'
      go_wp2
      refine bodyPost_ret (results_cellB rfl rfl (loadWord ((HBK.out.set_ 0 _).set_ 1 _))) rfl ?_
      exact HFIN.out _ HN

end Go.Proofs.YtggadilgkcjbjaaGreatDoor
