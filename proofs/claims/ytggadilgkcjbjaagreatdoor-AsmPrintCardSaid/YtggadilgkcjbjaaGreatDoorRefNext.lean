/-
  The walks over the reference's head and Next of words.
-/
import Derived.Test.YtggadilgkcjbjaaGreatDoorWordBuild
import Derived.BigQuiet
import Derived.Deep.QuietTactic
set_option linter.unusedVariables false
namespace Go.Proofs.YtggadilgkcjbjaaGreatDoor
open Go.RowKit

def headN (x : Nat) : Nat := if x = 76 then 2 else if x = 77 then 3 else 1
theorem refHead_any (x : Nat) (w : World) : Calls Tryz.prog 53 #[.int .u8 (x : Int)] w fun e w' => e = .returned (.int .i64 ((headN x : Nat) : Int)) ∧ w' = w := by
  by_cases h1 : x = 76
  · subst h1
    go_enter Tryz.func53, Tryz.ntmps53
    go_wp2
    go_ret
    exact ⟨rfl, rfl⟩
  · have h1' : ((x : Int) == 76) = false := by rw [beq_eq_false_iff_ne]; omega
    by_cases h2 : x = 77
    · subst h2
      go_enter Tryz.func53, Tryz.ntmps53
      go_wp2
      go_ret
      exact ⟨rfl, rfl⟩
    · have h2' : ((x : Int) == 77) = false := by rw [beq_eq_false_iff_ne]; omega
      have hh : headN x = 1 := by unfold headN; rw [if_neg h1, if_neg h2]
      rw [hh]
      clear h1 h2 hh
      go_enter Tryz.func53, Tryz.ntmps53
      go_wp2
      go_ret
      exact ⟨rfl, rfl⟩

set_option maxRecDepth 100000 in
set_option maxHeartbeats 2000000 in
theorem refNext_any (A : Option Addr) (n c at_ : Nat) (bs : List UInt8) (w : World) (h : RdB w w.heap.size A n bs) (hnc : n ≤ c) (hcm : c ≤ maxLen) (ha : at_ < n) (hn : n ≤ 1000000) :
    Calls Tryz.prog 28 #[.slice A n c, .int .i64 (at_ : Int)] w (NextEnd (nextL (bs.drop at_)) n w) := by
  obtain ⟨E, hE⟩ : ∃ E, E = NextEnd (nextL (bs.drop at_)) n w := ⟨_, rfl⟩
  rw [← hE]
  have HE := Lib.hid hE
  have HLEN := Lib.hid h.len
  clear hE
  obtain ⟨b0, o0, rfl, hb0, hk0⟩ := h.plain (by omega)
  have ha1 : ¬ (at_ : Int) < 0 := by omega
  have ha2 : ¬ (n : Int) ≤ (at_ : Int) := by omega
  have ha3 : (at_ : Int) < (n : Int) := by omega
  obtain ⟨m, hm⟩ : ∃ m, m = n - at_ := ⟨_, rfl⟩
  obtain ⟨bd, hbd⟩ : ∃ bd, bd = bs.drop at_ := ⟨_, rfl⟩
  have HR : Hid (RdB w w.heap.size (some ⟨b0, o0 + at_, none⟩) m bd) := by
    have := h.from_ (k := at_) (by omega)
    rw [hm, hbd]
    exact this
  have hbdl : bd.length = m := by rw [hbd, List.length_drop, h.len, hm]
  rw [← hbd] at HE
  clear hbd hk0 h
  obtain ⟨op, r, rfl⟩ : ∃ op r, bd = op :: r := by
    match bd, hbdl with
    | [], hl => simp at hl; omega
    | op :: r, _ => exact ⟨_, _, rfl⟩
  have d0 : w.cell? ⟨b0, o0 + at_, none⟩ = some (.int .u8 (op.toNat : Int)) := by
    obtain ⟨_, _, e, _, hk⟩ := HR.out.plain (by omega)
    cases e
    exact hk 0 (by omega)
  obtain ⟨x0, hx0⟩ : ∃ x0 : Nat, op.toNat = x0 := ⟨_, rfl⟩
  have hx0b : x0 < 256 := by rw [← hx0]; exact UInt8.toNat_lt _
  have HX0 := Lib.hid hx0
  rw [hx0] at d0
  have hbw : Below w.heap.size w (w.alloc (.cells #[.int .u8 0, .slice none 0 0] 36)) := (Below.refl _ _).alloc (Nat.le_refl _) _
  obtain ⟨X, hX⟩ : ∃ X, X = w.alloc (.cells #[.int .u8 0, .slice none 0 0] 36) := ⟨_, rfl⟩
  rw [← hX] at hbw
  have hblk : Blk X w.heap.size 36 #[.int .u8 0, .slice none 0 0] := by rw [hX]; exact Blk.new w _ _
  have HBX := Lib.hid hblk
  have dX0 : X.cell? ⟨b0, o0 + at_, none⟩ = some (.int .u8 (x0 : Int)) := (hbw.cell (p := ⟨b0, o0 + at_, none⟩) hb0).trans d0
  have hc0 := hblk.cell 0
  have hc1 := hblk.cell 1
  have hf0 := hblk.frozen 0
  have hf1 := hblk.frozen 1
  simp only [List.getElem?_toArray, List.getElem?_cons_zero, List.getElem?_cons_succ] at hc0 hc1
  clear hblk
  have dA0 : (w.alloc (.cells #[.int .u8 0, .slice none 0 0] 36)).cell? ⟨b0, o0 + at_, none⟩ = some (.int .u8 (x0 : Int)) := by rw [← hX]; exact dX0
  obtain ⟨i0, hi, hz0, hz1, hz2⟩ := info_parts infoByte
  obtain ⟨hd, hhd⟩ : ∃ hd, hd = headN x0 := ⟨_, rfl⟩
  have HHD := Lib.hid (refHead_any x0)
  rw [← hhd] at HHD
  by_cases h1 : 0 < x0 ∧ x0 ≤ 75
  · have hd1 : hd = 1 := by rw [hhd]; unfold headN; rw [if_neg (by omega), if_neg (by omega)]
    have h1a : (1 : Int) ≤ (x0 : Int) := by omega
    have h1b : (x0 : Int) ≤ 75 := by omega
    obtain ⟨k, hkk⟩ : ∃ k, k = x0 := ⟨_, rfl⟩
    have hk : k ≤ 65535 := by omega
    have HT : Hid (toldL (op :: r) = some (k, hd)) := by show _ = _; simp only [toldL]; rw [HX0.out, if_pos h1, hd1, hkk]
    subst hkk
    clear h1 hhd
    obtain ⟨hh1, hh2, hh3, _⟩ := toldL_head (n := k) (h := hd) HT.out
    rw [hbdl] at hh2
    clear hd1
    obtain ⟨fr, hfr⟩ : ∃ fr, fr = at_ + hd := ⟨_, rfl⟩
    obtain ⟨fe, hfe⟩ : ∃ fe, fe = fr + k := ⟨_, rfl⟩
    have hw6 : IntKind.i64.wrap ((at_ : Int) + (hd : Int)) = (fr : Int) := by rw [IntKind.wrap_i64]; omega
    have hw7 : IntKind.i64.wrap ((fr : Int) + (k : Int)) = (fe : Int) := by rw [IntKind.wrap_i64]; omega
    have hw9 : ¬ (n : Int) < (fr : Int) := by omega
    by_cases hs : m - hd < k
    · have HN : Hid (nextL (op :: r) = none) := by show _ = _; simp only [nextL]; rw [HT.out]; simp only [hbdl, if_pos hs]
      have hs' : (n : Int) - (fr : Int) < (k : Int) := by omega
      clear hs hfr hfe hm HT
      go_enter Tryz.func28, Tryz.ntmps28
      go_wp2_with fail
      rw [← hX]
      clear hX
      refine (HHD.out X).mono ?_
      rintro e w1 ⟨rfl, hw1⟩
      rw [hw1]
      clear hw1 w1
      have HBXQ : Blk (X) w.heap.size 36 #[.int .u8 0, .slice none 0 0] := HBX.out
      have hbQ : Below w.heap.size w (X) := hbw
      go_wp2
      refine bodyPost_ret (results_cell3 rfl rfl (loadWord ((HBXQ.set_ 0 _).set_ 1 _))) rfl ?_
      rw [HE.out, HN.out]
      exact ⟨rfl, (hbQ.setCell (Nat.le_refl _) _).setCell (Nat.le_refl _) _⟩
    · have HN : Hid (nextL (op :: r) = some ((op, ((op :: r).drop hd).take k), (op :: r).drop (hd + k))) := by show _ = _; simp only [nextL]; rw [HT.out]; simp only [hbdl, if_neg hs]
      have hs' : ¬ (n : Int) - (fr : Int) < (k : Int) := by omega
      have hw1 : (fr : Int) ≤ (fe : Int) := by omega
      have hw2 : (fe : Int) ≤ (c : Int) := by omega
      have hw3 : fe - fr = k := by omega
      have hkm : k ≤ 65535 := hk
      obtain ⟨P, hP⟩ : ∃ P, P = ((op :: r).drop hd).take k := ⟨_, rfl⟩
      have hPl : P.length = k := by rw [hP, List.length_take, List.length_drop, hbdl]; omega
      have HPP : Hid (nextL (op :: r) = some ((op, P), (op :: r).drop (hd + k))) := by show _ = _; rw [HN.out, hP]
      have HNUM : Hid ((fe : Int) = ((n - ((op :: r).drop (hd + k)).length : Nat) : Int)) := by show _ = _; rw [List.length_drop, hbdl]; omega
      have Hk : Hid ((k : Int) = (op.toNat : Int)) := by show _ = _; have := HX0.out; omega
      obtain ⟨g1, hg1⟩ : ∃ g1, g1 = X.heap.size := ⟨_, rfl⟩
      have HG1 := Lib.hid hg1
      have hXs : X.heap.size = w.heap.size + 1 := by rw [hX]; simp
      have HXS := Lib.hid hXs
      have HPL := Lib.hid hPl
      by_cases hcf : c = fr
      · exfalso
        omega
      · have hcfI : ¬ (c : Int) = (fr : Int) := by omega
        have HSRC : Hid (∀ w', Below w.heap.size w w' → RdB w' w.heap.size (some ⟨b0, o0 + fr, none⟩) k P) := fun w' hb' => by
          have h1 := (HR.out.from_ (k := hd) (by omega)).take (k := k) (by omega)
          rw [← hP, show o0 + at_ + hd = o0 + fr by omega] at h1
          exact h1.below hb'
        clear hs hfr hfe hm HT hP hPl hg1 hXs
        go_enter Tryz.func28, Tryz.ntmps28
        go_wp2_with fail
        rw [← hX]
        clear hX
        refine (HHD.out X).mono ?_
        rintro e w1 ⟨rfl, hw1⟩
        rw [hw1]
        clear hw1 w1
        have HBXQ : Blk (X) w.heap.size 36 #[.int .u8 0, .slice none 0 0] := HBX.out
        have hbQ : Below w.heap.size w (X) := hbw
        have HOWN := Lib.hid (World.ownsRow_lit (base := 0) (e := 5) (size := 1) (X) #[] 0 (Nat.zero_le _) (Nat.zero_le _) rfl)
        have hbA := hbQ.trans (((Below.refl (X).heap.size (X)).alloc (Nat.le_refl _) (.cells #[] 5)).mono hbQ.size)
        go_wp2_with (at_builtin; refine wpList_append_any ((X).alloc (.cells #[] 5)) rfl _ _ 22 rfl 0 5 i0 (.int .u8 0) 1 1 Tryz.underlying22 hi hz0 hz1 hz2 rfl (by decide) _ _ _ rfl HOWN.out w.heap.size (some ⟨b0, o0 + fr, none⟩) k (_) (Lib.byteCells P) rfl (HSRC.out _ hbA) (byteCells_one P) (by unfold maxLen; omega) (by omega) (Nat.zero_le _) ?_)
        intro v' w' hown' hg' _
        have hPv : PushAt w' v' P := by unfold PushAt; rw [HPL.out]; exact hown'
        obtain ⟨A', c', hv'⟩ := own_slice hown'
        subst hv'
        have HPV := Lib.hid hPv
        have hbX' : Below (X).heap.size (X) w' := ((Below.refl _ _).alloc (Nat.le_refl _) _).grown hg' (by simp) (fun k hk => by simp [Value.ownBlock] at hk; subst hk; exact Nat.le_refl _)
        have hblk' := HBXQ.below hbX' HBXQ.lt
        have hb0' := hbQ.trans (hbX'.mono hbQ.size)
        have hcc0 := hblk'.cell 0
        have hcc1 := hblk'.cell 1
        have hff0 := hblk'.frozen 0
        have hff1 := hblk'.frozen 1
        simp only [List.getElem?_toArray, List.getElem?_cons_zero, List.getElem?_cons_succ] at hcc0 hcc1
        have HBK' := Lib.hid hblk'
        clear hown' hPv hg' hbX' hblk'
        go_wp2
        refine bodyPost_ret (results_cell3 rfl rfl (loadWord ((HBK'.out.set_ 0 _).set_ 1 _))) rfl ?_
        rw [HE.out, HPP.out]
        refine nextEnd_some Hk.out HNUM.out ?_ ((hb0'.setCell (Nat.le_refl _) _).setCell (Nat.le_refl _) _)
        rw [← HPL.out] at HPV
        have := (HPV.out.setB HBK'.out (by decide) 0 (.int .u8 (k : Int))).setB (HBK'.out.set_ 0 _) (by decide) 1 (.slice A' P.length c')
        simpa [HPL.out] using this
  have h1a : ¬ ((1 : Int) ≤ (x0 : Int) ∧ (x0 : Int) ≤ 75) := by omega
  by_cases h2 : x0 = 76
  · subst h2
    have hd1 : hd = 2 := hhd
    by_cases hm1 : 1 < m
    · obtain ⟨x, r2, hr⟩ : ∃ x r2, r = x :: r2 := by
        match r, hbdl with
        | [], hl => simp at hl; omega
        | x :: r2, _ => exact ⟨_, _, rfl⟩
      obtain ⟨k, hx1⟩ : ∃ k : Nat, x.toNat = k := ⟨_, rfl⟩
      have e1 : w.cell? ⟨b0, o0 + (at_ + 1), none⟩ = some (.int .u8 (k : Int)) := by
        obtain ⟨_, _, e, _, hk⟩ := HR.out.plain (by omega)
        cases e
        have := hk 1 (by omega)
        rw [show o0 + (at_ + 1) = o0 + at_ + 1 by omega, ← hx1]
        simp only [hr] at this
        exact this
      have eX1 : X.cell? ⟨b0, o0 + (at_ + 1), none⟩ = some (.int .u8 (k : Int)) := (hbw.cell (p := ⟨b0, o0 + (at_ + 1), none⟩) hb0).trans e1
      have hk1 : k < 256 := by rw [← hx1]; exact UInt8.toNat_lt _
      have hk : k ≤ 65535 := by omega
      have HT : Hid (toldL (op :: r) = some (k, hd)) := by show _ = _; rw [hr]; simp only [toldL]; rw [HX0.out, if_neg (by omega), if_pos rfl, hx1, hd1]
      have hat : (at_ : Int) + 1 < (n : Int) := by omega
      clear h1 hhd hx1 e1 hm1 hr
      obtain ⟨hh1, hh2, hh3, _⟩ := toldL_head (n := k) (h := hd) HT.out
      rw [hbdl] at hh2
      clear hd1
      obtain ⟨fr, hfr⟩ : ∃ fr, fr = at_ + hd := ⟨_, rfl⟩
      obtain ⟨fe, hfe⟩ : ∃ fe, fe = fr + k := ⟨_, rfl⟩
      have hw6 : IntKind.i64.wrap ((at_ : Int) + (hd : Int)) = (fr : Int) := by rw [IntKind.wrap_i64]; omega
      have hw7 : IntKind.i64.wrap ((fr : Int) + (k : Int)) = (fe : Int) := by rw [IntKind.wrap_i64]; omega
      have hw9 : ¬ (n : Int) < (fr : Int) := by omega
      by_cases hs : m - hd < k
      · have HN : Hid (nextL (op :: r) = none) := by show _ = _; simp only [nextL]; rw [HT.out]; simp only [hbdl, if_pos hs]
        have hs' : (n : Int) - (fr : Int) < (k : Int) := by omega
        clear hs hfr hfe hm HT
        go_enter Tryz.func28, Tryz.ntmps28
        go_wp2_with fail
        rw [← hX]
        clear hX
        refine (HHD.out X).mono ?_
        rintro e w1 ⟨rfl, hw1⟩
        rw [hw1]
        clear hw1 w1
        have HBXQ : Blk (X) w.heap.size 36 #[.int .u8 0, .slice none 0 0] := HBX.out
        have hbQ : Below w.heap.size w (X) := hbw
        go_wp2
        refine bodyPost_ret (results_cell3 rfl rfl (loadWord ((HBXQ.set_ 0 _).set_ 1 _))) rfl ?_
        rw [HE.out, HN.out]
        exact ⟨rfl, (hbQ.setCell (Nat.le_refl _) _).setCell (Nat.le_refl _) _⟩
      · have HN : Hid (nextL (op :: r) = some ((op, ((op :: r).drop hd).take k), (op :: r).drop (hd + k))) := by show _ = _; simp only [nextL]; rw [HT.out]; simp only [hbdl, if_neg hs]
        have hs' : ¬ (n : Int) - (fr : Int) < (k : Int) := by omega
        have hw1 : (fr : Int) ≤ (fe : Int) := by omega
        have hw2 : (fe : Int) ≤ (c : Int) := by omega
        have hw3 : fe - fr = k := by omega
        have hkm : k ≤ 65535 := hk
        obtain ⟨P, hP⟩ : ∃ P, P = ((op :: r).drop hd).take k := ⟨_, rfl⟩
        have hPl : P.length = k := by rw [hP, List.length_take, List.length_drop, hbdl]; omega
        have HPP : Hid (nextL (op :: r) = some ((op, P), (op :: r).drop (hd + k))) := by show _ = _; rw [HN.out, hP]
        have HNUM : Hid ((fe : Int) = ((n - ((op :: r).drop (hd + k)).length : Nat) : Int)) := by show _ = _; rw [List.length_drop, hbdl]; omega
        have H76 : Hid ((76 : Int) = (op.toNat : Int)) := by show _ = _; have := HX0.out; omega
        obtain ⟨g1, hg1⟩ : ∃ g1, g1 = X.heap.size := ⟨_, rfl⟩
        have HG1 := Lib.hid hg1
        have hXs : X.heap.size = w.heap.size + 1 := by rw [hX]; simp
        have HXS := Lib.hid hXs
        have HPL := Lib.hid hPl
        by_cases hcf : c = fr
        · have hcfI : (c : Int) = (fr : Int) := by omega
          have hk0 : k = 0 := by omega
          have HSRC : Hid (∀ w', Below w.heap.size w w' → RdB w' w.heap.size (some ⟨b0, o0, none⟩) k P) := fun w' hb' => by
            rw [hk0, List.eq_nil_of_length_eq_zero (l := P) (by rw [hPl, hk0])]
            exact RdB.zero _ _ _
          clear hs hfr hfe hm HT hP hPl hg1 hXs hk0 hcfI
          subst hcf
          go_enter Tryz.func28, Tryz.ntmps28
          go_wp2_with fail
          rw [← hX]
          clear hX
          refine (HHD.out X).mono ?_
          rintro e w1 ⟨rfl, hw1⟩
          rw [hw1]
          clear hw1 w1
          have HBXQ : Blk (X) w.heap.size 36 #[.int .u8 0, .slice none 0 0] := HBX.out
          have hbQ : Below w.heap.size w (X) := hbw
          have HOWN := Lib.hid (World.ownsRow_lit (base := 0) (e := 5) (size := 1) (X) #[] 0 (Nat.zero_le _) (Nat.zero_le _) rfl)
          have hbA := hbQ.trans (((Below.refl (X).heap.size (X)).alloc (Nat.le_refl _) (.cells #[] 5)).mono hbQ.size)
          go_wp2_with (at_builtin; refine wpList_append_any ((X).alloc (.cells #[] 5)) rfl _ _ 22 rfl 0 5 i0 (.int .u8 0) 1 1 Tryz.underlying22 hi hz0 hz1 hz2 rfl (by decide) _ _ _ rfl HOWN.out w.heap.size (some ⟨b0, o0, none⟩) k (_) (Lib.byteCells P) rfl (HSRC.out _ hbA) (byteCells_one P) (by unfold maxLen; omega) (by omega) (Nat.zero_le _) ?_)
          intro v' w' hown' hg' _
          have hPv : PushAt w' v' P := by unfold PushAt; rw [HPL.out]; exact hown'
          obtain ⟨A', c', hv'⟩ := own_slice hown'
          subst hv'
          have HPV := Lib.hid hPv
          have hbX' : Below (X).heap.size (X) w' := ((Below.refl _ _).alloc (Nat.le_refl _) _).grown hg' (by simp) (fun k hk => by simp [Value.ownBlock] at hk; subst hk; exact Nat.le_refl _)
          have hblk' := HBXQ.below hbX' HBXQ.lt
          have hb0' := hbQ.trans (hbX'.mono hbQ.size)
          have hcc0 := hblk'.cell 0
          have hcc1 := hblk'.cell 1
          have hff0 := hblk'.frozen 0
          have hff1 := hblk'.frozen 1
          simp only [List.getElem?_toArray, List.getElem?_cons_zero, List.getElem?_cons_succ] at hcc0 hcc1
          have HBK' := Lib.hid hblk'
          clear hown' hPv hg' hbX' hblk'
          go_wp2
          refine bodyPost_ret (results_cell3 rfl rfl (loadWord ((HBK'.out.set_ 0 _).set_ 1 _))) rfl ?_
          rw [HE.out, HPP.out]
          refine nextEnd_some H76.out HNUM.out ?_ ((hb0'.setCell (Nat.le_refl _) _).setCell (Nat.le_refl _) _)
          rw [← HPL.out] at HPV
          have := (HPV.out.setB HBK'.out (by decide) 0 (.int .u8 (76 : Int))).setB (HBK'.out.set_ 0 _) (by decide) 1 (.slice A' P.length c')
          simpa [HPL.out] using this
        · have hcfI : ¬ (c : Int) = (fr : Int) := by omega
          have HSRC : Hid (∀ w', Below w.heap.size w w' → RdB w' w.heap.size (some ⟨b0, o0 + fr, none⟩) k P) := fun w' hb' => by
            have h1 := (HR.out.from_ (k := hd) (by omega)).take (k := k) (by omega)
            rw [← hP, show o0 + at_ + hd = o0 + fr by omega] at h1
            exact h1.below hb'
          clear hs hfr hfe hm HT hP hPl hg1 hXs
          go_enter Tryz.func28, Tryz.ntmps28
          go_wp2_with fail
          rw [← hX]
          clear hX
          refine (HHD.out X).mono ?_
          rintro e w1 ⟨rfl, hw1⟩
          rw [hw1]
          clear hw1 w1
          have HBXQ : Blk (X) w.heap.size 36 #[.int .u8 0, .slice none 0 0] := HBX.out
          have hbQ : Below w.heap.size w (X) := hbw
          have HOWN := Lib.hid (World.ownsRow_lit (base := 0) (e := 5) (size := 1) (X) #[] 0 (Nat.zero_le _) (Nat.zero_le _) rfl)
          have hbA := hbQ.trans (((Below.refl (X).heap.size (X)).alloc (Nat.le_refl _) (.cells #[] 5)).mono hbQ.size)
          go_wp2_with (at_builtin; refine wpList_append_any ((X).alloc (.cells #[] 5)) rfl _ _ 22 rfl 0 5 i0 (.int .u8 0) 1 1 Tryz.underlying22 hi hz0 hz1 hz2 rfl (by decide) _ _ _ rfl HOWN.out w.heap.size (some ⟨b0, o0 + fr, none⟩) k (_) (Lib.byteCells P) rfl (HSRC.out _ hbA) (byteCells_one P) (by unfold maxLen; omega) (by omega) (Nat.zero_le _) ?_)
          intro v' w' hown' hg' _
          have hPv : PushAt w' v' P := by unfold PushAt; rw [HPL.out]; exact hown'
          obtain ⟨A', c', hv'⟩ := own_slice hown'
          subst hv'
          have HPV := Lib.hid hPv
          have hbX' : Below (X).heap.size (X) w' := ((Below.refl _ _).alloc (Nat.le_refl _) _).grown hg' (by simp) (fun k hk => by simp [Value.ownBlock] at hk; subst hk; exact Nat.le_refl _)
          have hblk' := HBXQ.below hbX' HBXQ.lt
          have hb0' := hbQ.trans (hbX'.mono hbQ.size)
          have hcc0 := hblk'.cell 0
          have hcc1 := hblk'.cell 1
          have hff0 := hblk'.frozen 0
          have hff1 := hblk'.frozen 1
          simp only [List.getElem?_toArray, List.getElem?_cons_zero, List.getElem?_cons_succ] at hcc0 hcc1
          have HBK' := Lib.hid hblk'
          clear hown' hPv hg' hbX' hblk'
          go_wp2
          refine bodyPost_ret (results_cell3 rfl rfl (loadWord ((HBK'.out.set_ 0 _).set_ 1 _))) rfl ?_
          rw [HE.out, HPP.out]
          refine nextEnd_some H76.out HNUM.out ?_ ((hb0'.setCell (Nat.le_refl _) _).setCell (Nat.le_refl _) _)
          rw [← HPL.out] at HPV
          have := (HPV.out.setB HBK'.out (by decide) 0 (.int .u8 (76 : Int))).setB (HBK'.out.set_ 0 _) (by decide) 1 (.slice A' P.length c')
          simpa [HPL.out] using this
    · have HT : Hid (toldL (op :: r) = none) := by
        have : r = [] := List.eq_nil_of_length_eq_zero (by simp at hbdl; omega)
        show _ = _
        rw [this]
        simp only [toldL]; rw [HX0.out, if_neg (by omega), if_pos rfl]
      have hs : m < hd := by omega
      have HN : Hid (nextL (op :: r) = none) := by show _ = _; simp only [nextL]; rw [HT.out]
      obtain ⟨fr, hfr⟩ : ∃ fr, fr = at_ + hd := ⟨_, rfl⟩
      have hw6 : IntKind.i64.wrap ((at_ : Int) + (hd : Int)) = (fr : Int) := by rw [IntKind.wrap_i64]; omega
      have hw9 : (n : Int) < (fr : Int) := by omega
      clear hs hfr hm HT hd1 hhd
      go_enter Tryz.func28, Tryz.ntmps28
      go_wp2_with fail
      rw [← hX]
      clear hX
      refine (HHD.out X).mono ?_
      rintro e w1 ⟨rfl, hw1⟩
      rw [hw1]
      clear hw1 w1
      go_wp2
      refine bodyPost_ret (results_cell3 rfl rfl (loadWord ((HBX.out.set_ 0 _).set_ 1 _))) rfl ?_
      rw [HE.out, HN.out]
      exact ⟨rfl, (hbw.setCell (Nat.le_refl _) _).setCell (Nat.le_refl _) _⟩
  have h2' : ((x0 : Int) == 76) = false := by rw [beq_eq_false_iff_ne]; omega
  by_cases h3 : x0 = 77
  · subst h3
    have hd1 : hd = 3 := hhd
    by_cases hm1 : 2 < m
    · obtain ⟨x, y, r2, hr⟩ : ∃ x y r2, r = x :: y :: r2 := by
        match r, hbdl with
        | [], hl => simp at hl; omega
        | [_], hl => simp at hl; omega
        | x :: y :: r2, _ => exact ⟨_, _, _, rfl⟩
      obtain ⟨x1, hx1⟩ : ∃ k : Nat, x.toNat = k := ⟨_, rfl⟩
      obtain ⟨x2, hx2⟩ : ∃ k : Nat, y.toNat = k := ⟨_, rfl⟩
      have e1 : w.cell? ⟨b0, o0 + (at_ + 1), none⟩ = some (.int .u8 (x1 : Int)) := by
        obtain ⟨_, _, e, _, hk⟩ := HR.out.plain (by omega)
        cases e
        have := hk 1 (by omega)
        rw [show o0 + (at_ + 1) = o0 + at_ + 1 by omega, ← hx1]
        simp only [hr] at this
        exact this
      have eX1 : X.cell? ⟨b0, o0 + (at_ + 1), none⟩ = some (.int .u8 (x1 : Int)) := (hbw.cell (p := ⟨b0, o0 + (at_ + 1), none⟩) hb0).trans e1
      have e2 : w.cell? ⟨b0, o0 + (at_ + 2), none⟩ = some (.int .u8 (x2 : Int)) := by
        obtain ⟨_, _, e, _, hk⟩ := HR.out.plain (by omega)
        cases e
        have := hk 2 (by omega)
        rw [show o0 + (at_ + 2) = o0 + at_ + 2 by omega, ← hx2]
        simp only [hr] at this
        exact this
      have eX2 : X.cell? ⟨b0, o0 + (at_ + 2), none⟩ = some (.int .u8 (x2 : Int)) := (hbw.cell (p := ⟨b0, o0 + (at_ + 2), none⟩) hb0).trans e2
      have hk1 : x1 < 256 := by rw [← hx1]; exact UInt8.toNat_lt _
      have hk2 : x2 < 256 := by rw [← hx2]; exact UInt8.toNat_lt _
      obtain ⟨k, hkk⟩ : ∃ k, k = x1 + 256 * x2 := ⟨_, rfl⟩
      have hk : k ≤ 65535 := by omega
      have HT : Hid (toldL (op :: r) = some (k, hd)) := by show _ = _; rw [hr]; simp only [toldL]; rw [HX0.out, if_neg (by omega), if_neg (by omega), if_pos rfl, hx1, hx2, hd1, hkk]
      have hat1 : (at_ : Int) + 1 < (n : Int) := by omega
      have hat2 : (at_ : Int) + 2 < (n : Int) := by omega
      have hat3 : (0 : Int) ≤ (at_ : Int) + 1 := by omega
      have hat4 : (0 : Int) ≤ (at_ : Int) + 2 := by omega
      have hat5 : ((at_ : Int) + 1).toNat = at_ + 1 := by omega
      have hat6 : ((at_ : Int) + 2).toNat = at_ + 2 := by omega
      have hv1 : IntKind.i64.wrap ((at_ : Int) + 1) = (at_ : Int) + 1 := by rw [IntKind.wrap_i64]; omega
      have hv2 : IntKind.i64.wrap ((at_ : Int) + 2) = (at_ : Int) + 2 := by rw [IntKind.wrap_i64]; omega
      have hv3 : IntKind.i64.wrap (256 * (x2 : Int)) = 256 * (x2 : Int) := by rw [IntKind.wrap_i64]; omega
      have hv4 : IntKind.i64.wrap ((x1 : Int) + 256 * (x2 : Int)) = (k : Int) := by rw [IntKind.wrap_i64]; omega
      have hv5 : IntKind.i64.wrap (x1 : Int) = (x1 : Int) := by rw [IntKind.wrap_i64]; omega
      have hv6 : IntKind.i64.wrap (x2 : Int) = (x2 : Int) := by rw [IntKind.wrap_i64]; omega
      clear h1 hhd hx1 hx2 e1 e2 hm1 hr hkk h2
      obtain ⟨hh1, hh2, hh3, _⟩ := toldL_head (n := k) (h := hd) HT.out
      rw [hbdl] at hh2
      clear hd1
      obtain ⟨fr, hfr⟩ : ∃ fr, fr = at_ + hd := ⟨_, rfl⟩
      obtain ⟨fe, hfe⟩ : ∃ fe, fe = fr + k := ⟨_, rfl⟩
      have hw6 : IntKind.i64.wrap ((at_ : Int) + (hd : Int)) = (fr : Int) := by rw [IntKind.wrap_i64]; omega
      have hw7 : IntKind.i64.wrap ((fr : Int) + (k : Int)) = (fe : Int) := by rw [IntKind.wrap_i64]; omega
      have hw9 : ¬ (n : Int) < (fr : Int) := by omega
      by_cases hs : m - hd < k
      · have HN : Hid (nextL (op :: r) = none) := by show _ = _; simp only [nextL]; rw [HT.out]; simp only [hbdl, if_pos hs]
        have hs' : (n : Int) - (fr : Int) < (k : Int) := by omega
        clear hs hfr hfe hm HT
        go_enter Tryz.func28, Tryz.ntmps28
        go_wp2_with fail
        rw [← hX]
        clear hX
        refine (HHD.out X).mono ?_
        rintro e w1 ⟨rfl, hw1⟩
        rw [hw1]
        clear hw1 w1
        go_wp2_with fail
        go_quiet (fail)
        have HBXQ : Blk (X.drewN nq) w.heap.size 36 #[.int .u8 0, .slice none 0 0] := HBX.out
        have hbQ : Below w.heap.size w (X.drewN nq) := below_drewN hbw nq
        go_wp2
        refine bodyPost_ret (results_cell3 rfl rfl (loadWord ((HBXQ.set_ 0 _).set_ 1 _))) rfl ?_
        rw [HE.out, HN.out]
        exact ⟨rfl, (hbQ.setCell (Nat.le_refl _) _).setCell (Nat.le_refl _) _⟩
      · have HN : Hid (nextL (op :: r) = some ((op, ((op :: r).drop hd).take k), (op :: r).drop (hd + k))) := by show _ = _; simp only [nextL]; rw [HT.out]; simp only [hbdl, if_neg hs]
        have hs' : ¬ (n : Int) - (fr : Int) < (k : Int) := by omega
        have hw1 : (fr : Int) ≤ (fe : Int) := by omega
        have hw2 : (fe : Int) ≤ (c : Int) := by omega
        have hw3 : fe - fr = k := by omega
        have hkm : k ≤ 65535 := hk
        obtain ⟨P, hP⟩ : ∃ P, P = ((op :: r).drop hd).take k := ⟨_, rfl⟩
        have hPl : P.length = k := by rw [hP, List.length_take, List.length_drop, hbdl]; omega
        have HPP : Hid (nextL (op :: r) = some ((op, P), (op :: r).drop (hd + k))) := by show _ = _; rw [HN.out, hP]
        have HNUM : Hid ((fe : Int) = ((n - ((op :: r).drop (hd + k)).length : Nat) : Int)) := by show _ = _; rw [List.length_drop, hbdl]; omega
        have H77 : Hid ((77 : Int) = (op.toNat : Int)) := by show _ = _; have := HX0.out; omega
        obtain ⟨g1, hg1⟩ : ∃ g1, g1 = X.heap.size := ⟨_, rfl⟩
        have HG1 := Lib.hid hg1
        have hXs : X.heap.size = w.heap.size + 1 := by rw [hX]; simp
        have HXS := Lib.hid hXs
        have HPL := Lib.hid hPl
        by_cases hcf : c = fr
        · have hcfI : (c : Int) = (fr : Int) := by omega
          have hk0 : k = 0 := by omega
          have HSRC : Hid (∀ w', Below w.heap.size w w' → RdB w' w.heap.size (some ⟨b0, o0, none⟩) k P) := fun w' hb' => by
            rw [hk0, List.eq_nil_of_length_eq_zero (l := P) (by rw [hPl, hk0])]
            exact RdB.zero _ _ _
          clear hs hfr hfe hm HT hP hPl hg1 hXs hk0 hcfI
          subst hcf
          go_enter Tryz.func28, Tryz.ntmps28
          go_wp2_with fail
          rw [← hX]
          clear hX
          refine (HHD.out X).mono ?_
          rintro e w1 ⟨rfl, hw1⟩
          rw [hw1]
          clear hw1 w1
          go_wp2_with fail
          go_quiet (fail)
          have HBXQ : Blk (X.drewN nq) w.heap.size 36 #[.int .u8 0, .slice none 0 0] := HBX.out
          have hbQ : Below w.heap.size w (X.drewN nq) := below_drewN hbw nq
          have HOWN := Lib.hid (World.ownsRow_lit (base := 0) (e := 5) (size := 1) (X.drewN nq) #[] 0 (Nat.zero_le _) (Nat.zero_le _) rfl)
          have hbA := hbQ.trans (((Below.refl (X.drewN nq).heap.size (X.drewN nq)).alloc (Nat.le_refl _) (.cells #[] 5)).mono hbQ.size)
          go_wp2_with (at_builtin; refine wpList_append_any ((X.drewN nq).alloc (.cells #[] 5)) rfl _ _ 22 rfl 0 5 i0 (.int .u8 0) 1 1 Tryz.underlying22 hi hz0 hz1 hz2 rfl (by decide) _ _ _ rfl HOWN.out w.heap.size (some ⟨b0, o0, none⟩) k (_) (Lib.byteCells P) rfl (HSRC.out _ hbA) (byteCells_one P) (by unfold maxLen; omega) (by omega) (Nat.zero_le _) ?_)
          intro v' w' hown' hg' _
          have hPv : PushAt w' v' P := by unfold PushAt; rw [HPL.out]; exact hown'
          obtain ⟨A', c', hv'⟩ := own_slice hown'
          subst hv'
          have HPV := Lib.hid hPv
          have hbX' : Below (X.drewN nq).heap.size (X.drewN nq) w' := ((Below.refl _ _).alloc (Nat.le_refl _) _).grown hg' (by simp) (fun k hk => by simp [Value.ownBlock] at hk; subst hk; exact Nat.le_refl _)
          have hblk' := HBXQ.below hbX' HBXQ.lt
          have hb0' := hbQ.trans (hbX'.mono hbQ.size)
          have hcc0 := hblk'.cell 0
          have hcc1 := hblk'.cell 1
          have hff0 := hblk'.frozen 0
          have hff1 := hblk'.frozen 1
          simp only [List.getElem?_toArray, List.getElem?_cons_zero, List.getElem?_cons_succ] at hcc0 hcc1
          have HBK' := Lib.hid hblk'
          clear hown' hPv hg' hbX' hblk'
          go_wp2
          refine bodyPost_ret (results_cell3 rfl rfl (loadWord ((HBK'.out.set_ 0 _).set_ 1 _))) rfl ?_
          rw [HE.out, HPP.out]
          refine nextEnd_some H77.out HNUM.out ?_ ((hb0'.setCell (Nat.le_refl _) _).setCell (Nat.le_refl _) _)
          rw [← HPL.out] at HPV
          have := (HPV.out.setB HBK'.out (by decide) 0 (.int .u8 (77 : Int))).setB (HBK'.out.set_ 0 _) (by decide) 1 (.slice A' P.length c')
          simpa [HPL.out] using this
        · have hcfI : ¬ (c : Int) = (fr : Int) := by omega
          have HSRC : Hid (∀ w', Below w.heap.size w w' → RdB w' w.heap.size (some ⟨b0, o0 + fr, none⟩) k P) := fun w' hb' => by
            have h1 := (HR.out.from_ (k := hd) (by omega)).take (k := k) (by omega)
            rw [← hP, show o0 + at_ + hd = o0 + fr by omega] at h1
            exact h1.below hb'
          clear hs hfr hfe hm HT hP hPl hg1 hXs
          go_enter Tryz.func28, Tryz.ntmps28
          go_wp2_with fail
          rw [← hX]
          clear hX
          refine (HHD.out X).mono ?_
          rintro e w1 ⟨rfl, hw1⟩
          rw [hw1]
          clear hw1 w1
          go_wp2_with fail
          go_quiet (fail)
          have HBXQ : Blk (X.drewN nq) w.heap.size 36 #[.int .u8 0, .slice none 0 0] := HBX.out
          have hbQ : Below w.heap.size w (X.drewN nq) := below_drewN hbw nq
          have HOWN := Lib.hid (World.ownsRow_lit (base := 0) (e := 5) (size := 1) (X.drewN nq) #[] 0 (Nat.zero_le _) (Nat.zero_le _) rfl)
          have hbA := hbQ.trans (((Below.refl (X.drewN nq).heap.size (X.drewN nq)).alloc (Nat.le_refl _) (.cells #[] 5)).mono hbQ.size)
          go_wp2_with (at_builtin; refine wpList_append_any ((X.drewN nq).alloc (.cells #[] 5)) rfl _ _ 22 rfl 0 5 i0 (.int .u8 0) 1 1 Tryz.underlying22 hi hz0 hz1 hz2 rfl (by decide) _ _ _ rfl HOWN.out w.heap.size (some ⟨b0, o0 + fr, none⟩) k (_) (Lib.byteCells P) rfl (HSRC.out _ hbA) (byteCells_one P) (by unfold maxLen; omega) (by omega) (Nat.zero_le _) ?_)
          intro v' w' hown' hg' _
          have hPv : PushAt w' v' P := by unfold PushAt; rw [HPL.out]; exact hown'
          obtain ⟨A', c', hv'⟩ := own_slice hown'
          subst hv'
          have HPV := Lib.hid hPv
          have hbX' : Below (X.drewN nq).heap.size (X.drewN nq) w' := ((Below.refl _ _).alloc (Nat.le_refl _) _).grown hg' (by simp) (fun k hk => by simp [Value.ownBlock] at hk; subst hk; exact Nat.le_refl _)
          have hblk' := HBXQ.below hbX' HBXQ.lt
          have hb0' := hbQ.trans (hbX'.mono hbQ.size)
          have hcc0 := hblk'.cell 0
          have hcc1 := hblk'.cell 1
          have hff0 := hblk'.frozen 0
          have hff1 := hblk'.frozen 1
          simp only [List.getElem?_toArray, List.getElem?_cons_zero, List.getElem?_cons_succ] at hcc0 hcc1
          have HBK' := Lib.hid hblk'
          clear hown' hPv hg' hbX' hblk'
          go_wp2
          refine bodyPost_ret (results_cell3 rfl rfl (loadWord ((HBK'.out.set_ 0 _).set_ 1 _))) rfl ?_
          rw [HE.out, HPP.out]
          refine nextEnd_some H77.out HNUM.out ?_ ((hb0'.setCell (Nat.le_refl _) _).setCell (Nat.le_refl _) _)
          rw [← HPL.out] at HPV
          have := (HPV.out.setB HBK'.out (by decide) 0 (.int .u8 (77 : Int))).setB (HBK'.out.set_ 0 _) (by decide) 1 (.slice A' P.length c')
          simpa [HPL.out] using this
    · have HT : Hid (toldL (op :: r) = none) := by
        show _ = _
        simp only [toldL]; rw [HX0.out, if_neg (by omega), if_neg (by omega), if_pos rfl]
        match r, hbdl with
        | [], _ => rfl
        | [_], _ => rfl
        | x :: y :: r2, hl => simp at hl; omega
      clear h2
      have hs : m < hd := by omega
      have HN : Hid (nextL (op :: r) = none) := by show _ = _; simp only [nextL]; rw [HT.out]
      obtain ⟨fr, hfr⟩ : ∃ fr, fr = at_ + hd := ⟨_, rfl⟩
      have hw6 : IntKind.i64.wrap ((at_ : Int) + (hd : Int)) = (fr : Int) := by rw [IntKind.wrap_i64]; omega
      have hw9 : (n : Int) < (fr : Int) := by omega
      clear hs hfr hm HT hd1 hhd
      go_enter Tryz.func28, Tryz.ntmps28
      go_wp2_with fail
      rw [← hX]
      clear hX
      refine (HHD.out X).mono ?_
      rintro e w1 ⟨rfl, hw1⟩
      rw [hw1]
      clear hw1 w1
      go_wp2
      refine bodyPost_ret (results_cell3 rfl rfl (loadWord ((HBX.out.set_ 0 _).set_ 1 _))) rfl ?_
      rw [HE.out, HN.out]
      exact ⟨rfl, (hbw.setCell (Nat.le_refl _) _).setCell (Nat.le_refl _) _⟩
  have h3' : ((x0 : Int) == 77) = false := by rw [beq_eq_false_iff_ne]; omega
  have hk : 0 ≤ 65535 := by omega
  have hd1 : hd = 1 := by rw [hhd]; unfold headN; rw [if_neg h2, if_neg h3]
  have HT : Hid (toldL (op :: r) = some (0, hd)) := by show _ = _; simp only [toldL]; rw [HX0.out, if_neg h1, if_neg h2, if_neg h3, hd1]
  by_cases h00 : 1 ≤ x0
  · have h0a : (1 : Int) ≤ (x0 : Int) := by omega
    have h0b : ¬ (x0 : Int) ≤ 75 := by omega
    clear h1 h2 h3 hhd h00 h1a
    obtain ⟨hh1, hh2, hh3, _⟩ := toldL_head (n := 0) (h := hd) HT.out
    rw [hbdl] at hh2
    clear hd1
    obtain ⟨fr, hfr⟩ : ∃ fr, fr = at_ + hd := ⟨_, rfl⟩
    have hw6 : IntKind.i64.wrap ((at_ : Int) + (hd : Int)) = (fr : Int) := by rw [IntKind.wrap_i64]; omega
    have hw7 : IntKind.i64.wrap ((fr : Int) + (0 : Int)) = (fr : Int) := by rw [IntKind.wrap_i64]; omega
    have hw9 : ¬ (n : Int) < (fr : Int) := by omega
    by_cases hs : m - hd < 0
    · exact absurd hs (Nat.not_lt_zero _)
    · have HN : Hid (nextL (op :: r) = some ((op, ((op :: r).drop hd).take 0), (op :: r).drop (hd + 0))) := by show _ = _; simp only [nextL]; rw [HT.out]; simp only [hbdl, if_neg hs]
      have hs' : ¬ (n : Int) - (fr : Int) < (0 : Int) := by omega
      have hw1 : (fr : Int) ≤ (fr : Int) := by omega
      have hw2 : (fr : Int) ≤ (c : Int) := by omega
      have hw3 : fr - fr = 0 := by omega
      have hkm : 0 ≤ 65535 := hk
      obtain ⟨P, hP⟩ : ∃ P, P = ((op :: r).drop hd).take 0 := ⟨_, rfl⟩
      have hPl : P.length = 0 := by rw [hP, List.length_take, List.length_drop, hbdl]; omega
      have HPP : Hid (nextL (op :: r) = some ((op, P), (op :: r).drop (hd + 0))) := by show _ = _; rw [HN.out, hP]
      have HNUM : Hid ((fr : Int) = ((n - ((op :: r).drop (hd + 0)).length : Nat) : Int)) := by show _ = _; rw [List.length_drop, hbdl]; omega
      have Hx0 : Hid ((x0 : Int) = (op.toNat : Int)) := by show _ = _; have := HX0.out; omega
      obtain ⟨g1, hg1⟩ : ∃ g1, g1 = X.heap.size := ⟨_, rfl⟩
      have HG1 := Lib.hid hg1
      have hXs : X.heap.size = w.heap.size + 1 := by rw [hX]; simp
      have HXS := Lib.hid hXs
      have HPL := Lib.hid hPl
      by_cases hcf : c = fr
      · have hcfI : (c : Int) = (fr : Int) := by omega
        have hk0 : 0 = 0 := by omega
        have HSRC : Hid (∀ w', Below w.heap.size w w' → RdB w' w.heap.size (some ⟨b0, o0, none⟩) 0 P) := fun w' hb' => by
          rw [hk0, List.eq_nil_of_length_eq_zero (l := P) (by rw [hPl, hk0])]
          exact RdB.zero _ _ _
        clear hs hfr hm HT hP hPl hg1 hXs hk0 hcfI
        subst hcf
        go_enter Tryz.func28, Tryz.ntmps28
        go_wp2_with fail
        rw [← hX]
        clear hX
        refine (HHD.out X).mono ?_
        rintro e w1 ⟨rfl, hw1⟩
        rw [hw1]
        clear hw1 w1
        have HBXQ : Blk (X) w.heap.size 36 #[.int .u8 0, .slice none 0 0] := HBX.out
        have hbQ : Below w.heap.size w (X) := hbw
        have HOWN := Lib.hid (World.ownsRow_lit (base := 0) (e := 5) (size := 1) (X) #[] 0 (Nat.zero_le _) (Nat.zero_le _) rfl)
        have hbA := hbQ.trans (((Below.refl (X).heap.size (X)).alloc (Nat.le_refl _) (.cells #[] 5)).mono hbQ.size)
        go_wp2_with (at_builtin; refine wpList_append_any ((X).alloc (.cells #[] 5)) rfl _ _ 22 rfl 0 5 i0 (.int .u8 0) 1 1 Tryz.underlying22 hi hz0 hz1 hz2 rfl (by decide) _ _ _ rfl HOWN.out w.heap.size (some ⟨b0, o0, none⟩) 0 (_) (Lib.byteCells P) rfl (HSRC.out _ hbA) (byteCells_one P) (by unfold maxLen; omega) (by omega) (Nat.zero_le _) ?_)
        intro v' w' hown' hg' _
        have hPv : PushAt w' v' P := by unfold PushAt; rw [HPL.out]; exact hown'
        obtain ⟨A', c', hv'⟩ := own_slice hown'
        subst hv'
        have HPV := Lib.hid hPv
        have hbX' : Below (X).heap.size (X) w' := ((Below.refl _ _).alloc (Nat.le_refl _) _).grown hg' (by simp) (fun k hk => by simp [Value.ownBlock] at hk; subst hk; exact Nat.le_refl _)
        have hblk' := HBXQ.below hbX' HBXQ.lt
        have hb0' := hbQ.trans (hbX'.mono hbQ.size)
        have hcc0 := hblk'.cell 0
        have hcc1 := hblk'.cell 1
        have hff0 := hblk'.frozen 0
        have hff1 := hblk'.frozen 1
        simp only [List.getElem?_toArray, List.getElem?_cons_zero, List.getElem?_cons_succ] at hcc0 hcc1
        have HBK' := Lib.hid hblk'
        clear hown' hPv hg' hbX' hblk'
        go_wp2
        refine bodyPost_ret (results_cell3 rfl rfl (loadWord ((HBK'.out.set_ 0 _).set_ 1 _))) rfl ?_
        rw [HE.out, HPP.out]
        refine nextEnd_some Hx0.out HNUM.out ?_ ((hb0'.setCell (Nat.le_refl _) _).setCell (Nat.le_refl _) _)
        rw [← HPL.out] at HPV
        have := (HPV.out.setB HBK'.out (by decide) 0 (.int .u8 (x0 : Int))).setB (HBK'.out.set_ 0 _) (by decide) 1 (.slice A' P.length c')
        simpa [HPL.out] using this
      · have hcfI : ¬ (c : Int) = (fr : Int) := by omega
        have HSRC : Hid (∀ w', Below w.heap.size w w' → RdB w' w.heap.size (some ⟨b0, o0 + fr, none⟩) 0 P) := fun w' hb' => by
          have h1 := (HR.out.from_ (k := hd) (by omega)).take (k := 0) (by omega)
          rw [← hP, show o0 + at_ + hd = o0 + fr by omega] at h1
          exact h1.below hb'
        clear hs hfr hm HT hP hPl hg1 hXs
        go_enter Tryz.func28, Tryz.ntmps28
        go_wp2_with fail
        rw [← hX]
        clear hX
        refine (HHD.out X).mono ?_
        rintro e w1 ⟨rfl, hw1⟩
        rw [hw1]
        clear hw1 w1
        have HBXQ : Blk (X) w.heap.size 36 #[.int .u8 0, .slice none 0 0] := HBX.out
        have hbQ : Below w.heap.size w (X) := hbw
        have HOWN := Lib.hid (World.ownsRow_lit (base := 0) (e := 5) (size := 1) (X) #[] 0 (Nat.zero_le _) (Nat.zero_le _) rfl)
        have hbA := hbQ.trans (((Below.refl (X).heap.size (X)).alloc (Nat.le_refl _) (.cells #[] 5)).mono hbQ.size)
        go_wp2_with (at_builtin; refine wpList_append_any ((X).alloc (.cells #[] 5)) rfl _ _ 22 rfl 0 5 i0 (.int .u8 0) 1 1 Tryz.underlying22 hi hz0 hz1 hz2 rfl (by decide) _ _ _ rfl HOWN.out w.heap.size (some ⟨b0, o0 + fr, none⟩) 0 (_) (Lib.byteCells P) rfl (HSRC.out _ hbA) (byteCells_one P) (by unfold maxLen; omega) (by omega) (Nat.zero_le _) ?_)
        intro v' w' hown' hg' _
        have hPv : PushAt w' v' P := by unfold PushAt; rw [HPL.out]; exact hown'
        obtain ⟨A', c', hv'⟩ := own_slice hown'
        subst hv'
        have HPV := Lib.hid hPv
        have hbX' : Below (X).heap.size (X) w' := ((Below.refl _ _).alloc (Nat.le_refl _) _).grown hg' (by simp) (fun k hk => by simp [Value.ownBlock] at hk; subst hk; exact Nat.le_refl _)
        have hblk' := HBXQ.below hbX' HBXQ.lt
        have hb0' := hbQ.trans (hbX'.mono hbQ.size)
        have hcc0 := hblk'.cell 0
        have hcc1 := hblk'.cell 1
        have hff0 := hblk'.frozen 0
        have hff1 := hblk'.frozen 1
        simp only [List.getElem?_toArray, List.getElem?_cons_zero, List.getElem?_cons_succ] at hcc0 hcc1
        have HBK' := Lib.hid hblk'
        clear hown' hPv hg' hbX' hblk'
        go_wp2
        refine bodyPost_ret (results_cell3 rfl rfl (loadWord ((HBK'.out.set_ 0 _).set_ 1 _))) rfl ?_
        rw [HE.out, HPP.out]
        refine nextEnd_some Hx0.out HNUM.out ?_ ((hb0'.setCell (Nat.le_refl _) _).setCell (Nat.le_refl _) _)
        rw [← HPL.out] at HPV
        have := (HPV.out.setB HBK'.out (by decide) 0 (.int .u8 (x0 : Int))).setB (HBK'.out.set_ 0 _) (by decide) 1 (.slice A' P.length c')
        simpa [HPL.out] using this
  · have h0a : ¬ (1 : Int) ≤ (x0 : Int) := by omega
    clear h1 h2 h3 hhd h00 h1a
    obtain ⟨hh1, hh2, hh3, _⟩ := toldL_head (n := 0) (h := hd) HT.out
    rw [hbdl] at hh2
    clear hd1
    obtain ⟨fr, hfr⟩ : ∃ fr, fr = at_ + hd := ⟨_, rfl⟩
    have hw6 : IntKind.i64.wrap ((at_ : Int) + (hd : Int)) = (fr : Int) := by rw [IntKind.wrap_i64]; omega
    have hw7 : IntKind.i64.wrap ((fr : Int) + (0 : Int)) = (fr : Int) := by rw [IntKind.wrap_i64]; omega
    have hw9 : ¬ (n : Int) < (fr : Int) := by omega
    by_cases hs : m - hd < 0
    · exact absurd hs (Nat.not_lt_zero _)
    · have HN : Hid (nextL (op :: r) = some ((op, ((op :: r).drop hd).take 0), (op :: r).drop (hd + 0))) := by show _ = _; simp only [nextL]; rw [HT.out]; simp only [hbdl, if_neg hs]
      have hs' : ¬ (n : Int) - (fr : Int) < (0 : Int) := by omega
      have hw1 : (fr : Int) ≤ (fr : Int) := by omega
      have hw2 : (fr : Int) ≤ (c : Int) := by omega
      have hw3 : fr - fr = 0 := by omega
      have hkm : 0 ≤ 65535 := hk
      obtain ⟨P, hP⟩ : ∃ P, P = ((op :: r).drop hd).take 0 := ⟨_, rfl⟩
      have hPl : P.length = 0 := by rw [hP, List.length_take, List.length_drop, hbdl]; omega
      have HPP : Hid (nextL (op :: r) = some ((op, P), (op :: r).drop (hd + 0))) := by show _ = _; rw [HN.out, hP]
      have HNUM : Hid ((fr : Int) = ((n - ((op :: r).drop (hd + 0)).length : Nat) : Int)) := by show _ = _; rw [List.length_drop, hbdl]; omega
      have Hx0 : Hid ((x0 : Int) = (op.toNat : Int)) := by show _ = _; have := HX0.out; omega
      obtain ⟨g1, hg1⟩ : ∃ g1, g1 = X.heap.size := ⟨_, rfl⟩
      have HG1 := Lib.hid hg1
      have hXs : X.heap.size = w.heap.size + 1 := by rw [hX]; simp
      have HXS := Lib.hid hXs
      have HPL := Lib.hid hPl
      by_cases hcf : c = fr
      · have hcfI : (c : Int) = (fr : Int) := by omega
        have hk0 : 0 = 0 := by omega
        have HSRC : Hid (∀ w', Below w.heap.size w w' → RdB w' w.heap.size (some ⟨b0, o0, none⟩) 0 P) := fun w' hb' => by
          rw [hk0, List.eq_nil_of_length_eq_zero (l := P) (by rw [hPl, hk0])]
          exact RdB.zero _ _ _
        clear hs hfr hm HT hP hPl hg1 hXs hk0 hcfI
        subst hcf
        go_enter Tryz.func28, Tryz.ntmps28
        go_wp2_with fail
        rw [← hX]
        clear hX
        refine (HHD.out X).mono ?_
        rintro e w1 ⟨rfl, hw1⟩
        rw [hw1]
        clear hw1 w1
        have HBXQ : Blk (X) w.heap.size 36 #[.int .u8 0, .slice none 0 0] := HBX.out
        have hbQ : Below w.heap.size w (X) := hbw
        have HOWN := Lib.hid (World.ownsRow_lit (base := 0) (e := 5) (size := 1) (X) #[] 0 (Nat.zero_le _) (Nat.zero_le _) rfl)
        have hbA := hbQ.trans (((Below.refl (X).heap.size (X)).alloc (Nat.le_refl _) (.cells #[] 5)).mono hbQ.size)
        go_wp2_with (at_builtin; refine wpList_append_any ((X).alloc (.cells #[] 5)) rfl _ _ 22 rfl 0 5 i0 (.int .u8 0) 1 1 Tryz.underlying22 hi hz0 hz1 hz2 rfl (by decide) _ _ _ rfl HOWN.out w.heap.size (some ⟨b0, o0, none⟩) 0 (_) (Lib.byteCells P) rfl (HSRC.out _ hbA) (byteCells_one P) (by unfold maxLen; omega) (by omega) (Nat.zero_le _) ?_)
        intro v' w' hown' hg' _
        have hPv : PushAt w' v' P := by unfold PushAt; rw [HPL.out]; exact hown'
        obtain ⟨A', c', hv'⟩ := own_slice hown'
        subst hv'
        have HPV := Lib.hid hPv
        have hbX' : Below (X).heap.size (X) w' := ((Below.refl _ _).alloc (Nat.le_refl _) _).grown hg' (by simp) (fun k hk => by simp [Value.ownBlock] at hk; subst hk; exact Nat.le_refl _)
        have hblk' := HBXQ.below hbX' HBXQ.lt
        have hb0' := hbQ.trans (hbX'.mono hbQ.size)
        have hcc0 := hblk'.cell 0
        have hcc1 := hblk'.cell 1
        have hff0 := hblk'.frozen 0
        have hff1 := hblk'.frozen 1
        simp only [List.getElem?_toArray, List.getElem?_cons_zero, List.getElem?_cons_succ] at hcc0 hcc1
        have HBK' := Lib.hid hblk'
        clear hown' hPv hg' hbX' hblk'
        go_wp2
        refine bodyPost_ret (results_cell3 rfl rfl (loadWord ((HBK'.out.set_ 0 _).set_ 1 _))) rfl ?_
        rw [HE.out, HPP.out]
        refine nextEnd_some Hx0.out HNUM.out ?_ ((hb0'.setCell (Nat.le_refl _) _).setCell (Nat.le_refl _) _)
        rw [← HPL.out] at HPV
        have := (HPV.out.setB HBK'.out (by decide) 0 (.int .u8 (x0 : Int))).setB (HBK'.out.set_ 0 _) (by decide) 1 (.slice A' P.length c')
        simpa [HPL.out] using this
      · have hcfI : ¬ (c : Int) = (fr : Int) := by omega
        have HSRC : Hid (∀ w', Below w.heap.size w w' → RdB w' w.heap.size (some ⟨b0, o0 + fr, none⟩) 0 P) := fun w' hb' => by
          have h1 := (HR.out.from_ (k := hd) (by omega)).take (k := 0) (by omega)
          rw [← hP, show o0 + at_ + hd = o0 + fr by omega] at h1
          exact h1.below hb'
        clear hs hfr hm HT hP hPl hg1 hXs
        go_enter Tryz.func28, Tryz.ntmps28
        go_wp2_with fail
        rw [← hX]
        clear hX
        refine (HHD.out X).mono ?_
        rintro e w1 ⟨rfl, hw1⟩
        rw [hw1]
        clear hw1 w1
        have HBXQ : Blk (X) w.heap.size 36 #[.int .u8 0, .slice none 0 0] := HBX.out
        have hbQ : Below w.heap.size w (X) := hbw
        have HOWN := Lib.hid (World.ownsRow_lit (base := 0) (e := 5) (size := 1) (X) #[] 0 (Nat.zero_le _) (Nat.zero_le _) rfl)
        have hbA := hbQ.trans (((Below.refl (X).heap.size (X)).alloc (Nat.le_refl _) (.cells #[] 5)).mono hbQ.size)
        go_wp2_with (at_builtin; refine wpList_append_any ((X).alloc (.cells #[] 5)) rfl _ _ 22 rfl 0 5 i0 (.int .u8 0) 1 1 Tryz.underlying22 hi hz0 hz1 hz2 rfl (by decide) _ _ _ rfl HOWN.out w.heap.size (some ⟨b0, o0 + fr, none⟩) 0 (_) (Lib.byteCells P) rfl (HSRC.out _ hbA) (byteCells_one P) (by unfold maxLen; omega) (by omega) (Nat.zero_le _) ?_)
        intro v' w' hown' hg' _
        have hPv : PushAt w' v' P := by unfold PushAt; rw [HPL.out]; exact hown'
        obtain ⟨A', c', hv'⟩ := own_slice hown'
        subst hv'
        have HPV := Lib.hid hPv
        have hbX' : Below (X).heap.size (X) w' := ((Below.refl _ _).alloc (Nat.le_refl _) _).grown hg' (by simp) (fun k hk => by simp [Value.ownBlock] at hk; subst hk; exact Nat.le_refl _)
        have hblk' := HBXQ.below hbX' HBXQ.lt
        have hb0' := hbQ.trans (hbX'.mono hbQ.size)
        have hcc0 := hblk'.cell 0
        have hcc1 := hblk'.cell 1
        have hff0 := hblk'.frozen 0
        have hff1 := hblk'.frozen 1
        simp only [List.getElem?_toArray, List.getElem?_cons_zero, List.getElem?_cons_succ] at hcc0 hcc1
        have HBK' := Lib.hid hblk'
        clear hown' hPv hg' hbX' hblk'
        go_wp2
        refine bodyPost_ret (results_cell3 rfl rfl (loadWord ((HBK'.out.set_ 0 _).set_ 1 _))) rfl ?_
        rw [HE.out, HPP.out]
        refine nextEnd_some Hx0.out HNUM.out ?_ ((hb0'.setCell (Nat.le_refl _) _).setCell (Nat.le_refl _) _)
        rw [← HPL.out] at HPV
        have := (HPV.out.setB HBK'.out (by decide) 0 (.int .u8 (x0 : Int))).setB (HBK'.out.set_ 0 _) (by decide) 1 (.slice A' P.length c')
        simpa [HPL.out] using this

end Go.Proofs.YtggadilgkcjbjaaGreatDoor
