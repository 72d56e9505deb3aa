/-
  The walk over the reference's Address.
-/
import Derived.Test.YtkacplgfkokdcaaBechAddr
set_option linter.unusedVariables false
namespace Go.Proofs.Ytkacplgfkokdcaa
open Go.RowKit

set_option maxHeartbeats 1000000 in
theorem refAddress_any (A : Option Addr) (n c : Nat) (bs : List UInt8) (w : World) (h : RdB w w.heap.size A n bs) (hc : n ≤ c) (hn : n ≤ 1000000) :
    Calls Try.prog 22 #[.slice A n c] w (EncEnd (addrL bs) w) := by
  obtain ⟨E, hE⟩ : ∃ E, E = EncEnd (addrL bs) w := ⟨_, rfl⟩
  rw [← hE]
  have HE := Lib.hid hE
  have hlen := h.len
  clear hE
  by_cases h4 : n < 4
  · have h4' : (n : Int) < 4 := by omega
    have HN := Lib.hid (addrL_short (bs := bs) (by omega))
    clear h
    go_enter Try.func22, Try.ntmps22
    go_wp2
    rw [HE.out]
    exact encEnd_none HN.out (Below.refl _ _)
  · have h4' : ¬ (n : Int) < 4 := by omega
    by_cases h42 : 42 < n
    · have h42' : (42 : Int) < (n : Int) := by omega
      have HN : Hid (addrL bs = none) := by
        show _ = _
        match bs, hlen with
        | v0 :: v1 :: p, hlen => exact addrL_not (by simp only [List.length_cons] at hlen; omega)
        | [], hlen => rfl
        | [_], hlen => rfl
      clear h
      go_enter Try.func22, Try.ntmps22
      go_wp2
      rw [HE.out]
      exact encEnd_none HN.out (Below.refl _ _)
    · have h42' : ¬ (42 : Int) < (n : Int) := by omega
      obtain ⟨v0, v1, p, rfl⟩ : ∃ v0 v1 p, bs = v0 :: v1 :: p := by
        match bs, hlen with
        | v0 :: v1 :: p, _ => exact ⟨_, _, _, rfl⟩
        | [], hlen => simp at hlen; omega
        | [_], hlen => simp at hlen; omega
      obtain ⟨b0, o0, rfl, hb0, hk0⟩ := h.plain (by omega)
      obtain ⟨x0, hx0⟩ : ∃ x0 : Nat, v0.toNat = x0 := ⟨_, rfl⟩
      obtain ⟨x1, hx1⟩ : ∃ x1 : Nat, v1.toNat = x1 := ⟨_, rfl⟩
      have d0 : w.cell? ⟨b0, o0, none⟩ = some (.int .u8 (x0 : Int)) := by have := hk0 0 (by omega); rw [← hx0]; exact this
      have d1 : w.cell? ⟨b0, o0 + 1, none⟩ = some (.int .u8 (x1 : Int)) := by have := hk0 1 (by omega); rw [← hx1]; exact this
      have hx0b : x0 < 256 := by rw [← hx0]; exact UInt8.toNat_lt _
      have hx1b : x1 < 256 := by rw [← hx1]; exact UInt8.toNat_lt _
      have hpl : Hid (p.length + 2 = n) := by show _ = _; simpa using hlen
      have H := Lib.hid h
      have HX0 := Lib.hid hx0
      have HX1 := Lib.hid hx1
      clear hk0 h hlen hx0 hx1
      by_cases h1 : x1 = n - 2
      · have h1' : (x1 : Int) = (n : Int) - 2 := by omega
        clear h1
        by_cases hz : x0 = 0
        · subst hz
          go_enter Try.func22, Try.ntmps22
          go_wp2_with fail
          have HOWN := Lib.hid (World.ownsRow_lit (base := w.heap.size) (e := 5) (size := 1) w #[.int .u8 0] 1 (Nat.le_refl _) (by unfold maxLen; omega) rfl)
          have hb0w : Below w.heap.size w (w.alloc (.cells #[.int .u8 0] 5)) := (Below.refl _ _).alloc (Nat.le_refl _) _
          have HP : Hid (RdB (w.alloc (.cells #[.int .u8 0] 5)) (w.alloc (.cells #[.int .u8 0] 5)).heap.size (some ⟨b0, o0 + 2, none⟩) (n - 2) p) := ((H.out.below hb0w).more hb0w.size).from_ (k := 2) (by omega)
          obtain ⟨i0, hi, hz0, hz1, hz2⟩ := info_parts infoByte
          have HLP : Hid (p.length ≤ 40) := by have := hpl.out; show _ ≤ _; omega
          refine (refSpread_any _ _ _ p _ HP.out (by omega)).mono ?_
          intro e w1 h1
          obtain ⟨A1, c1, rfl, hr1, hb1⟩ := sliceEnd_rd h1
          have hsl : (spreadL p).length ≤ 1000 := by rw [spreadL_length]; have := HLP.out; omega
          obtain ⟨N, hN⟩ : ∃ N, N = (spreadL p).length := ⟨_, rfl⟩
          rw [← hN] at hr1 hsl ⊢
          have HN := Lib.hid hN
          clear h1 HP hN
          have HO1 := Lib.hid (own_below HOWN.out hb1)
          have hb01 : Below w.heap.size w w1 := hb0w.trans (hb1.mono hb0w.size)
          have HR1 := Lib.hid hr1
          clear hr1 HOWN hb0w hb1
          go_wp2_with (at_builtin; refine wpList_append_any w1 rfl _ _ 22 rfl w.heap.size 5 i0 (.int .u8 0) 1 1 Try.underlying22 hi hz0 hz1 hz2 rfl (by decide) _ _ _ rfl HO1.out w1.heap.size A1 N c1 (Lib.byteCells (spreadL p)) rfl HR1.out (byteCells_one (spreadL p)) (by unfold maxLen; omega) (by omega) hb01.size ?_)
          intro v4 w4 hown4 hg4 _
          have hb14 : Below w.heap.size w w4 := hb01.grown hg4 hb01.size (fun k hk => (HO1.out.lt k hk).1)
          obtain ⟨M, hM⟩ : ∃ M, M = 1 + N := ⟨_, rfl⟩
          rw [← hM] at hown4
          obtain ⟨A4, c4, rfl⟩ : ∃ A4 c4, v4 = .slice A4 M c4 := by
            rcases hown4.2 with ⟨_, h0⟩ | ⟨g, cap, cur, hv, _⟩
            · omega
            · exact ⟨_, _, hv⟩
          rw [show Value.int .u8 0 :: Lib.byteCells (spreadL p) = Lib.byteCells (UInt8.ofNat (verOf v0.toNat) :: spreadL p) by rw [HX0.out]; rfl] at hown4
          have HR4 := Lib.hid (RdB.of_own hown4)
          have hM1 : M ≤ 2000 := by omega
          clear hown4 hg4 HO1 HR1 hb01 hM hi hz0 hz1 hz2
          go_wp2_with fail
          refine (refEncode_any _ _ _ _ _ _ HR4.out (by decide) (by omega)).mono ?_
          rw [← addrL_some (v0 := v0) (v1 := v1) (p := p) (by rw [HX0.out, HX1.out]; have := hpl.out; omega)]
          intro e w5 h5
          obtain ⟨rfl, hb5⟩ := encEnd_is h5
          clear h5
          have hb05 : Below w.heap.size w w5 := hb14.trans (hb5.mono hb14.size)
          go_wp2
          rw [HE.out]
          exact encEnd_mk hb05
        · have hz' : ¬ (x0 : Int) = 0 := by omega
          by_cases hv : 80 < x0 ∧ x0 ≤ 96
          · have hv1 : (80 : Int) < x0 := by omega
            have hv2 : (x0 : Int) ≤ 96 := by omega
            go_enter Try.func22, Try.ntmps22
            go_wp2_with fail
            have HOWN := Lib.hid (World.ownsRow_lit (base := w.heap.size) (e := 5) (size := 1) w #[.int .u8 ((x0 : Int) - 80)] 1 (Nat.le_refl _) (by unfold maxLen; omega) rfl)
            have hb0w : Below w.heap.size w (w.alloc (.cells #[.int .u8 ((x0 : Int) - 80)] 5)) := (Below.refl _ _).alloc (Nat.le_refl _) _
            have HP : Hid (RdB (w.alloc (.cells #[.int .u8 ((x0 : Int) - 80)] 5)) (w.alloc (.cells #[.int .u8 ((x0 : Int) - 80)] 5)).heap.size (some ⟨b0, o0 + 2, none⟩) (n - 2) p) := ((H.out.below hb0w).more hb0w.size).from_ (k := 2) (by omega)
            obtain ⟨i0, hi, hz0, hz1, hz2⟩ := info_parts infoByte
            have HLP : Hid (p.length ≤ 40) := by have := hpl.out; show _ ≤ _; omega
            refine (refSpread_any _ _ _ p _ HP.out (by omega)).mono ?_
            intro e w1 h1
            obtain ⟨A1, c1, rfl, hr1, hb1⟩ := sliceEnd_rd h1
            have hsl : (spreadL p).length ≤ 1000 := by rw [spreadL_length]; have := HLP.out; omega
            obtain ⟨N, hN⟩ : ∃ N, N = (spreadL p).length := ⟨_, rfl⟩
            rw [← hN] at hr1 hsl ⊢
            have HN := Lib.hid hN
            clear h1 HP hN
            have HO1 := Lib.hid (own_below HOWN.out hb1)
            have hb01 : Below w.heap.size w w1 := hb0w.trans (hb1.mono hb0w.size)
            have HR1 := Lib.hid hr1
            clear hr1 HOWN hb0w hb1
            go_wp2_with (at_builtin; refine wpList_append_any w1 rfl _ _ 22 rfl w.heap.size 5 i0 (.int .u8 0) 1 1 Try.underlying22 hi hz0 hz1 hz2 rfl (by decide) _ _ _ rfl HO1.out w1.heap.size A1 N c1 (Lib.byteCells (spreadL p)) rfl HR1.out (byteCells_one (spreadL p)) (by unfold maxLen; omega) (by omega) hb01.size ?_)
            intro v4 w4 hown4 hg4 _
            have hb14 : Below w.heap.size w w4 := hb01.grown hg4 hb01.size (fun k hk => (HO1.out.lt k hk).1)
            obtain ⟨M, hM⟩ : ∃ M, M = 1 + N := ⟨_, rfl⟩
            rw [← hM] at hown4
            obtain ⟨A4, c4, rfl⟩ : ∃ A4 c4, v4 = .slice A4 M c4 := by
              rcases hown4.2 with ⟨_, h0⟩ | ⟨g, cap, cur, hv, _⟩
              · omega
              · exact ⟨_, _, hv⟩
            rw [show Value.int .u8 ((x0 : Int) - 80) :: Lib.byteCells (spreadL p) = Lib.byteCells (UInt8.ofNat (verOf v0.toNat) :: spreadL p) by rw [HX0.out]; exact ver_cells (by omega) (by omega) _] at hown4
            have HR4 := Lib.hid (RdB.of_own hown4)
            have hM1 : M ≤ 2000 := by omega
            clear hown4 hg4 HO1 HR1 hb01 hM hi hz0 hz1 hz2
            go_wp2_with fail
            refine (refEncode_any _ _ _ _ _ _ HR4.out (by decide) (by omega)).mono ?_
            rw [← addrL_some (v0 := v0) (v1 := v1) (p := p) (by rw [HX0.out, HX1.out]; have := hpl.out; omega)]
            intro e w5 h5
            obtain ⟨rfl, hb5⟩ := encEnd_is h5
            clear h5
            have hb05 : Below w.heap.size w w5 := hb14.trans (hb5.mono hb14.size)
            go_wp2
            rw [HE.out]
            exact encEnd_mk hb05
          · have HN : Hid (addrL (v0 :: v1 :: p) = none) := addrL_not (by rw [HX0.out]; omega)
            have hv1 : ¬ ((80 : Int) < x0 ∧ (x0 : Int) ≤ 96) := by omega
            go_enter Try.func22, Try.ntmps22
            go_wp2
            all_goals
              rw [HE.out]
              exact encEnd_none HN.out (Below.refl _ _)
      · have h1' : ¬ (x1 : Int) = (n : Int) - 2 := by omega
        have HN : Hid (addrL (v0 :: v1 :: p) = none) := addrL_not (by rw [HX1.out]; have := hpl.out; omega)
        clear h1
        go_enter Try.func22, Try.ntmps22
        go_wp2
        rw [HE.out]
        exact encEnd_none HN.out (Below.refl _ _)

end Go.Proofs.Ytkacplgfkokdcaa
