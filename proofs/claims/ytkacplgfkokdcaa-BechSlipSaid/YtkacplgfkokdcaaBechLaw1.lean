/-
  The walks over the live question of bech and over the law BechCheck: each returns true, and writes nothing that was there.
-/
import Derived.Test.YtkacplgfkokdcaaRefBits
set_option linter.unusedVariables false
namespace Go.Proofs.Ytkacplgfkokdcaa
open Go.RowKit

theorem sliceEnd_rd {l : List UInt8} {w w' : World} {e : Ending} (h : SliceEnd l w e w') : ∃ A c, e = .returned (.slice A l.length c) ∧ RdB w' w'.heap.size A l.length l ∧ Below w.heap.size w w' := by
  obtain ⟨A, c, he, ho, hb⟩ := h
  exact ⟨A, c, he, RdB.of_own ho, hb⟩
theorem maybeEnd_some {l : List UInt8} {r : Option (List UInt8)} {w w' : World} {e : Ending} (h : MaybeEnd r w e w') (hr : r = some l) : ∃ A c, e = .returned (.tuple #[.slice A l.length c, .int .i64 0]) ∧ RdB w' w'.heap.size A l.length l ∧ Below w.heap.size w w' := by
  subst hr
  obtain ⟨hb, A, c, he, ho⟩ := h
  exact ⟨A, c, he, RdB.of_own ho, hb⟩
theorem maybeEnd_none {r : Option (List UInt8)} {w w' : World} {e : Ending} (h : MaybeEnd r w e w') (hr : r = none) : e = .returned (.tuple #[.slice none 0 0, .int .i64 3]) ∧ Below w.heap.size w w' := by
  subst hr
  exact ⟨h.2, h.1⟩

/-- A slice literal of bytes. -/
theorem rdb_lit (w : World) (cs : Array Value) (bs : List UInt8) (n : Nat) (hn : cs.size = n) (hb : cs.toList = Lib.byteCells bs) (hm : n ≤ maxLen) : RdB (w.alloc (.cells cs 5)) (w.alloc (.cells cs 5)).heap.size (some ⟨w.heap.size, 0, none⟩) n bs := by
  have h := World.ownsRow_lit (base := w.heap.size) (e := 5) (size := 1) w cs n (Nat.le_refl _) hm (by simpa using hn)
  rw [hb] at h
  exact RdB.of_own h

theorem below_lit (w : World) (cs : Array Value) : Below w.heap.size w (w.alloc (.cells cs 5)) := (Below.refl _ _).alloc (Nat.le_refl _) _

set_option maxHeartbeats 1000000 in
theorem alive_any (w : World) : Calls Try.prog 10 #[] w fun e w' => e = .returned (.bool true) ∧ Below w.heap.size w w' := by
  have hs : spreadL [255] = [31, 28] := by decide
  have hg1 : gatherL [31, 28] = some [255] := by decide
  have hg2 : gatherL [31, 29] = none := by decide
  have HS := Lib.hid hs
  have HG1 := Lib.hid hg1
  have HG2 := Lib.hid hg2
  clear hs hg1 hg2
  go_enter Try.func10, Try.ntmps10
  go_wp2_with fail
  refine (spread_any _ _ _ [255] _ (rdb_lit w #[.int .u8 255] [255] 1 rfl rfl (by unfold maxLen; omega)) (by omega)).mono ?_
  intro e w1 h1
  rw [HS.out] at h1
  obtain ⟨A1, c1, rfl, hr1, hb1⟩ := sliceEnd_rd h1
  have hb01 : Below w.heap.size w w1 := (below_lit w _).trans (hb1.mono (by simp))
  have HR1 := Lib.hid hr1
  clear h1 hr1 hb1
  go_wp2_with fail
  refine (gather_any _ _ _ [31, 28] _ (rdb_lit w1 #[.int .u8 31, .int .u8 28] [31, 28] 2 rfl rfl (by unfold maxLen; omega)) (by omega)).mono ?_
  intro e w2 h2
  obtain ⟨A2, c2, rfl, hr2, hb2⟩ := maybeEnd_some h2 HG1.out
  have hb12 : Below w1.heap.size w1 w2 := (below_lit w1 _).trans (hb2.mono (by simp))
  have HR2 := Lib.hid hr2
  clear h2 hr2 hb2
  go_wp2_with fail
  refine (gather_any _ _ _ [31, 29] _ (rdb_lit w2 #[.int .u8 31, .int .u8 29] [31, 29] 2 rfl rfl (by unfold maxLen; omega)) (by omega)).mono ?_
  intro e w3 h3
  obtain ⟨rfl, hb3⟩ := maybeEnd_none h3 HG2.out
  have hb23 : Below w2.heap.size w2 w3 := (below_lit w2 _).trans (hb3.mono (by simp))
  clear h3 hb3
  obtain ⟨b1, o1, e1, _, k1⟩ := ((HR1.out.below hb12).below' hb23 hb12.size).plain (by decide)
  obtain ⟨b2, o2, e2, _, k2⟩ := (HR2.out.below hb23).plain (by decide)
  subst e1 e2
  have d0 : w3.cell? ⟨b1, o1, none⟩ = some (.int .u8 31) := k1 0 (by decide)
  have d1 : w3.cell? ⟨b1, o1 + 1, none⟩ = some (.int .u8 28) := k1 1 (by decide)
  have d2 : w3.cell? ⟨b2, o2, none⟩ = some (.int .u8 255) := k2 0 (by decide)
  clear k1 k2
  go_wp2_with fail
  refine (check_any none 0 0 [] _ (RdB.none_ _ _) (by omega)).mono ?_
  rintro e w4 ⟨rfl, hb4⟩
  go_wp2
  go_ret
  exact ⟨rfl, hb01.trans ((hb12.mono hb01.size).trans ((hb23.mono (Nat.le_trans hb01.size hb12.size)).trans (hb4.mono (Nat.le_trans hb01.size (Nat.le_trans hb12.size hb23.size)))))⟩

theorem byteCells_one (bs : List UInt8) : ∀ u ∈ Lib.byteCells bs, u.oneCell' = true := by
  intro u hu
  simp only [Lib.byteCells, List.mem_map] at hu
  obtain ⟨b, _, rfl⟩ := hu
  rfl

set_option maxHeartbeats 1000000 in
theorem lawCheck (A : Option Addr) (n c : Nat) (bs : List UInt8) (w : World) (h : RdB w w.heap.size A n bs) (hc : n ≤ maxLen) :
    Calls Try.prog 3 #[.slice A n c] w fun e w' => e = .returned (.bool true) ∧ Below w.heap.size w w' := by
  have H := Lib.hid h
  clear h
  by_cases hn : 200 < n
  · have hn' : (200 : Int) < (n : Int) := by omega
    go_enter Try.func3, Try.ntmps3
    go_wp2_with fail
    refine (alive_any _).mono ?_
    rintro e w1 ⟨rfl, hb1⟩
    go_wp2
    go_ret
    exact ⟨rfl, hb1⟩
  · have hn' : (n : Int) ≤ 200 := by omega
    obtain ⟨i0, hi, hz0, hz1, hz2⟩ := info_parts infoByte
    have HOWN := Lib.hid (World.ownsRow_lit (base := w.heap.size) (e := 5) (size := 1) w #[] 0 (Nat.le_refl _) (by unfold maxLen; omega) rfl)
    have hb0 : Below w.heap.size w (w.alloc (.cells #[] 5)) := (Below.refl _ _).alloc (Nat.le_refl _) _
    go_enter Try.func3, Try.ntmps3
    go_wp2_with (at_builtin; refine wpList_append_any (w.alloc (.cells #[] 5)) rfl _ _ 22 rfl w.heap.size 5 i0 (.int .u8 0) 1 1 Try.underlying22 hi hz0 hz1 hz2 rfl (by decide) _ _ _ rfl HOWN.out w.heap.size A n c (Lib.byteCells bs) rfl (H.out.below hb0) (byteCells_one bs) (by unfold maxLen; omega) (by omega) hb0.size ?_)
    intro v w1 hown hg _
    have hb1 : Below w.heap.size w w1 := hb0.grown hg hb0.size (fun k hk => by simp [Value.ownBlock] at hk; omega)
    obtain ⟨A', c', rfl⟩ : ∃ A' c', v = .slice A' n c' := by
      rcases hown.2 with ⟨hv, h0⟩ | ⟨g, cap, cur, hv, _⟩
      · subst h0; exact ⟨none, 0, hv⟩
      · exact ⟨_, _, hv⟩
    have HO := Lib.hid (RdB.of_own hown)
    clear hown hg hb0
    go_wp2_with fail
    refine (alive_any _).mono ?_
    rintro e w2 ⟨rfl, hb2⟩
    go_wp2_with fail
    refine (check_any _ _ _ bs _ ((HO.out.below hb2).more hb2.size) (by omega)).mono ?_
    rintro e w3 ⟨rfl, hb3⟩
    have hb23 : Below w1.heap.size w1 w3 := hb2.trans (hb3.mono hb2.size)
    go_wp2_with fail
    refine (refCheck_any _ _ _ bs _ ((H.out.below (hb1.trans (hb23.mono hb1.size))).more (Nat.le_trans hb1.size hb23.size)) (by omega)).mono ?_
    rintro e w4 ⟨rfl, hb4⟩
    have hb14 : Below w1.heap.size w1 w4 := hb23.trans (hb4.mono hb23.size)
    have hb04 : Below w.heap.size w w4 := hb1.trans (hb14.mono hb1.size)
    have hc1 := strOf (HO.out.below hb14) c'
    have hc2 := strOf (H.out.below hb04) c
    go_wp2
    go_ret
    exact ⟨rfl, hb04⟩

end Go.Proofs.Ytkacplgfkokdcaa
