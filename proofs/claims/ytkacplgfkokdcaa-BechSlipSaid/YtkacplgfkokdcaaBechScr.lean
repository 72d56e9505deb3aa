/-
  The walk over Script of bech.
-/
import Derived.Test.YtkacplgfkokdcaaBechAddrR
set_option linter.unusedVariables false
namespace Go.Proofs.Ytkacplgfkokdcaa
open Go.RowKit

/-- A version's byte. -/
def byteOf (v : Nat) : Nat := if v = 0 then 0 else v + 80
/-- The script of a text. -/
def scriptL (l : List UInt8) : Option (List UInt8) :=
  match decL l with
  | some (h, v :: d) => if h = [101, 110] ∧ v.toNat ≤ 16 then (match gatherL d with
      | some p => if 2 ≤ p.length ∧ p.length ≤ 40 then some (UInt8.ofNat (byteOf v.toNat) :: UInt8.ofNat p.length :: p) else none
      | none => none) else none
  | _ => none

theorem scriptL_none {l : List UInt8} (h : decL l = none) : scriptL l = none := by unfold scriptL; rw [h]
theorem scriptL_nil {l h : List UInt8} (hd : decL l = some (h, [])) : scriptL l = none := by unfold scriptL; rw [hd]
theorem scriptL_not {l h : List UInt8} {v : UInt8} {d : List UInt8} (hd : decL l = some (h, v :: d)) (hn : ¬ (h = [101, 110] ∧ v.toNat ≤ 16)) : scriptL l = none := by
  unfold scriptL; rw [hd]; simp only [if_neg hn]
theorem scriptL_head {l h d : List UInt8} (hd : decL l = some (h, d)) (hn : ¬ h = [101, 110]) : scriptL l = none := by
  cases d with
  | nil => exact scriptL_nil hd
  | cons v d => exact scriptL_not hd (fun x => hn x.1)
theorem scriptL_gather {l h : List UInt8} {v : UInt8} {d : List UInt8} (hd : decL l = some (h, v :: d)) (hn : h = [101, 110] ∧ v.toNat ≤ 16) (hg : gatherL d = none) : scriptL l = none := by
  unfold scriptL; rw [hd]; simp only [if_pos hn, hg]
theorem scriptL_long {l h : List UInt8} {v : UInt8} {d p : List UInt8} (hd : decL l = some (h, v :: d)) (hn : h = [101, 110] ∧ v.toNat ≤ 16) (hg : gatherL d = some p) (hp : ¬ (2 ≤ p.length ∧ p.length ≤ 40)) : scriptL l = none := by
  unfold scriptL; rw [hd]; simp only [if_pos hn, hg, if_neg hp]
theorem scriptL_some {l h : List UInt8} {v : UInt8} {d p : List UInt8} (hd : decL l = some (h, v :: d)) (hn : h = [101, 110] ∧ v.toNat ≤ 16) (hg : gatherL d = some p) (hp : 2 ≤ p.length ∧ p.length ≤ 40) : scriptL l = some (UInt8.ofNat (byteOf v.toNat) :: UInt8.ofNat p.length :: p) := by
  unfold scriptL; rw [hd]; simp only [if_pos hn, hg, if_pos hp]

theorem maybe_own {r : Option (List UInt8)} {w w' : World} {e : Ending} (h : MaybeEnd r w e w') {l : List UInt8} (hr : r = some l) : ∃ A c, e = .returned (.tuple #[.slice A l.length c, .int .i64 0]) ∧ RdB w' w'.heap.size A l.length l ∧ Below w.heap.size w w' := by
  subst hr
  obtain ⟨hb, A, c, he, ho⟩ := h
  exact ⟨A, c, he, RdB.of_own ho, hb⟩
theorem byte_cells {v k : Nat} {y : Int} (hy : y = (byteOf v : Nat)) (hv : v ≤ 16) (hk : k ≤ 40) (l : List UInt8) : Value.int .u8 y :: Value.int .u8 (k : Int) :: Lib.byteCells l = Lib.byteCells (UInt8.ofNat (byteOf v) :: UInt8.ofNat k :: l) := by
  show _ = Value.int .u8 ((UInt8.ofNat (byteOf v)).toNat : Int) :: Value.int .u8 ((UInt8.ofNat k).toNat : Int) :: Lib.byteCells l
  have : byteOf v ≤ 96 := by unfold byteOf; split <;> omega
  rw [UInt8.toNat_ofNat', Nat.mod_eq_of_lt (by omega), UInt8.toNat_ofNat', Nat.mod_eq_of_lt (by omega), hy]

theorem decL_len {l h d : List UInt8} (hd : decL l = some (h, d)) : d.length ≤ l.length := by
  unfold decL at hd
  cases hl : lastOne l with
  | none => rw [hl] at hd; cases hd
  | some x =>
    rw [hl] at hd
    obtain ⟨e, _⟩ := lastOne_some hl
    simp only at hd
    split at hd
    · unfold tailR at hd
      cases hn : numsOf (x.2.take (x.2.length - 6)) with
      | none => rw [hn] at hd; cases hd
      | some y =>
        rw [hn] at hd
        simp only at hd
        split at hd
        · simp only [Option.map_some, Option.some.injEq, Prod.mk.injEq] at hd
          have := (numsOf_some hn).2.1
          rw [← hd.2, this, e]
          simp
          omega
        · cases hd
    · cases hd

set_option maxHeartbeats 1000000 in
theorem script_any (s : ByteArray) (w : World) (hs : s.size ≤ 1000000) :
    Calls Try.prog 23 #[.string s] w (MaybeEnd (scriptL s.data.toList) w) := by
  obtain ⟨E, hE⟩ : ∃ E, E = MaybeEnd (scriptL s.data.toList) w := ⟨_, rfl⟩
  rw [← hE]
  have HE := Lib.hid hE
  clear hE
  cases hd : decL s.data.toList with
  | none =>
    have HD := Lib.hid hd
    clear hd
    go_enter Try.func23, Try.ntmps23
    go_wp2_with fail
    refine (decode_any s _ hs).mono ?_
    intro e w1 h1
    obtain ⟨rfl, hb1⟩ := decEnd_is_none h1 HD.out
    clear h1
    go_wp2
    rw [HE.out]
    exact maybe_none (scriptL_none HD.out) hb1
  | some x =>
    obtain ⟨h, d⟩ := x
    have HD := Lib.hid hd
    clear hd
    go_enter Try.func23, Try.ntmps23
    go_wp2_with fail
    refine (decode_any s _ hs).mono ?_
    intro e w1 h1
    obtain ⟨A1, c1, rfl, hc1, hm1, hr1, hb1⟩ := decEnd_is_some h1 HD.out
    clear h1
    obtain ⟨H, hH⟩ : ∃ H : ByteArray, H = ⟨h.toArray⟩ := ⟨_, rfl⟩
    rw [← hH]
    by_cases hen : h = [101, 110]
    · have hH2 : H = ⟨#[101, 110]⟩ := by rw [hH, hen]
      subst hH2
      clear hH
      rcases d with _ | ⟨v, d⟩
      · have HN := Lib.hid (scriptL_nil HD.out)
        go_wp2
        rw [HE.out]
        exact maybe_none HN.out hb1
      · obtain ⟨n, hn⟩ : ∃ n, n = (v :: d).length := ⟨_, rfl⟩
        rw [← hn] at hr1 hc1 ⊢
        have hn1 : 0 < n := by rw [hn]; simp
        have hn0 : ¬ (n : Int) = 0 := by omega
        have hn0b : ((n : Int) == 0) = false := by rw [beq_eq_false_iff_ne]; omega
        obtain ⟨b, o, rfl, hbl, hcs⟩ := hr1.plain hn1
        obtain ⟨x, hx⟩ : ∃ x : Nat, v.toNat = x := ⟨_, rfl⟩
        have hcell : w1.cell? ⟨b, o, none⟩ = some (.int .u8 (x : Int)) := by have := hcs 0 hn1; rw [← hx]; exact this
        have HXX := Lib.hid hx
        have HR1 := Lib.hid hr1
        have HNN := Lib.hid hn
        clear hcs hx hr1 hn
        by_cases hx16 : 16 < x
        · have hx16' : (16 : Int) < x := by omega
          have HN := Lib.hid (scriptL_not HD.out (by rw [HXX.out]; omega))
          go_wp2
          rw [HE.out]
          exact maybe_none HN.out hb1
        · have hx16' : ¬ (16 : Int) < x := by omega
          have hnb : n ≤ 1000000 := by
            have := decL_len HD.out
            rw [← size_list, List.length_cons] at this
            have h2 := HNN.out
            rw [List.length_cons] at h2
            omega
          have HLT := Lib.hid hbl
          by_cases hn2 : n = 1
          · subst hn2
            have hde : d = [] := by have := HNN.out; rw [List.length_cons] at this; exact List.eq_nil_of_length_eq_zero (by omega)
            subst hde
            have HN := Lib.hid (scriptL_long HD.out ⟨hen, by rw [HXX.out]; omega⟩ (show gatherL [] = some [] by decide) (by simp))
            clear hen
            have hc1' : (1 : Int) ≤ c1 := by omega
            go_wp2_with fail
            all_goals
              refine (gather_any _ _ _ [] _ (RdB.zero _ _ _) (by omega)).mono ?_
              intro e w2 h2
              obtain ⟨A2, c2, rfl, hr2, hb2⟩ := maybe_own h2 (show gatherL [] = some [] by decide)
              have hb02 : Below w.heap.size w w2 := hb1.trans (hb2.mono hb1.size)
              clear h2
              go_wp2
              rw [HE.out]
              exact maybe_none HN.out hb02
          have hc11 : ¬ (c1 : Int) = 1 := by omega
          have HR2 : Hid (RdB w1 w1.heap.size (some ⟨b, o + 1, none⟩) (n - 1) d) := HR1.out.from_ (k := 1) (by omega)
          have hc1' : (1 : Int) ≤ c1 := by omega
          have hn1' : (1 : Int) ≤ n := by omega
          go_wp2_with fail
          refine (gather_any _ _ _ d _ HR2.out (by omega)).mono ?_
          intro e w2 h2
          cases hg : gatherL d with
          | none =>
            obtain ⟨rfl, hb2⟩ := maybeEnd_none h2 hg
            have HN := Lib.hid (scriptL_gather HD.out ⟨hen, by rw [HXX.out]; omega⟩ hg)
            have hb02 : Below w.heap.size w w2 := hb1.trans (hb2.mono hb1.size)
            clear h2 hg
            go_wp2
            rw [HE.out]
            exact maybe_none HN.out hb02
          | some p =>
            obtain ⟨A2, c2, rfl, hr2, hb2⟩ := maybe_own h2 hg
            have hb02 : Below w.heap.size w w2 := hb1.trans (hb2.mono hb1.size)
            have hcell2 : w2.cell? ⟨b, o, none⟩ = some (.int .u8 (x : Int)) := (hb2.cell (p := ⟨b, o, none⟩) HLT.out).trans hcell
            have HG := Lib.hid hg
            obtain ⟨m, hm⟩ : ∃ m, m = p.length := ⟨_, rfl⟩
            rw [← hm] at hr2 ⊢
            have HM := Lib.hid hm
            have HR3 := Lib.hid hr2
            clear h2 hg hm hr2 hcell HR1 HR2
            by_cases hp : 2 ≤ m ∧ m ≤ 40
            · have hp1 : ¬ (m : Int) < 2 := by omega
              have hp2 : ¬ (40 : Int) < (m : Int) := by omega
              have HF := Lib.hid (scriptL_some HD.out ⟨hen, by rw [HXX.out]; omega⟩ HG.out (by rw [← HM.out]; exact hp))
              obtain ⟨i0, hi, hz0, hz1, hz2⟩ := info_parts infoByte
              by_cases hx0 : x = 0
              · subst hx0
                have HOWN := Lib.hid (World.ownsRow_lit (base := w.heap.size) (e := 5) (size := 1) w2 #[.int .u8 0, .int .u8 (m : Int)] 2 hb02.size (by unfold maxLen; omega) rfl)
                have hb3 : Below w.heap.size w (w2.alloc (.cells #[.int .u8 0, .int .u8 (m : Int)] 5)) := hb02.alloc hb02.size _
                have HR4 : Hid (RdB (w2.alloc (.cells #[.int .u8 0, .int .u8 (m : Int)] 5)) w2.heap.size A2 m p) := HR3.out.below ((Below.refl w2.heap.size w2).alloc (Nat.le_refl _) _)
                go_wp2_with (at_builtin; refine wpList_append_any _ rfl _ _ 22 rfl w.heap.size 5 i0 (.int .u8 0) 1 1 Try.underlying22 hi hz0 hz1 hz2 rfl (by decide) _ _ _ rfl HOWN.out w2.heap.size A2 m c2 (Lib.byteCells p) rfl HR4.out (byteCells_one p) (by unfold maxLen; omega) (by omega) hb3.size ?_)
                intro v4 w4 hown4 hg4 _
                have hb14 : Below w.heap.size w w4 := hb3.grown hg4 hb3.size (fun k hk => (HOWN.out.lt k hk).1)
                obtain ⟨M, hM⟩ : ∃ M, M = 2 + m := ⟨_, rfl⟩
                rw [← hM] at hown4
                obtain ⟨A4, c4, rfl⟩ : ∃ A4 c4, v4 = .slice A4 M c4 := by
                  rcases hown4.2 with ⟨_, h0⟩ | ⟨g, cap, cur, hv, _⟩
                  · omega
                  · exact ⟨_, _, hv⟩
                rw [show Value.int .u8 0 :: Value.int .u8 (m : Int) :: Lib.byteCells p = Lib.byteCells (UInt8.ofNat (byteOf v.toNat) :: UInt8.ofNat p.length :: p) by rw [HXX.out, ← HM.out]; exact byte_cells (by rfl) (by omega) (by omega) _] at hown4
                have HO4 := Lib.hid hown4
                have HMM : Hid ((UInt8.ofNat (byteOf v.toNat) :: UInt8.ofNat p.length :: p).length = M) := by show _ = _; rw [List.length_cons, List.length_cons, ← HM.out, hM]; omega
                clear hown4 hg4 hM hi hz0 hz1 hz2
                go_wp2
                rw [HE.out]
                exact maybe_some HF.out HMM.out hb14 HO4.out
              · have hx0' : (0 : Int) < x := by omega
                have HOWN := Lib.hid (World.ownsRow_lit (base := w.heap.size) (e := 5) (size := 1) w2 #[.int .u8 ((x : Int) + 80), .int .u8 (m : Int)] 2 hb02.size (by unfold maxLen; omega) rfl)
                have hb3 : Below w.heap.size w (w2.alloc (.cells #[.int .u8 ((x : Int) + 80), .int .u8 (m : Int)] 5)) := hb02.alloc hb02.size _
                have HR4 : Hid (RdB (w2.alloc (.cells #[.int .u8 ((x : Int) + 80), .int .u8 (m : Int)] 5)) w2.heap.size A2 m p) := HR3.out.below ((Below.refl w2.heap.size w2).alloc (Nat.le_refl _) _)
                go_wp2_with (at_builtin; refine wpList_append_any _ rfl _ _ 22 rfl w.heap.size 5 i0 (.int .u8 0) 1 1 Try.underlying22 hi hz0 hz1 hz2 rfl (by decide) _ _ _ rfl HOWN.out w2.heap.size A2 m c2 (Lib.byteCells p) rfl HR4.out (byteCells_one p) (by unfold maxLen; omega) (by omega) hb3.size ?_)
                intro v4 w4 hown4 hg4 _
                have hb14 : Below w.heap.size w w4 := hb3.grown hg4 hb3.size (fun k hk => (HOWN.out.lt k hk).1)
                obtain ⟨M, hM⟩ : ∃ M, M = 2 + m := ⟨_, rfl⟩
                rw [← hM] at hown4
                obtain ⟨A4, c4, rfl⟩ : ∃ A4 c4, v4 = .slice A4 M c4 := by
                  rcases hown4.2 with ⟨_, h0⟩ | ⟨g, cap, cur, hv, _⟩
                  · omega
                  · exact ⟨_, _, hv⟩
                rw [show Value.int .u8 ((x : Int) + 80) :: Value.int .u8 (m : Int) :: Lib.byteCells p = Lib.byteCells (UInt8.ofNat (byteOf v.toNat) :: UInt8.ofNat p.length :: p) by rw [HXX.out, ← HM.out]; exact byte_cells (by unfold byteOf; rw [if_neg hx0]; omega) (by omega) (by omega) _] at hown4
                have HO4 := Lib.hid hown4
                have HMM : Hid ((UInt8.ofNat (byteOf v.toNat) :: UInt8.ofNat p.length :: p).length = M) := by show _ = _; rw [List.length_cons, List.length_cons, ← HM.out, hM]; omega
                clear hown4 hg4 hM hi hz0 hz1 hz2
                go_wp2
                rw [HE.out]
                exact maybe_some HF.out HMM.out hb14 HO4.out
            · have HN := Lib.hid (scriptL_long HD.out ⟨hen, by rw [HXX.out]; omega⟩ HG.out (by rw [← HM.out]; exact hp))
              by_cases hp1 : m < 2
              · have hp1' : (m : Int) < 2 := by omega
                go_wp2
                rw [HE.out]
                exact maybe_none HN.out hb02
              · have hp1' : ¬ (m : Int) < 2 := by omega
                have hp2 : (40 : Int) < (m : Int) := by omega
                go_wp2
                rw [HE.out]
                exact maybe_none HN.out hb02
    · have HN := Lib.hid (scriptL_head HD.out hen)
      have hne : ¬ H.toList = [101, 110] := by
        rw [toList_data]
        intro e
        rw [hH] at e
        exact hen e
      clear hH hen hr1
      go_wp2
      rw [HE.out]
      exact maybe_none HN.out hb1

end Go.Proofs.Ytkacplgfkokdcaa
