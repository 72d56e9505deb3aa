/-
  The walk over All of words.
-/
import Derived.Test.YtggadilgkcjbjaaGreatDoorWordNext
set_option linter.unusedVariables false
namespace Go.Proofs.YtggadilgkcjbjaaGreatDoor
open Go.RowKit

/-- Cells that hold words, two each. -/
def WordsAt (w : World) : List Value → List Wd → Prop
  | [], [] => True
  | v1 :: v2 :: xs, x :: ws => v1 = .int .u8 (x.1.toNat : Int) ∧ PushAt w v2 x.2 ∧ WordsAt w xs ws
  | _, _ => False
theorem WordsAt.keep {w w' : World} (hk : ∀ v bs, PushAt w v bs → PushAt w' v bs) : ∀ {xs : List Value} {ws : List Wd}, WordsAt w xs ws → WordsAt w' xs ws
  | [], [], _ => trivial
  | v1 :: v2 :: xs, x :: ws, h => ⟨h.1, hk _ _ h.2.1, WordsAt.keep hk h.2.2⟩
  | [], _ :: _, h => h.elim
  | [_], [], h => h.elim
  | [_], _ :: _, h => h.elim
  | _ :: _ :: _, [], h => h.elim
theorem WordsAt.below {w w' : World} {xs : List Value} {ws : List Wd} (h : WordsAt w xs ws) (hb : Below w.heap.size w w') : WordsAt w' xs ws := h.keep fun _ _ hp => hp.below hb
theorem WordsAt.snoc {w : World} {v : Value} {x : Wd} (hp : PushAt w v x.2) : ∀ {xs : List Value} {ws : List Wd}, WordsAt w xs ws → WordsAt w (xs ++ [.int .u8 (x.1.toNat : Int), v]) (ws ++ [x])
  | [], [], _ => ⟨rfl, hp, trivial⟩
  | v1 :: v2 :: xs, y :: ws, h => ⟨h.1, h.2.1, WordsAt.snoc hp h.2.2⟩
  | [], _ :: _, h => h.elim
  | [_], [], h => h.elim
  | [_], _ :: _, h => h.elim
  | _ :: _ :: _, [], h => h.elim
theorem WordsAt.length {w : World} : ∀ {xs : List Value} {ws : List Wd}, WordsAt w xs ws → xs.length = ws.length * 2
  | [], [], _ => rfl
  | v1 :: v2 :: xs, y :: ws, h => by
    have := WordsAt.length h.2.2
    simp only [List.length_cons]
    omega
  | [], _ :: _, h => h.elim
  | [_], [], h => h.elim
  | [_], _ :: _, h => h.elim
  | _ :: _ :: _, [], h => h.elim
theorem WordsAt.get {w : World} : ∀ {xs : List Value} {ws : List Wd} {k : Nat} {x : Wd}, WordsAt w xs ws → ws[k]? = some x → ∃ p, xs[k * 2]? = some (.int .u8 (x.1.toNat : Int)) ∧ xs[k * 2 + 1]? = some p ∧ PushAt w p x.2
  | [], [], k, x, _, h => by simp at h
  | v1 :: v2 :: xs, y :: ws, 0, x, h, hx => by
    simp only [List.getElem?_cons_zero, Option.some.injEq] at hx
    subst hx
    exact ⟨v2, by rw [h.1]; rfl, rfl, h.2.1⟩
  | v1 :: v2 :: xs, y :: ws, k + 1, x, h, hx => by
    obtain ⟨p, h1, h2, h3⟩ := WordsAt.get h.2.2 (k := k) (x := x) (by simpa using hx)
    refine ⟨p, ?_, ?_, h3⟩
    · rw [show (k + 1) * 2 = k * 2 + 1 + 1 by omega, List.getElem?_cons_succ, List.getElem?_cons_succ]
      exact h1
    · rw [show (k + 1) * 2 + 1 = k * 2 + 1 + 1 + 1 by omega, List.getElem?_cons_succ, List.getElem?_cons_succ]
      exact h2
  | [], _ :: _, _, _, h, _ => h.elim
  | [_], [], _, _, h, _ => h.elim
  | [_], _ :: _, _, _, h, _ => h.elim
  | _ :: _ :: _, [], _, _, h, _ => h.elim

/-- A slice of words of a row of its own. -/
def RowAt (w : World) (base : Nat) (v : Value) (ws : List Wd) : Prop := ∃ xs, w.ownsRow base 36 2 v ws.length xs ∧ WordsAt w xs ws
theorem RowAt.nil (w : World) (base : Nat) : RowAt w base (.slice none 0 0) [] := ⟨[], ⟨rfl, .inl ⟨rfl, rfl⟩⟩, trivial⟩

/-- What All answers. -/
def AllEnd (r : Option (List Wd)) (w : World) (e : Ending) (w' : World) : Prop :=
  (match r with
    | none => e = .returned (.tuple #[.slice none 0 0, .int .i64 2])
    | some ws => ∃ v, e = .returned (.tuple #[v, .int .i64 0]) ∧ RowAt w' w.heap.size v ws) ∧ Below w.heap.size w w'

theorem infoWord3 : (Tryz.prog.info? 36).map (fun i => (i.zero, i.size, i.bytes)) = some (some (.agg #[.int .u8 0, .slice none 0 0]), 2, 32) := by kernel_rfl

theorem nextL_drop {b r : List UInt8} {w : Wd} (h : nextL b = some (w, r)) : ∃ j, r = b.drop j ∧ 1 ≤ j ∧ j ≤ b.length := by
  cases b with
  | nil => cases h
  | cons op t =>
    simp only [nextL] at h
    cases ht : toldL (op :: t) with
    | none => rw [ht] at h; cases h
    | some x =>
      rw [ht] at h
      have := toldL_head (n := x.1) (h := x.2) ht
      simp only at h
      split at h
      · cases h
      · simp only [Option.some.injEq, Prod.mk.injEq] at h
        exact ⟨x.2 + x.1, h.2.symm, by omega, by omega⟩
theorem RowAt.below {w w' : World} {base : Nat} {v : Value} {ws : List Wd} (h : RowAt w base v ws) (hb : Below w.heap.size w w') : RowAt w' base v ws := by
  obtain ⟨xs, h1, h2⟩ := h
  exact ⟨xs, own_below h1 hb, h2.below hb⟩
theorem allEnd_none {r : Option (List Wd)} {w w' : World} (h : r = none) (hb : Below w.heap.size w w') : AllEnd r w (.returned (.tuple #[.slice none 0 0, .int .i64 2])) w' := by
  subst h; exact ⟨rfl, hb⟩
theorem allEnd_some {r : Option (List Wd)} {ws : List Wd} {v : Value} {w w' : World} (h : r = some ws) (hr : RowAt w' w.heap.size v ws) (hb : Below w.heap.size w w') : AllEnd r w (.returned (.tuple #[v, .int .i64 0])) w' := by
  subst h; exact ⟨⟨v, rfl, hr⟩, hb⟩
/-- A word is laid behind the others. -/
theorem row_more {w w' : World} {base : Nat} {v v' p : Value} {ws : List Wd} {x : Wd} {xs : List Value} (ho : w.ownsRow base 36 2 v ws.length xs) (hw : WordsAt w xs ws) (hp : PushAt w p x.2)
    (ho' : w'.ownsRow base 36 2 v' (ws.length + 1) (xs ++ [.int .u8 (x.1.toNat : Int), p])) (hg : w.grownBy w' v.ownBlock) : RowAt w' base v' (ws ++ [x]) := by
  have hk : ∀ u bs, PushAt w u bs → PushAt w' u bs := fun u bs h => h.grown ho (by decide) hg
  refine ⟨_, ?_, WordsAt.snoc (hk _ _ hp) (hw.keep hk)⟩
  rw [List.length_append, List.length_singleton]
  exact ho'

set_option maxRecDepth 100000 in
set_option maxHeartbeats 2000000 in
theorem all_any (A : Option Addr) (n c : Nat) (bs : List UInt8) (w : World) (h : RdB w w.heap.size A n bs) (hnc : n ≤ c) (hcm : c ≤ maxLen) (hn : n ≤ 1000000) :
    Calls Tryz.prog 10 #[.slice A n c] w (AllEnd (allL bs) w) := by
  obtain ⟨E, hE⟩ : ∃ E, E = AllEnd (allL bs) w := ⟨_, rfl⟩
  rw [← hE]
  have HE := Lib.hid hE
  have HL := Lib.hid h.len
  have H := Lib.hid h
  have HCM : Hid (c ≤ maxLen) := hcm
  clear hE h hcm
  obtain ⟨i0, hi, hz0, hz1, hz2⟩ := info_parts infoWord3
  go_enter Tryz.func10, Tryz.ntmps10
  go_wp2
  go_loopw [4, 5] (fun l a wr => ∃ (j : Nat) (ws : List Wd), a = .int .i64 j ∧ j ≤ n ∧ ws.length ≤ j ∧ Hid (RowAt wr w.heap.size l ws) ∧ Hid (allL bs = (allL (bs.drop j)).map (ws ++ ·)) ∧ Below w.heap.size w wr) (fun _ a _ => n - (intOf a).toNat)
  case atStart => exact ⟨0, [], rfl, Nat.zero_le _, Nat.le_refl _, RowAt.nil _ _, by show _ = _; rw [List.drop_zero]; cases allL bs <;> rfl, Below.refl _ _⟩
  case round =>
    obtain ⟨j, ws, rfl, hj, hwl, hrow, hall, hb⟩ := hrel
    by_cases hlt : j < n
    · go_wp2_with fail
      refine (next_any A n c j bs _ ((H.out.below hb).more hb.size) hnc HCM.out hlt hn).mono ?_
      intro e w1 h1
      have hdl : Hid ((bs.drop j).length = n - j) := by show _ = _; rw [List.length_drop, HL.out]
      cases hx : nextL (bs.drop j) with
      | none =>
        rw [hx] at h1
        obtain ⟨rfl, hb1⟩ := h1
        have HN : Hid (allL bs = none) := by
          show _ = _
          rw [hall.out, allL_bad (by intro e; have := hdl.out; rw [e] at this; simp at this; omega) hx]
          rfl
        have hb01 : Below w.heap.size w w1 := hb.trans (hb1.mono hb.size)
        clear hx
        go_wp2
        rw [HE.out]
        exact allEnd_none HN.out (hb01.alloc hb01.size _)
      | some x =>
        obtain ⟨x, r⟩ := x
        rw [hx] at h1
        obtain ⟨⟨v, rfl, p, rfl, hp⟩, hb1⟩ := h1
        obtain ⟨k, hr, hk1, hk2⟩ := nextL_drop hx
        have hb01 : Below w.heap.size w w1 := hb.trans (hb1.mono hb.size)
        have hnr : n - r.length = j + k := by rw [hr, List.length_drop, hdl.out]; have := hdl.out; omega
        have hjk : j + k ≤ n := by have := hdl.out; omega
        have HALL : Hid (allL bs = (allL (bs.drop (j + k))).map ((ws ++ [x]) ++ ·)) := by
          show _ = _
          rw [hall.out, allL_next hx, hr, List.drop_drop]
          cases allL (bs.drop (j + k)) with
          | none => rfl
          | some y => simp
        have HP := Lib.hid hp
        obtain ⟨A2, c2, e2⟩ := hp.slice
        subst e2
        rw [hnr]
        obtain ⟨xs, ho, hw⟩ := hrow.out.below hb1
        obtain ⟨X, hX⟩ : ∃ X, X = w1.alloc (.cells #[.int .u8 (x.1.toNat : Int), .slice A2 x.2.length c2] 36) := ⟨_, rfl⟩
        have hXs : X.heap.size = w1.heap.size + 1 := by rw [hX]; simp
        have hal : Below w1.heap.size w1 X := by rw [hX]; exact (Below.refl _ _).alloc (Nat.le_refl _) _
        have hal2 : Below w1.heap.size w1 (X.alloc (.cells #[.int .u8 (x.1.toNat : Int), .slice A2 x.2.length c2] 36)) := hal.alloc hal.size _
        have HO := Lib.hid (own_below ho hal2)
        have HW := Lib.hid (hw.below hal2)
        have HP2 := Lib.hid (hp.below hal2)
        have hba : Below w.heap.size w (X.alloc (.cells #[.int .u8 (x.1.toNat : Int), .slice A2 x.2.length c2] 36)) := hb01.trans (hal2.mono hb01.size)
        have HRD : Hid (Reads (X.alloc (.cells #[.int .u8 (x.1.toNat : Int), .slice A2 x.2.length c2] 36)) (w1.heap.size + 2) 2 (some ⟨w1.heap.size + 1, 0, none⟩) 1 [.int .u8 (x.1.toNat : Int), .slice A2 x.2.length c2]) := by
          have h0 := Reads.of_own (World.ownsRow_lit (base := 0) (e := 36) (size := 2) X #[.int .u8 (x.1.toNat : Int), .slice A2 x.2.length c2] 1 (Nat.zero_le _) (by unfold maxLen; omega) rfl)
          have e : (X.alloc (.cells #[.int .u8 (x.1.toNat : Int), .slice A2 x.2.length c2] 36)).heap.size = w1.heap.size + 2 := by simp [hXs]
          rw [e, hXs] at h0
          exact h0
        rw [hX] at HO HW HP2 hba HRD
        clear hp ho hw hx hr hk2 hrow hall hal hal2 hb1 hXs hX
        go_wp2_with (at_builtin; refine wpList_append_any ((w1.alloc (.cells #[.int .u8 (x.1.toNat : Int), .slice A2 x.2.length c2] 36)).alloc (.cells #[.int .u8 (x.1.toNat : Int), .slice A2 x.2.length c2] 36)) rfl _ _ 31 rfl w.heap.size 36 i0 (.agg #[.int .u8 0, .slice none 0 0]) 2 32 Tryz.underlying31 hi hz0 hz1 hz2 rfl (by decide) _ _ _ rfl HO.out (w1.heap.size + 2) (some ⟨w1.heap.size + 1, 0, none⟩) 1 1 [.int .u8 (x.1.toNat : Int), .slice A2 x.2.length c2] rfl HRD.out (by intro u hu; rcases List.mem_cons.1 hu with rfl | hu; rfl; rcases List.mem_cons.1 hu with rfl | hu; rfl; cases hu) (by unfold maxLen; omega) (by omega) hba.size ?_)
        intro v' w' hown' hg' _
        have hb' : Below w.heap.size w w' := hba.grown hg' hba.size (fun k hk => (HO.out.lt k hk).1)
        have HROW := Lib.hid (row_more HO.out HW.out HP2.out hown' hg')
        clear hown' hg' HO HW HP2 HRD hba hb01 hb
        go_wp2
        go_roundw
        case rel => exact ⟨j + k, ws ++ [x], by simp, hjk, by rw [List.length_append, List.length_singleton]; omega, HROW, HALL, hb'⟩
        case measure => simp [intOf]; omega
    · have HF : Hid (allL bs = some ws) := by
        show _ = _
        rw [hall.out, List.drop_eq_nil_of_le (by rw [HL.out]; omega)]
        simp [allL_nil]
      go_wp2
      rw [HE.out]
      exact allEnd_some HF.out hrow.out hb

end Go.Proofs.YtggadilgkcjbjaaGreatDoor
