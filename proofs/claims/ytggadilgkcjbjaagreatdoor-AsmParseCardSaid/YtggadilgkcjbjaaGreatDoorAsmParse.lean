/-
  The walk over Parse of asm.
-/
import Derived.Test.YtggadilgkcjbjaaGreatDoorAsmWord2
set_option linter.unusedVariables false
namespace Go.Proofs.YtggadilgkcjbjaaGreatDoor
open Go.RowKit Go.Sort

/-- How Parse ends. -/
def ParseEnd (r : Option (List UInt8)) (w : World) (e : Ending) (w' : World) : Prop :=
  (match r with
    | none => e = .returned (.tuple #[.slice none 0 0, .int .i64 8])
    | some l => ∃ v, e = .returned (.tuple #[v, .int .i64 0]) ∧ PushAt w' v l) ∧ Below w.heap.size w w'
theorem parseEnd_none {r : Option (List UInt8)} {w w' : World} (h : r = none) (hb : Below w.heap.size w w') : ParseEnd r w (.returned (.tuple #[.slice none 0 0, .int .i64 8])) w' := by
  subst h; exact ⟨rfl, hb⟩
theorem parseEnd_some {r : Option (List UInt8)} {l : List UInt8} {v : Value} {w w' : World} (h : r = some l) (hr : PushAt w' v l) (hb : Below w.heap.size w w') : ParseEnd r w (.returned (.tuple #[v, .int .i64 0])) w' := by
  subst h; exact ⟨⟨v, rfl, hr⟩, hb⟩

theorem splitw_any (s : ByteArray) (w : World) (hg : Gd w) (hs : s.size ≤ 1000000) : Calls Tryz.prog 15 #[.string s, .string ⟨#[32]⟩] w fun e w' =>
    ∃ n : Nat, n = (splitL s.data.toList).length ∧ e = .returned (.slice (some ⟨w.heap.size, 0, none⟩) n n) ∧ Below w.heap.size w w' ∧ w.heap.size < w'.heap.size ∧
      ∀ (j : Nat) p, (splitL s.data.toList)[j]? = some p → w'.cell? ⟨w.heap.size, j, none⟩ = some (.string ⟨p.toArray⟩) := by
  obtain ⟨m, hm⟩ := hg.max
  refine (Tryz.strings_Split s ⟨#[32]⟩ m w (by omega) hm (by decide)).mono ?_
  rintro e w' ⟨rfl, rfl⟩
  refine ⟨_, (split_len s).symm, rfl, (Below.refl _ _).alloc (Nat.le_refl _) _, by simp, fun j p hp => ?_⟩
  rw [← split_eq, List.getElem?_map] at hp
  obtain ⟨x, hx, rfl⟩ := Option.map_eq_some_iff.1 hp
  rw [World.cell?_alloc_at _ _ _ _ rfl, List.getElem?_toArray, List.getElem?_map, hx]
  rfl

theorem parts_take {l : List (List UInt8)} {j : Nat} {p : List UInt8} (h : l[j]? = some p) : (l.take (j + 1)).filter (· ≠ []) = (l.take j).filter (· ≠ []) ++ (if p = [] then [] else [p]) := by
  obtain ⟨hj, rfl⟩ := List.getElem?_eq_some_iff.1 h
  rw [List.take_succ_eq_append_getElem hj, List.filter_append]
  by_cases hp : l[j] = []
  · rw [if_pos hp]; simp [hp]
  · rw [if_neg hp]; simp [hp]
theorem mapM_snoc {f : List UInt8 → Option Wd} : ∀ (l : List (List UInt8)) (p : List UInt8), (l ++ [p]).mapM f = (l.mapM f).bind fun ws => (f p).map fun x => ws ++ [x]
  | [], p => by
    rw [List.nil_append, List.mapM_cons, List.mapM_nil]
    cases f p <;> rfl
  | a :: l, p => by
    rw [List.cons_append, List.mapM_cons, List.mapM_cons, mapM_snoc l p]
    cases f a with
    | none => rfl
    | some x =>
      cases l.mapM f with
      | none => rfl
      | some y => cases f p <;> rfl
theorem mapM_app_none {f : List UInt8 → Option Wd} : ∀ (l r : List (List UInt8)), l.mapM f = none → (l ++ r).mapM f = none
  | [], r, h => by cases h
  | a :: l, r, h => by
    rw [List.cons_append, List.mapM_cons]
    rw [List.mapM_cons] at h
    cases ha : f a with
    | none => rfl
    | some x =>
      rw [ha] at h
      cases hl : l.mapM f with
      | none => rw [mapM_app_none l r hl]; rfl
      | some y => rw [hl] at h; cases h

set_option maxRecDepth 100000 in
set_option maxHeartbeats 2000000 in
theorem parse_any (s : ByteArray) (w : World) (hg : Gd w) (hs : s.size ≤ 90000) :
    Calls Tryz.prog 8 #[.string s] w (ParseEnd (parseL s.data.toList) w) := by
  obtain ⟨E, hE⟩ : ∃ E, E = ParseEnd (parseL s.data.toList) w := ⟨_, rfl⟩
  rw [← hE]
  have HE := Lib.hid hE
  have HG := Lib.hid hg
  have HSP := Lib.hid (splitw_any s w hg (by omega))
  obtain ⟨S, hS⟩ : ∃ S, S = s.data.toList := ⟨_, rfl⟩
  have hSl : S.length ≤ 90000 := by rw [hS, Array.length_toList]; exact hs
  rw [← hS] at HSP HE
  clear hE hS hs
  obtain ⟨i0, hi, hz0, hz1, hz2⟩ := info_parts infoWord3
  go_enter Tryz.func8, Tryz.ntmps8
  go_wp2_with fail
  refine HSP.out.mono ?_
  rintro e w1 ⟨n, hn, rfl, hb1, hl1, hcl⟩
  have HN := Lib.hid hn
  have HCL := Lib.hid hcl
  have hn1 : n ≤ 90001 := by rw [hn]; have := splitL_length S; omega
  have HPL : Hid (parseL S = match ((splitL S).filter (· ≠ [])).mapM wordL with | none => none | some ws => buildL ws) := rfl
  have HSZ : Hid (∀ p ∈ splitL S, p.length ≤ 100000) := fun p hp => by have := splitL_mem S p hp; omega
  clear hn hcl
  go_wp2
  go_loopw [4, 12] (fun l a wr => ∃ (j : Nat) (ws : List Wd), a = .int .i64 j ∧ j ≤ n ∧ ws.length ≤ j ∧ Hid (RowAt wr w1.heap.size l ws) ∧ Hid ((((splitL S).take j).filter (· ≠ [])).mapM wordL = some ws) ∧ Hid (∀ x ∈ ws, x.2.length ≤ 65535) ∧ Below w1.heap.size w1 wr) (fun _ a _ => n - (intOf a).toNat)
  case atStart => exact ⟨0, [], rfl, Nat.zero_le _, Nat.le_refl _, RowAt.nil _ _, by show _ = _; rw [List.take_zero]; rfl, (fun x hx => by cases hx), Below.refl _ _⟩
  case round =>
    obtain ⟨j, ws, rfl, hj, hwl, hrow, hall, hxs, hb⟩ := hrel
    by_cases hlt : j < n
    · obtain ⟨p, hp⟩ : ∃ p, (splitL S)[j]? = some p := ⟨_, List.getElem?_eq_getElem (by rw [← HN.out]; exact hlt)⟩
      have hcell : wr.cell? ⟨w.heap.size, j, none⟩ = some (.string ⟨p.toArray⟩) := (hb.cell (p := ⟨w.heap.size, j, none⟩) hl1).trans (HCL.out j p hp)
      have HTK := Lib.hid (parts_take hp)
      have hpl : p.length ≤ 100000 := HSZ.out p (List.mem_of_getElem? hp)
      by_cases hp0 : p = []
      · have HM : Hid ((((splitL S).take (j + 1)).filter (· ≠ [])).mapM wordL = some ws) := by show _ = _; rw [HTK.out, if_pos hp0, List.append_nil]; exact hall.out
        subst hp0
        clear hp
        go_wp2
        go_roundw
        case rel => exact ⟨j + 1, ws, by simp, by omega, by omega, hrow, HM, hxs, hb⟩
        case measure => simp [intOf]; omega
      · have HT2 : Hid (((splitL S).take (j + 1)).filter (· ≠ []) = ((splitL S).take j).filter (· ≠ []) ++ [p]) := by show _ = _; rw [HTK.out, if_neg hp0]
        have HDR : Hid (∃ r, (splitL S).filter (· ≠ []) = (((splitL S).take j).filter (· ≠ []) ++ [p]) ++ r) := by
          refine ⟨((splitL S).drop (j + 1)).filter (· ≠ []), ?_⟩
          rw [← HT2.out, ← List.filter_append, List.take_append_drop]
        obtain ⟨t, ht⟩ : ∃ t, t = (⟨p.toArray⟩ : ByteArray) := ⟨_, rfl⟩
        have hts : t.size ≤ 100000 := by rw [ht]; show p.toArray.size ≤ _; simpa using hpl
        have hq : (t.toList == []) = false := by
          rw [beq_eq_false_iff_ne, toList_data, ht]
          simpa using hp0
        have HW : Hid (Calls Tryz.prog 16 #[.string t] wr (PushedEnd (wordL p) 65535 wr)) := by
          have := word_any t wr (HG.out.below (hb1.trans (hb.mono hb1.size))) hts
          rw [show t.data.toList = p by rw [ht]] at this
          exact this
        rw [← ht] at hcell
        clear hp hp0 ht hts HTK hpl
        go_wp2_with (go_at_call 16; refine HW.out.mono ?_)
        rintro e w2 ⟨v, x, rfl, ⟨p4, rfl, hp4⟩, hxl, hx, hb2⟩
        obtain ⟨A2, c2, e2⟩ := hp4.slice
        subst e2
        obtain ⟨z, hz⟩ : ∃ z : Nat, z = x.1.toNat := ⟨_, rfl⟩
        have HZ := Lib.hid hz
        obtain ⟨m, hm⟩ : ∃ m, m = x.2.length := ⟨_, rfl⟩
        have HM := Lib.hid hm
        have hb12 := hb.trans (hb2.mono hb.size)
        obtain ⟨Y, hY⟩ : ∃ Y, Y = w2.alloc (.cells #[.int .u8 (z : Int), .slice A2 m c2] 36) := ⟨_, rfl⟩
        have hYs : Y.heap.size = w2.heap.size + 1 := by rw [hY]; simp
        have hal : Below w2.heap.size w2 Y := by rw [hY]; exact (Below.refl _ _).alloc (Nat.le_refl _) _
        have hal2 : Below w2.heap.size w2 (Y.alloc (.cells #[.int .u8 (z : Int), .slice A2 m c2] 36)) := hal.alloc hal.size _
        obtain ⟨xs, ho, hw⟩ := hrow.out.below hb2
        have HO := Lib.hid (own_below ho hal2)
        have HW2 := Lib.hid (hw.below hal2)
        have HP2 := Lib.hid (hp4.below hal2)
        have hbY := hb12.trans (hal.mono hb12.size)
        have hba := hb12.trans (hal2.mono hb12.size)
        have HRD : Hid (Reads (Y.alloc (.cells #[.int .u8 (z : Int), .slice A2 m c2] 36)) (w2.heap.size + 2) 2 (some ⟨w2.heap.size + 1, 0, none⟩) 1 [.int .u8 (z : Int), .slice A2 m c2]) := by
          have h0 := Reads.of_own (World.ownsRow_lit (base := 0) (e := 36) (size := 2) Y #[.int .u8 (z : Int), .slice A2 m c2] 1 (Nat.zero_le _) (by unfold maxLen; omega) rfl)
          have e : (Y.alloc (.cells #[.int .u8 (z : Int), .slice A2 m c2] 36)).heap.size = w2.heap.size + 2 := by simp [hYs]
          rw [e, hYs] at h0
          exact h0
        rw [← hm] at HP2
        rw [← hm, ← hz]
        rw [hY] at HO HW2 HP2 hba HRD hbY
        have HB0Y : Hid (Below w.heap.size w (w2.alloc (.cells #[.int .u8 (z : Int), .slice A2 m c2] 36))) := hb1.trans (hbY.mono hb1.size)
        clear hp4 ho hw hal hal2 hYs hY hrow hb2 hb12 hbY hm hz
        cases hwp : wordL p with
        | none =>
          have HF : Hid (parseL S = none) := by
            obtain ⟨r, hr⟩ := HDR.out
            show _ = _
            rw [HPL.out, hr, mapM_app_none _ r (by rw [mapM_snoc, hall.out, hwp]; rfl)]
          simp only [Option.isSome_none]
          clear hwp hx
          go_wp2
          rw [HE.out]
          exact parseEnd_none HF.out HB0Y.out
        | some y =>
          have hxy : x = y := hx y hwp
          have HMM : Hid ((((splitL S).take (j + 1)).filter (· ≠ [])).mapM wordL = some (ws ++ [x])) := by
            show _ = _
            rw [HT2.out, mapM_snoc, hall.out, hwp, hxy]
            rfl
          have HXS : Hid (∀ y ∈ ws ++ [x], y.2.length ≤ 65535) := by
            intro y hy
            rcases List.mem_append.1 hy with h | h
            · exact hxs.out y h
            · rw [List.mem_singleton.1 h]; exact hxl
          simp only [Option.isSome_some]
          clear hwp hx hxy hxl hall hxs
          go_wp2_with (at_builtin; refine wpList_append_any ((w2.alloc (.cells #[.int .u8 (z : Int), .slice A2 m c2] 36)).alloc (.cells #[.int .u8 (z : Int), .slice A2 m c2] 36)) rfl _ _ 31 rfl w1.heap.size 36 i0 (.agg #[.int .u8 0, .slice none 0 0]) 2 32 Tryz.underlying31 hi hz0 hz1 hz2 rfl (by decide) _ _ _ rfl HO.out (w2.heap.size + 2) (some ⟨w2.heap.size + 1, 0, none⟩) 1 1 [.int .u8 (z : Int), .slice A2 m c2] rfl HRD.out (by intro u hu; rcases List.mem_cons.1 hu with rfl | hu; rfl; rcases List.mem_cons.1 hu with rfl | hu; rfl; cases hu) (by unfold maxLen; omega) (by omega) hba.size ?_)
          intro v' w' hown' hg' _
          have hb' : Below w1.heap.size w1 w' := hba.grown hg' hba.size (fun k hk => (HO.out.lt k hk).1)
          rw [HZ.out] at hown'
          have HROW := Lib.hid (row_more HO.out HW2.out HP2.out hown' hg')
          clear hown' hg' HO HW2 HP2 HRD hba hb
          go_wp2
          go_roundw
          case rel => exact ⟨j + 1, ws ++ [x], by simp, by omega, by rw [List.length_append, List.length_singleton]; omega, HROW, HMM, HXS, hb'⟩
          case measure => simp [intOf]; omega
    · have hb0 := hb1.trans (hb.mono hb1.size)
      have HF : Hid (parseL S = buildL ws) := by
        have h := hall.out
        rw [List.take_of_length_le (by rw [← HN.out]; omega)] at h
        show _ = _
        rw [HPL.out, h]
      have HBU := Lib.hid (build_any u4 ws w1.heap.size wr hrow.out (by omega) hxs.out)
      have HSM : Hid (∃ l, buildL ws = some l ∧ parseL S = some l) := by
        refine parse_some (s := S) ?_
        have h := hall.out
        rw [List.take_of_length_le (by rw [← HN.out]; omega)] at h
        exact h
      clear hrow hall hxs
      go_wp2_with (go_at_call 17; refine HBU.out.mono ?_)
      intro e w2 h2
      obtain ⟨l, hl1, hl2⟩ := HSM.out
      rw [hl1] at h2
      obtain ⟨⟨v, rfl, hv⟩, hb2⟩ := h2
      have HV := Lib.hid hv
      have HL2 := Lib.hid hl2
      have hb02 := hb0.trans (hb2.mono hb0.size)
      clear hl1 hl2 hv hb2
      go_wp2
      rw [HE.out]
      exact parseEnd_some HL2.out HV.out hb02

end Go.Proofs.YtggadilgkcjbjaaGreatDoor
