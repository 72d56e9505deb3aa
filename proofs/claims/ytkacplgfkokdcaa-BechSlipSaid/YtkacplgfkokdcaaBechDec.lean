/-
  The walk over Decode of bech.
-/
import Derived.Test.YtkacplgfkokdcaaBechDecPlain
set_option linter.unusedVariables false
namespace Go.Proofs.Ytkacplgfkokdcaa
open Go.RowKit

theorem decEnd_none {l : List UInt8} {w w' : World} (h : decL l = none) (hb : Below w.heap.size w w') : DecEnd (decL l) w (.returned (.tuple #[.string ⟨#[]⟩, .slice none 0 0, .int .i64 3])) w' := by
  rw [h]; exact ⟨rfl, hb⟩

theorem decEnd_some {l h d : List UInt8} {w w' : World} {A : Option Addr} {H : ByteArray} {n c : Nat} (hd : decL l = some (h, d)) (hh : H = ⟨h.toArray⟩) (hn : d.length = n) (hc : n ≤ c) (hm : c ≤ maxLen) (hr : RdB w' w'.heap.size A n d) (hb : Below w.heap.size w w') :
    DecEnd (decL l) w (.returned (.tuple #[.string H, .slice A n c, .int .i64 0])) w' := by
  subst hn
  rw [hd, hh]
  exact ⟨⟨A, c, rfl, hc, hm, hr⟩, hb⟩
theorem cells_snoc {x : List UInt8} {v : Nat} (hv : v < 32) : Lib.byteCells x ++ [Value.int .u8 (v : Int)] = Lib.byteCells (x ++ [UInt8.ofNat v]) := by
  rw [Lib.byteCells_append]
  congr 1
  simp [Lib.byteCells]
  omega

set_option maxHeartbeats 1000000 in
theorem decode_any (s : ByteArray) (w : World) (hs : s.size ≤ 1000000) :
    Calls Try.prog 17 #[.string s] w (DecEnd (decL s.data.toList) w) := by
  obtain ⟨E, hE⟩ : ∃ E, E = DecEnd (decL s.data.toList) w := ⟨_, rfl⟩
  rw [← hE]
  have HE := Lib.hid hE
  clear hE
  cases hl : lastOne s.data.toList with
  | none =>
    have HN := Lib.hid (decL_none hl)
    have HL := Lib.hid (last_none hl)
    clear hl
    go_enter Try.func17, Try.ntmps17
    go_wp2_with fail
    refine (Try.strings_LastIndexByte s 49 (by omega) _).mono ?_
    rintro e w1 ⟨rfl, rfl⟩
    rw [HL.out]
    go_wp2
    rw [HE.out]
    exact decEnd_none HN.out (Below.refl _ _)
  | some x =>
    obtain ⟨h, r⟩ := x
    obtain ⟨he, hn⟩ := lastOne_some hl
    have hlen : s.size = h.length + (r.length + 1) := by rw [size_list, he]; simp
    have hT := cut_tail he
    rw [hlen] at hT
    have HX := Lib.hid hl
    have HL := Lib.hid (last_some hl)
    have HH := Lib.hid (cut_head he)
    have HT := Lib.hid hT
    obtain ⟨a, ha⟩ : ∃ a, a = h.length := ⟨_, rfl⟩
    obtain ⟨b, hb⟩ : ∃ b, b = r.length := ⟨_, rfl⟩
    have HB := Lib.hid hb
    have HA := Lib.hid ha
    rw [← ha] at HL HH HT
    rw [← hb] at HT
    rw [← ha, ← hb] at hlen
    clear hl he hn ha hb hT
    have hlen' : (s.size : Int) = a + (b + 1) := by omega
    go_enter Try.func17, Try.ntmps17
    go_wp2_with fail
    refine (Try.strings_LastIndexByte s 49 (by omega) _).mono ?_
    rintro e w1 ⟨rfl, rfl⟩
    rw [HL.out]
    go_wp2_with fail
    refine (isHead_any _ _ (by rw [HH.out]; show h.toArray.size ≤ _; rw [List.size_toArray, ← HA.out]; omega)).mono ?_
    rintro e w2 ⟨rfl, hb2⟩
    rw [show (s.extract 0 a).data.toList = h by rw [HH.out]]
    cases hh : headOk h with
    | false =>
      have HN := Lib.hid (decL_head HX.out hh)
      clear hh
      go_wp2
      rw [HE.out]
      exact decEnd_none HN.out hb2
    | true =>
      have HHO := Lib.hid hh
      clear hh
      by_cases h6 : b < 6
      · have h6' : (b : Int) < 6 := by omega
        have HN := Lib.hid (decL_short HX.out (by rw [← HB.out]; omega))
        have h6s : (s.size : Int) - a - 1 < 6 := by omega
        go_wp2
        rw [HE.out]
        exact decEnd_none HN.out hb2
      · have h6s : ¬ (s.size : Int) - a - 1 < 6 := by omega
        have HDL := Lib.hid ((decL_tail HX.out (by rw [← HB.out]; omega)).trans (congrArg _ (tail_same HHO.out (by rw [← HB.out]; omega)).symm))
        obtain ⟨cap, w3, hcv, hr3, hb3⟩ := conv_bytes w2 (s.extract (a + 1) (a + (b + 1)))
        have hsz : (s.extract (a + 1) (a + (b + 1))).size = b := by rw [HT.out]; show r.toArray.size = b; rw [List.size_toArray, ← HB.out]
        rw [hsz] at hcv hr3
        rw [show (s.extract (a + 1) (a + (b + 1))).data.toList = r by rw [HT.out]] at hr3
        have HR := Lib.hid hr3
        have hb03 : Below w1.heap.size w1 w3 := hb2.trans (hb3.mono hb2.size)
        clear hr3 hb3 hsz
        go_wp2
        go_loopw [6, 35] (fun d i wr => ∃ (k : Nat) (A : Option Addr) (c : Nat) (x : List UInt8), k ≤ b ∧ i = .int .i64 k ∧ d = .slice A k c ∧ Hid (numsOf (r.take k) = some x) ∧
            Hid (wr.ownsRow w3.heap.size 5 1 (.slice A k c) k (Lib.byteCells x)) ∧ Below w3.heap.size w3 wr) (fun _ i _ => b - (intOf i).toNat)
        case atStart => exact ⟨0, none, 0, [], by omega, rfl, rfl, rfl, own_nil _ _ _, Below.refl _ _⟩
        case round =>
          obtain ⟨k, A, c, x, hk, rfl, rfl, hx, hown, hb⟩ := hrel
          by_cases hlt : k < b
          · have hkl : k < r.length := by rw [← HB.out]; exact hlt
            obtain ⟨ad, had, hadlt, hcell⟩ := (HR.out.below hb).at_ hlt
            have had' := Option.some.inj had
            subst had'
            rw [show (⟨w2.heap.size, 0, none⟩ : Addr).add k = ⟨w2.heap.size, k, none⟩ by unfold Addr.add; split <;> simp_all] at hcell
            obtain ⟨m, hm⟩ : ∃ m : Nat, (r[k]'hkl).toNat = m := ⟨_, rfl⟩
            rw [hm] at hcell
            have HM := Lib.hid hm
            clear hm had
            go_wp2_with fail
            refine (Try.strings_IndexByte _ _ _).mono ?_
            rintro e w4 ⟨rfl, rfl⟩
            rw [show ((m : Int).toNat.toUInt8) = r[k]'hkl by rw [← HM.out]; simp, index_letters]
            cases hp : placeL (r[k]'hkl) with
            | none =>
              have HN : Hid (decL s.data.toList = none) := by
                show _ = none
                rw [HDL.out, tailP_nums (numsOf_bad (List.getElem_mem hkl) hp)]
                rfl
              clear hp
              go_wp2
              rw [HE.out]
              exact decEnd_none HN.out (hb03.trans (hb.mono hb03.size))
            | some v =>
              have hv1 : v < 32 := (place_some hp).1
              have HXN : Hid (numsOf (r.take (k + 1)) = some (x ++ [UInt8.ofNat v])) := by
                show _ = _
                rw [List.take_succ_eq_append_getElem hkl]
                exact numsOf_snoc hx.out hp
              clear hp
              go_wp2_with (at_builtin; refine wpList_push w4 _ Try.underlying22 infoByte rfl rfl _ _ rfl w3.heap.size _ _ _ rfl hown.out rfl rfl (by unfold maxLen; omega) (by omega) hb.size ?_)
              intro A2 c2 w5 hown2 hb2
              rw [cells_snoc hv1] at hown2
              have HOWN2 := Lib.hid hown2
              have hb25 : Below w3.heap.size w3 w5 := hb.trans hb2
              clear hown2 hown hx
              go_wp2
              go_roundw
              case rel => exact ⟨k + 1, A2, c2, _, by omega, by go_num, rfl, HXN, HOWN2, hb25⟩
              case measure => simp [intOf]; omega
          · have hkb : k = b := by omega
            subst hkb
            have HX2 : Hid (numsOf r = some x) := by
              have := hx.out
              rw [List.take_of_length_le (by rw [← HB.out]; exact Nat.le_refl _)] at this
              exact this
            clear hx
            have hxl : x.length = k := by have := hown.out.1; rw [Lib.byteCells_length] at this; omega
            have HXL := Lib.hid hxl
            clear hxl
            have hcp := own_cap hown.out
            go_wp2_with fail
            refine (headed_any _ _ (by rw [HH.out]; show h.toArray.size ≤ _; rw [List.size_toArray, ← HA.out]; omega)).mono ?_
            rintro e w5 ⟨rfl, hb5⟩
            rw [show (s.extract 0 a).data.toList = h by rw [HH.out]]
            obtain ⟨y, hy⟩ : ∃ y, y = bMore 1 (headL h) := ⟨_, rfl⟩
            have hy1 : y < 1073741824 := by rw [hy]; exact bMore_lt _ _ (by omega)
            have HY := Lib.hid hy
            rw [← hy]
            clear hy
            go_wp2_with fail
            refine (more_any y A k c x _ hy1 (((RdB.of_own hown.out).below hb5).more hb5.size) (by omega)).mono ?_
            rintro e w6 ⟨rfl, hb6⟩
            have hb56 : Below wr.heap.size wr w6 := hb5.trans (hb6.mono hb5.size)
            have HR6 := Lib.hid (((RdB.of_own hown.out).below hb56).more hb56.size)
            have hb06 : Below w1.heap.size w1 w6 := hb03.trans ((hb.trans (hb56.mono hb.size)).mono hb03.size)
            obtain ⟨z, hz⟩ : ∃ z, z = bMore y x := ⟨_, rfl⟩
            have HZ : Hid (z = bMore 1 (headL h ++ x)) := by
              show z = _
              rw [hz, HY.out, bMore_append]
            rw [← hz]
            clear hz hb5 hb6 hb56 hown
            by_cases hza : z = 734539939
            · by_cases hk86 : k ≤ 86
              · have HF : Hid (decL s.data.toList = some (h, x.take (k - 6))) := by
                  show _ = _
                  rw [HDL.out, tailP_some HX2.out (by rw [← HZ.out]; exact hza) (by rw [HXL.out]; exact hk86), HXL.out]
                  rfl
                have hza' : (z : Int) = 734539939 := by omega
                have hk86' : ¬ (86 : Int) < (k : Int) := by omega
                clear hza
                go_wp2
                go_quiet (fail)
                have hbq := below_drewN hb06 nq
                have HRQ : Hid (RdB (w6.drewN nq) (w6.drewN nq).heap.size A k x) := HR6.out.drewN nq
                clear hb06 HR6
                generalize w6.drewN nq = wq at hbq HRQ ⊢
                have HLN : Hid ((x.take (k - 6)).length = k - 6) := by
                  show _ = _
                  rw [List.length_take, HXL.out]
                  omega
                go_wp2
                rw [HE.out]
                exact decEnd_some HF.out HH.out HLN.out (by omega) hcp.2 (HRQ.out.take (by omega)) hbq
              · have HF : Hid (decL s.data.toList = none) := by
                  show _ = _
                  rw [HDL.out, tailP_not HX2.out (by rw [HXL.out]; omega)]
                  rfl
                have hza' : (z : Int) = 734539939 := by omega
                have hk86' : (86 : Int) < (k : Int) := by omega
                clear hza
                go_wp2
                rw [HE.out]
                exact decEnd_none HF.out hb06
            · have HF : Hid (decL s.data.toList = none) := by
                show _ = _
                rw [HDL.out, tailP_not HX2.out (by rw [← HZ.out]; exact fun h => hza h.1)]
                rfl
              have hza' : ¬ (z : Int) = 734539939 := by omega
              clear hza
              go_wp2
              all_goals
                rw [HE.out]
                exact decEnd_none HF.out hb06

end Go.Proofs.Ytkacplgfkokdcaa
