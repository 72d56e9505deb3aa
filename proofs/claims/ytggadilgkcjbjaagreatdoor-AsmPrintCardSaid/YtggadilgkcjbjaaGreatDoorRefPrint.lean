/-
  The walk over the reference's Print.
-/
import Derived.Test.YtggadilgkcjbjaaGreatDoorRefText
import Derived.Test.YtggadilgkcjbjaaGreatDoorRefAll
import Derived.Test.YtggadilgkcjbjaaGreatDoorAsmPrint
import Derived.Test.YtggadilgkcjbjaaGreatDoorAsmSqz
set_option linter.unusedVariables false
namespace Go.Proofs.YtggadilgkcjbjaaGreatDoor
open Go.RowKit Go.Sort

theorem ret_print {E : Ending → World → Prop} {w : World} {t t' : ByteArray} (h : t = t') (he : E (.returned (.tuple #[.string t', .int .i64 0])) w) : E (.returned (.tuple #[.string t, .int .i64 0])) w := by rw [h]; exact he

set_option maxRecDepth 100000 in
set_option maxHeartbeats 2000000 in
theorem refPrint_any (A : Option Addr) (n c : Nat) (bs : List UInt8) (w : World) (h : RdB w w.heap.size A n bs) (hnc : n ≤ c) (hcm : c ≤ maxLen) (hn : n ≤ 1000000) :
    Calls Tryz.prog 7 #[.slice A n c] w (PrintEnd (printL bs) w) := by
  obtain ⟨E, hE⟩ : ∃ E, E = PrintEnd (printL bs) w := ⟨_, rfl⟩
  rw [← hE]
  have HE := Lib.hid hE
  have HL := Lib.hid h.len
  have HA := Lib.hid (refAll_any A n c bs w h hnc hcm hn)
  clear hE h hcm hnc
  go_enter Tryz.func7, Tryz.ntmps7
  go_wp2_with fail
  refine HA.out.mono ?_
  intro e w1 h1
  cases ha : allL bs with
  | none =>
    rw [ha] at h1
    obtain ⟨rfl, hb1⟩ := h1
    have HF : Hid (printL bs = none) := by show _ = _; unfold printL; rw [ha]; rfl
    clear ha
    go_wp2
    rw [HE.out]
    exact printEnd_none HF.out hb1
  | some ws =>
    rw [ha] at h1
    obtain ⟨⟨v, rfl, hrow⟩, hb1⟩ := h1
    have HF : Hid (printL bs = some (Lib.join (ws.map textL) [32])) := by show _ = _; unfold printL; rw [ha]; rfl
    obtain ⟨hbd, hlay⟩ := build_all ha
    have hkn : ws.length ≤ 1000000 := by
      have := all_len hbd
      have := HL.out
      omega
    have HLAY := Lib.hid hlay
    have HROW := Lib.hid hrow
    obtain ⟨A2, c2, e2⟩ : ∃ A c, v = .slice A ws.length c := by
      obtain ⟨xs, ho, _⟩ := hrow
      exact own_slice ho
    subst e2
    obtain ⟨k, hk⟩ : ∃ k, k = ws.length := ⟨_, rfl⟩
    have HK := Lib.hid hk
    rw [← hk] at hkn ⊢
    clear ha hbd hlay hrow hk
    go_wp2
    go_loopw [6, 7] (fun s a wr => ∃ (j : Nat) (t : ByteArray), a = .int .i64 j ∧ s = .string t ∧ j ≤ k ∧ Hid (t.data.toList = Lib.join ((ws.take j).map textL) [32]) ∧ Below w1.heap.size w1 wr) (fun _ a _ => k - (intOf a).toNat)
    case atStart => exact ⟨0, _, rfl, rfl, Nat.zero_le _, by show _ = _; rw [List.take_zero, List.map_nil, Lib.join_nil], Below.refl _ _⟩
    case round =>
      obtain ⟨j, t, rfl, rfl, hj, hown, hb⟩ := hrel
      have hts : t.size ≤ 140001 * j := by
        rw [size_list, hown.out]
        have := join_len 140000 ((ws.take j).map textL) (fun t ht => by obtain ⟨x, hx, rfl⟩ := List.mem_map.1 ht; exact textL_len (lay_push (HLAY.out x (List.mem_of_mem_take hx))))
        rw [List.length_map, List.length_take] at this
        have h2 : min j ws.length * (140000 + 1) ≤ j * (140000 + 1) := Nat.mul_le_mul_right _ (Nat.min_le_left _ _)
        omega
      by_cases hlt : j < k
      · have hlt2 : j < ws.length := by rw [← HK.out]; exact hlt
        obtain ⟨g, c', p, hv, hg, hc1, hc2, hp⟩ := (HROW.out.below hb).read hlt2
        cases hv
        obtain ⟨x, hxx⟩ : ∃ x, x = ws[j] := ⟨_, rfl⟩
        rw [← hxx] at hc1 hp
        have hxl : x.2.length ≤ 65535 := lay_push (HLAY.out x (by rw [hxx]; exact List.getElem_mem _))
        have HT : Hid ((ws.take (j + 1)).map textL = (ws.take j).map textL ++ [textL x]) := by
          show _ = _
          rw [List.take_succ_eq_append_getElem hlt2, List.map_append, ← hxx]
          rfl
        have hxt : (textL x).length ≤ 140000 := textL_len hxl
        obtain ⟨A3, c3, e3⟩ := hp.slice
        subst e3
        obtain ⟨m, hm⟩ : ∃ m, m = x.2.length := ⟨_, rfl⟩
        have HM := Lib.hid hm
        obtain ⟨y, hy⟩ : ∃ y : Nat, y = x.1.toNat := ⟨_, rfl⟩
        have HY := Lib.hid hy
        rw [← hm] at hc2
        rw [← hy] at hc1
        have HTX : Hid (Calls Tryz.prog 14 #[.agg #[.int .u8 (y : Int), .slice A3 m c3]] wr (StrEnd (textL x) wr)) :=
          refText_any _ x _ ⟨.slice A3 m c3, by rw [hy, hm], by rw [hm]; exact hp⟩ hxl
        obtain ⟨u, hu⟩ : ∃ u : ByteArray, u = ⟨(textL x).toArray⟩ := ⟨_, rfl⟩
        have HU := Lib.hid hu
        have hus : u.size ≤ 140000 := by rw [hu]; show (textL x).toArray.size ≤ _; simpa using hxt
        rw [show (StrEnd (textL x) wr) = fun e w' => e = .returned (.string u) ∧ Below wr.heap.size wr w' by rw [hu]; rfl] at HTX
        clear hxx hxl hp hm hy hu hxt
        by_cases hj0 : j = 0
        · have HN : Hid ((t ++ u).data.toList = Lib.join ((ws.take (j + 1)).map textL) [32]) := by
            show _ = _
            rw [HT.out, show (t ++ u).data.toList = t.data.toList ++ u.data.toList by simp, hown.out, HU.out, hj0, List.take_zero, List.map_nil, List.nil_append, Lib.join_nil, Lib.join_one]
            rfl
          have hj0' : ¬ (0 : Int) < (j : Int) := by omega
          clear hj0 hown
          go_wp2_with (go_at_call 14; refine HTX.out.mono ?_)
          rintro e w2 rfl hb2
          have hb12 := hb.trans (hb2.mono hb.size)
          clear hb2 hb
          go_wp2
          go_roundw
          case rel => exact ⟨j + 1, _, by simp, rfl, by omega, HN, hb12⟩
          case measure => simp [intOf]; omega
        · have HN : Hid ((t ++ (⟨#[32]⟩ : ByteArray) ++ u).data.toList = Lib.join ((ws.take (j + 1)).map textL) [32]) := by
            show _ = _
            rw [HT.out, show (t ++ (⟨#[32]⟩ : ByteArray) ++ u).data.toList = t.data.toList ++ [32] ++ u.data.toList by simp, hown.out, HU.out, join_snoc _ _ _ (by
              intro e
              have := congrArg List.length e
              rw [List.length_map, List.length_take, List.length_nil] at this
              omega)]
          have hj0' : (0 : Int) < (j : Int) := by omega
          have hts2 : (t ++ (⟨#[32]⟩ : ByteArray)).size = t.size + 1 := by
            rw [size_list, show (t ++ (⟨#[32]⟩ : ByteArray)).data.toList = t.data.toList ++ [32] by simp, List.length_append, ← size_list]
            rfl
          clear hj0 hown
          go_wp2_with (go_at_call 14; refine HTX.out.mono ?_)
          rintro e w2 ⟨rfl, hb2⟩
          have hb12 := hb.trans (hb2.mono hb.size)
          clear hb2 hb
          go_wp2
          go_roundw
          case rel => exact ⟨j + 1, _, by simp, rfl, by omega, HN, hb12⟩
          case measure => simp [intOf]; omega
      · have HTT : Hid (t = ⟨(Lib.join (ws.map textL) [32]).toArray⟩) := by
          have h2 := hown.out
          rw [List.take_of_length_le (by rw [← HK.out]; omega)] at h2
          show _ = _
          rw [← h2]
        have hb02 := hb1.trans (hb.mono hb1.size)
        clear hown
        go_wp2
        rw [HE.out]
        exact printEnd_some HF.out HTT.out hb02

end Go.Proofs.YtggadilgkcjbjaaGreatDoor
