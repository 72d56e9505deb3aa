/-
  The walk over the law AsmOnly.
-/
import Derived.Test.YtggadilgkcjbjaaDoorAsmLaw
import Derived.BigQuiet
import Derived.Deep.QuietTactic
set_option linter.unusedVariables false
namespace Go.Proofs.YtggadilgkcjbjaaDoor
open Go.RowKit Go.Sort

theorem cut_one {s t : ByteArray} {k : Nat} {ca : UInt8} (h : k < s.size) (hc : s[k] = ca) : (t ++ s.extract k (k + 1)).data.toList = t.data.toList ++ [ca] := by
  have e := get_list s k h
  rw [hc] at e
  rw [show (t ++ s.extract k (k + 1)).data.toList = t.data.toList ++ (s.extract k (k + 1)).data.toList by simp, Lib.extract_data, List.take_drop, show k + (k + 1 - k) = k + 1 by omega]
  rw [List.take_succ_eq_append_getElem (by rw [← size_list]; exact h), ← e, List.drop_left']
  rw [List.length_take, ← size_list]
  omega

theorem text_long {x : Wd} (h : (layL x).isSome) : x.2.length + 1 ≤ (textL x).length := by
  by_cases hb : 1 ≤ x.1.toNat ∧ x.1.toNat ≤ 77
  · rw [textL_push hb.1 hb.2]
    simp [hexEnc_length]
    omega
  · have h2 := (text_plain h).1
    have hx := layL_small h hb
    have h0 : x.2 = [] := by rw [hx]
    rw [h0]
    have := List.length_pos_iff.2 h2
    simp
    omega
theorem print_low : ∀ {ws : List Wd} {b : List UInt8}, buildL ws = some b → b.length ≤ 4 * (Lib.join (ws.map textL) [32]).length
  | [], b, h => by
    simp only [buildL, Option.some.injEq] at h
    rw [← h]
    simp
  | x :: ws, b, h => by
    rw [buildL_cons] at h
    cases hx : layL x with
    | none => rw [hx] at h; cases h
    | some l =>
      rw [hx] at h
      simp only at h
      cases hr : buildL ws with
      | none => rw [hr] at h; cases h
      | some r =>
        rw [hr] at h
        simp only [Option.map_some, Option.some.injEq] at h
        subst h
        have h1 := print_low hr
        have h2 := layL_len hx
        have h3 := text_long (x := x) (by rw [hx]; rfl)
        rw [List.length_append]
        cases ws with
        | nil =>
          rw [List.map_nil, Lib.join_nil, List.length_nil] at h1
          rw [List.map_cons, List.map_nil, Lib.join_one]
          omega
        | cons y ws =>
          rw [List.map_cons] at h1
          rw [List.map_cons, List.map_cons, join_more, List.length_append, List.length_append, List.length_singleton]
          omega
theorem printL_low {b s : List UInt8} (h : printL b = some s) : b.length ≤ 4 * s.length := by
  unfold printL at h
  cases ha : allL b with
  | none => rw [ha] at h; cases h
  | some ws =>
    rw [ha] at h
    simp only [Option.map_some, Option.some.injEq] at h
    rw [← h]
    exact print_low (build_all ha).1

set_option maxRecDepth 100000 in
set_option maxHeartbeats 2000000 in
theorem lawOnly (s : ByteArray) (w : World) (hg : Gd w) (hm : s.size ≤ maxLen) :
    Calls Tryd.prog 4 #[.string s] w fun e w' => e = .returned (.bool true) ∧ Below w.heap.size w w' := by
  obtain ⟨E, hE⟩ : ∃ E : Ending → World → Prop, E = fun e w' => e = .returned (.bool true) ∧ Below w.heap.size w w' := ⟨_, rfl⟩
  rw [← hE]
  have HE := Lib.hid hE
  have HG := Lib.hid hg
  have hm' : s.size ≤ 9223372036854775807 := Nat.le_trans hm (by unfold maxLen; omega)
  clear hE
  by_cases hn : 300 < s.size
  · have hn' : (300 : Int) < (s.size : Int) := by omega
    go_enter Tryd.func4, Tryd.ntmps4
    go_wp2_with fail
    refine (alive_any _ HG.out).mono ?_
    rintro e w1 ⟨rfl, hb1⟩
    go_wp2
    rw [HE.out]
    exact ⟨rfl, hb1⟩
  · have hn' : ¬ (300 : Int) < (s.size : Int) := by omega
    have HPA := Lib.hid (parse_any s w HG.out (by omega))
    obtain ⟨S, hS⟩ : ∃ S, S = s.data.toList := ⟨_, rfl⟩
    have HS := Lib.hid hS
    rw [← hS] at HPA
    clear hS
    go_enter Tryd.func4, Tryd.ntmps4
    go_wp2_with fail
    refine HPA.out.mono ?_
    intro e w1 h1
    cases hp : parseL S with
    | none =>
      rw [hp] at h1
      obtain ⟨rfl, hb1⟩ := h1
      clear hp
      go_wp2_with fail
      refine (alive_any _ (HG.out.below hb1)).mono ?_
      rintro e w2 ⟨rfl, hb2⟩
      have hb02 := hb1.trans (hb2.mono hb1.size)
      go_wp2
      rw [HE.out]
      exact ⟨rfl, hb02⟩
    | some l =>
      rw [hp] at h1
      obtain ⟨⟨v, rfl, hv⟩, hb1⟩ := h1
      have HPP := Lib.hid (print_parse hp)
      have HV := Lib.hid hv
      have HG1 := Lib.hid (HG.out.below hb1)
      have HB1 := Lib.hid hb1
      clear hp hv hb1
      go_wp2
      go_loopw [5, 6] (fun x a wr => ∃ (k : Nat) (t : ByteArray), x = .string t ∧ a = .int .i64 k ∧ k ≤ s.size ∧ t.size ≤ k ∧ Hid (t.data.toList = (S.take k).foldl sqz []) ∧ Below w1.heap.size w1 wr) (fun _ a _ => s.size - (intOf a).toNat)
      case atStart => exact ⟨0, _, rfl, rfl, Nat.zero_le _, Nat.le_refl _, rfl, Below.refl _ _⟩
      case round =>
        obtain ⟨k, t, rfl, rfl, hk, ht, hfo, hb⟩ := hrel
        by_cases hlt : k < s.size
        · obtain ⟨ca, hca⟩ : ∃ ca : UInt8, s[k] = ca := ⟨_, rfl⟩
          have HC : Hid (S.take (k + 1) = S.take k ++ [ca]) := by
            show _ = _
            have h1 := get_list s k hlt
            rw [hca] at h1
            rw [HS.out, List.take_succ_eq_append_getElem (by rw [← size_list]; exact hlt), ← h1]
          have hct : (s[k]'hlt).toNat = ca.toNat := by rw [hca]
          by_cases h32 : ca = 32
          · have h1 : (((s[k]'hlt).toNat : Int) != 32) = false := by rw [hct, h32]; rfl
            by_cases h0 : t.size = 0
            · have h2 : ¬ (0 : Int) < (t.size : Int) := by omega
              have HN : Hid (t.data.toList = (S.take (k + 1)).foldl sqz []) := by
                show _ = _
                rw [HC.out, List.foldl_append, List.foldl_cons, List.foldl_nil, ← hfo.out]
                unfold sqz
                rw [if_neg (by rw [h32, List.eq_nil_of_length_eq_zero (l := t.data.toList) (by rw [← size_list]; exact h0)]; simp)]
              clear h32 h0 hct hca hfo
              go_wp2
              go_roundw
              case rel => exact ⟨k + 1, t, rfl, by simp, by omega, by omega, HN, hb⟩
              case measure => simp [intOf]; omega
            · obtain ⟨q, hq⟩ : ∃ q, t.size = q + 1 := ⟨t.size - 1, by omega⟩
              have hqlt : q < t.size := by omega
              obtain ⟨cb, hcb⟩ : ∃ cb : UInt8, t[q] = cb := ⟨_, rfl⟩
              have hlast : t.data.toList.getLast? = some cb := by
                have e := get_list t q hqlt
                rw [hcb] at e
                rw [List.getLast?_eq_getElem?, ← size_list, hq, Nat.add_sub_cancel, List.getElem?_eq_getElem (by rw [← size_list]; exact hqlt), ← e]
              have hne : t.data.toList ≠ [] := by
                intro e
                have := size_list t
                rw [e, List.length_nil] at this
                omega
              have HNE := Lib.hid hne
              have HLA := Lib.hid hlast
              have hw0 : (0 : Int) < (t.size : Int) := by omega
              have hw1 : IntKind.i64.wrap ((t.size : Int) - 1) = (q : Int) := by rw [IntKind.wrap_i64]; omega
              have hw2 : (q : Int) < (t.size : Int) := by omega
              have hct2 : (t[q]'hqlt).toNat = cb.toNat := by rw [hcb]
              by_cases hl : cb = 32
              · have h2 : (((t[q]'hqlt).toNat : Int) != 32) = false := by rw [hct2, hl]; rfl
                have HN : Hid (t.data.toList = (S.take (k + 1)).foldl sqz []) := by
                  show _ = _
                  rw [HC.out, List.foldl_append, List.foldl_cons, List.foldl_nil, ← hfo.out]
                  unfold sqz
                  rw [if_neg (by rw [h32, HLA.out, hl]; simp)]
                clear h32 h0 hct hca hfo hlast hne hcb hct2 hl
                go_wp2
                go_roundw
                case rel => exact ⟨k + 1, t, rfl, by simp, by omega, by omega, HN, hb⟩
                case measure => simp [intOf]; omega
              · have h2 : (((t[q]'hqlt).toNat : Int) != 32) = true := by
                  rw [bne_iff_ne, hct2]
                  intro e
                  apply hl
                  apply UInt8.toNat_inj.1
                  rw [show (32 : UInt8).toNat = 32 from rfl]
                  omega
                have HN : Hid ((t ++ s.extract k (k + 1)).data.toList = (S.take (k + 1)).foldl sqz []) := by
                  show _ = _
                  rw [HC.out, List.foldl_append, List.foldl_cons, List.foldl_nil, ← hfo.out, cut_one hlt hca]
                  unfold sqz
                  rw [if_pos (.inr ⟨HNE.out, by rw [HLA.out]; intro e; exact hl (Option.some.inj e)⟩)]
                have hts : (t ++ s.extract k (k + 1)).size ≤ k + 1 := by
                  rw [size_list, cut_one hlt hca, List.length_append, ← size_list]
                  simp
                  omega
                clear h32 h0 hct hca hfo hlast hne hcb hct2 hl
                go_wp2
                go_roundw
                case rel => exact ⟨k + 1, _, rfl, by simp, by omega, hts, HN, hb⟩
                case measure => simp [intOf]; omega
          · have h1 : (((s[k]'hlt).toNat : Int) != 32) = true := by
              rw [bne_iff_ne, hct]
              intro e
              apply h32
              apply UInt8.toNat_inj.1
              rw [show (32 : UInt8).toNat = 32 from rfl]
              omega
            have HN : Hid ((t ++ s.extract k (k + 1)).data.toList = (S.take (k + 1)).foldl sqz []) := by
              show _ = _
              rw [HC.out, List.foldl_append, List.foldl_cons, List.foldl_nil, ← hfo.out, cut_one hlt hca]
              unfold sqz
              rw [if_pos (.inl h32)]
            have hts : (t ++ s.extract k (k + 1)).size ≤ k + 1 := by
              rw [size_list, cut_one hlt hca, List.length_append, ← size_list]
              simp
              omega
            clear h32 hct hca hfo
            go_wp2
            go_roundw
            case rel => exact ⟨k + 1, _, rfl, by simp, by omega, hts, HN, hb⟩
            case measure => simp [intOf]; omega
        · have HTR : Hid (trimR t.data.toList = Lib.join (partsL S) [32]) := by
            show _ = _
            rw [hfo.out, List.take_of_length_le (by rw [HS.out, ← size_list]; omega), sqz_fold]
          have hts : t.size ≤ 300 := by omega
          clear hfo
          go_wp2
          go_loopw [5] (fun x wz => ∃ (t : ByteArray), x = .string t ∧ t.size ≤ 300 ∧ Hid (trimR t.data.toList = Lib.join (partsL S) [32]) ∧ wz = wr) (fun x _ => strSize x)
          case atStart => exact ⟨t, rfl, hts, HTR, rfl⟩
          case round =>
            obtain ⟨t, rfl, hts, htr, rfl⟩ := hrel
            by_cases h0 : t.size = 0
            · have hw0 : ¬ (0 : Int) < (t.size : Int) := by omega
              have HT : Hid (t.data.toList = Lib.join (partsL S) [32]) := by
                show _ = _
                rw [← htr.out, List.eq_nil_of_length_eq_zero (l := t.data.toList) (by rw [← size_list]; exact h0)]
                rfl
              clear h0
              have HR : Hid (Calls Tryd.prog 9 #[v] wr (PrintEnd (some t.data.toList) wr)) := by
                obtain ⟨A, c, e, hr, hlc, hcm, _⟩ := (HV.out.below hb).byte
                have h1 := printL_low HPP.out
                have h2 := HPP.out
                rw [← HT.out] at h1 h2
                rw [← size_list] at h1
                have := print_any A l.length c l wr hr hlc hcm (by omega) (HG1.out.below hb)
                rw [h2] at this
                rw [e]
                exact this
              have hb0z := HB1.out.trans (hb.mono HB1.out.size)
              have HGZ := Lib.hid (HG1.out.below hb)
              clear HT htr
              go_wp2_with (go_at_call 9; refine HR.out.mono ?_)
              rintro e w2 ⟨rfl, hb2⟩
              have hb02 := hb0z.trans (hb2.mono hb0z.size)
              have HG2 := Lib.hid (HGZ.out.below hb2)
              have hself : (⟨t.data.toList.toArray⟩ : ByteArray) = t := rfl
              rw [hself]
              clear hself hb2 hb0z
              go_wp2_with (go_at_call 6; refine (alive_any _ HG2.out).mono ?_)
              rintro e w3 ⟨rfl, hb3⟩
              have hb03 := hb02.trans (hb3.mono hb02.size)
              clear hb3 hb02
              go_wp2
              rw [HE.out]
              exact ⟨rfl, hb03⟩
            · obtain ⟨q, hq⟩ : ∃ q, t.size = q + 1 := ⟨t.size - 1, by omega⟩
              have hqlt : q < t.size := by omega
              obtain ⟨cb, hcb⟩ : ∃ cb : UInt8, t[q] = cb := ⟨_, rfl⟩
              have HTC : Hid (t.data.toList = t.data.toList.take q ++ [cb]) := by
                show _ = _
                have e := get_list t q hqlt
                rw [hcb] at e
                have h1 := List.take_succ_eq_append_getElem (l := t.data.toList) (i := q) (by rw [← size_list]; exact hqlt)
                rw [List.take_of_length_le (by rw [← size_list]; omega), ← e] at h1
                exact h1
              have hw0 : (0 : Int) < (t.size : Int) := by omega
              have hw1 : IntKind.i64.wrap ((t.size : Int) - 1) = (q : Int) := by rw [IntKind.wrap_i64]; omega
              have hw2 : (q : Int) < (t.size : Int) := by omega
              have hct2 : (t[q]'hqlt).toNat = cb.toNat := by rw [hcb]
              by_cases hl : cb = 32
              · have h2 : (((t[q]'hqlt).toNat : Int) == 32) = true := by rw [hct2, hl]; rfl
                have hx : (t.extract 0 q).data.toList = t.data.toList.take q := by rw [Lib.extract_data]; rfl
                have HX : Hid (trimR (t.extract 0 q).data.toList = Lib.join (partsL S) [32]) := by
                  show _ = _
                  rw [← htr.out, hx]
                  conv => rhs; rw [HTC.out, hl]
                  rw [trimR_blank]
                have hxs : (t.extract 0 q).size = q := by rw [size_list, hx, List.length_take, ← size_list]; omega
                have hxs2 : (t.extract 0 q).size ≤ 300 := by omega
                clear hcb hct2 hl hx
                go_wp2
                go_roundw
                case rel => exact ⟨_, rfl, hxs2, HX, trivial⟩
                case measure => show (t.extract 0 q).size < t.size; omega
              · have h2 : (((t[q]'hqlt).toNat : Int) == 32) = false := by
                  rw [beq_eq_false_iff_ne, hct2]
                  intro e
                  apply hl
                  apply UInt8.toNat_inj.1
                  rw [show (32 : UInt8).toNat = 32 from rfl]
                  omega
                have HT : Hid (t.data.toList = Lib.join (partsL S) [32]) := by
                  show _ = _
                  rw [← htr.out, trimR_stop]
                  rw [HTC.out, List.getLast?_concat]
                  intro e
                  exact hl (Option.some.inj e)
                clear hcb hct2 hl
                have HR : Hid (Calls Tryd.prog 9 #[v] wr (PrintEnd (some t.data.toList) wr)) := by
                  obtain ⟨A, c, e, hr, hlc, hcm, _⟩ := (HV.out.below hb).byte
                  have h1 := printL_low HPP.out
                  have h2 := HPP.out
                  rw [← HT.out] at h1 h2
                  rw [← size_list] at h1
                  have := print_any A l.length c l wr hr hlc hcm (by omega) (HG1.out.below hb)
                  rw [h2] at this
                  rw [e]
                  exact this
                have hb0z := HB1.out.trans (hb.mono HB1.out.size)
                have HGZ := Lib.hid (HG1.out.below hb)
                clear HT htr
                go_wp2_with (go_at_call 9; refine HR.out.mono ?_)
                rintro e w2 ⟨rfl, hb2⟩
                have hb02 := hb0z.trans (hb2.mono hb0z.size)
                have HG2 := Lib.hid (HGZ.out.below hb2)
                have hself : (⟨t.data.toList.toArray⟩ : ByteArray) = t := rfl
                rw [hself]
                clear hself hb2 hb0z
                go_wp2_with (go_at_call 6; refine (alive_any _ HG2.out).mono ?_)
                rintro e w3 ⟨rfl, hb3⟩
                have hb03 := hb02.trans (hb3.mono hb02.size)
                clear hb3 hb02
                go_wp2
                rw [HE.out]
                exact ⟨rfl, hb03⟩

end Go.Proofs.YtggadilgkcjbjaaDoor
