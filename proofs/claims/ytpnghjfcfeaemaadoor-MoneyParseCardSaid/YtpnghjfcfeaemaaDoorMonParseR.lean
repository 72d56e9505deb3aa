/-
  The walks over the reference's figures, form and Parse.
-/
import Derived.Test.YtpnghjfcfeaemaaDoorMonArg
set_option linter.unusedVariables false
namespace Go.Proofs.YtpnghjfcfeaemaaDoor
open Go.RowKit

theorem lead_at {l : List UInt8} {k : Nat} (h : ∀ j (hj : j < l.length), j < k → isDig (l[j]'hj) = true) (hk : k ≤ l.length) (hn : ∀ hj : k < l.length, isDig (l[k]'hj) = false) : lead l = k := by
  by_cases hkl : k < l.length
  · have e : l = l.take k ++ l[k] :: l.drop (k + 1) := by rw [List.getElem_cons_drop, List.take_append_drop]
    have h1 : (l.take k).all isDig = true := by
      rw [List.all_eq_true]
      intro x hx
      obtain ⟨j, hj, rfl⟩ := List.getElem_of_mem hx
      rw [List.length_take] at hj
      rw [List.getElem_take]
      exact h j (by omega) (by omega)
    rw [e, lead_cut h1 (hn hkl), List.length_take]
    omega
  · have hl : l.length = k := by omega
    have h1 : l.all isDig = true := by
      rw [List.all_eq_true]
      intro x hx
      obtain ⟨j, hj, rfl⟩ := List.getElem_of_mem hx
      exact h j hj (by omega)
    rw [lead_all.1 h1, hl]

set_option maxHeartbeats 1000000 in
theorem refFigures_any (s : ByteArray) (w : World) (hs : s.size ≤ 1000000) :
    Calls Tryd.prog 35 #[.string s] w fun e w' => e = .returned (.int .i64 (lead s.data.toList : Nat)) ∧ w' = w := by
  have HS := Lib.hid (size_list s)
  obtain ⟨r, hr⟩ : ∃ r, r = lead s.data.toList := ⟨_, rfl⟩
  rw [← hr]
  have HR := Lib.hid hr
  clear hr
  go_enter Tryd.func35, Tryd.ntmps35
  go_wp2
  go_loop [3] (fun i => ∃ k : Nat, k ≤ s.size ∧ i = .int .i64 k ∧ Hid (∀ j (hj : j < s.data.toList.length), j < k → isDig (s.data.toList[j]'hj) = true)) (fun i => s.size - (intOf i).toNat)
  case atStart => exact ⟨0, by omega, rfl, fun j hj h0 => by omega⟩
  case round =>
    obtain ⟨k, hk, rfl, hD⟩ := hrel
    by_cases hlt : k < s.size
    · have hkl : k < s.data.toList.length := by rw [← HS.out]; exact hlt
      have hg := get_list s k hlt
      obtain ⟨m, hm⟩ : ∃ m : Nat, s[k].toNat = m := ⟨_, rfl⟩
      have HM : Hid ((s.data.toList[k]'hkl).toNat = m) := by
        show (s.data.toList[k]'hkl).toNat = m
        rw [← hg]; exact hm
      have hm' : (s.data[k]'hlt).toNat = m := hm
      clear hg
      by_cases hf : 48 ≤ m ∧ m ≤ 57
      · have hf1 : (48 : Int) ≤ (m : Int) := by omega
        have hf2 : (m : Int) ≤ 57 := by omega
        have HN : Hid (∀ j (hj : j < s.data.toList.length), j < k + 1 → isDig (s.data.toList[j]'hj) = true) := fun j hj h1 => by
          by_cases hjk : j = k
          · subst hjk
            unfold isDig
            rw [HM.out]
            simp
            exact hf
          · exact hD.out j hj (by omega)
        clear hf
        go_wp2
        go_round
        case rel => exact ⟨k + 1, by omega, by simp, HN⟩
        case measure => simp [intOf]; omega
      · have HF : Hid (r = k) := by
          show r = k
          rw [HR.out]
          exact lead_at (fun j hj h1 => hD.out j hj h1) (by omega) (fun hj => by unfold isDig; rw [HM.out]; simp; omega)
        by_cases hf1 : 48 ≤ m
        · have hf1' : (48 : Int) ≤ (m : Int) := by omega
          have hf2 : ¬ (m : Int) ≤ 57 := by omega
          clear hf
          go_wp2
          go_ret
          exact ⟨by rw [HF.out]; rfl, rfl⟩
        · have hf1' : ¬ (48 : Int) ≤ (m : Int) := by omega
          clear hf
          go_wp2
          go_ret
          exact ⟨by rw [HF.out]; rfl, rfl⟩
    · have HF : Hid (r = k) := by
        show r = k
        rw [HR.out]
        exact lead_at (fun j hj h1 => hD.out j hj h1) (by rw [← HS.out]; exact hk) (fun hj => by rw [← HS.out] at hj; omega)
      go_wp2
      go_ret
      exact ⟨by rw [HF.out]; rfl, rfl⟩

/-- What form answers. -/
def FormEnd (r : Option (List UInt8 × List UInt8)) (w : World) (e : Ending) (w' : World) : Prop :=
  ∃ (X Y : ByteArray) (b : Bool), e = .returned (.tuple #[.string X, .string Y, .bool b]) ∧ Below w.heap.size w w' ∧ (match r with | none => b = false | some x => b = true ∧ X.data.toList = x.1 ∧ Y.data.toList = x.2)
theorem formEnd_none {r : Option (List UInt8 × List UInt8)} {w w' : World} {X Y : ByteArray} (h : r = none) (hb : Below w.heap.size w w') : FormEnd r w (.returned (.tuple #[.string X, .string Y, .bool false])) w' := by
  subst h; exact ⟨X, Y, false, rfl, hb, rfl⟩
theorem formEnd_some {r : Option (List UInt8 × List UInt8)} {w w' : World} {X Y : ByteArray} {a b : List UInt8} (h : r = some (a, b)) (h1 : X.data.toList = a) (h2 : Y.data.toList = b) (hb : Below w.heap.size w w') : FormEnd r w (.returned (.tuple #[.string X, .string Y, .bool true])) w' := by
  subst h; exact ⟨X, Y, true, rfl, hb, rfl, h1, h2⟩

set_option maxHeartbeats 1000000 in
theorem refForm_any (s : ByteArray) (w : World) (hs : s.size ≤ 1000000) :
    Calls Tryd.prog 25 #[.string s] w (FormEnd (formR s.data.toList) w) := by
  have HS := Lib.hid (size_list s)
  obtain ⟨E, hE⟩ : ∃ E, E = FormEnd (formR s.data.toList) w := ⟨_, rfl⟩
  rw [← hE]
  have HE := Lib.hid hE
  clear hE
  obtain ⟨k, hk⟩ : ∃ k, k = lead s.data.toList := ⟨_, rfl⟩
  have HK := Lib.hid hk
  have hks : k ≤ s.size := by rw [hk, size_list]; exact lead_le _
  clear hk
  have hks' : (k : Int) ≤ (s.size : Int) := by omega
  by_cases h0 : k = 0
  · have HN : Hid (formR s.data.toList = none) := formR_bad (.inl (by rw [← HK.out]; exact h0))
    go_enter Tryd.func25, Tryd.ntmps25
    go_wp2_with fail
    refine (refFigures_any s _ hs).mono ?_
    rw [← HK.out]
    rintro e w1 ⟨rfl, rfl⟩
    subst h0
    go_wp2
    rw [HE.out]
    exact formEnd_none HN.out (Below.refl _ _)
  have h0' : ¬ (k : Int) = 0 := by omega
  have h0b : ((k : Int) == 0) = false := by rw [beq_eq_false_iff_ne]; omega
  have hsz : 0 < s.size := by omega
  have hkl : 0 < s.data.toList.length := by rw [← size_list]; exact hsz
  have hg := get_list s 0 hsz
  obtain ⟨m, hm⟩ : ∃ m : Nat, s[0].toNat = m := ⟨_, rfl⟩
  have HHD : Hid (s.data.toList.head? = some 48 ↔ m = 48) := by
    rw [List.head?_eq_getElem?, List.getElem?_eq_getElem hkl, ← hm, hg]
    constructor
    · intro h; rw [Option.some.inj h]; rfl
    · intro h; exact congrArg some (UInt8.toNat_inj.1 h)
  have hm' : (s.data[0]'hsz).toNat = m := hm
  clear hg
  by_cases hz : 1 < k ∧ m = 48
  · have HN : Hid (formR s.data.toList = none) := formR_bad (.inr ⟨by rw [← HK.out]; exact hz.1, HHD.out.2 hz.2⟩)
    have hz1 : (1 : Int) < (k : Int) := by omega
    have hz2 : m = 48 := hz.2
    subst hz2
    clear hz
    go_enter Tryd.func25, Tryd.ntmps25
    go_wp2_with fail
    refine (refFigures_any s _ hs).mono ?_
    rw [← HK.out]
    rintro e w1 ⟨rfl, rfl⟩
    go_wp2
    rw [HE.out]
    exact formEnd_none HN.out (Below.refl _ _)
  have HR0 : Hid (¬ (lead s.data.toList = 0 ∨ (1 < lead s.data.toList ∧ s.data.toList.head? = some 48))) := by
    rw [← HK.out]
    rintro (h | h)
    · exact h0 h
    · exact hz ⟨h.1, HHD.out.1 h.2⟩
  have hfirst : (1 : Int) < (k : Int) ∧ ((m : Int) == 48) = false ∨ ¬ (1 : Int) < (k : Int) := by rw [beq_eq_false_iff_ne]; omega
  clear hz
  by_cases hall : k = s.size
  · have HN : Hid (formR s.data.toList = some (s.data.toList, [])) := formR_int HR0.out (by rw [← HK.out, hall, size_list])
    subst hall
    rcases hfirst with ⟨hf1, hf2⟩ | hf1
    · go_enter Tryd.func25, Tryd.ntmps25
      go_wp2_with fail
      refine (refFigures_any s _ hs).mono ?_
      rw [← HK.out]
      rintro e w1 ⟨rfl, rfl⟩
      go_wp2
      rw [HE.out]
      exact formEnd_some (X := s) (Y := ⟨#[]⟩) HN.out rfl rfl (Below.refl _ _)
    · go_enter Tryd.func25, Tryd.ntmps25
      go_wp2_with fail
      refine (refFigures_any s _ hs).mono ?_
      rw [← HK.out]
      rintro e w1 ⟨rfl, rfl⟩
      go_wp2
      rw [HE.out]
      exact formEnd_some (X := s) (Y := ⟨#[]⟩) HN.out rfl rfl (Below.refl _ _)
  have hkls : k < s.size := by omega
  have hall' : ¬ (k : Int) = (s.size : Int) := by omega
  have hallb : ((k : Int) == (s.size : Int)) = false := by rw [beq_eq_false_iff_ne]; omega
  have hkl2 : k < s.data.toList.length := by rw [← size_list]; exact hkls
  have hg2 := get_list s k hkls
  obtain ⟨m2, hm2⟩ : ∃ m2 : Nat, s[k].toNat = m2 := ⟨_, rfl⟩
  have hm2' : (s.data[k]'hkls).toNat = m2 := hm2
  have HAT : Hid (s.data.toList[lead s.data.toList]? = some (UInt8.ofNat m2)) := by
    show _ = _
    rw [← HK.out, List.getElem?_eq_getElem hkl2, ← hm2, hg2]
    simp
  have hm256 : m2 < 256 := by rw [← hm2]; exact UInt8.toNat_lt _
  clear hg2
  have HNL : Hid (¬ lead s.data.toList = s.data.toList.length) := by rw [← HK.out, ← size_list]; exact hall
  have hks3 : (k : Int) + 1 ≤ (s.size : Int) := by omega
  have hks4 : k + 1 ≤ s.size := by omega
  by_cases h46 : m2 = 46
  · subst h46
    obtain ⟨q, hq⟩ : ∃ q, q = (s.extract (k + 1) s.size).size := ⟨_, rfl⟩
    have hRl : (s.extract (k + 1) s.size).data.toList = s.data.toList.drop (k + 1) := by
      simp only [ByteArray.data_extract, Array.toList_extract]
      rw [List.extract_eq_take_drop]
      exact List.take_of_length_le (by rw [List.length_drop, ← size_list]; exact Nat.le_refl _)
    have HRL := Lib.hid hRl
    have HQL : Hid ((s.data.toList.drop (lead s.data.toList + 1)).length = q) := by show _ = _; rw [hq, size_list, hRl, ← HK.out]
    have hqs : ((s.size - (k + 1) : Nat) : Int) = (q : Int) := by rw [ByteArray.size_extract] at hq; omega
    obtain ⟨r2, hr2⟩ : ∃ r2, r2 = lead (s.extract (k + 1) s.size).data.toList := ⟨_, rfl⟩
    have HR2 : Hid (lead (s.data.toList.drop (lead s.data.toList + 1)) = r2) := by show _ = _; rw [hr2, hRl, ← HK.out]
    have HFIG : Hid (∀ w, Calls Tryd.prog 35 #[.string (s.extract (k + 1) s.size)] w fun e w' => e = .returned (.int .i64 (r2 : Int)) ∧ w' = w) := fun w => by
      rw [hr2]
      exact refFigures_any _ w (by rw [ByteArray.size_extract]; omega)
    have HTK : Hid ((s.extract 0 k).data.toList = s.data.toList.take (lead s.data.toList)) := by
      show _ = _
      rw [← HK.out]
      simp only [ByteArray.data_extract, Array.toList_extract]
      rw [List.extract_eq_take_drop]
      simp
    have HRK : Hid ((s.extract (k + 1) s.size).data.toList = s.data.toList.drop (lead s.data.toList + 1)) := by show _ = _; rw [← HK.out]; exact hRl
    clear hq hRl hr2
    by_cases c1 : r2 = q
    · have c1' : ((r2 : Int) == (q : Int)) = true := by rw [beq_iff_eq]; omega
      by_cases c2 : 1 ≤ q
      · have c2' : (1 : Int) ≤ (q : Int) := by omega
        by_cases c3 : q ≤ 8
        · have c3' : (q : Int) ≤ 8 := by omega
          have HN := Lib.hid (formR_dot HR0.out HNL.out ⟨HAT.out, by rw [HR2.out, HQL.out]; exact c1, by rw [HQL.out]; exact c2, by rw [HQL.out]; exact c3⟩)
          clear c1 c2 c3
          rcases hfirst with ⟨hf1, hf2⟩ | hf1
          · 
            go_enter Tryd.func25, Tryd.ntmps25
            go_wp2_with fail
            refine (refFigures_any s _ hs).mono ?_
            rw [← HK.out]
            rintro e w1 ⟨rfl, rfl⟩
            have HB := Lib.hid (Below.refl w1.heap.size w1)
            go_wp2_with fail
            go_quiet (first | (go_at_call 35; exact Calls.quiet_of_same (HFIG.out _)))
            have hbq := below_drewN HB.out nq
            generalize w1.drewN nq = wq at hbq ⊢
            go_wp2
            rw [HE.out]
            exact formEnd_some HN.out HTK.out HRK.out hbq
          · 
            go_enter Tryd.func25, Tryd.ntmps25
            go_wp2_with fail
            refine (refFigures_any s _ hs).mono ?_
            rw [← HK.out]
            rintro e w1 ⟨rfl, rfl⟩
            have HB := Lib.hid (Below.refl w1.heap.size w1)
            go_wp2_with fail
            go_quiet (first | (go_at_call 35; exact Calls.quiet_of_same (HFIG.out _)))
            have hbq := below_drewN HB.out nq
            generalize w1.drewN nq = wq at hbq ⊢
            go_wp2
            rw [HE.out]
            exact formEnd_some HN.out HTK.out HRK.out hbq
        · have c3' : decide ((q : Int) ≤ 8) = false := by rw [decide_eq_false_iff_not]; omega
          have HN : Hid (formR s.data.toList = none) := formR_not HNL.out (by rw [HQL.out]; rintro ⟨_, _, _, h⟩; exact c3 h)
          clear c1 c2 c3
          rcases hfirst with ⟨hf1, hf2⟩ | hf1
          · 
            go_enter Tryd.func25, Tryd.ntmps25
            go_wp2_with fail
            refine (refFigures_any s _ hs).mono ?_
            rw [← HK.out]
            rintro e w1 ⟨rfl, rfl⟩
            have HB := Lib.hid (Below.refl w1.heap.size w1)
            go_wp2_with fail
            go_quiet (first | (go_at_call 35; exact Calls.quiet_of_same (HFIG.out _)))
            have hbq := below_drewN HB.out nq
            generalize w1.drewN nq = wq at hbq ⊢
            go_wp2
            rw [HE.out]
            exact formEnd_none HN.out hbq
          · 
            go_enter Tryd.func25, Tryd.ntmps25
            go_wp2_with fail
            refine (refFigures_any s _ hs).mono ?_
            rw [← HK.out]
            rintro e w1 ⟨rfl, rfl⟩
            have HB := Lib.hid (Below.refl w1.heap.size w1)
            go_wp2_with fail
            go_quiet (first | (go_at_call 35; exact Calls.quiet_of_same (HFIG.out _)))
            have hbq := below_drewN HB.out nq
            generalize w1.drewN nq = wq at hbq ⊢
            go_wp2
            rw [HE.out]
            exact formEnd_none HN.out hbq
      · have c2' : decide ((1 : Int) ≤ (q : Int)) = false := by rw [decide_eq_false_iff_not]; omega
        have HN : Hid (formR s.data.toList = none) := formR_not HNL.out (by rw [HQL.out]; rintro ⟨_, _, h, _⟩; exact c2 h)
        clear c1 c2
        rcases hfirst with ⟨hf1, hf2⟩ | hf1
        · 
          go_enter Tryd.func25, Tryd.ntmps25
          go_wp2_with fail
          refine (refFigures_any s _ hs).mono ?_
          rw [← HK.out]
          rintro e w1 ⟨rfl, rfl⟩
          have HB := Lib.hid (Below.refl w1.heap.size w1)
          go_wp2_with fail
          go_quiet (first | (go_at_call 35; exact Calls.quiet_of_same (HFIG.out _)))
          have hbq := below_drewN HB.out nq
          generalize w1.drewN nq = wq at hbq ⊢
          go_wp2
          rw [HE.out]
          exact formEnd_none HN.out hbq
        · 
          go_enter Tryd.func25, Tryd.ntmps25
          go_wp2_with fail
          refine (refFigures_any s _ hs).mono ?_
          rw [← HK.out]
          rintro e w1 ⟨rfl, rfl⟩
          have HB := Lib.hid (Below.refl w1.heap.size w1)
          go_wp2_with fail
          go_quiet (first | (go_at_call 35; exact Calls.quiet_of_same (HFIG.out _)))
          have hbq := below_drewN HB.out nq
          generalize w1.drewN nq = wq at hbq ⊢
          go_wp2
          rw [HE.out]
          exact formEnd_none HN.out hbq
    · have c1' : ((r2 : Int) == (q : Int)) = false := by rw [beq_eq_false_iff_ne]; omega
      have HN : Hid (formR s.data.toList = none) := formR_not HNL.out (by rw [HQL.out, HR2.out]; rintro ⟨_, h, _⟩; exact c1 h)
      clear c1
      rcases hfirst with ⟨hf1, hf2⟩ | hf1
      · 
        go_enter Tryd.func25, Tryd.ntmps25
        go_wp2_with fail
        refine (refFigures_any s _ hs).mono ?_
        rw [← HK.out]
        rintro e w1 ⟨rfl, rfl⟩
        have HB := Lib.hid (Below.refl w1.heap.size w1)
        go_wp2_with fail
        go_quiet (first | (go_at_call 35; exact Calls.quiet_of_same (HFIG.out _)))
        have hbq := below_drewN HB.out nq
        generalize w1.drewN nq = wq at hbq ⊢
        go_wp2
        rw [HE.out]
        exact formEnd_none HN.out hbq
      · 
        go_enter Tryd.func25, Tryd.ntmps25
        go_wp2_with fail
        refine (refFigures_any s _ hs).mono ?_
        rw [← HK.out]
        rintro e w1 ⟨rfl, rfl⟩
        have HB := Lib.hid (Below.refl w1.heap.size w1)
        go_wp2_with fail
        go_quiet (first | (go_at_call 35; exact Calls.quiet_of_same (HFIG.out _)))
        have hbq := below_drewN HB.out nq
        generalize w1.drewN nq = wq at hbq ⊢
        go_wp2
        rw [HE.out]
        exact formEnd_none HN.out hbq
  · have h46' : ((m2 : Int) == 46) = false := by rw [beq_eq_false_iff_ne]; omega
    have HN : Hid (formR s.data.toList = none) := formR_not HNL.out (by
      rw [HAT.out]
      rintro ⟨h, _⟩
      have := congrArg UInt8.toNat (Option.some.inj h)
      rw [UInt8.toNat_ofNat', Nat.mod_eq_of_lt hm256] at this
      exact h46 this)
    clear h46
    rcases hfirst with ⟨hf1, hf2⟩ | hf1
    · 
      go_enter Tryd.func25, Tryd.ntmps25
      go_wp2_with fail
      refine (refFigures_any s _ hs).mono ?_
      rw [← HK.out]
      rintro e w1 ⟨rfl, rfl⟩
      have HB := Lib.hid (Below.refl w1.heap.size w1)
      go_wp2_with fail
      go_quiet (fail)
      have hbq := below_drewN HB.out nq
      generalize w1.drewN nq = wq at hbq ⊢
      go_wp2
      rw [HE.out]
      exact formEnd_none HN.out hbq
    · 
      go_enter Tryd.func25, Tryd.ntmps25
      go_wp2_with fail
      refine (refFigures_any s _ hs).mono ?_
      rw [← HK.out]
      rintro e w1 ⟨rfl, rfl⟩
      have HB := Lib.hid (Below.refl w1.heap.size w1)
      go_wp2_with fail
      go_quiet (fail)
      have hbq := below_drewN HB.out nq
      generalize w1.drewN nq = wq at hbq ⊢
      go_wp2
      rw [HE.out]
      exact formEnd_none HN.out hbq

end Go.Proofs.YtpnghjfcfeaemaaDoor
