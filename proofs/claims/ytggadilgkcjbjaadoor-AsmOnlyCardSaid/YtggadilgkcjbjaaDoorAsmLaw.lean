/-
  The walks over the live question of asm and over the laws AsmBack, AsmOnly.
-/
import Derived.Test.YtggadilgkcjbjaaDoorAsmParse
import Derived.Test.YtggadilgkcjbjaaDoorAsmPrint
import Derived.Test.YtggadilgkcjbjaaDoorAsmSqz
set_option linter.unusedVariables false
namespace Go.Proofs.YtggadilgkcjbjaaDoor
open Go.RowKit Go.Sort

/-- 'string(b)' at this dump. -/
theorem strOf {w : World} {B n : Nat} {A : Option Addr} {bs : List UInt8} (h : RdB w B A n bs) (c : Nat) : (convert 22 9 (.slice A n c)).run Tryd.prog w = .ok (.string ⟨bs.toArray⟩) w :=
  h.convert c 22 5 9 Tryd.underlying22 Tryd.underlying5 Tryd.underlying9
theorem strPush {w : World} {v : Value} {bs : List UInt8} (h : PushAt w v bs) : (convert 22 9 v).run Tryd.prog w = .ok (.string ⟨bs.toArray⟩) w := by
  obtain ⟨A, c, e, hr, _⟩ := h.byte
  rw [e]
  exact strOf hr c

set_option maxRecDepth 100000 in
theorem live_print : printL [81, 2, 1, 2, 118, 135] = some [49, 32, 60, 48, 49, 48, 50, 62, 32, 68, 85, 80, 32, 69, 81, 85, 65, 76] := by decide +kernel
set_option maxRecDepth 100000 in
theorem live_parse : parseL [49, 32, 32, 60, 48, 49, 48, 50, 62, 32, 68, 85, 80, 32, 69, 81, 85, 65, 76] = some [81, 2, 1, 2, 118, 135] := by decide +kernel
set_option maxRecDepth 100000 in
theorem live_not : parseL [60, 48, 55, 62] = none := by decide +kernel

set_option maxRecDepth 100000 in
set_option maxHeartbeats 1000000 in
theorem alive_any (w : World) (hg : Gd w) : Calls Tryd.prog 6 #[] w fun e w' => e = .returned (.bool true) ∧ Below w.heap.size w w' := by
  obtain ⟨E, hE⟩ : ∃ E : Ending → World → Prop, E = fun e w' => e = .returned (.bool true) ∧ Below w.heap.size w w' := ⟨_, rfl⟩
  rw [← hE]
  have HE := Lib.hid hE
  have HG := Lib.hid hg
  clear hE
  have hlit : RdB (w.alloc (.cells #[.int .u8 81, .int .u8 2, .int .u8 1, .int .u8 2, .int .u8 118, .int .u8 135] 5)) (w.alloc (.cells #[.int .u8 81, .int .u8 2, .int .u8 1, .int .u8 2, .int .u8 118, .int .u8 135] 5)).heap.size (some ⟨w.heap.size, 0, none⟩) 6 [81, 2, 1, 2, 118, 135] :=
    RdB.of_own (base := w.heap.size) (e := 5) (c := 6) (World.ownsRow_lit (base := w.heap.size) (e := 5) (size := 1) w #[.int .u8 81, .int .u8 2, .int .u8 1, .int .u8 2, .int .u8 118, .int .u8 135] 6 (Nat.le_refl _) (by unfold maxLen; omega) rfl)
  have hb0 : Below w.heap.size w (w.alloc (.cells #[.int .u8 81, .int .u8 2, .int .u8 1, .int .u8 2, .int .u8 118, .int .u8 135] 5)) := (Below.refl _ _).alloc (Nat.le_refl _) _
  have HP := Lib.hid (print_any _ 6 6 _ _ hlit (Nat.le_refl _) (by unfold maxLen; omega) (by omega) (HG.out.below hb0))
  rw [live_print] at HP
  clear hlit
  go_enter Tryd.func6, Tryd.ntmps6
  go_wp2_with fail
  refine HP.out.mono ?_
  rintro e w1 ⟨rfl, hb1⟩
  have hb01 := hb0.trans (hb1.mono hb0.size)
  have HPA := Lib.hid (parse_any ⟨#[49, 32, 32, 60, 48, 49, 48, 50, 62, 32, 68, 85, 80, 32, 69, 81, 85, 65, 76]⟩ w1 (HG.out.below hb01) (by decide))
  rw [show (⟨#[49, 32, 32, 60, 48, 49, 48, 50, 62, 32, 68, 85, 80, 32, 69, 81, 85, 65, 76]⟩ : ByteArray).data.toList = [49, 32, 32, 60, 48, 49, 48, 50, 62, 32, 68, 85, 80, 32, 69, 81, 85, 65, 76] from rfl, live_parse] at HPA
  go_wp2_with fail
  refine HPA.out.mono ?_
  rintro e w2 ⟨⟨v, rfl, hv⟩, hb2⟩
  have hb02 := hb01.trans (hb2.mono hb01.size)
  have HPN := Lib.hid (parse_any ⟨#[60, 48, 55, 62]⟩ w2 (HG.out.below hb02) (by decide))
  rw [show (⟨#[60, 48, 55, 62]⟩ : ByteArray).data.toList = [60, 48, 55, 62] from rfl, live_not] at HPN
  have HV := Lib.hid hv
  clear hv
  go_wp2_with fail
  refine HPN.out.mono ?_
  rintro e w3 ⟨rfl, hb3⟩
  have hb03 := hb02.trans (hb3.mono hb02.size)
  have hst := strPush (HV.out.below hb3)
  clear hb0 hb1 hb2 hb3 hb01 hb02
  go_wp2
  rw [HE.out]
  exact ⟨rfl, hb03⟩

/-! ### Lengths -/
theorem textL_short (x : Wd) : (textL x).length ≤ 2 * x.2.length + 20 := by
  have hop := UInt8.toNat_lt x.1
  unfold textL
  split
  · unfold pushTextL
    split
    · simp
    · split
      · simp
      · split
        · have := dec3_length (x.1.toNat - 80); omega
        · split
          · simp [hexEnc_length]
          · have := dec3_length x.1.toNat; simp [hexEnc_length]; omega
  · split
    · have := name_len ⟨x.1.toNat, hop⟩; simp only at this; omega
    · have := dec3_length x.1.toNat; simp; omega
theorem lay_long {x : Wd} {l : List UInt8} (h : layL x = some l) : x.2.length + 1 ≤ l.length := by
  unfold layL at h
  split at h
  · split at h <;> simp at h; rw [← h]; simp
  · split at h
    · split at h <;> simp at h; rw [← h]; simp
    · split at h
      · split at h <;> simp at h; rw [← h]; simp
      · split at h
        · rename_i h0
          simp at h
          rw [← h]
          simp at h0 ⊢
          rw [h0]
        · simp at h
theorem print_len : ∀ {ws : List Wd} {b : List UInt8}, buildL ws = some b → (Lib.join (ws.map textL) [32]).length ≤ 25 * b.length
  | [], b, _ => by rw [List.map_nil, Lib.join_nil]; simp
  | x :: ws, b, h => by
    rw [buildL_cons] at h
    cases hx : layL x with
    | none => rw [hx] at h; cases h
    | some l =>
      rw [hx] at h
      simp only at h
      cases hr : buildL ws with
      | none => rw [hr] at h; cases h
      | some r =>
        rw [hr] at h
        simp only [Option.map_some, Option.some.injEq] at h
        subst h
        have h1 := print_len hr
        have h2 := lay_long hx
        have h3 := textL_short x
        rw [List.length_append]
        cases ws with
        | nil =>
          rw [List.map_cons, List.map_nil, Lib.join_one]
          omega
        | cons y ws =>
          rw [List.map_cons] at h1
          rw [List.map_cons, List.map_cons, join_more, List.length_append, List.length_append, List.length_singleton]
          omega
theorem printL_len {b s : List UInt8} (h : printL b = some s) : s.length ≤ 25 * b.length := by
  unfold printL at h
  cases ha : allL b with
  | none => rw [ha] at h; cases h
  | some ws =>
    rw [ha] at h
    simp only [Option.map_some, Option.some.injEq] at h
    rw [← h]
    exact print_len (build_all ha).1
/-- A name leads to its operation. -/
theorem op_name {m : Nat} (hm : m < 256) (h : nameB m ≠ ⟨#[]⟩) : opB (nameB m) = some m := by
  have hself : isOp (nameB m) m = true := by
    unfold isOp
    rw [nonempty_of_size (size_pos_of_ne h), decide_eq_true rfl]
    rfl
  cases ho : opB (nameB m) with
  | none =>
    unfold opB at ho
    rw [List.find?_eq_none] at ho
    exact absurd hself (ho m (by simpa using hm))
  | some k =>
    unfold opB at ho
    have h1 := List.find?_some ho
    have h2 := List.mem_of_find?_eq_some ho
    simp only [List.mem_range] at h2
    unfold isOp at h1
    simp only [Bool.and_eq_true, decide_eq_true_eq] at h1
    have e := h1.2
    have hk : nameB k ≠ ⟨#[]⟩ := by rw [e]; exact h
    have a1 := small_name ⟨k, h2⟩ (name_ne hk)
    have a2 := small_name ⟨m, hm⟩ (name_ne h)
    simp only at a1 a2
    have b1 := word_text a1.2
    have b2 := word_text a2.2
    rw [a1.1] at b1
    rw [a2.1] at b2
    have e2 : nameL k = nameL m := by unfold nameL; rw [e]
    rw [e2, b2] at b1
    have h3 := congrArg (fun x : Option Wd => x.map fun y => y.1.toNat) b1
    simp only [Option.map_some, Option.some.injEq] at h3
    rw [ofNat_toNat' hm, ofNat_toNat' h2] at h3
    rw [h3]

theorem text_blanks (t : List UInt8) : (⟨#[32, 32]⟩ : ByteArray) ++ (⟨t.toArray⟩ : ByteArray) ++ (⟨#[32]⟩ : ByteArray) = ⟨(32 :: 32 :: (t ++ [32])).toArray⟩ := by
  apply ByteArray.ext
  simp

set_option maxRecDepth 100000 in
set_option maxHeartbeats 2000000 in
theorem lawBack (A : Option Addr) (n c m : Nat) (bs : List UInt8) (w : World) (h : RdB w w.heap.size A n bs) (hnc : n ≤ c) (hcm : c ≤ maxLen) (hm : m < 256) (hg : Gd w) :
    Calls Tryd.prog 3 #[.slice A n c, .int .u8 (m : Int)] w fun e w' => e = .returned (.bool true) ∧ Below w.heap.size w w' := by
  obtain ⟨E, hE⟩ : ∃ E : Ending → World → Prop, E = fun e w' => e = .returned (.bool true) ∧ Below w.heap.size w w' := ⟨_, rfl⟩
  rw [← hE]
  have HE := Lib.hid hE
  have HG := Lib.hid hg
  have H := Lib.hid h
  have HCM : Hid (c ≤ maxLen) := hcm
  clear hE h hcm
  by_cases hn : 300 < n
  · have hn' : (300 : Int) < (n : Int) := by omega
    go_enter Tryd.func3, Tryd.ntmps3
    go_wp2_with fail
    refine (alive_any _ HG.out).mono ?_
    rintro e w1 ⟨rfl, hb1⟩
    go_wp2
    rw [HE.out]
    exact ⟨rfl, hb1⟩
  · have hn' : ¬ (300 : Int) < (n : Int) := by omega
    have HPR := Lib.hid (print_any A n c bs w H.out hnc HCM.out (by omega) HG.out)
    obtain ⟨s, hs⟩ : ∃ s, s = nameB m := ⟨_, rfl⟩
    have HNM := Lib.hid (name_any m w hm)
    rw [← hs] at HNM
    have HOP : Hid (s ≠ ⟨#[]⟩ → opB s = some m) := by rw [hs]; exact op_name hm
    have HST := strOf H.out c
    clear hs hnc
    by_cases hs0 : s = ⟨#[]⟩
    · rw [show decide (s ≠ ⟨#[]⟩) = false by rw [hs0]; rfl] at HNM
      clear hs0 HST
      go_enter Tryd.func3, Tryd.ntmps3
      go_wp2_with fail
      refine HNM.out.mono ?_
      rintro e w0 ⟨rfl, rfl⟩
      go_wp2_with fail
      refine HPR.out.mono ?_
      intro e w1 h1
      cases hp : printL bs with
      | none =>
        rw [hp] at h1
        obtain ⟨rfl, hb1⟩ := h1
        clear hp
        go_wp2_with fail
        refine (alive_any _ (HG.out.below hb1)).mono ?_
        rintro e w2 ⟨rfl, hb2⟩
        have hb02 := hb1.trans (hb2.mono hb1.size)
        go_wp2
        rw [HE.out]
        exact ⟨rfl, hb02⟩
      | some t =>
        rw [hp] at h1
        obtain ⟨rfl, hb1⟩ := h1
        have htl : t.length ≤ 7500 := by
          have h1 := printL_len hp
          have h2 := H.out.len
          omega
        obtain ⟨q1, q2⟩ := parse_print hp
        obtain ⟨t1, ht1⟩ : ∃ t1, t1 = (⟨t.toArray⟩ : ByteArray) := ⟨_, rfl⟩
        have hs1 : t1.size ≤ 7500 := by rw [ht1]; show t.toArray.size ≤ _; simpa using htl
        obtain ⟨t2, ht2⟩ : ∃ t2, t2 = (⟨#[32, 32]⟩ : ByteArray) ++ t1 ++ (⟨#[32]⟩ : ByteArray) := ⟨_, rfl⟩
        have e2 : t2 = ⟨(32 :: 32 :: (t ++ [32])).toArray⟩ := by rw [ht2, ht1]; exact text_blanks t
        have hs2 : t2.size ≤ 7503 := by rw [e2]; show (32 :: 32 :: (t ++ [32])).toArray.size ≤ _; simp; omega
        have HP1 : Hid (∀ w', Gd w' → Calls Tryd.prog 10 #[.string t1] w' (ParseEnd (some bs) w')) := fun w' h' => by
          have := parse_any t1 w' h' (by omega)
          rw [show t1.data.toList = t by rw [ht1], q1] at this
          exact this
        have HP2 : Hid (∀ w', Gd w' → Calls Tryd.prog 10 #[.string t2] w' (ParseEnd (some bs) w')) := fun w' h' => by
          have := parse_any t2 w' h' (by omega)
          rw [show t2.data.toList = 32 :: 32 :: (t ++ [32]) by rw [e2], q2] at this
          exact this
        have HG1 := Lib.hid (HG.out.below hb1)
        have HT2 := Lib.hid ht2
        rw [← ht1]
        clear hp htl q1 q2 ht1 e2 hs2 ht2
        go_wp2_with fail
        refine (HP1.out w1 HG1.out).mono ?_
        rintro e w2 ⟨⟨v2, rfl, hv2⟩, hb2⟩
        have HV2 := Lib.hid hv2
        have HG2 := Lib.hid (HG1.out.below hb2)
        have hb02 := hb1.trans (hb2.mono hb1.size)
        clear hv2 hb1 hb2
        go_wp2_with fail
        rw [← HT2.out]
        refine (HP2.out w2 HG2.out).mono ?_
        rintro e w3 ⟨⟨v3, rfl, hv3⟩, hb3⟩
        have HG3 := Lib.hid (HG2.out.below hb3)
        have hb03 := hb02.trans (hb3.mono hb02.size)
        have HV23 := Lib.hid (HV2.out.below hb3)
        have HV3 := Lib.hid hv3
        clear hv3 hb02 hb3
        go_wp2_with fail
        refine (alive_any _ HG3.out).mono ?_
        rintro e w4 ⟨rfl, hb4⟩
        have hb04 := hb03.trans (hb4.mono hb03.size)
        have st2 := strPush (HV23.out.below hb4)
        have st3 := strPush (HV3.out.below hb4)
        have st0 := strOf (H.out.below hb04) c
        clear hb03 hb4
        go_wp2
        rw [HE.out]
        exact ⟨rfl, hb04⟩
    · rw [decide_eq_true hs0] at HNM
      have HOP2 := Lib.hid (op_any s w)
      rw [HOP.out hs0] at HOP2
      clear hs0 HST
      go_enter Tryd.func3, Tryd.ntmps3
      go_wp2_with fail
      refine HNM.out.mono ?_
      rintro e w0 ⟨rfl, rfl⟩
      go_wp2_with fail
      refine HOP2.out.mono ?_
      rintro e w0 ⟨rfl, rfl⟩
      simp only [Option.isSome_some, Option.getD_some]
      go_wp2_with fail
      refine HPR.out.mono ?_
      intro e w1 h1
      cases hp : printL bs with
      | none =>
        rw [hp] at h1
        obtain ⟨rfl, hb1⟩ := h1
        clear hp
        go_wp2_with fail
        refine (alive_any _ (HG.out.below hb1)).mono ?_
        rintro e w2 ⟨rfl, hb2⟩
        have hb02 := hb1.trans (hb2.mono hb1.size)
        go_wp2
        rw [HE.out]
        exact ⟨rfl, hb02⟩
      | some t =>
        rw [hp] at h1
        obtain ⟨rfl, hb1⟩ := h1
        have htl : t.length ≤ 7500 := by
          have h1 := printL_len hp
          have h2 := H.out.len
          omega
        obtain ⟨q1, q2⟩ := parse_print hp
        obtain ⟨t1, ht1⟩ : ∃ t1, t1 = (⟨t.toArray⟩ : ByteArray) := ⟨_, rfl⟩
        have hs1 : t1.size ≤ 7500 := by rw [ht1]; show t.toArray.size ≤ _; simpa using htl
        obtain ⟨t2, ht2⟩ : ∃ t2, t2 = (⟨#[32, 32]⟩ : ByteArray) ++ t1 ++ (⟨#[32]⟩ : ByteArray) := ⟨_, rfl⟩
        have e2 : t2 = ⟨(32 :: 32 :: (t ++ [32])).toArray⟩ := by rw [ht2, ht1]; exact text_blanks t
        have hs2 : t2.size ≤ 7503 := by rw [e2]; show (32 :: 32 :: (t ++ [32])).toArray.size ≤ _; simp; omega
        have HP1 : Hid (∀ w', Gd w' → Calls Tryd.prog 10 #[.string t1] w' (ParseEnd (some bs) w')) := fun w' h' => by
          have := parse_any t1 w' h' (by omega)
          rw [show t1.data.toList = t by rw [ht1], q1] at this
          exact this
        have HP2 : Hid (∀ w', Gd w' → Calls Tryd.prog 10 #[.string t2] w' (ParseEnd (some bs) w')) := fun w' h' => by
          have := parse_any t2 w' h' (by omega)
          rw [show t2.data.toList = 32 :: 32 :: (t ++ [32]) by rw [e2], q2] at this
          exact this
        have HG1 := Lib.hid (HG.out.below hb1)
        have HT2 := Lib.hid ht2
        rw [← ht1]
        clear hp htl q1 q2 ht1 e2 hs2 ht2
        go_wp2_with fail
        refine (HP1.out w1 HG1.out).mono ?_
        rintro e w2 ⟨⟨v2, rfl, hv2⟩, hb2⟩
        have HV2 := Lib.hid hv2
        have HG2 := Lib.hid (HG1.out.below hb2)
        have hb02 := hb1.trans (hb2.mono hb1.size)
        clear hv2 hb1 hb2
        go_wp2_with fail
        rw [← HT2.out]
        refine (HP2.out w2 HG2.out).mono ?_
        rintro e w3 ⟨⟨v3, rfl, hv3⟩, hb3⟩
        have HG3 := Lib.hid (HG2.out.below hb3)
        have hb03 := hb02.trans (hb3.mono hb02.size)
        have HV23 := Lib.hid (HV2.out.below hb3)
        have HV3 := Lib.hid hv3
        clear hv3 hb02 hb3
        go_wp2_with fail
        refine (alive_any _ HG3.out).mono ?_
        rintro e w4 ⟨rfl, hb4⟩
        have hb04 := hb03.trans (hb4.mono hb03.size)
        have st2 := strPush (HV23.out.below hb4)
        have st3 := strPush (HV3.out.below hb4)
        have st0 := strOf (H.out.below hb04) c
        clear hb03 hb4
        go_wp2
        rw [HE.out]
        exact ⟨rfl, hb04⟩

end Go.Proofs.YtggadilgkcjbjaaDoor
