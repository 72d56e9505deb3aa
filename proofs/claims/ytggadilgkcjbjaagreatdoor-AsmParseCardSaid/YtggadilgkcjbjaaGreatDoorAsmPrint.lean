/-
  The walk over Print of asm.
-/
import Derived.Test.YtggadilgkcjbjaaGreatDoorAsmText
import Derived.Deep.AppendLies
set_option linter.unusedVariables false
namespace Go.Proofs.YtggadilgkcjbjaaGreatDoor
open Go.RowKit Go.Sort

theorem infoStr3 : (Tryz.prog.info? 9).map (fun i => (i.zero, i.size, i.bytes)) = some (some (.string ⟨#[]⟩), 1, 16) := by kernel_rfl

/-- Cells of texts. -/
def strCells (l : List (List UInt8)) : List Value := l.map fun s => .string ⟨s.toArray⟩
theorem strCells_length (l : List (List UInt8)) : (strCells l).length = l.length := by simp [strCells]
theorem strCells_snoc (a : List (List UInt8)) (b : List UInt8) : strCells (a ++ [b]) = strCells a ++ [.string ⟨b.toArray⟩] := by simp [strCells]
/-- How Print ends. -/
def PrintEnd (r : Option (List UInt8)) (w : World) (e : Ending) (w' : World) : Prop :=
  (match r with
    | none => e = .returned (.tuple #[.string ⟨#[]⟩, .int .i64 2])
    | some s => e = .returned (.tuple #[.string ⟨s.toArray⟩, .int .i64 0])) ∧ Below w.heap.size w w'
theorem printEnd_none {r : Option (List UInt8)} {w w' : World} (h : r = none) (hb : Below w.heap.size w w') : PrintEnd r w (.returned (.tuple #[.string ⟨#[]⟩, .int .i64 2])) w' := by
  subst h; exact ⟨rfl, hb⟩
theorem printEnd_some {r : Option (List UInt8)} {s : List UInt8} {t : ByteArray} {w w' : World} (h : r = some s) (ht : t = ⟨s.toArray⟩) (hb : Below w.heap.size w w') : PrintEnd r w (.returned (.tuple #[.string t, .int .i64 0])) w' := by
  subst h ht; exact ⟨rfl, hb⟩

theorem name_len : ∀ m : Fin 256, (nameL m.1).length ≤ 20 := by decide +kernel
theorem lay_push {x : Wd} (h : (layL x).isSome) : x.2.length ≤ 65535 := by
  have hop := UInt8.toNat_lt x.1
  unfold layL at h
  split at h
  · split at h
    · omega
    · cases h
  · split at h
    · split at h
      · omega
      · cases h
    · split at h
      · split at h
        · omega
        · cases h
      · split at h
        · omega
        · cases h
theorem textL_len {x : Wd} (h : x.2.length ≤ 65535) : (textL x).length ≤ 140000 := by
  have hop := UInt8.toNat_lt x.1
  unfold textL
  split
  · unfold pushTextL
    split
    · simp
    · split
      · simp
      · split
        · have := dec3_length (x.1.toNat - 80); omega
        · split
          · simp [hexEnc_length]; omega
          · have := dec3_length x.1.toNat; simp [hexEnc_length]; omega
  · split
    · have := name_len ⟨x.1.toNat, hop⟩; simp only at this; omega
    · have := dec3_length x.1.toNat; simp; omega
theorem join_len (M : Nat) : ∀ (ts : List (List UInt8)), (∀ t ∈ ts, t.length ≤ M) → (Lib.join ts [32]).length ≤ ts.length * (M + 1)
  | [], _ => by rw [Lib.join_nil]; simp
  | [x], h => by
    have := h x (by simp)
    rw [Lib.join_one]
    simp
    omega
  | x :: y :: r, h => by
    have hx := h x (by simp)
    have ih := join_len M (y :: r) (fun t ht => h t (by simp at ht ⊢; right; exact ht))
    rw [join_more]
    simp only [List.length_append, List.length_cons, List.length_nil, Nat.add_mul, Nat.one_mul] at ih ⊢
    omega
theorem all_len : ∀ {ws : List Wd} {b : List UInt8}, buildL ws = some b → ws.length ≤ b.length
  | [], b, _ => by simp
  | x :: ws, b, h => by
    rw [buildL_cons] at h
    cases hx : layL x with
    | none => rw [hx] at h; cases h
    | some l =>
      rw [hx] at h
      simp only at h
      cases hr : buildL ws with
      | none => rw [hr] at h; cases h
      | some r =>
        rw [hr] at h
        simp only [Option.map_some, Option.some.injEq] at h
        subst h
        have h1 := all_len hr
        have h2 : 1 ≤ l.length := by
          have h := hx
          unfold layL at h
          split at h
          · split at h <;> simp at h; rw [← h]; simp
          · split at h
            · split at h <;> simp at h; rw [← h]; simp
            · split at h
              · split at h <;> simp at h; rw [← h]; simp
              · split at h <;> simp at h; rw [← h]; simp
        simp only [List.length_cons, List.length_append]
        omega

theorem join_any (l : Value) (ts : List (List UInt8)) (n base : Nat) (w : World) (hn : n = ts.length) (ho : w.ownsRow base 9 1 l n (strCells ts)) (hN : ts.length ≤ 1000000) (hlen : (Lib.join ts [32]).length ≤ 140737488355328) :
    Calls Tryz.prog 12 #[l, .string ⟨#[32]⟩] w (StrEnd (Lib.join ts [32]) w) := by
  subst hn
  obtain ⟨A, c, e⟩ := own_slice ho
  subst e
  rcases Nat.eq_zero_or_pos ts.length with h0 | h0
  · rw [h0]
    have : ts = [] := List.eq_nil_of_length_eq_zero h0
    subst this
    refine (Tryz.strings_Join_none A c _ w).mono ?_
    rintro e w' ⟨rfl, rfl⟩
    exact ⟨rfl, Below.refl _ _⟩
  · obtain ⟨g, cap, hv, _, hlt⟩ := ho.form h0
    cases hv
    obtain ⟨ad, e, _, hc⟩ := (Reads.of_own ho).2 h0
    cases e
    have hcap : ts.length ≤ c := by
      rcases ho.2 with ⟨hv, _⟩ | ⟨g2, cap2, cur2, hv, _, _, h1, _, _⟩
      · cases hv
      · cases hv; exact h1
    have hmap : (ts.map fun s => (⟨s.toArray⟩ : ByteArray)).map (·.data.toList) = ts := by rw [List.map_map]; exact (List.map_congr_left (fun a _ => rfl)).trans (List.map_id ts)
    have hj := Tryz.strings_Join g 0 c (ts.map fun s => (⟨s.toArray⟩ : ByteArray)) ⟨#[32]⟩ w (fun j x hx => by
      have := hc j (.string x) (by unfold strCells; rw [List.getElem?_map] at hx ⊢; cases h1 : ts[j]? with
        | none => rw [h1] at hx; cases hx
        | some s => rw [h1] at hx; simp only [Option.map_some, Option.some.injEq] at hx; rw [Option.map_some, hx])
      rw [add_zero_off] at this
      rw [Nat.zero_add]
      exact this) hlt (by rw [List.length_map]; omega) (by rw [List.length_map]; exact hcap) (by rw [hmap]; exact hlen)
    rw [hmap, List.length_map] at hj
    exact hj

set_option maxRecDepth 100000 in
set_option maxHeartbeats 2000000 in
theorem print_any (A : Option Addr) (n c : Nat) (bs : List UInt8) (w : World) (h : RdB w w.heap.size A n bs) (hnc : n ≤ c) (hcm : c ≤ maxLen) (hn : n ≤ 1000000) (hg : Gd w) :
    Calls Tryz.prog 6 #[.slice A n c] w (PrintEnd (printL bs) w) := by
  obtain ⟨E, hE⟩ : ∃ E, E = PrintEnd (printL bs) w := ⟨_, rfl⟩
  rw [← hE]
  have HE := Lib.hid hE
  have HL := Lib.hid h.len
  have HA := Lib.hid (all_any A n c bs w h hnc hcm hn)
  have HG := Lib.hid hg
  clear hE h hcm hnc
  obtain ⟨i0, hi, hz0, hz1, hz2⟩ := info_parts infoStr3
  go_enter Tryz.func6, Tryz.ntmps6
  go_wp2_with fail
  refine HA.out.mono ?_
  intro e w1 h1
  cases ha : allL bs with
  | none =>
    rw [ha] at h1
    obtain ⟨rfl, hb1⟩ := h1
    have HF : Hid (printL bs = none) := by show _ = _; unfold printL; rw [ha]; rfl
    clear ha
    go_wp2
    rw [HE.out]
    exact printEnd_none HF.out hb1
  | some ws =>
    rw [ha] at h1
    obtain ⟨⟨v, rfl, hrow⟩, hb1⟩ := h1
    have HF : Hid (printL bs = some (Lib.join (ws.map textL) [32])) := by show _ = _; unfold printL; rw [ha]; rfl
    obtain ⟨hbd, hlay⟩ := build_all ha
    have hkn : ws.length ≤ 1000000 := by
      have := all_len hbd
      have := HL.out
      omega
    have HLAY := Lib.hid hlay
    have HROW := Lib.hid hrow
    have HG1 := Lib.hid (HG.out.below hb1)
    obtain ⟨A2, c2, e2⟩ : ∃ A c, v = .slice A ws.length c := by
      obtain ⟨xs, ho, _⟩ := hrow
      exact own_slice ho
    subst e2
    obtain ⟨k, hk⟩ : ∃ k, k = ws.length := ⟨_, rfl⟩
    have HK := Lib.hid hk
    rw [← hk] at hkn ⊢
    clear ha hbd hlay hrow hk
    have hj0 : Hid ((ws.take 0).map textL = []) := by show _ = _; rw [List.take_zero]; rfl
    go_wp2
    go_loopw [6, 19] (fun l a wr => ∃ (j : Nat), a = .int .i64 j ∧ j ≤ k ∧ Hid (wr.ownsRow w1.heap.size 9 1 l j (strCells ((ws.take j).map textL))) ∧ Below w1.heap.size w1 wr) (fun _ a _ => k - (intOf a).toNat)
    case atStart => exact ⟨0, rfl, Nat.zero_le _, by show World.ownsRow _ _ _ _ _ _ _; rw [hj0.out]; exact ⟨rfl, .inl ⟨rfl, rfl⟩⟩, Below.refl _ _⟩
    case round =>
      obtain ⟨j, rfl, hj, hown, hb⟩ := hrel
      by_cases hlt : j < k
      · have hlt2 : j < ws.length := by rw [← HK.out]; exact hlt
        obtain ⟨g, c', p, hv, hg, hc1, hc2, hp⟩ := (HROW.out.below hb).read hlt2
        cases hv
        obtain ⟨x, hxx⟩ : ∃ x, x = ws[j] := ⟨_, rfl⟩
        rw [← hxx] at hc1 hp
        have hxl : x.2.length ≤ 65535 := lay_push (HLAY.out x (by rw [hxx]; exact List.getElem_mem _))
        have HT : Hid ((ws.take (j + 1)).map textL = (ws.take j).map textL ++ [textL x]) := by
          show _ = _
          rw [List.take_succ_eq_append_getElem hlt2, List.map_append, ← hxx]
          rfl
        obtain ⟨A3, c3, e3⟩ := hp.slice
        subst e3
        obtain ⟨m, hm⟩ : ∃ m, m = x.2.length := ⟨_, rfl⟩
        have HM := Lib.hid hm
        obtain ⟨y, hy⟩ : ∃ y : Nat, y = x.1.toNat := ⟨_, rfl⟩
        have HY := Lib.hid hy
        rw [← hm] at hc2
        rw [← hy] at hc1
        have hal : Below wr.heap.size wr (wr.alloc (.cells #[.int .u8 (y : Int), .slice A3 m c3] 36)) := (Below.refl _ _).alloc (Nat.le_refl _) _
        have hba := hb.trans (hal.mono hb.size)
        have HTX : Hid (Calls Tryz.prog 11 #[.agg #[.int .u8 (y : Int), .slice A3 m c3]] (wr.alloc (.cells #[.int .u8 (y : Int), .slice A3 m c3] 36)) (StrEnd (textL x) (wr.alloc (.cells #[.int .u8 (y : Int), .slice A3 m c3] 36)))) :=
          text_any _ x _ ⟨.slice A3 m c3, by rw [hy, hm], by rw [hm] at hal ⊢; exact hp.below hal⟩ hxl (HG1.out.below hba)
        have HO := Lib.hid (own_below hown.out hal)
        clear hxx hxl hp hal hown hm hy
        go_wp2_with (go_at_call 11; refine HTX.out.mono ?_)
        rintro e w2 ⟨rfl, hb2⟩
        have hb12 := hba.trans (hb2.mono hba.size)
        obtain ⟨s, hs⟩ : ∃ s, s = (⟨(textL x).toArray⟩ : ByteArray) := ⟨_, rfl⟩
        have HS := Lib.hid hs
        rw [← hs]
        have hal2 : Below w2.heap.size w2 (w2.alloc (.cells #[.string s] 9)) := (Below.refl _ _).alloc (Nat.le_refl _) _
        have HO2 := Lib.hid (own_below (own_below HO.out hb2) hal2)
        have hb13 := hb12.trans (hal2.mono hb12.size)
        have HRD : Hid (Reads (w2.alloc (.cells #[.string s] 9)) (w2.heap.size + 1) 1 (some ⟨w2.heap.size, 0, none⟩) 1 [.string s]) := by
          have h0 := Reads.of_own (World.ownsRow_lit (base := 0) (e := 9) (size := 1) w2 #[.string s] 1 (Nat.zero_le _) (by unfold maxLen; omega) rfl)
          have e : (w2.alloc (.cells #[.string s] 9)).heap.size = w2.heap.size + 1 := by simp
          rw [e] at h0
          exact h0
        clear hs hb2 hba hal2 hb HTX HO
        go_wp2_with (at_builtin; refine wpList_append_any (w2.alloc (.cells #[.string s] 9)) rfl _ _ 34 rfl w1.heap.size 9 i0 (.string ⟨#[]⟩) 1 16 Tryz.underlying34 hi hz0 hz1 hz2 rfl (by decide) _ _ _ rfl HO2.out (w2.heap.size + 1) (some ⟨w2.heap.size, 0, none⟩) 1 1 [.string s] rfl HRD.out (by intro u hu; rcases List.mem_cons.1 hu with rfl | hu; rfl; cases hu) (by unfold maxLen; omega) (by omega) hb13.size ?_)
        intro v' w' hown' hg' _
        have hb' : Below w1.heap.size w1 w' := hb13.grown hg' hb13.size (fun k hk => (HO2.out.lt k hk).1)
        have HOWN : Hid (w'.ownsRow w1.heap.size 9 1 v' (j + 1) (strCells ((ws.take (j + 1)).map textL))) := by
          show World.ownsRow _ _ _ _ _ _ _
          rw [HT.out]
          rw [strCells_snoc, ← HS.out, List.map_take]
          exact hown'
        clear hown' hg' HO2 HRD hb12 hb13
        go_wp2
        go_roundw
        case rel => exact ⟨j + 1, by simp, by omega, HOWN, hb'⟩
        case measure => simp [intOf]; omega
      · have HJ : Hid (Calls Tryz.prog 12 #[u6, .string ⟨#[32]⟩] wr (StrEnd (Lib.join (ws.map textL) [32]) wr)) := by
          have ho := hown.out
          rw [List.take_of_length_le (by rw [← HK.out]; omega)] at ho
          refine join_any _ _ j w1.heap.size _ (by rw [List.length_map, ← HK.out]; omega) ho (by rw [List.length_map, ← HK.out]; omega) ?_
          have := join_len 140000 (ws.map textL) (fun t ht => by obtain ⟨x, hx, rfl⟩ := List.mem_map.1 ht; exact textL_len (lay_push (HLAY.out x hx)))
          rw [List.length_map, ← HK.out] at this
          have h2 : k * (140000 + 1) ≤ 1000000 * (140000 + 1) := Nat.mul_le_mul_right _ hkn
          omega
        have hb02 := hb1.trans (hb.mono hb1.size)
        go_wp2_with (go_at_call 12; refine HJ.out.mono ?_)
        rintro e w2 ⟨rfl, hb2⟩
        have hb03 := hb02.trans (hb2.mono hb02.size)
        clear hb2 hb02
        go_wp2
        rw [HE.out]
        exact printEnd_some HF.out rfl hb03

end Go.Proofs.YtggadilgkcjbjaaGreatDoor
