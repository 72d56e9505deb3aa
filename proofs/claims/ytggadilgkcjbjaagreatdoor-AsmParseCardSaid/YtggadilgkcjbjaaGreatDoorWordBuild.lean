/-
  The walk over Build of words.
-/
import Derived.Test.YtggadilgkcjbjaaGreatDoorWordLay
import Derived.Deep.AppendLies
set_option linter.unusedVariables false
namespace Go.Proofs.YtggadilgkcjbjaaGreatDoor
open Go.RowKit

/-- What Build answers. -/
def BuildEnd (r : Option (List UInt8)) (w : World) (e : Ending) (w' : World) : Prop :=
  (match r with
    | none => e = .returned (.tuple #[.slice none 0 0, .int .i64 1])
    | some l => ∃ v, e = .returned (.tuple #[v, .int .i64 0]) ∧ PushAt w' v l) ∧ Below w.heap.size w w'
theorem buildEnd_none {r : Option (List UInt8)} {w w' : World} (h : r = none) (hb : Below w.heap.size w w') : BuildEnd r w (.returned (.tuple #[.slice none 0 0, .int .i64 1])) w' := by
  subst h; exact ⟨rfl, hb⟩
theorem buildEnd_some {r : Option (List UInt8)} {l : List UInt8} {n base : Nat} {v : Value} {w w' : World} (h : r = some l) (hr : w'.ownsRow base 5 1 v n (Lib.byteCells l)) (hb : Below w.heap.size w w') : BuildEnd r w (.returned (.tuple #[v, .int .i64 0])) w' := by
  subst h
  have hl : l.length = n := by have := hr.1; rw [Lib.byteCells_length] at this; omega
  subst hl
  exact ⟨⟨v, rfl, own_base hr⟩, hb⟩

theorem layL_len {x : Wd} {l : List UInt8} (h : layL x = some l) : l.length ≤ x.2.length + 3 := by
  unfold layL at h
  split at h
  · split at h
    · simp only [Option.some.injEq] at h; subst h; simp only [List.length_cons]; omega
    · cases h
  · split at h
    · split at h
      · simp only [Option.some.injEq] at h; subst h; simp only [List.length_cons]; omega
      · cases h
    · split at h
      · split at h
        · simp only [Option.some.injEq] at h; subst h; simp only [List.length_cons]; omega
        · cases h
      · split at h
        · simp only [Option.some.injEq] at h; subst h; simp
        · cases h

theorem buildL_cons (x : Wd) (ws : List Wd) : buildL (x :: ws) = (match layL x with | none => none | some b => (buildL ws).map (b ++ ·)) := by
  rw [buildL]
  cases layL x with
  | none => rfl
  | some b => cases buildL ws <;> rfl

theorem add_zero_off (g k : Nat) : (⟨g, 0, none⟩ : Addr).add k = ⟨g, k, none⟩ := by
  unfold Addr.add
  split
  · rename_i h; rw [h]
  · simp

/-- The two cells of a word of a row. -/
theorem RowAt.read {w : World} {base : Nat} {v : Value} {ws : List Wd} (h : RowAt w base v ws) {k : Nat} (hk : k < ws.length) : ∃ g c p, v = .slice (some ⟨g, 0, none⟩) ws.length c ∧ g < w.heap.size ∧ w.cell? ⟨g, k * 2, none⟩ = some (.int .u8 ((ws[k]).1.toNat : Int)) ∧ w.cell? ⟨g, k * 2 + 1, none⟩ = some p ∧ PushAt w p (ws[k]).2 := by
  obtain ⟨xs, ho, hw⟩ := h
  obtain ⟨g, c, hv, _, hlt⟩ := ho.form (by omega)
  subst hv
  obtain ⟨p, h1, h2, h3⟩ := hw.get (k := k) (x := ws[k]) (List.getElem?_eq_getElem hk)
  obtain ⟨ad, e, _, hc⟩ := (Reads.of_own ho).2 (by omega)
  cases e
  refine ⟨g, c, p, rfl, hlt, ?_, ?_, h3⟩
  · have := hc _ _ h1
    rw [add_zero_off] at this
    exact this
  · have := hc _ _ h2
    rw [add_zero_off] at this
    exact this

set_option maxRecDepth 100000 in
set_option maxHeartbeats 2000000 in
theorem build_any (v : Value) (ws : List Wd) (base : Nat) (w : World) (h : RowAt w base v ws) (hn : ws.length ≤ 100000) (hx : ∀ x ∈ ws, x.2.length ≤ 65535) :
    Calls Tryz.prog 17 #[v] w (BuildEnd (buildL ws) w) := by
  obtain ⟨E, hE⟩ : ∃ E, E = BuildEnd (buildL ws) w := ⟨_, rfl⟩
  rw [← hE]
  have HE := Lib.hid hE
  have H := Lib.hid h
  obtain ⟨A, c, rfl⟩ : ∃ A c, v = .slice A ws.length c := by
    obtain ⟨xs, ho, _⟩ := h
    exact own_slice ho
  obtain ⟨n, hnn⟩ : ∃ n, n = ws.length := ⟨_, rfl⟩
  have HN := Lib.hid hnn
  have HX := Lib.hid hx
  have hn' : n ≤ 100000 := by omega
  rw [← hnn]
  clear hE h hnn hn hx
  obtain ⟨i0, hi, hz0, hz1, hz2⟩ := info_parts infoByte
  go_enter Tryz.func17, Tryz.ntmps17
  go_wp2
  go_loopw [4, 11] (fun l a wr => ∃ (j m : Nat) (out : List UInt8), a = .int .i64 j ∧ j ≤ n ∧ m ≤ 65538 * j ∧ Hid (wr.ownsRow w.heap.size 5 1 l m (Lib.byteCells out)) ∧ Hid (buildL ws = (buildL (ws.drop j)).map (out ++ ·)) ∧ Below w.heap.size w wr) (fun _ a _ => n - (intOf a).toNat)
  case atStart => exact ⟨0, 0, [], rfl, Nat.zero_le _, Nat.le_refl _, ⟨rfl, .inl ⟨rfl, rfl⟩⟩, by show _ = _; rw [List.drop_zero]; cases buildL ws <;> rfl, Below.refl _ _⟩
  case round =>
    obtain ⟨j, m, out, rfl, hj, hm, hrow, hall, hb⟩ := hrel
    by_cases hlt : j < n
    · have hlt2 : j < ws.length := by rw [← HN.out]; exact hlt
      obtain ⟨g, c', p, hv, hg, hc1, hc2, hp⟩ := (H.out.below hb).read hlt2
      cases hv
      obtain ⟨x, hxx⟩ : ∃ x, x = ws[j] := ⟨_, rfl⟩
      rw [← hxx] at hc1 hp
      have HXX := Lib.hid hxx
      have hxl : x.2.length ≤ 65535 := HX.out x (by rw [hxx]; exact List.getElem_mem _)
      have HDR : Hid (ws.drop j = x :: ws.drop (j + 1)) := by show _ = _; rw [hxx]; exact List.drop_eq_getElem_cons hlt2
      obtain ⟨A2, c2, e2⟩ := hp.slice
      subst e2
      have hal : Below wr.heap.size wr (wr.alloc (.cells #[.int .u8 (x.1.toNat : Int), .slice A2 x.2.length c2] 36)) := (Below.refl _ _).alloc (Nat.le_refl _) _
      have HW : Hid (WordAt (wr.alloc (.cells #[.int .u8 (x.1.toNat : Int), .slice A2 x.2.length c2] 36)) (.agg #[.int .u8 (x.1.toNat : Int), .slice A2 x.2.length c2]) x) := ⟨_, rfl, hp.below hal⟩
      have HO := Lib.hid (own_below hrow.out hal)
      have hba := hb.trans (hal.mono hb.size)
      have HXL := Lib.hid hxl
      clear hxx hxl hp hal hrow hb
      go_wp2_with (go_at_call 40; refine (lay_any _ x _ HW.out (by have := HXL.out; omega)).mono ?_)
      rintro e w1 ⟨q, b, rfl, hb1, hl⟩
      have HO1 := Lib.hid (own_below HO.out hb1)
      have hb01 : Below w.heap.size w w1 := hba.trans (hb1.mono hba.size)
      cases hlx : layL x with
      | none =>
        rw [hlx] at hl
        obtain ⟨rfl, A3, n3, c3, rfl⟩ := hl
        have HF : Hid (buildL ws = none) := by
          show _ = _
          rw [hall.out, HDR.out, buildL_cons, hlx]
          rfl
        clear hlx hb1 hba
        go_wp2
        rw [HE.out]
        exact buildEnd_none HF.out hb01
      | some b3 =>
        rw [hlx] at hl
        obtain ⟨rfl, hp3⟩ := hl
        obtain ⟨A3, c3, e3⟩ := hp3.slice
        subst e3
        have hl3 := layL_len hlx
        have hxl := HXL.out
        have HF : Hid (buildL ws = (buildL (ws.drop (j + 1))).map ((out ++ b3) ++ ·)) := by
          show _ = _
          rw [hall.out, HDR.out, buildL_cons, hlx]
          cases buildL (ws.drop (j + 1)) with
          | none => rfl
          | some y => simp
        have HR3 : Hid (RdB w1 w1.heap.size A3 b3.length b3) := by
          obtain ⟨A', c', e, hr, _⟩ := hp3.byte
          cases e
          exact hr
        obtain ⟨k3, hk3⟩ : ∃ k, k = b3.length := ⟨_, rfl⟩
        rw [← hk3] at HR3
        rw [← hk3] at hl3 ⊢
        have HK3 := Lib.hid hk3
        have hk1003 : k3 ≤ 65538 := by omega
        clear hlx hb1 hba hp3 hl3 hxl hall hk3
        go_wp2_with (at_builtin; refine wpList_append_any w1 rfl _ _ 22 rfl w.heap.size 5 i0 (.int .u8 0) 1 1 Tryz.underlying22 hi hz0 hz1 hz2 rfl (by decide) _ _ _ rfl HO1.out w1.heap.size A3 k3 c3 (Lib.byteCells b3) rfl HR3.out (byteCells_one b3) (by unfold maxLen; omega) (by omega) hb01.size ?_)
        intro v' w' hown' hg' _
        have hb' : Below w.heap.size w w' := hb01.grown hg' hb01.size (fun k hk => (HO1.out.lt k hk).1)
        rw [show Lib.byteCells out ++ Lib.byteCells b3 = Lib.byteCells (out ++ b3) by simp [Lib.byteCells]] at hown'
        have HOWN := Lib.hid hown'
        clear hown' hg' HO1 HR3 hb01
        go_wp2
        go_roundw
        case rel => exact ⟨j + 1, m + k3, out ++ b3, by simp, by omega, by omega, HOWN, HF, hb'⟩
        case measure => simp [intOf]; omega
    · have HF : Hid (buildL ws = some out) := by
        show _ = _
        rw [hall.out, List.drop_eq_nil_of_le (by rw [← HN.out]; omega)]
        simp [buildL]
      go_wp2
      rw [HE.out]
      exact buildEnd_some HF.out hrow.out hb
end Go.Proofs.YtggadilgkcjbjaaGreatDoor
