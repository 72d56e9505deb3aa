/-
  The walks over the check of a head: as the program folds it, as the document lays it out.
-/
import Derived.Test.YtkacplgfkokdcaaBechHead
import Derived.Laws.IdiomStrings
set_option linter.unusedVariables false
namespace Go.Proofs.Ytkacplgfkokdcaa
open Go.RowKit

/-- '[]byte(s)': the bytes, in a new row. -/
theorem conv_bytes (w : World) (s : ByteArray) : ∃ (cap : Nat) (w' : World), (convert 9 22 (.string s)).run Try.prog w = .ok (.slice (some ⟨w.heap.size, 0, none⟩) s.size cap) w' ∧
    RdB w' w'.heap.size (some ⟨w.heap.size, 0, none⟩) s.size s.data.toList ∧ Below w.heap.size w w' := by
  refine ⟨_, _, run_bytes_of_string w 9 22 5 s Try.underlying9 Try.underlying22 Try.underlying5, ?_, (Below.refl _ _).drew.alloc (Nat.le_refl _) _⟩
  refine ⟨by rw [Lib.byteCells_length, ← size_list]; omega, fun _ => ⟨_, rfl, by simp, fun j u hu => ?_⟩⟩
  have e : (⟨w.heap.size, 0, none⟩ : Addr).add j = ⟨w.heap.size, j, none⟩ := by unfold Addr.add; split <;> simp_all
  rw [e]
  have hj : j < s.data.size := by
    have := (List.getElem?_eq_some_iff.1 hu).1
    rw [Lib.byteCells_length, Array.length_toList] at this
    exact this
  simp only [Lib.byteCells, List.getElem?_map, Array.getElem?_toList, Array.getElem?_eq_getElem hj, Option.map_some, Option.some.injEq] at hu
  subst hu
  have hh : (w.drew.alloc (.cells (bytesRow s (grownCap w s.size 0 5)) 5 ((bytesRow s (grownCap w s.size 0 5)).size, (bytesRow s (grownCap w s.size 0 5)).size + 1))).heap[w.heap.size]? = some (.cells (bytesRow s (grownCap w s.size 0 5)) 5 ((bytesRow s (grownCap w s.size 0 5)).size, (bytesRow s (grownCap w s.size 0 5)).size + 1)) := heap_alloc_new w.drew _
  rw [cell_of_row _ _ j _ _ _ hh]
  unfold bytesRow
  rw [Array.getElem?_append_left (by simpa using hj)]
  simp [Array.getElem?_eq_getElem hj]

theorem bStep_mod (c v : Nat) : bStep c (v % 32) = bStep c v := by unfold bStep; rw [Nat.mod_mod]

theorem bMore_mod (l : List UInt8) : ∀ c, bMore c (l.map fun c => UInt8.ofNat (c.toNat % 32)) = bMore c l := by
  induction l with
  | nil => intro c; rfl
  | cons v l ih =>
    intro c
    show bMore (bStep c (UInt8.ofNat (v.toNat % 32)).toNat) _ = bMore (bStep c v.toNat) l
    rw [ih, UInt8.toNat_ofNat', Nat.mod_eq_of_lt (by omega), bStep_mod]

theorem headL_more (h : List UInt8) : bMore 1 (headL h) = bMore (bStep (bMore 1 (h.map fun c => UInt8.ofNat (c.toNat / 32))) 0) h := by
  unfold headL
  rw [bMore_append, bMore_append, bMore_mod]
  rfl

set_option maxHeartbeats 1000000 in
theorem headed_any (s : ByteArray) (w : World) (hs : s.size ≤ 1000000) :
    Calls Try.prog 31 #[.string s] w fun e w' => e = .returned (.int .u32 (bMore 1 (headL s.data.toList) : Nat)) ∧ Below w.heap.size w w' := by
  have HL := Lib.hid (size_list s)
  obtain ⟨r, hr⟩ : ∃ r, r = bMore 1 (headL s.data.toList) := ⟨_, rfl⟩
  rw [← hr]
  have HR := Lib.hid hr
  clear hr
  go_enter Try.func31, Try.ntmps31
  go_wp2
  go_loopw [3, 7] (fun x i wr => ∃ (k y : Nat), k ≤ s.size ∧ i = .int .i64 k ∧ x = .int .u32 (y : Int) ∧ Hid (y = bMore 1 ((s.data.toList.take k).map fun c => UInt8.ofNat (c.toNat / 32))) ∧ y < 1073741824 ∧ Below w.heap.size w wr) (fun _ i _ => s.size - (intOf i).toNat)
  case atStart => exact ⟨0, 1, by omega, rfl, rfl, rfl, by omega, Below.refl _ _⟩
  case round =>
    obtain ⟨k, y, hk, rfl, rfl, hy, hyb, hb⟩ := hrel
    by_cases hlt : k < s.size
    · have hkl : k < s.data.toList.length := by rw [← HL.out]; exact hlt
      have hg := get_list s k hlt
      obtain ⟨m, hm⟩ : ∃ m : Nat, s[k].toNat = m := ⟨_, rfl⟩
      have hm1 : m < 256 := by rw [← hm]; exact UInt8.toNat_lt _
      have HM : Hid ((s.data.toList[k]'hkl).toNat = m) := by
        show (s.data.toList[k]'hkl).toNat = m
        rw [← hg]; exact hm
      clear hg
      have hm' : (s.data[k]'hlt).toNat = m := hm
      go_wp2_with fail
      rw [show (m : Int) / 32 = ((m / 32 : Nat) : Int) by omega]
      refine (step_any y (m / 32) _ (by omega) (by omega)).mono ?_
      rintro e w1 ⟨rfl, hb1⟩
      have HN : Hid (bStep y (m / 32) = bMore 1 ((s.data.toList.take (k + 1)).map fun c => UInt8.ofNat (c.toNat / 32))) := by
        show bStep y (m / 32) = _
        rw [List.take_succ_eq_append_getElem hkl, List.map_append, List.map_singleton, bMore_snoc, ← hy.out, HM.out, UInt8.toNat_ofNat', Nat.mod_eq_of_lt (by omega)]
      have hlt2 := bStep_lt y (m / 32)
      clear hm hm'
      go_wp2
      go_roundw
      case rel => exact ⟨k + 1, _, by omega, by go_num, rfl, HN.out, hlt2, hb.trans (hb1.mono hb.size)⟩
      case measure => simp [intOf]; omega
    · go_wp2_with fail
      refine (step_any y 0 _ (by omega) (by omega)).mono ?_
      rintro e w1 ⟨rfl, hb1⟩
      have hb01 : Below w.heap.size w w1 := hb.trans (hb1.mono hb.size)
      obtain ⟨cap, w2, hcv, hr2, hb2⟩ := conv_bytes w1 s
      have HR2 := Lib.hid hr2
      have HF : Hid (bMore (bStep y 0) s.data.toList = r) := by
        show _ = r
        have h1 := hy.out
        rw [List.take_of_length_le (by rw [← HL.out]; omega)] at h1
        rw [HR.out, headL_more, ← h1]
      have hlt2 := bStep_lt y 0
      have hb02 : Below w.heap.size w w2 := hb01.trans (hb2.mono hb01.size)
      clear hr2 hb1
      go_wp2_with fail
      refine (more_any (bStep y 0) _ _ _ _ _ hlt2 HR2.out (by omega)).mono ?_
      rintro e w3 ⟨rfl, hb3⟩
      rw [HF.out]
      go_wp2
      go_ret
      exact ⟨rfl, hb02.trans (hb3.mono hb02.size)⟩

end Go.Proofs.Ytkacplgfkokdcaa
