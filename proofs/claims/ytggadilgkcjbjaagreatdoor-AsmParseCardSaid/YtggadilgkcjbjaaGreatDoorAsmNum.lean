/-
  The walk over number of asm.
-/
import Derived.Test.YtggadilgkcjbjaaGreatDoorAsmText
set_option linter.unusedVariables false
namespace Go.Proofs.YtggadilgkcjbjaaGreatDoor
open Go.RowKit Go.Sort

/-- How number ends. -/
def NumEnd (r : Option Nat) (w : World) (e : Ending) (w' : World) : Prop :=
  ∃ v : Int, e = .returned (.tuple #[.int .i64 v, .bool r.isSome]) ∧ (∀ n, r = some n → v = n) ∧ -9223372036854775808 ≤ v ∧ v ≤ 9223372036854775807 ∧ Below w.heap.size w w'

theorem str_ne {a b : ByteArray} (h : a ≠ b) : (a.toList == b.toList) = false := by
  rw [beq_eq_false_iff_ne]
  intro e
  apply h
  rw [toList_data, toList_data] at e
  rcases a with ⟨a⟩
  rcases b with ⟨b⟩
  congr 1
  exact Array.toList_inj.1 e
theorem str_eq_iff {s : ByteArray} {l : List UInt8} : (⟨l.toArray⟩ : ByteArray) = s ↔ l = s.data.toList := by
  constructor
  · rintro rfl; rfl
  · rintro rfl; rfl

set_option maxRecDepth 100000 in
set_option maxHeartbeats 1000000 in
theorem number_any (s : ByteArray) (most : Nat) (w : World) (hg : Gd w) (hm : most < 256) (hs : s.size ≤ 1000000) :
    Calls Tryz.prog 37 #[.string s, .int .i64 most] w (NumEnd (numL most s.data.toList) w) := by
  obtain ⟨E, hE⟩ : ∃ E, E = NumEnd (numL most s.data.toList) w := ⟨_, rfl⟩
  rw [← hE]
  have HE := Lib.hid hE
  clear hE
  go_enter Tryz.func37, Tryz.ntmps37
  go_wp2_with fail
  refine (atoi_any s hs _ hg).mono ?_
  rintro e w1 ⟨hb1, ⟨v, hv, rfl⟩ | ⟨hv, v, N, hv1, hv2, rfl⟩⟩
  · have HV := Lib.hid (num_is hm hv)
    obtain ⟨hv1, hv2⟩ := Lib.atoiAll_bounds hv
    have HG1 := Lib.hid (hg.below hb1)
    by_cases h0 : v < 0
    · have HN : Hid (numL most s.data.toList = none) := by show _ = _; rw [HV.out, if_neg (by omega)]
      clear hv
      go_wp2
      rw [HE.out]
      exact ⟨v, by rw [HN.out]; rfl, fun n e => by rw [HN.out] at e; (cases e), hv1, hv2, hb1⟩
    by_cases h9 : v > most
    · have HN : Hid (numL most s.data.toList = none) := by show _ = _; rw [HV.out, if_neg (by omega)]
      clear hv
      go_wp2
      rw [HE.out]
      exact ⟨v, by rw [HN.out]; rfl, fun n e => by rw [HN.out] at e; (cases e), hv1, hv2, hb1⟩
    · obtain ⟨n, rfl⟩ : ∃ n : Nat, v = n := ⟨v.toNat, by omega⟩
      have hn : n < 1000 := by omega
      have hn2 : (n : Int) ≤ (most : Int) := by omega
      have hd : ∀ k, k = n → dec3 k = dec3 n := fun k e => by rw [e]
      clear hv h0 h9
      go_wp2_with fail
      refine (itoa_any n hn _ HG1.out).mono ?_
      rintro e w2 ⟨rfl, hb2⟩
      have hb02 := hb1.trans (hb2.mono hb1.size)
      by_cases hq : (⟨(dec3 n).toArray⟩ : ByteArray) = s
      · have HN : Hid (numL most s.data.toList = some n) := by show _ = _; rw [HV.out, if_pos ⟨by omega, by omega, by rw [Int.toNat_natCast]; exact str_eq_iff.1 hq⟩]; rfl
        rw [hq]
        clear hq hb1 hb2 hd
        go_wp2
        rw [HE.out]
        exact ⟨n, by rw [HN.out]; rfl, fun k e => by rw [HN.out] at e; (cases e; rfl), hv1, hv2, hb02⟩
      · have HN : Hid (numL most s.data.toList = none) := by show _ = _; rw [HV.out, if_neg (fun h => hq (str_eq_iff.2 (by simpa using h.2.2)))]
        obtain ⟨t, ht⟩ : ∃ t, t = (⟨(dec3 n).toArray⟩ : ByteArray) := ⟨_, rfl⟩
        rw [← ht] at hq ⊢
        have hq' := str_ne hq
        clear hq ht hb1 hb2 hd
        go_wp2
        rw [HE.out]
        exact ⟨n, by rw [HN.out]; rfl, fun k e => by rw [HN.out] at e; (cases e), hv1, hv2, hb02⟩
  · have HN : Hid (numL most s.data.toList = none) := num_not hm hv
    clear hv
    go_wp2
    rw [HE.out]
    exact ⟨v, by rw [HN.out]; rfl, fun n e => by rw [HN.out] at e; (cases e), hv1, hv2, hb1⟩

end Go.Proofs.YtggadilgkcjbjaaGreatDoor
