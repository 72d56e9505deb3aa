/-
  The walks over Check, Sum and Fee of money, and over the reference's.
-/
import Derived.Test.YtpnghjfcfeaemaaDoorMonFmt
import Derived.Test.YtpnghjfcfeaemaaDoorMonPlain
set_option linter.unusedVariables false
namespace Go.Proofs.YtpnghjfcfeaemaaDoor
open Go.RowKit

theorem ret_int {a b : Int} {k : IntKind} (h : a = b) : Ending.returned (.int k a) = .returned (.int k b) := by rw [h]

def numCells (l : List Nat) : List Value := l.map fun (v : Nat) => Value.int .u64 (v : Int)
/-- A slice of numbers, as a list. -/
def RdQ (w : World) (B : Nat) (A : Option Addr) (n : Nat) (l : List Nat) : Prop := Reads w B 1 A n (numCells l) ∧ ∀ v ∈ l, v < 18446744073709551616
section
variable {w w' : World} {B B' n : Nat} {A : Option Addr} {l : List Nat}
theorem RdQ.len (h : RdQ w B A n l) : l.length = n := by have := h.1.1; simpa [numCells] using this
theorem RdQ.at_ {k : Nat} (h : RdQ w B A n l) (hk : k < n) : ∃ ad, A = some ad ∧ ad.block < B ∧ w.cell? (ad.add k) = some (.int .u64 ((l[k]'(by rw [h.len]; exact hk) : Nat) : Int)) := by
  obtain ⟨ad, u, e, hb, hu, hc⟩ := h.1.at_ hk
  have hl : k < l.length := by rw [h.len]; exact hk
  simp only [numCells, List.getElem?_map, List.getElem?_eq_getElem hl, Option.map_some, Option.some.injEq] at hu
  exact ⟨ad, e, hb, by rw [hc, ← hu]⟩
theorem RdQ.below (h : RdQ w B A n l) (hb : Below B w w') : RdQ w' B A n l := ⟨h.1.below hb, h.2⟩
theorem RdQ.more (h : RdQ w B A n l) (hB : B ≤ B') : RdQ w B' A n l := ⟨h.1.more hB, h.2⟩
end

theorem check_any (v : Nat) (w : World) : Calls Tryd.prog 12 #[.int .u64 (v : Int)] w fun e w' => e = .returned (.int .i64 (if 2100000000000000 < v then 31 else 0)) ∧ w' = w := by
  by_cases h : 2100000000000000 < v
  · rw [if_pos h]
    have h' : (2100000000000000 : Int) < (v : Int) := by omega
    go_enter Tryd.func12, Tryd.ntmps12
    go_wp2
    go_ret
    exact ⟨rfl, rfl⟩
  · rw [if_neg h]
    have h' : ¬ (2100000000000000 : Int) < (v : Int) := by omega
    go_enter Tryd.func12, Tryd.ntmps12
    go_wp2
    go_ret
    exact ⟨rfl, rfl⟩
theorem refCheck_any (v : Nat) (w : World) : Calls Tryd.prog 13 #[.int .u64 (v : Int)] w fun e w' => e = .returned (.int .i64 (if 2100000000000000 < v then 31 else 0)) ∧ w' = w := by
  by_cases h : 2100000000000000 < v
  · rw [if_pos h]
    have h' : (2100000000000000 : Int) < (v : Int) := by omega
    go_enter Tryd.func13, Tryd.ntmps13
    go_wp2
    go_ret
    exact ⟨rfl, rfl⟩
  · rw [if_neg h]
    have h' : ¬ (2100000000000000 : Int) < (v : Int) := by omega
    go_enter Tryd.func13, Tryd.ntmps13
    go_wp2
    go_ret
    exact ⟨rfl, rfl⟩

def sumVal (r : Option Nat) : Nat := match r with | some v => v | none => 0
def sumNo (r : Option Nat) : Nat := match r with | some _ => 0 | none => 31

set_option maxHeartbeats 1000000 in
theorem sum_any (A : Option Addr) (n c : Nat) (l : List Nat) (w : World) (h : RdQ w w.heap.size A n l) (hn : n ≤ 1000000) :
    Calls Tryd.prog 10 #[.slice A n c] w fun e w' => e = .returned (.tuple #[.int .u64 (sumVal (sumL l) : Nat), .int .i64 (sumNo (sumL l) : Nat)]) ∧ Below w.heap.size w w' := by
  obtain ⟨E, hE⟩ : ∃ E : Ending → World → Prop, E = fun e w' => e = .returned (.tuple #[.int .u64 (sumVal (sumL l) : Nat), .int .i64 (sumNo (sumL l) : Nat)]) ∧ Below w.heap.size w w' := ⟨_, rfl⟩
  rw [← hE]
  have HE := Lib.hid hE
  have HL := Lib.hid h.len
  have H := Lib.hid h
  clear hE h
  go_enter Tryd.func10, Tryd.ntmps10
  go_wp2
  go_loopw [4, 9] (fun a i wr => ∃ (k y : Nat), k ≤ n ∧ i = .int .i64 k ∧ a = .int .u64 (y : Int) ∧ Hid (y = (l.take k).sum) ∧ y ≤ 2100000000000000 ∧ Below w.heap.size w wr) (fun _ i _ => n - (intOf i).toNat)
  case atStart => exact ⟨0, 0, by omega, rfl, rfl, rfl, by omega, Below.refl _ _⟩
  case round =>
    obtain ⟨k, y, hk, rfl, rfl, hy, hy1, hb⟩ := hrel
    by_cases hlt : k < n
    · have hkl : k < l.length := by rw [HL.out]; exact hlt
      obtain ⟨ad, rfl, hadlt, hcell⟩ := (H.out.below hb).at_ hlt
      obtain ⟨m, hm⟩ : ∃ m : Nat, (l[k]'hkl) = m := ⟨_, rfl⟩
      rw [hm] at hcell
      have HS : Hid (y + m = (l.take (k + 1)).sum) := by
        show y + m = _
        rw [sum_take_succ l k hkl, hm, ← hy.out]
      clear hm
      go_wp2_with fail
      refine (check_any m _).mono ?_
      rintro e w1 ⟨rfl, rfl⟩
      by_cases hmm : 2100000000000000 < m
      · have HN := Lib.hid (sumL_none (l := l) (k := k + 1) (by rw [← HS.out]; omega))
        rw [if_pos hmm]
        go_wp2
        rw [HE.out]
        exact ⟨by rw [HN.out]; rfl, hb⟩
      · rw [if_neg hmm]
        have hym : (y : Int) + (m : Int) = ((y + m : Nat) : Int) := by omega
        have hw : IntKind.u64.wrap ((y : Int) + (m : Int)) = ((y + m : Nat) : Int) := by rw [IntKind.wrap_u64]; omega
        clear hym
        go_wp2_with fail
        refine (check_any (y + m) _).mono ?_
        rintro e w1 ⟨rfl, rfl⟩
        by_cases hmm2 : 2100000000000000 < y + m
        · have HN := Lib.hid (sumL_none (l := l) (k := k + 1) (by rw [← HS.out]; omega))
          rw [if_pos hmm2]
          clear hw
          go_wp2
          rw [HE.out]
          exact ⟨by rw [HN.out]; rfl, hb⟩
        · rw [if_neg hmm2]
          clear hw
          go_wp2
          go_roundw
          case rel => exact ⟨k + 1, y + m, by omega, by go_num, by simp, HS.out, by omega, hb⟩
          case measure => simp [intOf]; omega
    · have HF : Hid (sumL l = some y) := by
        show _ = _
        have h1 := hy.out
        rw [List.take_of_length_le (by rw [HL.out]; omega)] at h1
        rw [h1, sumL_some (by rw [← h1]; exact hy1)]
      go_wp2
      rw [HE.out]
      exact ⟨by rw [HF.out]; rfl, hb⟩

set_option maxHeartbeats 1000000 in
theorem refSum_any (A : Option Addr) (n c : Nat) (l : List Nat) (w : World) (h : RdQ w w.heap.size A n l) (hn : n ≤ 1000000) :
    Calls Tryd.prog 11 #[.slice A n c] w fun e w' => e = .returned (.tuple #[.int .u64 (sumVal (sumL l) : Nat), .int .i64 (sumNo (sumL l) : Nat)]) ∧ Below w.heap.size w w' := by
  obtain ⟨E, hE⟩ : ∃ E : Ending → World → Prop, E = fun e w' => e = .returned (.tuple #[.int .u64 (sumVal (sumL l) : Nat), .int .i64 (sumNo (sumL l) : Nat)]) ∧ Below w.heap.size w w' := ⟨_, rfl⟩
  rw [← hE]
  have HE := Lib.hid hE
  have HL := Lib.hid h.len
  have H := Lib.hid h
  clear hE h
  go_enter Tryd.func11, Tryd.ntmps11
  go_wp2
  go_loopw [4, 5] (fun a i wr => ∃ (k y : Nat), k ≤ n ∧ i = .int .i64 k ∧ a = .int .u64 (y : Int) ∧ Hid (y = (l.take k).sum) ∧ y ≤ 2100000000000000 ∧ Below w.heap.size w wr) (fun _ i _ => n - (intOf i).toNat)
  case atStart => exact ⟨0, 0, by omega, rfl, rfl, rfl, by omega, Below.refl _ _⟩
  case round =>
    obtain ⟨k, y, hk, rfl, rfl, hy, hy1, hb⟩ := hrel
    by_cases hlt : k < n
    · have hkl : k < l.length := by rw [HL.out]; exact hlt
      obtain ⟨ad, rfl, hadlt, hcell⟩ := (H.out.below hb).at_ hlt
      obtain ⟨m, hm⟩ : ∃ m : Nat, (l[k]'hkl) = m := ⟨_, rfl⟩
      rw [hm] at hcell
      have HS : Hid (y + m = (l.take (k + 1)).sum) := by
        show y + m = _
        rw [sum_take_succ l k hkl, hm, ← hy.out]
      clear hm
      by_cases hmm : 2100000000000000 < m
      · have HN := Lib.hid (sumL_none (l := l) (k := k + 1) (by rw [← HS.out]; omega))
        have hmm' : (2100000000000000 : Int) < (m : Int) := by omega
        go_wp2
        rw [HE.out]
        exact ⟨by rw [HN.out]; rfl, hb⟩
      · have hmm' : ¬ (2100000000000000 : Int) < (m : Int) := by omega
        have hw0 : IntKind.u64.wrap (2100000000000000 - (m : Int)) = 2100000000000000 - (m : Int) := by rw [IntKind.wrap_u64]; omega
        by_cases hmm2 : 2100000000000000 < y + m
        · have HN := Lib.hid (sumL_none (l := l) (k := k + 1) (by rw [← HS.out]; omega))
          have hmm3 : (2100000000000000 : Int) - (m : Int) < (y : Int) := by omega
          go_wp2
          rw [HE.out]
          exact ⟨by rw [HN.out]; rfl, hb⟩
        · have hmm3 : ¬ (2100000000000000 : Int) - (m : Int) < (y : Int) := by omega
          have hw : IntKind.u64.wrap ((y : Int) + (m : Int)) = ((y + m : Nat) : Int) := by rw [IntKind.wrap_u64]; omega
          go_wp2
          go_roundw
          case rel => exact ⟨k + 1, y + m, by omega, by go_num, by simp, HS.out, by omega, hb⟩
          case measure => simp [intOf]; omega
    · have HF : Hid (sumL l = some y) := by
        show _ = _
        have h1 := hy.out
        rw [List.take_of_length_le (by rw [HL.out]; omega)] at h1
        rw [h1, sumL_some (by rw [← h1]; exact hy1)]
      go_wp2
      rw [HE.out]
      exact ⟨by rw [HF.out]; rfl, hb⟩

end Go.Proofs.YtpnghjfcfeaemaaDoor
