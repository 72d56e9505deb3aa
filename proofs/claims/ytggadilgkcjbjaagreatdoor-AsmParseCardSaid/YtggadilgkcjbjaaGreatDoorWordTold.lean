/-
  The walk over told of words.
-/
import Derived.Test.YtggadilgkcjbjaaGreatDoorProg
import Derived.Test.YtggadilgkcjbjaaGreatDoorMem
import Derived.Test.YtggadilgkcjbjaaGreatDoorWordPlain
import Derived.WalkKit
import Derived.Handy
import Derived.Lib.Hide
import Derived.BigQuiet
import Derived.Laws.BitsAllLaws
import Derived.Deep.QuietTactic
set_option linter.unusedVariables false
namespace Go.Proofs.YtggadilgkcjbjaaGreatDoor
open Go.RowKit

/-- What told answers. -/
def ToldEnd (r : Option (Nat × Nat)) (w : World) (e : Ending) (w' : World) : Prop :=
  (match r with
    | none => e = .returned (.tuple #[.int .i64 0, .int .i64 0, .bool false])
    | some x => e = .returned (.tuple #[.int .i64 (x.1 : Int), .int .i64 (x.2 : Int), .bool true])) ∧ Below w.heap.size w w'

theorem or_sum (x y : Nat) (hx : x < 256) (hy : y < 256) : bits .or .i64 (x : Int) ((y : Int) * 256) = ((x + 256 * y : Nat) : Int) := by
  have e1 : ∀ a : Nat, a < 18446744073709551616 → (BitVec.ofInt 64 (a : Int)).toNat = a := fun a ha => by
    rw [BitVec.ofInt_natCast, BitVec.toNat_ofNat]; exact Nat.mod_eq_of_lt (by omega)
  have e2 : x ||| y * 256 = x + 256 * y := by
    have := Nat.two_pow_add_eq_or_of_lt (i := 8) (b := x) (by omega) y
    rw [show (2 : Nat) ^ 8 = 256 from rfl] at this
    rw [Nat.or_comm, Nat.mul_comm y 256]
    omega
  have e3 : ((y : Int) * 256) = ((y * 256 : Nat) : Int) := by omega
  rw [e3]
  show IntKind.i64.wrap ((BitVec.ofInt 64 (x : Int) ||| BitVec.ofInt 64 ((y * 256 : Nat) : Int)).toNat : Int) = _
  rw [BitVec.toNat_or, e1 x (by omega), e1 (y * 256) (by omega), e2, IntKind.wrap_i64]
  omega

set_option maxHeartbeats 1000000 in
theorem told_any (A : Option Addr) (n c : Nat) (bs : List UInt8) (w : World) (h : RdB w w.heap.size A n bs) (hn0 : 0 < n) (hn : n ≤ 1000000) :
    Calls Tryz.prog 43 #[.slice A n c] w (ToldEnd (toldL bs) w) := by
  obtain ⟨E, hE⟩ : ∃ E, E = ToldEnd (toldL bs) w := ⟨_, rfl⟩
  rw [← hE]
  have HE := Lib.hid hE
  have hlen := h.len
  clear hE
  obtain ⟨op, r, rfl⟩ : ∃ op r, bs = op :: r := by
    match bs, hlen with
    | [], hlen => simp at hlen; omega
    | op :: r, _ => exact ⟨_, _, rfl⟩
  obtain ⟨b0, o0, rfl, hb0, hk0⟩ := h.plain hn0
  obtain ⟨x0, hx0⟩ : ∃ x0 : Nat, op.toNat = x0 := ⟨_, rfl⟩
  have d0 : w.cell? ⟨b0, o0, none⟩ = some (.int .u8 (x0 : Int)) := by have := hk0 0 (by omega); rw [← hx0]; exact this
  have hx0b : x0 < 256 := by rw [← hx0]; exact UInt8.toNat_lt _
  have HX0 := Lib.hid hx0
  simp only [List.length_cons] at hlen
  by_cases h1 : 0 < x0 ∧ x0 ≤ 75
  · have HT : Hid (toldL (op :: r) = some (x0, 1)) := by show _ = _; simp only [toldL]; rw [HX0.out, if_pos h1]
    have h1a : (0 : Int) < (x0 : Int) := by omega
    have h1b : (x0 : Int) ≤ 75 := by omega
    clear hk0 hx0 h h1
    go_enter Tryz.func43, Tryz.ntmps43
    go_wp2
    rw [HE.out, HT.out]
    exact ⟨rfl, Below.refl _ _⟩
  by_cases h2 : x0 = 76
  · subst h2
    by_cases hn1 : 1 < n
    · obtain ⟨x, r, rfl⟩ : ∃ x r2, r = x :: r2 := by
        match r, hlen with
        | [], hlen => simp at hlen; omega
        | x :: r2, _ => exact ⟨_, _, rfl⟩
      obtain ⟨x1, hx1⟩ : ∃ x1 : Nat, x.toNat = x1 := ⟨_, rfl⟩
      have d1 : w.cell? ⟨b0, o0 + 1, none⟩ = some (.int .u8 (x1 : Int)) := by have := hk0 1 (by omega); rw [← hx1]; exact this
      have hx1b : x1 < 256 := by rw [← hx1]; exact UInt8.toNat_lt _
      have HT : Hid (toldL (op :: x :: r) = some (x1, 2)) := by show _ = _; simp only [toldL]; rw [HX0.out, if_neg h1, if_pos rfl, hx1]
      have hn1' : (1 : Int) < (n : Int) := by omega
      clear hk0 hx0 h h1 hx1
      go_enter Tryz.func43, Tryz.ntmps43
      go_wp2
      rw [HE.out, HT.out]
      exact ⟨rfl, Below.refl _ _⟩
    · have HT : Hid (toldL (op :: r) = none) := by
        show _ = _
        have : r = [] := List.eq_nil_of_length_eq_zero (by omega)
        subst this
        simp only [toldL]; rw [HX0.out, if_neg h1, if_pos rfl]
      have hn1' : ¬ (1 : Int) < (n : Int) := by omega
      clear hk0 hx0 h h1
      go_enter Tryz.func43, Tryz.ntmps43
      go_wp2
      rw [HE.out, HT.out]
      exact ⟨rfl, Below.refl _ _⟩
  by_cases h3 : x0 = 77
  · subst h3
    by_cases hn2 : 2 < n
    · obtain ⟨x, y, r, rfl⟩ : ∃ x y r2, r = x :: y :: r2 := by
        match r, hlen with
        | [], hlen => simp at hlen; omega
        | [_], hlen => simp at hlen; omega
        | x :: y :: r2, _ => exact ⟨_, _, _, rfl⟩
      obtain ⟨x1, hx1⟩ : ∃ x1 : Nat, x.toNat = x1 := ⟨_, rfl⟩
      obtain ⟨x2, hx2⟩ : ∃ x2 : Nat, y.toNat = x2 := ⟨_, rfl⟩
      have d1 : w.cell? ⟨b0, o0 + 1, none⟩ = some (.int .u8 (x1 : Int)) := by have := hk0 1 (by omega); rw [← hx1]; exact this
      have d2 : w.cell? ⟨b0, o0 + 2, none⟩ = some (.int .u8 (x2 : Int)) := by have := hk0 2 (by omega); rw [← hx2]; exact this
      have hx1b : x1 < 256 := by rw [← hx1]; exact UInt8.toNat_lt _
      have hx2b : x2 < 256 := by rw [← hx2]; exact UInt8.toNat_lt _
      have HT : Hid (toldL (op :: x :: y :: r) = some (x1 + 256 * x2, 3)) := by show _ = _; simp only [toldL]; rw [HX0.out, if_neg h1, if_neg h2, if_pos rfl, hx1, hx2]
      have hn2' : (2 : Int) < (n : Int) := by omega
      have hor := or_sum x1 x2 hx1b hx2b
      clear hk0 hx0 h h1 hx1 hx2 h2
      go_enter Tryz.func43, Tryz.ntmps43
      go_wp2_with fail
      go_quiet (fail)
      have hbq := below_drewN (Below.refl w.heap.size w) nq
      generalize w.drewN nq = wq at hbq ⊢
      go_wp2
      rw [HE.out, HT.out]
      exact ⟨rfl, hbq⟩
    · have HT : Hid (toldL (op :: r) = none) := by
        show _ = _
        simp only [toldL]; rw [HX0.out, if_neg h1, if_neg h2, if_pos rfl]
        match r, hlen with
        | [], _ => rfl
        | [_], _ => rfl
        | x :: y :: r2, hlen => simp at hlen; omega
      have hn2' : ¬ (2 : Int) < (n : Int) := by omega
      clear hk0 hx0 h h1 h2
      go_enter Tryz.func43, Tryz.ntmps43
      go_wp2
      rw [HE.out, HT.out]
      exact ⟨rfl, Below.refl _ _⟩
  have HT : Hid (toldL (op :: r) = some (0, 1)) := by show _ = _; simp only [toldL]; rw [HX0.out, if_neg h1, if_neg h2, if_neg h3]
  have h2' : ((x0 : Int) == 76) = false := by rw [beq_eq_false_iff_ne]; omega
  have h3' : ((x0 : Int) == 77) = false := by rw [beq_eq_false_iff_ne]; omega
  by_cases h0 : 0 < x0
  · have h0' : (0 : Int) < (x0 : Int) := by omega
    have h75 : ¬ (x0 : Int) ≤ 75 := by omega
    clear hk0 hx0 h h1 h2 h3
    go_enter Tryz.func43, Tryz.ntmps43
    go_wp2
    rw [HE.out, HT.out]
    exact ⟨rfl, Below.refl _ _⟩
  · have h0' : ¬ (0 : Int) < (x0 : Int) := by omega
    clear hk0 hx0 h h1 h2 h3
    go_enter Tryz.func43, Tryz.ntmps43
    go_wp2
    rw [HE.out, HT.out]
    exact ⟨rfl, Below.refl _ _⟩

end Go.Proofs.YtggadilgkcjbjaaGreatDoor
