/-
  The walks over Spread and Gather of bech: bytes as numbers of five bits, and back.
-/
import Derived.Test.YtkacplgfkokdcaaBits
set_option linter.unusedVariables false
namespace Go.Proofs.Ytkacplgfkokdcaa
open Go.RowKit

theorem spread_whole {b : List UInt8} (h : b.length * 8 % 5 = 0) : spreadL b = packL (bitAt 8 b) 5 (b.length * 8 / 5) := by
  unfold spreadL
  rw [show (b.length * 8 + 4) / 5 = b.length * 8 / 5 by omega]

theorem spread_rest {b : List UInt8} {m : Nat} (h : b.length * 8 % 5 = m) (hm : 0 < m) :
    spreadL b = packL (bitAt 8 b) 5 (b.length * 8 / 5) ++ [UInt8.ofNat (num (bitAt 8 b) (b.length * 8 / 5 * 5) m * 2 ^ (5 - m))] := by
  unfold spreadL
  rw [show (b.length * 8 + 4) / 5 = b.length * 8 / 5 + 1 by omega, packL_succ]
  congr 3
  have e : 5 = m + (5 - m) := by omega
  have h1 := num_add (f := bitAt 8 b) (b.length * 8 / 5 * 5) m (5 - m)
  rw [← e] at h1
  rw [h1, num_zero (f := bitAt 8 b) _ (5 - m) fun i hi => bitAt_end (by omega) (by omega), Nat.add_zero]

theorem restMask (held m : Nat) (hh : held < 65536) (hm : 0 < m) (hm5 : m < 5) : bits .and .u32 ((held : Int) * 2 ^ (5 - m) % 4294967296) 31 = ((held % 2 ^ m * 2 ^ (5 - m) : Nat) : Int) := by
  have hp : 2 ^ (5 - m) ≤ 2 ^ 4 := Nat.pow_le_pow_right (by omega) (by omega)
  have hb : held * 2 ^ (5 - m) ≤ 65535 * 2 ^ 4 := Nat.mul_le_mul (by omega) hp
  have h := u32_and_nat (held * 2 ^ (5 - m)) 31 (by omega) (by omega)
  have e : 2 ^ m * 2 ^ (5 - m) = 32 := by rw [← Nat.pow_add, show m + (5 - m) = 5 by omega]
  rw [nat_mask5, ← e, Nat.mul_mod_mul_right] at h
  rw [← h]
  congr 1
  rw [show ((2 : Int) ^ (5 - m)) = ((2 ^ (5 - m) : Nat) : Int) by simp]
  omega

/-- A call that hands back a slice of bytes in memory of its own. -/
def SliceEnd (r : List UInt8) (w : World) (e : Ending) (w' : World) : Prop :=
  ∃ A c, e = .returned (.slice A r.length c) ∧ w'.ownsRow w.heap.size 5 1 (.slice A r.length c) r.length (Lib.byteCells r) ∧ Below w.heap.size w w'

theorem sliceEnd_mk {r l : List UInt8} {w w' : World} {A : Option Addr} {n c : Nat} (e : r = l) (hn : l.length = n) (ho : w'.ownsRow w.heap.size 5 1 (.slice A n c) n (Lib.byteCells l)) (hb : Below w.heap.size w w') : SliceEnd r w (.returned (.slice A n c)) w' := by
  subst e; subst hn; exact ⟨A, c, rfl, ho, hb⟩

set_option maxHeartbeats 1000000 in
theorem spread_any (A : Option Addr) (n cap : Nat) (bs : List UInt8) (w : World) (h : RdB w w.heap.size A n bs) (hn : n ≤ 1000000) :
    Calls Try.prog 15 #[.slice A n cap] w (SliceEnd (spreadL bs) w) := by
  have hcut := cut_any A n cap 8 5 bs w h hn (.inl ⟨rfl, rfl⟩) (fun u _ => u.toNat_lt)
  have hl := h.len
  have HL := Lib.hid hl
  have HC := Lib.hid hcut
  clear hcut hl h
  obtain ⟨r, hr⟩ : ∃ r, r = spreadL bs := ⟨_, rfl⟩
  rw [← hr]
  have HR := Lib.hid hr
  clear hr
  go_enter Try.func15, Try.ntmps15
  go_wp2_with fail
  refine HC.out.mono ?_
  rintro e w1 ⟨v, rfl, hC⟩
  have hbel := hC.below
  obtain ⟨A1, c1, rfl, hown⟩ := hC.own
  obtain ⟨held, hblk, hh, hval⟩ := hC.blk
  clear hC HC
  have d0 : w1.cell? ⟨w.heap.size, 0, none⟩ = some (.int .u32 (held : Int)) := hblk.cell 0
  have d1 : w1.cell? ⟨w.heap.size, 1, none⟩ = some (.int .u64 ((n * 8 % 5 : Nat) : Int)) := hblk.cell 1
  have HOWN := Lib.hid hown
  have hsz := hblk.lt
  obtain ⟨m, hm⟩ : ∃ m, n * 8 % 5 = m := ⟨_, rfl⟩
  obtain ⟨j, hj⟩ : ∃ j, n * 8 / 5 = j := ⟨_, rfl⟩
  rw [hj] at HOWN hval
  rw [hm] at d1 hval
  rw [hj]
  have hm5 : m < 5 := by omega
  have hj5 : j ≤ 2000000 := by omega
  have HVAL := Lib.hid hval
  have HM := Lib.hid hm
  have HJ := Lib.hid hj
  clear hblk hown hval hm hj
  by_cases hm0 : m = 0
  · subst hm0
    go_wp2
    go_ret
    exact sliceEnd_mk (HR.out.trans (spread_whole (by rw [HL.out]; exact HM.out))) (by rw [packL_length, HL.out]; exact HJ.out) (by have := HOWN.out; rw [HL.out, HJ.out]; exact this) hbel
  · have hm1 : 0 < m := by omega
    have hmask := restMask held m hh hm1 hm5
    obtain ⟨x, hx⟩ : ∃ x, held % 2 ^ m * 2 ^ (5 - m) = x := ⟨_, rfl⟩
    rw [hx] at hmask
    have hx32 : x < 32 := by
      rw [← hx, HVAL.out]
      have h1 := num_lt (bitAt_le 8 bs) (j * 5) m
      have h2 : 32 = 2 ^ m * 2 ^ (5 - m) := by rw [← Nat.pow_add, show m + (5 - m) = 5 by omega]
      rw [h2]
      exact Nat.mul_lt_mul_of_pos_right h1 (Nat.two_pow_pos _)
    have HX := Lib.hid hx
    clear hm0 hx
    go_wp2_with fail
    go_quiet (fail)
    have hbq := below_drewN hbel nq
    have HOWNQ : Hid ((w1.drewN nq).ownsRow w.heap.size 5 1 (.slice A1 j c1) j (Lib.byteCells (packL (bitAt 8 bs) 5 j))) := HOWN
    clear hbel HOWN d0 d1
    generalize w1.drewN nq = wq at hbq HOWNQ ⊢
    go_wp2_with (at_builtin; refine wpList_push wq _ Try.underlying22 infoByte rfl rfl _ _ rfl w.heap.size _ _ _ rfl HOWNQ.out rfl rfl (by unfold maxLen; omega) (by omega) hbq.size ?_)
    intro A2 c2 w2 hown2 hb2
    have HOWN2 := Lib.hid hown2
    clear hown2
    go_wp2
    go_ret
    refine sliceEnd_mk (HR.out.trans (spread_rest (by rw [HL.out]; exact HM.out) hm1)) (by simp [packL_length]; rw [HL.out]; exact HJ.out) ?_ (hbq.trans hb2)
    have := HOWN2.out
    rw [Lib.byteCells_append, HL.out, HJ.out, ← HVAL.out, HX.out]
    have e : Lib.byteCells [UInt8.ofNat x] = [.int .u8 (x : Int)] := by simp [Lib.byteCells]; omega
    rw [e]
    exact this

/-- The first k numbers are at most 31. -/
def SmallTo (bs : List UInt8) (k : Nat) : Prop := ∀ i (h : i < bs.length), i < k → bs[i].toNat ≤ 31

theorem SmallTo.all {bs : List UInt8} (h : SmallTo bs bs.length) : ∀ u ∈ bs, u.toNat ≤ 31 := by
  intro u hu
  obtain ⟨i, hi, rfl⟩ := List.getElem_of_mem hu
  exact h i hi hi

/-- A call that hands back a slice of bytes in memory of its own and no error, or nothing and ErrForm. -/
def MaybeEnd (r : Option (List UInt8)) (w : World) (e : Ending) (w' : World) : Prop :=
  Below w.heap.size w w' ∧
    match r with
    | none => e = .returned (.tuple #[.slice none 0 0, .int .i64 3])
    | some l => ∃ (A : Option Addr) (c : Nat), e = .returned (.tuple #[.slice A l.length c, .int .i64 0]) ∧ w'.ownsRow w.heap.size 5 1 (.slice A l.length c) l.length (Lib.byteCells l)

theorem maybe_none {r : Option (List UInt8)} {w w' : World} (h : r = none) (hb : Below w.heap.size w w') : MaybeEnd r w (.returned (.tuple #[.slice none 0 0, .int .i64 3])) w' := by
  subst h; exact ⟨hb, rfl⟩
theorem maybe_some {r : Option (List UInt8)} {l : List UInt8} {w w' : World} {A : Option Addr} {n c : Nat} (h : r = some l) (hn : l.length = n) (hb : Below w.heap.size w w') (ho : w'.ownsRow w.heap.size 5 1 (.slice A n c) n (Lib.byteCells l)) :
    MaybeEnd r w (.returned (.tuple #[.slice A n c, .int .i64 0])) w' := by
  subst h; subst hn; exact ⟨hb, A, c, rfl, ho⟩

theorem lowMask (held m : Nat) (hh : held < 65536) (hm : m < 5) : bits .and .u32 (held : Int) (IntKind.u32.wrap (IntKind.u32.wrap ((2 : Int) ^ m) - 1)) = ((held % 2 ^ m : Nat) : Int) := by
  have hp : 2 ^ m ≤ 2 ^ 4 := Nat.pow_le_pow_right (by omega) (by omega)
  have hp0 : 0 < 2 ^ m := Nat.two_pow_pos m
  have h := u32_and_nat held (2 ^ m - 1) (by omega) (by omega)
  rw [Nat.and_two_pow_sub_one_eq_mod] at h
  rw [← h]
  congr 1
  rw [show ((2 : Int) ^ m) = ((2 ^ m : Nat) : Int) by simp, IntKind.wrap_u32', IntKind.wrap_u32']
  omega

set_option maxHeartbeats 1000000 in
theorem gather_any (A : Option Addr) (n cap : Nat) (bs : List UInt8) (w : World) (h : RdB w w.heap.size A n bs) (hn : n ≤ 1000000) :
    Calls Try.prog 13 #[.slice A n cap] w (MaybeEnd (gatherL bs) w) := by
  have hl := h.len
  have HL := Lib.hid hl
  have H := Lib.hid h
  clear hl h
  obtain ⟨r, hr⟩ : ∃ r, r = gatherL bs := ⟨_, rfl⟩
  rw [← hr]
  have HR := Lib.hid hr
  clear hr
  go_enter Try.func13, Try.ntmps13
  go_wp2
  go_loop [10] (fun i => ∃ k : Nat, k ≤ n ∧ i = .int .i64 k ∧ SmallTo bs k) (fun i => n - (intOf i).toNat)
  case atStart => exact ⟨0, by omega, rfl, fun i _ hi => by omega⟩
  case round =>
    obtain ⟨k, hk, rfl, hS⟩ := hrel
    by_cases hlt : k < n
    · obtain ⟨ad, rfl, hadlt, hcell⟩ := H.out.at_ hlt
      have hkl : k < bs.length := by rw [HL.out]; exact hlt
      obtain ⟨m, hm⟩ : ∃ m : Nat, (bs[k]'hkl).toNat = m := ⟨_, rfl⟩
      rw [hm] at hcell
      have HM := Lib.hid hm
      clear hm
      by_cases h31 : m ≤ 31
      · go_wp2
        go_round
        case rel =>
          refine ⟨k + 1, by omega, by go_num, fun i hi hik => ?_⟩
          rcases Nat.lt_or_ge i k with h1 | h1
          · exact hS i hi h1
          · obtain rfl : i = k := by omega
            rw [HM.out]; exact h31
        case measure => simp [intOf]; omega
      · have HN : Hid (r = none) := by
          rw [HR.out]
          show gatherL bs = none
          unfold gatherL
          rw [if_neg]
          rintro ⟨hall, _⟩
          have := hall _ (List.getElem_mem hkl)
          rw [HM.out] at this
          exact h31 this
        go_wp2
        go_ret2
        exact maybe_none HN.out (Below.refl _ _)
    · obtain rfl : k = n := by omega
      have hall : ∀ u ∈ bs, u.toNat ≤ 31 := SmallTo.all (by rw [HL.out]; exact hS)
      have HALL := Lib.hid hall
      clear hall hS hlt hk
      go_wp2_with fail
      refine (cut_any A k cap 5 8 bs _ H.out hn (.inr ⟨rfl, rfl⟩) (fun u hu => by have := HALL.out u hu; omega)).mono ?_
      rintro e w1 ⟨v, rfl, hC⟩
      have hbel := hC.below
      obtain ⟨A1, c1, rfl, hown⟩ := hC.own
      obtain ⟨held, hblk, hh, hval⟩ := hC.blk
      clear hC
      have d0 : w1.cell? ⟨w.heap.size, 0, none⟩ = some (.int .u32 (held : Int)) := hblk.cell 0
      have d1 : w1.cell? ⟨w.heap.size, 1, none⟩ = some (.int .u64 ((k * 5 % 8 : Nat) : Int)) := hblk.cell 1
      obtain ⟨m, hm⟩ : ∃ m, k * 5 % 8 = m := ⟨_, rfl⟩
      obtain ⟨j, hj⟩ : ∃ j, k * 5 / 8 = j := ⟨_, rfl⟩
      rw [hj] at hown hval
      rw [hm] at d1 hval
      rw [hj]
      have HOWN := Lib.hid hown
      have HVAL := Lib.hid hval
      have HM := Lib.hid hm
      have HJ := Lib.hid hj
      clear hblk hown hval hm hj
      by_cases hm5 : 5 ≤ m
      · have hm5' : (5 : Int) ≤ (m : Int) := by omega
        have HN : Hid (r = none) := by
          rw [HR.out]
          show gatherL bs = none
          unfold gatherL
          rw [if_neg]
          rintro ⟨_, h1, _⟩
          rw [HL.out, HM.out] at h1
          omega
        go_wp2_with fail
        go_quiet (fail)
        go_wp2
        go_ret2
        exact maybe_none HN.out (below_drewN hbel _)
      · have hm5' : (m : Int) < 5 := by omega
        have hmask := lowMask held m hh (by omega)
        by_cases hz : held % 2 ^ m = 0
        · have HS : Hid (r = some (packL (bitAt 5 bs) 8 j)) := by
            rw [HR.out]
            show gatherL bs = _
            unfold gatherL
            rw [HL.out, HM.out, HJ.out, if_pos]
            exact ⟨HALL.out, by omega, by rw [← HVAL.out]; exact hz⟩
          rw [hz] at hmask
          clear hz
          go_wp2_with fail
          go_quiet (fail)
          go_wp2
          go_ret2
          exact maybe_some HS.out (by rw [packL_length]) (below_drewN hbel _) HOWN.out
        · have HN : Hid (r = none) := by
            rw [HR.out]
            show gatherL bs = none
            unfold gatherL
            rw [if_neg]
            rintro ⟨_, _, h2⟩
            rw [HL.out, HM.out, HJ.out, ← HVAL.out] at h2
            exact hz h2
          obtain ⟨x, hx⟩ : ∃ x, held % 2 ^ m = x := ⟨_, rfl⟩
          rw [hx] at hmask hz
          have hx0 : ((x : Int) != 0) = true := by rw [bne_iff_ne]; omega
          clear hz hx
          go_wp2_with fail
          go_quiet (fail)
          go_wp2
          go_ret2
          exact maybe_none HN.out (below_drewN hbel _)

end Go.Proofs.Ytkacplgfkokdcaa
