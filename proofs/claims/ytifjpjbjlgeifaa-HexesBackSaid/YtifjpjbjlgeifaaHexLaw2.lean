/-
  The walks over the laws HexesNames and HexesBack: each returns true, and writes nothing that was there.
-/
import Derived.Test.YtifjpjbjlgeifaaHexHash
import Derived.Test.YtifjpjbjlgeifaaCalm
import Derived.ChangeKeysEq
import Derived.Laws.StructEq
set_option linter.unusedVariables false
namespace Go.Proofs.Ytifjpjbjlgeifaa
open Go.RowKit

/-- What Parse answers, here and in the document. -/
theorem parse_both (s : ByteArray) (hs : s.size ≤ 1000000) : ∃ (r : List UInt8) (k : Int), r.length = 32 ∧
    (∀ w, Calls Try.prog 13 #[.string s] w fun e w' => e = .returned (.tuple #[.agg (Lib.byteCells r).toArray, .int .i64 k]) ∧ Below w.heap.size w w') ∧
    (∀ w, Calls Try.prog 14 #[.string s] w fun e w' => e = .returned (.tuple #[.agg (Lib.byteCells r).toArray, .int .i64 k]) ∧ Below w.heap.size w w') := by
  cases hd : hexDec s.data.toList with
  | none => exact ⟨zero32, 3, rfl, fun w => parse_none s w hd hs, fun w => refParse_none s w hd hs⟩
  | some l =>
    by_cases hl : l.length = 32
    · exact ⟨l.reverse, 0, by rw [List.length_reverse]; exact hl, fun w => parse_some s l w hd hl hs, fun w => refParse_some s l w hd hl hs⟩
    · exact ⟨zero32, 3, rfl, fun w => parse_other s l w hd hl hs, fun w => refParse_other s w l hd hl hs⟩

/-- A new block for 32 bytes. -/
theorem Blk.new32 (w : World) : Blk (w.alloc (.cells zeroCells 30)) w.heap.size 30 (Lib.byteCells zero32).toArray := Blk.new w 30 zeroCells
theorem below_new32 (w : World) : Below w.heap.size w (w.alloc (.cells zeroCells 30)) := (Below.refl _ _).alloc (Nat.le_refl _) _

/-- Bytes equal themselves. -/
theorem eqItems_refl {P : Program} (w : World) (d : Nat) {e : TypeId} (he : P.underlying e = some (.int .u8)) (bs : List UInt8) : ∀ is : List Nat, (∀ i ∈ is, i < bs.length) →
    (Op.eqItems (d + 1) e 1 (Lib.byteCells bs).toArray (Lib.byteCells bs).toArray is).run P w = .ok true w
  | [], _ => by simp [Op.eqItems]
  | i :: is, h => by
    have hi := h i (by simp)
    have hp : (part e (Lib.byteCells bs).toArray (i * 1)).run P w = .ok (.int .u8 ((bs[i]).toNat : Int)) w := by
      have hag : (isAgg e).run P w = .ok false w := by
        unfold isAgg
        rw [Sem.run_bind, run_underlying he w]
        simp
      have hc : (Lib.byteCells bs)[i]? = some (.int .u8 ((bs[i]).toNat : Int)) := by
        simp [Lib.byteCells, List.getElem?_eq_getElem hi]
      simp [part, hag, Sem.run_bind, hc]
    simp only [Op.eqItems, Sem.run_bind, hp, Result.andThen_ok, run_equalIn_int w d e .u8 .u8 _ _ he]
    simpa using eqItems_refl w d he bs is (fun j hj => h j (by simp [hj]))

theorem run_eql_bytes (bs : List UInt8) (hl : bs.length = 32) (w : World) : (binOp .eql 30 (.agg (Lib.byteCells bs).toArray) (.agg (Lib.byteCells bs).toArray)).run Try.prog w = .ok (.bool true) w := by
  obtain ⟨i, hi⟩ : ∃ i, Try.prog.info? 5 = some i := info_of_underlying Try.underlying5
  have hc : Try.prog.cellsOf 5 = 1 := by kernel_rfl
  rw [run_eql_struct, show (10000 : Nat) = 9998 + 1 + 1 from rfl, run_equalIn_array w (9998 + 1) _ _ Try.underlying30 hi, hc, eqItems_refl w 9998 Try.underlying5 bs _ (fun i h => by rw [hl]; simpa using h)]
  rfl

/-- The worlds in which the three arrays lie as they lay. -/
def Held3 (w : World) (g0 g1 g2 : Nat) (x y z : List UInt8) (w' : World) : Prop :=
  Below w.heap.size w w' ∧ Blk w' g0 30 (Lib.byteCells x).toArray ∧ Blk w' g1 30 (Lib.byteCells y).toArray ∧ Blk w' g2 30 (Lib.byteCells z).toArray

theorem Held3.call {w wA w' : World} {g0 g1 g2 : Nat} {x y z : List UInt8} (h : Held3 w g0 g1 g2 x y z wA) (hb : Below wA.heap.size wA w') : Held3 w g0 g1 g2 x y z w' :=
  ⟨h.1.trans (hb.mono h.1.size), h.2.1.below hb h.2.1.lt, h.2.2.1.below hb h.2.2.1.lt, h.2.2.2.below hb h.2.2.2.lt⟩

set_option maxHeartbeats 1000000 in
theorem lawNames (bs : List UInt8) (s : ByteArray) (w : World) (hl : bs.length = 32) (hm : s.size ≤ maxLen) :
    Calls Try.prog 6 #[.agg (Lib.byteCells bs).toArray, .string s] w fun e w' => e = .returned (.bool true) ∧ Below w.heap.size w w' := by
  have HL := Lib.hid hl
  clear hl
  have HB0 := Lib.hid (Blk.new w 30 (Lib.byteCells bs).toArray)
  have hb0 : Below w.heap.size w (w.alloc (.cells (Lib.byteCells bs).toArray 30)) := (Below.refl _ _).alloc (Nat.le_refl _) _
  by_cases hn : 300 < s.size
  · have hn' : (300 : Int) < (s.size : Int) := by omega
    go_enter Try.func6, Try.ntmps6
    go_wp2_with fail
    refine (alive_any _).mono ?_
    rintro e w1 ⟨rfl, hb1⟩
    go_wp2
    go_ret
    exact ⟨rfl, hb0.trans (hb1.mono hb0.size)⟩
  · have hn' : (s.size : Int) ≤ 300 := by omega
    obtain ⟨r, k, hr, hp1, hp2⟩ := parse_both s (by omega)
    have HP1 := Lib.hid hp1
    have HP2 := Lib.hid hp2
    have HR := Lib.hid hr
    clear hp1 hp2 hr
    go_enter Try.func6, Try.ntmps6
    go_wp2_with fail
    refine (HP1.out _).mono ?_
    rintro e w1 ⟨rfl, hb1⟩
    have hb01 : Below w.heap.size w w1 := hb0.trans (hb1.mono hb0.size)
    have HB1 := Lib.hid (HB0.out.below hb1 HB0.out.lt)
    clear HB0 hb0 hb1
    have HZ1 := Lib.hid (Blk.new32 w1)
    go_wp2_with (refine wpList_storeB 30 _ _ rfl rfl _ rfl rfl HZ1.out 32 info32 rfl ((bytes_size _).trans HR.out) (bytes_cells_one r) ?_)
    intro w2 hB2 hg2
    have HA2 := Lib.hid hB2
    have hb12 : Below w1.heap.size w1 w2 := (below_new32 w1).grown hg2 (below_new32 w1).size (fun k hk => by injection hk with hk; omega)
    have hb02 : Below w.heap.size w w2 := hb01.trans (hb12.mono hb01.size)
    have HB2 := Lib.hid (HB1.out.below hb12 HB1.out.lt)
    clear hB2 hg2 HZ1 HB1 hb01 hb12
    go_wp2_with fail
    refine (HP2.out _).mono ?_
    rintro e w3 ⟨rfl, hb3⟩
    have hb03 : Below w.heap.size w w3 := hb02.trans (hb3.mono hb02.size)
    have HB3 := Lib.hid (HB2.out.below hb3 HB2.out.lt)
    have HA3 := Lib.hid (HA2.out.below hb3 HA2.out.lt)
    clear HB2 HA2 hb02 hb3
    have HZ3 := Lib.hid (Blk.new32 w3)
    go_wp2_with (refine wpList_storeB 30 _ _ rfl rfl _ rfl rfl HZ3.out 32 info32 rfl ((bytes_size _).trans HR.out) (bytes_cells_one r) ?_)
    intro w4 hB4 hg4
    have hb34 : Below w3.heap.size w3 w4 := (below_new32 w3).grown hg4 (below_new32 w3).size (fun k hk => by injection hk with hk; omega)
    have hb04 : Below w.heap.size w w4 := hb03.trans (hb34.mono hb03.size)
    have HB4 := Lib.hid (HB3.out.below hb34 HB3.out.lt)
    have HA4 := Lib.hid (HA3.out.below hb34 HA3.out.lt)
    have HC4 := Lib.hid hB4
    have HS : Hid (Held3 w w.heap.size w1.heap.size w3.heap.size bs r r w4.drew) := ⟨hb04.drew, HB4.out, HA4.out, HC4.out⟩
    clear hB4 hg4 HZ3 HB3 HA3 hb03 hb34 HB4 HA4 HC4 hb04
    go_wp2_with fail
    refine calm_region (Held3 w w.heap.size w1.heap.size w3.heap.size bs r r) (by kernel_rfl) (by kernel_rfl) HS.out ?_
    have heq := run_eql_bytes r HR.out
    have heg : Try.prog.eqGuardType Try.prog.depth 30 = false := by kernel_rfl
    repeat (first
      | ((first
          | (refine calm_load 30 _ rfl (by rfl) w.heap.size rfl _ (fun w' h' => load32 h'.2.1 HL.out) ?_)
          | (refine calm_load 30 _ rfl (by rfl) w1.heap.size rfl _ (fun w' h' => load32 h'.2.2.1 HR.out) ?_)
          | (refine calm_load 30 _ rfl (by rfl) w3.heap.size rfl _ (fun w' h' => load32 h'.2.2.2 HR.out) ?_)
          | (refine calm_step (by rfl) (.bool true) (fun w5 hw5 => ?_) ?_
             · (go_simp; go_at_call 8; exact (alive_any _).mono fun e w' h' => ⟨h'.1, hw5.call h'.2⟩))
          | (refine calm_step (by rfl) (.string ⟨(hexEnc bs.reverse).toArray⟩) (fun w5 hw5 => ?_) ?_
             · (go_simp; first
                | (go_at_call 15; exact (name_any bs _ HL.out).mono fun e w' h' => ⟨h'.1, hw5.call h'.2⟩)
                | (go_at_call 16; exact (refName_any bs _ HL.out).mono fun e w' h' => ⟨h'.1, hw5.call h'.2⟩)))); (try simp only [Act.put, List.setIfInBounds_toArray, List.set_cons_zero, List.set_cons_succ]))
      | (refine calm_val (by rfl) ?_ (fun _ _ => ?_) ?_; rotate_left; (focus (go_simp; first | done | with_reducible rfl | rfl)); all_goals (try simp only [Act.put, List.setIfInBounds_toArray, List.set_cons_zero, List.set_cons_succ])) | (refine calm_skip (by rfl) ?_; (try simp only [Act.put, List.setIfInBounds_toArray, List.set_cons_zero, List.set_cons_succ])))
    refine calm_nil (fun w' hw' => ?_)
    go_wp2
    go_ret
    exact ⟨rfl, hw'.1⟩

end Go.Proofs.Ytifjpjbjlgeifaa
