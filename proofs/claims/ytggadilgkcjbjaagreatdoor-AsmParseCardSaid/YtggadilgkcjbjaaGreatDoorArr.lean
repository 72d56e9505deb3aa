/-
  WHOLE ARRAYS, read and written at a walk's operations, by the block in which they lie ('Blk').
-/
import Derived.Test.YtggadilgkcjbjaaGreatDoorMem
import Derived.Deep.WholeRow
import Derived.Laws.Rows
import Derived.Laws.Tables
set_option linter.unusedVariables false
namespace Go.Proofs.YtggadilgkcjbjaaGreatDoor
open Go.RowKit

section
variable {P : Program} {w w' : World} {g : Nat} {t : TypeId} {cs : Array Value}

theorem Blk.setRow (h : Blk w g t cs) (cs' : Array Value) : Blk (w.setRow g cs') g t cs' := by
  unfold Blk at h ⊢
  simp [World.setRow, Array.getElem?_modify, h]

theorem grown_setRow (w : World) (g : Nat) (cs' : Array Value) : w.grownBy (w.setRow g cs') (some g) := by
  refine ⟨rfl, rfl, rfl, ?_, ?_⟩
  · simp [World.setRow]
  · intro b hb hne
    have : g ≠ b := fun e => hne (by rw [e])
    simp [World.setRow, Array.getElem?_modify, this]

/-- The whole array out of its block. -/
theorem wpList_loadB {ops : Array Oper} {rest : List Oper} {op : Oper} {a : Act} {Q : Exit → Act → World → Prop} (ty : TypeId) (x : Operand) (ho : op.op = .load ty x) (hgd : op.guard = none)
    (hx : a.eval x = .pointer (some ⟨g, 0, none⟩)) (hB : Blk w g t cs) (d : TypeDesc) (hu : P.underlying ty = some d) (hd : (match d with | .struct _ | .array _ _ => true | _ => false) = true)
    (n : Nat) (hi : (P.info? ty).map (·.size) = some n) (hn : cs.size = n)
    (h : wpList P ops Q rest (a.put op.dst (.agg cs)) w) : wpList P ops Q (op :: rest) a w :=
  wpList_plain hgd fun _ hK => by
    unfold Oper.wp execOp
    simp only [ho, hx, Instr.loadAt, Instr.sureAddr, Sem.run_bind, Sem.run_pure, Result.andThen_ok, run_loadVar_row w g t ty cs (0, 0) d hB hu hd (hn ▸ hi)]
    exact hK _ _ h

/-- A whole array into its block. -/
theorem wpList_storeB {ops : Array Oper} {rest : List Oper} {op : Oper} {a : Act} {Q : Exit → Act → World → Prop} (ty : TypeId) (x y : Operand) (ho : op.op = .store ty x y) (hgd : op.guard = none)
    (cells : Array Value) (hx : a.eval x = .pointer (some ⟨g, 0, none⟩)) (hy : a.eval y = .agg cells) (hB : Blk w g t cs)
    (n : Nat) (hi : (P.info? ty).map (·.size) = some n) (hn : cs.size = n) (hn' : cells.size = n) (h1 : cells.all (·.oneCell') = true)
    (h : ∀ w', Blk w' g t cells → w.grownBy w' (some g) → wpList P ops Q rest (a.put op.dst undef) w') : wpList P ops Q (op :: rest) a w :=
  wpList_plain hgd fun _ hK => by
    unfold Oper.wp execOp
    simp only [ho, hx, hy, Instr.storeAt, Instr.sureAddr, Sem.run_bind, Sem.run_pure, Result.andThen_ok, run_storeVar_row w g t ty cs cells hB (hn'.symm ▸ hi) (hn.trans hn'.symm) h1]
    exact hK _ _ (h _ (Blk.setRow hB cells) (grown_setRow w g cells))

/-- An array comes back, alone or ahead of a number. -/
theorem results_cellA {fn : Func} {r : Tmp} {ty : TypeId} {v : Value} {ad : Addr} {tmps : Array Value} (h : fn.results = #[.cell r ty]) (hx : tmps.getD r undef = .pointer (some ad)) (hl : (loadVar ty ad).run P w = .ok v w) :
    (results fn tmps).run P w = .ok v w := by
  have hx' : tmps[r]?.getD undef = .pointer (some ad) := by rw [← hx]; simp [Array.getD_eq_getD_getElem?]
  simp [results, h, hx', hl, asAddr]
theorem results_cellB {fn : Func} {r u : Tmp} {ty : TypeId} {v : Value} {ad : Addr} {tmps : Array Value} (h : fn.results = #[.cell r ty, .tmp u]) (hx : tmps.getD r undef = .pointer (some ad)) (hl : (loadVar ty ad).run P w = .ok v w) :
    (results fn tmps).run P w = .ok (.tuple #[v, tmps.getD u undef]) w := by
  have hx' : tmps[r]?.getD undef = .pointer (some ad) := by rw [← hx]; simp [Array.getD_eq_getD_getElem?]
  simp [results, h, hx', hl, asAddr]

/-- The bytes of an array are read as any bytes are. -/
theorem Blk.rd {bs : List UInt8} (h : Blk w g t (Lib.byteCells bs).toArray) : RdB w w.heap.size (some ⟨g, 0, none⟩) bs.length bs := by
  refine ⟨by simp [Lib.byteCells_length], fun _ => ⟨_, rfl, h.lt, fun j u hu => ?_⟩⟩
  have : (⟨g, 0, none⟩ : Addr).add j = ⟨g, j, none⟩ := by unfold Addr.add; split <;> simp_all
  rw [this, h.cell]
  simpa using hu
end

theorem bytes_int (bs : List UInt8) : ∀ (i : Nat) u, (Lib.byteCells bs).toArray[i]? = some u → ∃ m : Int, u = .int .u8 m := by
  intro i u h
  have h' : (Lib.byteCells bs)[i]? = some u := by simpa using h
  have := List.mem_of_getElem? h'
  simp only [Lib.byteCells, List.mem_map] at this
  obtain ⟨b, _, rfl⟩ := this
  exact ⟨_, rfl⟩

theorem bytes_size (bs : List UInt8) : (Lib.byteCells bs).toArray.size = bs.length := by simp [Lib.byteCells_length]

theorem bytes_reverse (bs : List UInt8) : (Lib.byteCells bs).toArray.reverse = (Lib.byteCells bs.reverse).toArray := by
  simp [Lib.byteCells, List.map_reverse]

theorem bytes_cells_one (bs : List UInt8) : (Lib.byteCells bs).toArray.all (·.oneCell') = true := by
  rw [Array.all_eq_true_iff_forall_mem]
  intro u hu
  simp only [Lib.byteCells, List.mem_toArray, List.mem_map] at hu
  obtain ⟨b, _, rfl⟩ := hu
  rfl

/-- The cells of an array, one after the other, as a copy goes on. -/
theorem bytes_set (bs cs : List UInt8) (k : Nat) (hk : k < bs.length) (hl : cs.length = bs.length) :
    (Lib.byteCells (bs.take k ++ cs.drop k)).toArray.setIfInBounds k (.int .u8 ((bs[k]).toNat : Int)) = (Lib.byteCells (bs.take (k + 1) ++ cs.drop (k + 1))).toArray := by
  apply Array.ext_getElem?
  intro i
  simp only [Array.getElem?_setIfInBounds, List.size_toArray, List.getElem?_toArray, Lib.byteCells, List.getElem?_map, List.length_map, List.length_append, List.length_take, List.length_drop]
  by_cases h : k = i
  · subst h
    rw [if_pos rfl, if_pos (by omega), List.getElem?_append_left (by simp; omega), List.getElem?_take_of_lt (by omega), List.getElem?_eq_getElem hk]
    rfl
  · rw [if_neg h]
    congr 1
    by_cases h2 : i < k
    · rw [List.getElem?_append_left (by simp; omega), List.getElem?_append_left (by simp; omega), List.getElem?_take_of_lt h2, List.getElem?_take_of_lt (by omega)]
    · rw [List.getElem?_append_right (by simp; omega), List.getElem?_append_right (by simp; omega)]
      simp only [List.length_take, List.getElem?_drop]
      congr 1
      omega

end Go.Proofs.YtggadilgkcjbjaaGreatDoor
