/-
  What the library's contracts want of a world; Itoa and Atoi; number of asm.
-/
import Derived.Test.YtggadilgkcjbjaaGreatDoorHxDec
import Derived.Test.YtggadilgkcjbjaaGreatDoorAsmBuildP
import Derived.Lib.AtoiErrMem
import Derived.Lib.AtoiAllMem
import Derived.Lib.LaidTab
import Derived.Sort.Grow
set_option linter.unusedVariables false
namespace Go.Proofs.YtggadilgkcjbjaaGreatDoor
open Go.RowKit Go.Sort

theorem below_grow (w : World) (k : Nat) (os : Array Obj) : Below w.heap.size w (grow (w.drewN k) os) :=
  ⟨rfl, rfl, rfl, by show w.heap.size ≤ (w.heap ++ os).size; simp, fun j hj => by show (w.heap ++ os)[j]? = _; rw [Array.getElem?_append_left hj]⟩

/-- The library's variables lie as the program's text lays them. -/
structure Gd (w : World) : Prop where
  tab : Lib.TabIs Tryz.prog w "internal/strconv.uint64pow10" .u64 Lib.pow10Tab
  max : ∃ m, w.cell? ⟨0, 0, none⟩ = some (.int .i64 m)
  rng : ∃ tp p, w.var? Tryz.prog "strconv.ErrRange" = some #[.iface tp p]
  syn : ∃ tp p, w.var? Tryz.prog "strconv.ErrSyntax" = some #[.iface tp p]

theorem var_below {w w' : World} {s : String} {cs : Array Value} (h : w.var? Tryz.prog s = some cs) (hb : Below w.heap.size w w') : w'.var? Tryz.prog s = some cs := by
  unfold World.var? at *
  cases hg : Tryz.prog.globalNamed s with
  | none => rw [hg] at h; cases h
  | some g =>
    rw [hg] at h
    simp only [Option.bind_some] at *
    have hlt : g < w.heap.size := by
      rcases Nat.lt_or_ge g w.heap.size with h' | h'
      · exact h'
      · rw [Array.getElem?_eq_none h'] at h; simp at h
    rw [hb.block g hlt]
    exact h
theorem cell_lt {w : World} {g i : Nat} {v : Value} (h : w.cell? ⟨g, i, none⟩ = some v) : g < w.heap.size := by
  rcases Nat.lt_or_ge g w.heap.size with h' | h'
  · exact h'
  · unfold World.cell? at h
    simp only at h
    rw [Array.getElem?_eq_none h'] at h
    simp at h
theorem Gd.below {w w' : World} (h : Gd w) (hb : Below w.heap.size w w') : Gd w' := by
  obtain ⟨h1, ⟨m, h2⟩, ⟨t1, p1, h3⟩, ⟨t2, p2, h4⟩⟩ := h
  exact ⟨var_below h1 hb, ⟨m, (hb.cell (p := ⟨0, 0, none⟩) (cell_lt h2)).trans h2⟩, ⟨t1, p1, var_below h3 hb⟩, ⟨t2, p2, var_below h4 hb⟩⟩

theorem itoa_any (n : Nat) (hn : n < 1000) (w : World) (h : Gd w) :
    Calls Tryz.prog 24 #[.int .i64 n] w fun e w' => e = .returned (.string ⟨(dec3 n).toArray⟩) ∧ Below w.heap.size w w' := by
  refine (Tryz.strconv_Itoa n (by omega) (by omega) w h.tab).mono ?_
  rintro e w' ⟨rfl, k, os, rfl⟩
  refine ⟨?_, below_grow w k os⟩
  rw [Lib.itoa_nonneg, dec3_eq hn]

/-- How Atoi ends. -/
def AtoiEnd (s : ByteArray) (w : World) (e : Ending) (w' : World) : Prop :=
  Below w.heap.size w w' ∧ ((∃ v : Int, Lib.atoiAll s.data.toList = .ok v ∧ e = .returned (.tuple #[.int .i64 v, .nilIface])) ∨
    ((∀ v, Lib.atoiAll s.data.toList ≠ .ok v) ∧ ∃ (v : Int) (N : Nat), -9223372036854775808 ≤ v ∧ v ≤ 9223372036854775807 ∧ e = .returned (.tuple #[.int .i64 v, .iface 108 (.pointer (some ⟨N, 0, none⟩))])))
theorem atoi_any (s : ByteArray) (hs : s.size ≤ 1000000) (w : World) (h : Gd w) : Calls Tryz.prog 64 #[.string s] w (AtoiEnd s w) := by
  rcases ha : Lib.atoiAll s.data.toList with v | _ | _
  · refine (Tryz.strconv_Atoi_ok s (by omega) v ha w).mono ?_
    rintro e w' ⟨rfl, hw⟩
    refine ⟨?_, .inl ⟨v, ha, rfl⟩⟩
    rcases hw with rfl | ⟨t, rfl⟩
    · exact Below.refl _ _
    · exact Lib.bytesWorld_below _ _ _
  · obtain ⟨tp, p, hv⟩ := h.syn
    refine (Tryz.strconv_Atoi_syntax_var s (by omega) ha tp p w hv).mono ?_
    rintro e w' ⟨N, rfl, _, _, hb⟩
    exact ⟨hb, .inr ⟨(fun v e => by rw [ha] at e; cases e), 0, N, by omega, by omega, rfl⟩⟩
  · obtain ⟨tp, p, hv⟩ := h.rng
    refine (Tryz.strconv_Atoi_range_var s (by omega) ha tp p w hv).mono ?_
    rintro e w' ⟨N, rfl, _, _, hb⟩
    refine ⟨hb, .inr ⟨(fun v e => by rw [ha] at e; cases e), _, N, ?_, ?_, rfl⟩⟩
    · unfold Lib.atoiSat; split <;> omega
    · unfold Lib.atoiSat; split <;> omega

theorem atoi_dec : ∀ n : Fin 256, Lib.atoiAll (dec3 n.1) = .ok n.1 := by decide +kernel
theorem num_is {s : List UInt8} {v : Int} {most : Nat} (hm : most < 256) (h : Lib.atoiAll s = .ok v) : numL most s = if 0 ≤ v ∧ v ≤ most ∧ dec3 v.toNat = s then some v.toNat else none := by
  split
  · rename_i h1
    obtain ⟨h1, h2, h3⟩ := h1
    have := numL_dec (n := v.toNat) (most := most) (by omega) hm
    rw [h3] at this
    exact this
  · rename_i h1
    apply numL_none
    rintro n hn rfl
    have := atoi_dec ⟨n, by omega⟩
    simp only at this
    rw [this] at h
    injection h with h
    subst h
    exact h1 ⟨by omega, by omega, by simp⟩
theorem num_not {s : List UInt8} {most : Nat} (hm : most < 256) (h : ∀ v, Lib.atoiAll s ≠ .ok v) : numL most s = none := by
  apply numL_none
  rintro n hn rfl
  exact h _ (atoi_dec ⟨n, by omega⟩)

end Go.Proofs.YtggadilgkcjbjaaGreatDoor
