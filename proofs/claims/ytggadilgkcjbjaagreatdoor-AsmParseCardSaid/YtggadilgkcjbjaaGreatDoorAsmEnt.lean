/-
  The walks over the reference's list of names, its Name, its Op.
-/
import Derived.Test.YtggadilgkcjbjaaGreatDoorAsmOp
import Derived.Test.YtggadilgkcjbjaaGreatDoorAsmPlain
set_option linter.unusedVariables false
namespace Go.Proofs.YtggadilgkcjbjaaGreatDoor
open Go.RowKit

/-- The operations that have a name. -/
def entL : List Nat := (List.range 256).filter fun m => decide (nameL m ≠ [])
def entCells : Array Value := (entL.flatMap fun m : Nat => [Value.int .u8 (m : Int), Value.string ⟨(nameL m).toArray⟩]).toArray
theorem flat_get (f g : Nat → Value) : ∀ (l : List Nat) (k m : Nat), l[k]? = some m → (l.flatMap fun m => [f m, g m])[k * 2]? = some (f m) ∧ (l.flatMap fun m => [f m, g m])[k * 2 + 1]? = some (g m)
  | [], k, m, h => by simp at h
  | x :: l, 0, m, h => by
    simp only [List.getElem?_cons_zero, Option.some.injEq] at h
    subst h
    simp
  | x :: l, k + 1, m, h => by
    obtain ⟨h1, h2⟩ := flat_get f g l k m (by simpa using h)
    rw [show (k + 1) * 2 = k * 2 + 1 + 1 by omega, List.flatMap_cons]
    exact ⟨h1, h2⟩
set_option maxRecDepth 100000 in
theorem ent_length : entL.length = 61 := by decide +kernel
theorem ent_mem {m : Nat} (hm : m < 256) : m ∈ entL ↔ nameL m ≠ [] := by
  unfold entL
  rw [List.mem_filter]
  simp [hm]
theorem ent_lt {k m : Nat} (h : entL[k]? = some m) : m < 256 ∧ nameL m ≠ [] := by
  have h1 := List.mem_of_getElem? h
  unfold entL at h1
  rw [List.mem_filter] at h1
  simpa using h1

/-- How Entries ends. -/
def EntEnd (w : World) (e : Ending) (w' : World) : Prop :=
  ∃ g : Nat, e = .returned (.slice (some ⟨g, 0, none⟩) 61 61) ∧ Below w.heap.size w w' ∧ Hid (∀ k m : Nat, entL[k]? = some m → w'.cell? ⟨g, k * 2, none⟩ = some (.int .u8 (m : Int)) ∧ w'.cell? ⟨g, k * 2 + 1, none⟩ = some (.string ⟨(nameL m).toArray⟩))
theorem entEnd_mk (w : World) (cs : Array Value) (h : cs = entCells) : EntEnd w (.returned (.slice (some ⟨w.heap.size, 0, none⟩) 61 61)) (w.alloc (.cells cs 80)) := by
  subst h
  refine ⟨_, rfl, (Below.refl _ _).alloc (Nat.le_refl _) _, fun k m hk => ?_⟩
  have h := flat_get (fun m : Nat => Value.int .u8 (m : Int)) (fun m => Value.string ⟨(nameL m).toArray⟩) entL k m hk
  rw [World.cell?_alloc_at _ _ _ _ rfl, World.cell?_alloc_at _ _ _ _ rfl]
  unfold entCells
  rw [List.getElem?_toArray, List.getElem?_toArray]
  exact h

set_option maxRecDepth 100000 in
set_option maxHeartbeats 4000000 in
theorem entries_any (w : World) : Calls Tryz.prog 56 #[] w (EntEnd w) := by
  obtain ⟨E, hE⟩ : ∃ E : Ending → World → Prop, E = EntEnd w := ⟨_, rfl⟩
  rw [← hE]
  have HE := Lib.hid hE
  clear hE
  go_enter Tryz.func56, Tryz.ntmps56
  go_wp2
  rw [HE.out]
  exact entEnd_mk w _ (by kernel_rfl)

end Go.Proofs.YtggadilgkcjbjaaGreatDoor
