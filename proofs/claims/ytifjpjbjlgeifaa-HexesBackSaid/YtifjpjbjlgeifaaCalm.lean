/-
  A REGION THAT DRAWS ITS ORDER AND WHOSE CALLS LAY MEMORY, BUT ANSWER THE SAME IN EVERY WORLD OF A CLASS C: walked once, in the order of the text, by the library's law 'wp_region_quiet'. The steps of that walk.
-/
import Derived.Test.YtifjpjbjlgeifaaArr
import Derived.Deep.QuietTactic
set_option linter.unusedVariables false
namespace Go.Proofs.Ytifjpjbjlgeifaa
open Go.RowKit

section
variable {P : Program} {ops : Array Oper} {C : World → Prop} {Q : Act → Prop} {a : Act} {o : Oper} {rest : List Oper}

theorem calm_step (hg : Region.wanted o (yielded ops a.tmps) = true) (v : Value) (hq : ∀ w, C w → o.quietAt P a C w v) (h : wpQuiet P ops C Q rest (a.put o.dst v)) : wpQuiet P ops C Q (o :: rest) a := by
  unfold wpQuiet
  rw [if_pos hg]
  exact ⟨v, hq, h⟩

/-- An operation that yields one value and turns nothing. -/
theorem calm_val (hg : Region.wanted o (yielded ops a.tmps) = true) (v : Value) (hv : ∀ w, C w → (execOp a.eval o).run P w = .ok (.value v) w) (h : wpQuiet P ops C Q rest (a.put o.dst v)) : wpQuiet P ops C Q (o :: rest) a :=
  calm_step hg v (fun w hw => by unfold Oper.quietAt; rw [hv w hw]; exact ⟨rfl, rfl⟩) h

/-- An operation whose guard says no. -/
theorem calm_skip (hg : Region.wanted o (yielded ops a.tmps) = false) (h : wpQuiet P ops C Q rest (a.put o.dst undef)) : wpQuiet P ops C Q (o :: rest) a := by
  unfold wpQuiet
  rw [if_neg (by rw [hg]; exact Bool.false_ne_true)]
  exact h

/-- The load of an array. -/
theorem calm_load (ty : TypeId) (x : Operand) (ho : o.op = .load ty x) (hg : Region.wanted o (yielded ops a.tmps) = true) (g : Nat) (hx : a.eval x = .pointer (some ⟨g, 0, none⟩)) (v : Value) (hl : ∀ w, C w → (loadVar ty ⟨g, 0, none⟩).run P w = .ok v w)
    (h : wpQuiet P ops C Q rest (a.put o.dst v)) : wpQuiet P ops C Q (o :: rest) a :=
  calm_val hg v (fun w hw => by
    unfold execOp
    simp only [ho, hx, Instr.loadAt, Instr.sureAddr, Sem.run_bind, Sem.run_pure, Result.andThen_ok, hl w hw]) h

theorem calm_nil (h : Q a) : wpQuiet P ops C Q [] a := h

/-- The region. -/
theorem calm_region {id : Nat} {Q : Exit → Act → World → Prop} {w : World} {l : List Oper} (C : World → Prop) (hm : P.follows .mixedOrders = true) (hB : Region.lexB .any l.toArray = true) (hC : C w.drew)
    (h : wpQuiet P l.toArray C (fun a' => ∀ w', C w' → Q .normal a' w') l a) : (Code.region id l.toArray true).wp P Q a w :=
  wp_region_quiet (C := C) hm hB hC (by simpa using h)
end

end Go.Proofs.Ytifjpjbjlgeifaa
