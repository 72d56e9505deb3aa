/-
  What the row's list of variables and the world's shape give: the library's variables lie as the contracts want them.
-/
import Derived.Test.YtggadilgkcjbjaaGreatDoorAsmWorld
import Derived.Test.YtggadilgkcjbjaaGreatDoorRows
import Derived.LaidSub
import Derived.MakeChecks
import Derived.ProofKit
import Derived.Shelf.Vars
set_option linter.unusedVariables false
namespace Go.Proofs.YtggadilgkcjbjaaGreatDoor
open Go.RowKit

def keepTab (x : String × DataW Unit) : Bool := x.1 == "internal/strconv.uint64pow10"
def keepRng (x : String × DataW Unit) : Bool := x.1 == "strconv.ErrRange"
def keepSyn (x : String × DataW Unit) : Bool := x.1 == "strconv.ErrSyntax"
theorem iface_of_head {P : Program} {W : World} {name nm : String} {d : DataW Unit} {rest : List (String × DataW Unit)} {g : Nat} {t : TypeId} {ms : Array (String × TypeId)}
    (hg : P.globalNamed name = some g) (hty : (P.globals[g]?).map (·.type) = some t) (hi : P.underlying t = some (.interface ms)) (h : laidMet P ((name, .iface nm d) :: rest) W) : ∃ tp p, W.var? P name = some #[.iface tp p] := by
  obtain ⟨ps, ⟨g', t', cs, fuel, p, q, hg', ht', hvar, hd, _, _⟩, _⟩ := h
  obtain rfl := Option.some.inj (hg.symm.trans hg')
  obtain rfl := Option.some.inj (hty.symm.trans ht')
  obtain ⟨_, u, v, e, _, _⟩ := iface_of_trod hi hd
  refine ⟨u, v, ?_⟩
  rw [hvar]
  congr 1
  exact Array.toList_inj.1 e
theorem gd_of_laid {laid : List (String × DataW Unit)} {W : World} {d1 d2 : List UInt8} (e1 : laid.filter keepTab = [("internal/strconv.uint64pow10", Lib.tabData .u64 Lib.pow10Tab)]) (e2 : laid.filter keepRng = [("strconv.ErrRange", .iface "*errors.errorString" (.ptr (.agg [.lit (.string d1)])))])
    (e3 : laid.filter keepSyn = [("strconv.ErrSyntax", .iface "*errors.errorString" (.ptr (.agg [.lit (.string d2)])))]) (h : laidMetH Tryz.prog laid W) (hsh : W.ShapedOpen Tryz.prog) : Gd W := by
  have h1 := laidMetH.filter keepTab h
  have h2 := laidMetH.filter keepRng h
  have h3 := laidMetH.filter keepSyn h
  rw [e1] at h1
  rw [e2] at h2
  rw [e3] at h3
  rw [Go.MakeChecks.laidMetH_plain _ _ _ (by simp [DataW.handleName?])] at h2 h3
  refine ⟨?_, ?_, ?_, ?_⟩
  · exact Lib.tabIs_of_head (rest := []) (g := 1) (by kernel_rfl) (t := 112) (by kernel_rfl) Tryz.underlying112 Tryz.underlying99 (by kernel_rfl) (by kernel_rfl) h1
  · exact cell_of_shapedOpen_int (P := Tryz.prog) (g := 0) (t := 3) (zero := #[.int .i64 0]) hsh (of_decide_eq_true (by kernel_rfl)) (by kernel_rfl) rfl (by kernel_rfl) (by kernel_rfl) Tryz.underlying3
  · exact iface_of_head (rest := []) (g := 5) (t := 55) (by kernel_rfl) (by kernel_rfl) Tryz.underlying55 h2
  · exact iface_of_head (rest := []) (g := 4) (t := 55) (by kernel_rfl) (by kernel_rfl) Tryz.underlying55 h3

end Go.Proofs.YtggadilgkcjbjaaGreatDoor
