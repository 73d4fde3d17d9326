/-
  What the row's list of variables gives the walks.
-/
import Derived.Test.YtloanidfkefenaaGreatDoorQG
import Derived.Test.YtloanidfkefenaaGreatDoorRows
import Derived.Stop.LaidErr
import Derived.Shelf.Vars
import Derived.ProofKit
import Derived.MakeChecks
import Derived.Stop.Joined
namespace Go.Proofs.YtloanidfkefenaaGreatDoor
open Go.RowKit Go.Shelf
set_option maxRecDepth 100000
set_option linter.unusedVariables false

theorem gPow : Tryz.prog.globalNamed "internal/strconv.uint64pow10" = some 12 := by kernel_rfl
theorem gSyn : Tryz.prog.globalNamed "strconv.ErrSyntax" = some 15 := by kernel_rfl
theorem gRng : Tryz.prog.globalNamed "strconv.ErrRange" = some 16 := by kernel_rfl
theorem gPowT : (Tryz.prog.globals[12]?).map (·.type) = some 378 := by kernel_rfl
theorem gSynT : (Tryz.prog.globals[15]?).map (·.type) = some 81 := by kernel_rfl
theorem gRngT : (Tryz.prog.globals[16]?).map (·.type) = some 81 := by kernel_rfl
theorem rowErr (u : TypeId) (h : Tryz.prog.typeName? 3 u = some "*errors.errorString") : u = 449 :=
  typeName_ptr_named (nm := "errors.errorString") (by kernel_rfl) (by kernel_rfl) (by decide) u h

theorem glob_of_laid {W : World} (h0 : laidMetH Tryz.prog Rows.shellWrongRow.laid W) (hs : W.ShapedOpen Tryz.prog) : Glob W := by
  have h : laidMet Tryz.prog Rows.shellWrongRow.laid W := by
    rw [MakeChecks.laidMetH_plain _ _ _ (by kernel_rfl)] at h0
    exact h0
  have h2 := h.tail.tail
  have h4 := h2.tail.tail
  refine { maxlen := ?_, pow := ?_, syn := ?_, rng := ?_ }
  · exact cell_of_shapedOpen_int hs (of_decide_eq_true (by kernel_rfl)) (zero := #[.int .i64 0]) (t := 3) (by kernel_rfl) rfl (by kernel_rfl) (by kernel_rfl) Tryz.underlying3
  · exact Lib.tabIs_of_head (zs := Lib.pow10Tab) gPow gPowT Tryz.underlying378 Tryz.underlying147 (by kernel_rfl) (by kernel_rfl) h2
  · obtain ⟨a, s, hv, _⟩ := laid_sentinel h4.tail gSyn gSynT Tryz.underlying81 rowErr Tryz.underlying449 Tryz.underlying451 rfl rfl Tryz.underlying9 (by kernel_rfl) (by kernel_rfl)
    exact ⟨_, _, hv⟩
  · obtain ⟨a, s, hv, _⟩ := laid_sentinel h4 gRng gRngT Tryz.underlying81 rowErr Tryz.underlying449 Tryz.underlying451 rfl rfl Tryz.underlying9 (by kernel_rfl) (by kernel_rfl)
    exact ⟨_, _, hv⟩

end Go.Proofs.YtloanidfkefenaaGreatDoor
