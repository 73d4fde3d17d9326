/-
  shell.Run tells of a text that is none just where it is none, and nothing is done: bindlelaw25.ShellWrong returns true for every text.
  Conditions: those of the given row and card alone (the listed package-level variables hold, when the call begins, what the program's text lays).
-/
import Derived.Test.YtloanidfkefenaaGreatDoorSW1
import Derived.Test.YtloanidfkefenaaGreatDoorSW2
import Derived.Test.YtloanidfkefenaaGreatDoorCards
import Derived.Test.YtloanidfkefenaaGreatDoorTie
namespace Go.Proofs.YtloanidfkefenaaGreatDoor
open Go.RowKit Go.Shelf Go.ChangeShapes Go.WideShapes Go.ChangeAt Go.ChangeMaps
set_option maxRecDepth 100000

theorem swSaid : Rows.ShellWrongSaid :=
  OpenClaim.holds_of_cond 4 Tryz.f4 rfl rfl rfl rfl rfl rfl rfl ⟨rfl, rfl, rfl, rfl, rfl⟩ rfl rfl rfl rfl rfl swNamed Tryz.func4 swClosed swInst swWrap
    (fun os started H enc _ F => by rw [OpenClaim.pre_eq_preRow]; exact swLifted os started H enc F)

theorem swPlain (f : FuncId) (fn : Func) (hf : Tryz.pinned.checked.prog.funcNamed "bindle/bindlelaw25.ShellWrong" = some f) (hfn : Tryz.pinned.checked.prog.funcs[f]? = some fn) :
    true = Tryz.pinned.checked.prog.looks [] ∧ ∀ (j : Nat) t, fn.params[j]? = some t → Tryz.pinned.checked.prog.wantsStandIn t = false := by
  obtain rfl : f = 4 := Option.some.inj ((show Tryz.prog.funcNamed "bindle/bindlelaw25.ShellWrong" = some 4 by kernel_rfl).symm.trans hf) |>.symm
  obtain rfl : fn = Tryz.f4 := (Option.some.inj (Tryz.func4.symm.trans hfn)).symm
  refine ⟨by kernel_rfl, fun j t ht => ?_⟩
  rw [Tryz.params4] at ht
  obtain rfl : t = 9 := by simpa using Array.mem_of_getElem? ht
  exact (show Tryz.prog.wantsStandIn 9 = false by kernel_rfl)

/-- The tied card. -/
theorem shellWrong_card : Rows.ShellWrongCardSaid :=
  Claim7.holds_tied_plain_at .later [] _ _ _ _ swSaid (fun _ h => by cases h) (by kernel_rfl) (fun _ h => by cases h) shellWrong_row_tie rfl ⟨rfl, rfl⟩ (by kernel_rfl) rfl swPlain (by kernel_rfl)

#print axioms shellWrong_card
end Go.Proofs.YtloanidfkefenaaGreatDoor
