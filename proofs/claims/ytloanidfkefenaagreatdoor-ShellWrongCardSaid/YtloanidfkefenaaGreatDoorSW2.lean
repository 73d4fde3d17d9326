/-
  The row's closed facts, each by itself.
-/
import Derived.Test.YtloanidfkefenaaGreatDoorRows
import Derived.JoinedCond
namespace Go.Proofs.YtloanidfkefenaaGreatDoor
open Go
set_option maxRecDepth 100000

theorem swAnd {a b : Bool} (h : a = true) (k : b = true) : (a && b) = true := by rw [h, k]; rfl
abbrev swS : ChangeSpec := (OpenSpec.ofChange Rows.shellWrongSpec).bare
theorem swF1 : (Rows.shellWrongRow.wf (OpenSpec.ofChange swS) : Bool) = true := by kernel_rfl
theorem swF2 : (laidOutB Tryz.pinned.checked.prog : Bool) = true := by kernel_rfl
theorem swF3 : (mapsRowed Tryz.pinned.checked.prog : Bool) = true := by kernel_rfl
theorem swF4 : (Tryz.f4.params.all (Tryz.pinned.checked.prog.readableRec ·) : Bool) = true := by kernel_rfl
theorem swF5 : (namedTie Tryz.pinned.checked.prog Rows.shellWrongRow.named swS.vars : Bool) = true := by kernel_rfl
theorem swF6 : ((Rows.shellWrongRow.stops == []) : Bool) = true := by kernel_rfl
theorem swF7 : ((Tryz.pinned.checked.prog.stops == []) : Bool) = true := by kernel_rfl
theorem swF8 : ((Rows.shellWrongRow.knobs == []) : Bool) = true := by kernel_rfl
theorem swF9 : ((Tryz.pinned.checked.prog.stopKnobs == []) : Bool) = true := by kernel_rfl
theorem swF10 : ((Rows.shellWrongRow.inPlace == Tryz.pinned.checked.prog.inPlace 4) : Bool) = true := by kernel_rfl
theorem swF11 : ((Rows.shellWrongRow.unfollowed == Tryz.pinned.checked.prog.unfollowed 4) : Bool) = true := by kernel_rfl
theorem swF12 : ((Rows.shellWrongRow.recurses == Tryz.pinned.checked.prog.recurses 4) : Bool) = true := by kernel_rfl
theorem swF13 : ((Rows.shellWrongRow.named == Tryz.pinned.checked.prog.varsNamed 4) : Bool) = true := by kernel_rfl
theorem swF14 : ((Rows.shellWrongRow.maps == (Tryz.f4.params.toList ++ swS.plain.varTypes Tryz.pinned.checked.prog).any (Tryz.pinned.checked.prog.mapsRec ·)) : Bool) = true := by kernel_rfl
theorem swF15 : ((Rows.shellWrongRow.ifaces == (Tryz.f4.params.toList ++ swS.plain.varTypes Tryz.pinned.checked.prog).any (Tryz.pinned.checked.prog.ifacesRec ·)) : Bool) = true := by kernel_rfl
theorem swF16 : ((Rows.shellWrongRow.mapsOut == Tryz.pinned.checked.prog.mapsAmong Tryz.f4.resultTypes.toList) : Bool) = true := by kernel_rfl
theorem swF17 : ((Rows.shellWrongRow.loops == (Tryz.f4.params.toList ++ swS.plain.varTypes Tryz.pinned.checked.prog).any (Tryz.pinned.checked.prog.loopsFrom ·)) : Bool) = true := by kernel_rfl
theorem swF18 : ((Rows.shellWrongRow.wideKeys == (Tryz.f4.params.toList ++ swS.plain.varTypes Tryz.pinned.checked.prog ++ Tryz.f4.resultTypes.toList).any (Tryz.pinned.checked.prog.wideKeysFrom ·)) : Bool) = true := by kernel_rfl
theorem swF19 : (swS.vars.all (Tryz.pinned.checked.prog.varReadable ·) : Bool) = true := by kernel_rfl
theorem swF20 : (Tryz.f4.resultTypes.all (fun t => Tryz.pinned.checked.prog.readableRec t && decide (t < Tryz.pinned.checked.prog.types.size)) : Bool) = true := by kernel_rfl
theorem swF21 : ((Rows.shellWrongRow.ifacesOut == Tryz.f4.resultTypes.toList.any (Tryz.pinned.checked.prog.ifacesRec ·)) : Bool) = true := by kernel_rfl
theorem swF22 : ((Rows.shellWrongRow.loopsOut == Tryz.f4.resultTypes.toList.any (Tryz.pinned.checked.prog.loopsFrom ·)) : Bool) = true := by kernel_rfl
theorem swF23 : ((Rows.shellWrongRow.plainKeys == Tryz.pinned.checked.prog.plainKeys) : Bool) = true := by kernel_rfl
theorem swF24 : (Rows.shellWrongRow.shortTexts.isNone : Bool) = true := by kernel_rfl
theorem swF25 : (Tryz.pinned.checked.prog.stopsHeard : Bool) = true := by kernel_rfl
theorem swF26 : (Tryz.pinned.checked.prog.mayEnter : Bool) = true := by kernel_rfl
theorem swF27 : ((Rows.shellWrongRow.lifted == Tryz.pinned.checked.prog.liftsFinal) : Bool) = true := by kernel_rfl
theorem swF28 : ((Tryz.pinned.checked.prog.make == some Rows.shellWrongRow.make) : Bool) = true := by kernel_rfl
theorem swF29 : ((Rows.shellWrongRow.kinds == (if Rows.shellWrongRow.domain.isEmpty then [] else Tryz.f4.params.toList.map fun t => match Tryz.pinned.checked.prog.underlying t with | some (.int k) => some k | _ => none)) : Bool) = true := by kernel_rfl
theorem swF30 : ((Rows.shellWrongRow.pinned == Rows.shellWrongRow.pinnedBy) : Bool) = true := by kernel_rfl
theorem swF31 : ((Rows.shellWrongRow.veiled == (Tryz.f4.params.toList ++ swS.plain.varTypes Tryz.pinned.checked.prog ++ Tryz.f4.resultTypes.toList).any (Tryz.pinned.checked.prog.veiledRec ·)) : Bool) = true := by kernel_rfl
theorem swF32 : (Rows.shellWrongRow.veiledFits Tryz.pinned.checked.prog Tryz.f4.params.toList (Tryz.f4.params.toList ++ swS.plain.varTypes Tryz.pinned.checked.prog ++ Tryz.f4.resultTypes.toList) : Bool) = true := by kernel_rfl
theorem swClosed : joinedFacts Tryz.pinned.checked.prog 4 Tryz.f4 swS Rows.shellWrongRow = true := by
  unfold joinedFacts
  exact (swAnd (swAnd (swAnd (swAnd (swAnd (swAnd (swAnd (swAnd (swAnd (swAnd (swAnd (swAnd (swAnd (swAnd (swAnd (swAnd (swAnd (swAnd (swAnd (swAnd (swAnd (swAnd (swAnd (swAnd (swAnd (swAnd (swAnd (swAnd (swAnd (swAnd (swAnd swF1 swF2) swF3) swF4) swF5) swF6) swF7) swF8) swF9) swF10) swF11) swF12) swF13) swF14) swF15) swF16) swF17) swF18) swF19) swF20) swF21) swF22) swF23) swF24) swF25) swF26) swF27) swF28) swF29) swF30) swF31) swF32)
theorem swNamed : Tryz.pinned.checked.prog.funcNamed Rows.shellWrongRow.func = some 4 := by kernel_rfl
theorem swInst : Tryz.f4.isInstance Tryz.pinned.checked.prog Rows.shellWrongRow.origin Rows.shellWrongRow.targs := of_decide_eq_true (by kernel_rfl)
theorem swWrap : Tryz.f4.isWrapper Tryz.pinned.checked.prog Rows.shellWrongRow.wrapper Rows.shellWrongRow.mainSum := by
  unfold Func.isWrapper; first | (rw [if_pos (by decide +kernel)]; kernel_rfl) | (rw [if_neg (by decide +kernel)]; exact ⟨rfl, rfl⟩)

end Go.Proofs.YtloanidfkefenaaGreatDoor
