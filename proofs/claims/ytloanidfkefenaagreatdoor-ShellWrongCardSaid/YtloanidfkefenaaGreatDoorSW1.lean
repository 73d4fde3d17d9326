/-
  ShellWrong: the row's contract, and the input that fits.
-/
import Derived.Test.YtloanidfkefenaaGreatDoorQXF
import Derived.Test.YtloanidfkefenaaGreatDoorQL
import Derived.OpenShut
import Derived.Lay
import Derived.Deep.DeepHandedRow
import Derived.SevenTiedAt
import Derived.JoinedCond
namespace Go.Proofs.YtloanidfkefenaaGreatDoor
open Go.RowKit Go.Shelf Go.ChangeShapes Go.WideShapes Go.ChangeAt Go.ChangeMaps
set_option maxRecDepth 100000
set_option linter.unusedVariables false

theorem swOwn : ownKnob Tryz.prog.godebug = none := by kernel_rfl

/-- What the call leaves, read: the bool, and the text as it was. -/
theorem swPost {H : Type} (enc : TypeId × Value → H) (W W' : World) (s : ByteArray) (hs : s.size ≤ maxLen) (hb : Below W.heap.size W W')
    (hW : DataW.Whole enc Tryz.prog Tryz.f4.params.toList Rows.shellWrongSpec.vars false W [.string s] [.lit (.string s.data.toList)] [] []) :
    Rows.shellWrongSpec.post enc Tryz.prog Tryz.f4 false true false false W #[.string s] (.bool true) W' := by
  have args : ∀ sp : Nat → Bool, DataW.TrodAll enc Tryz.prog W' 0 sp true Tryz.f4.params.toList [.string s] [.lit (.string s.data.toList)] [] := fun sp => trodAll_mk1 (shut_string Tryz.underlying9 hs)
  have vars : ∀ sp : Nat → Bool, DataW.TrodVars enc Tryz.prog W' sp Rows.shellWrongSpec.vars [] [] := fun _ => rfl
  refine ⟨[.lit (.string s.data.toList)], [], [], [], [], [], hW, trodAll_mk1 (shut_bool Tryz.underlying4 true), args _, vars _, World.keptBut_mono (fun p hp => ?_) (hb.frame (fun _ => False)), fun _ => ?_⟩
  · exact hp.elim
  · exact ⟨ok_one (by kernel_rfl) rfl (okWide_bool_mk Tryz.underlying4 _), _, _, [], ⟨[], [], trodAll_append (args _) (trodAll_mk1 (shut_bool Tryz.underlying4 true)), vars _, rfl, (fun b off hp => (by simp at hp)), fun _ => List.nodup_nil⟩, fun p hp => by simp at hp⟩

theorem swContract (H : Type) (enc : TypeId × Value → H) (W : World) (base : Nat) (args : Array Value) (ds gs : List (DataW H)) (before : List MemPlace)
    (hval : ∀ (j : Nat) t v, Tryz.f4.params[j]? = some t → args[j]? = some v → Value.okWide Tryz.prog W .any base t v)
    (hW : DataW.Whole enc Tryz.prog Tryz.f4.params.toList Rows.shellWrongSpec.vars false W args.toList ds gs before) (hL : laidMetH Tryz.prog Rows.shellWrongRow.laid W) (hS : W.ShapedOpen Tryz.prog) :
    Calls Tryz.prog 4 args W fun e W' => ∃ v, e = .returned v ∧ Rows.shellWrongSpec.post enc Tryz.prog Tryz.f4 false true false false W args v W' := by
  have hW' := hW
  obtain ⟨p, q, hA0, hV, rfl, hfz, hnd⟩ := hW
  have hA : DataW.TrodAll enc Tryz.prog W 0 (fun _ => true) true Tryz.f4.params.toList args.toList ds p := hA0
  rw [Tryz.params4] at hA hval
  obtain ⟨v0, d0, rfl, rfl, h0⟩ := trodAll_one hA
  obtain ⟨rfl, rfl⟩ := trodVars_none hV
  obtain ⟨s, rfl, rfl, rfl, ws⟩ := open_string Tryz.underlying9 (hval 0 9 v0 rfl rfl) h0
  clear hA0
  simp only [List.append_nil] at hW'
  have G := glob_of_laid hL hS
  refine (ShellWrong_any s W (by unfold maxLen at ws; omega) (fun W2 hW2 => G.below hW2)).mono fun e W' ⟨he, hb⟩ => ?_
  subst he
  exact ⟨_, rfl, swPost enc W W' s ws hb hW'⟩

theorem swReads (os : Os) {H : Type} (enc : TypeId × Value → H) : DataW.whole enc Tryz.prog ((World.laidAll Tryz.prog os Rows.shellWrongRow.laid).forCall (fun _ _ => 0) ⟨#[], #[.string ⟨#[]⟩], []⟩).memory Tryz.f4.params.toList Rows.shellWrongSpec.vars false #[Value.string ⟨#[]⟩].toList 8 = some ([.lit (.string [])], [], []) := by kernel_rfl

theorem swLifted (os : Os) (started : os.Started) (H : Type) (enc : TypeId × Value → H) (F : Stop.Interp) :
    ReturnsInHanded {} Tryz.checked os 4 .any ((OpenSpec.ofChange Rows.shellWrongSpec).preRow enc Tryz.prog Tryz.f4 Rows.shellWrongRow.domain false Rows.shellWrongRow.laid) (((OpenSpec.ofChange Rows.shellWrongSpec).at F).post enc Tryz.prog Tryz.f4 false true false false) := by
  have hok : Input.okWideB Tryz.prog ((World.laidAll Tryz.prog os Rows.shellWrongRow.laid).forCall (fun _ _ => 0) ⟨#[], #[.string ⟨#[]⟩], []⟩) 4 ⟨#[], #[.string ⟨#[]⟩], []⟩ = true := by kernel_rfl
  refine returnsInHanded_of_row (C := Tryz.checked) (s := OpenSpec.ofChange Rows.shellWrongSpec) swOwn started (by kernel_rfl) Tryz.func4
    ⟨World.laidAll Tryz.prog os Rows.shellWrongRow.laid, fun _ _ => 0, ⟨#[], #[.string ⟨#[]⟩], []⟩, World.laidAll_os _ _ _, World.shaped_of_ZipB (by kernel_rfl) (by kernel_rfl), (Input.okWide_of_okWideB (base := 0) hok).1, (Input.okWide_of_okWideB hok).2,
      OpenSpec.preRow_of_cond 8 (swReads os enc) (by kernel_rfl) (fun k hk => by cases hk) (by kernel_rfl) (by rw [MakeChecks.laidMetH_plain _ _ _ (by kernel_rfl)]; exact laidMet_laidAll _ (by kernel_rfl) (by kernel_rfl)), by
      simp only [Assume.holds]
      exact ⟨by simp, by simp, fun _ => Modest.zero, by simp, by simp⟩⟩ ?_
  intro W base args ds gs before hval hW _ _ _ hL hS _
  exact swContract H enc W base args ds gs before hval hW hL hS

end Go.Proofs.YtloanidfkefenaaGreatDoor
