/-
  algebra.Do refuses a command of a kind that is none.
-/
import Derived.Test.YtloanidfkefenaaGreatDoorQX8
import Derived.Deep.RegionHeld3
import Derived.Deep.AppendLies
import Derived.StillTactics
import Derived.Laws.EntriesVeiled
namespace Go.Proofs.YtloanidfkefenaaGreatDoor
open Go.RowKit Go.Shelf
open Go.Maps (Keyed)
set_option maxRecDepth 100000
set_option linter.unusedVariables false

def zeroRes : Value := .agg #[.slice none 0 0, .int .i64 0, .int .i64 0, .int .i64 0, .int .i64 0, .int .i64 0, .int .i64 0]

theorem step_look_no {ops : Array Oper} {o : Oper} {a : Act} {w : World} {K : Act → World → Prop} {Q : Exit → Act → World → Prop} {E : Prop} (hgd : o.guard = none) (m x : Operand)
    (ho : o.op = .lookup 49 m x true) (b : Nat) (hm : a.eval m = .map (some b)) (hx : a.eval x = .int .i64 9) (hown : w.ownsMap Tryz.prog 3 opR b 8 opsD)
    (h : K (a.put o.dst (.tuple #[.agg #[.int .i64 0, .int .i64 0, .nilFunc], .bool false])) w) :
    if Region.wanted o (yielded ops a.tmps) = true then Oper.wp Tryz.prog o a w K Q else E := by
  have hw : Region.wanted o (yielded ops a.tmps) = true := by simp [Region.wanted, hgd]
  rw [if_pos hw]
  have hl := look_no w b hown
  unfold Oper.wp
  simp [execOp, ho, hm, hx, hl, Result.andThen]
  exact h

theorem res_facts (W : World) (z : Nat) (h : W.heap[z]? = some (.cells #[.slice none 0 0, .int .i64 0, .int .i64 0, .int .i64 0, .int .i64 0, .int .i64 0, .int .i64 0] 29 (0, 0))) :
    W.cell? ⟨z, 0, none⟩ = some (.slice none 0 0) ∧ W.cell? ⟨z, 1, none⟩ = some (.int .i64 0) ∧ W.cell? ⟨z, 2, none⟩ = some (.int .i64 0) ∧ W.cell? ⟨z, 3, none⟩ = some (.int .i64 0) ∧ W.cell? ⟨z, 4, none⟩ = some (.int .i64 0) ∧ W.cell? ⟨z, 5, none⟩ = some (.int .i64 0) ∧ W.cell? ⟨z, 6, none⟩ = some (.int .i64 0) ∧ ∀ o, W.frozen? ⟨z, o, none⟩ = false := by
  refine ⟨?_, ?_, ?_, ?_, ?_, ?_, ?_, fun o => Lib.frozen_of_heap h o⟩ <;> (rw [Lib.cell_of_heap h]; rfl)
theorem res_below {w W : World} {z : Nat} (hb : Below z w W) : Below z w (((((((W.setCell ⟨z + 1, 0, none⟩ (.slice none 0 0)).setCell ⟨z + 1, 1, none⟩ (.int .i64 0)).setCell ⟨z + 1, 2, none⟩ (.int .i64 0)).setCell ⟨z + 1, 3, none⟩ (.int .i64 0)).setCell ⟨z + 1, 4, none⟩ (.int .i64 0)).setCell ⟨z + 1, 5, none⟩ (.int .i64 0)).setCell ⟨z + 1, 6, none⟩ (.int .i64 0)) := (((((((hb.setCell (p := ⟨z + 1, 0, none⟩) (Nat.le_succ z) (.slice none 0 0)).setCell (p := ⟨z + 1, 1, none⟩) (Nat.le_succ z) (.int .i64 0)).setCell (p := ⟨z + 1, 2, none⟩) (Nat.le_succ z) (.int .i64 0)).setCell (p := ⟨z + 1, 3, none⟩) (Nat.le_succ z) (.int .i64 0)).setCell (p := ⟨z + 1, 4, none⟩) (Nat.le_succ z) (.int .i64 0)).setCell (p := ⟨z + 1, 5, none⟩) (Nat.le_succ z) (.int .i64 0)).setCell (p := ⟨z + 1, 6, none⟩) (Nat.le_succ z) (.int .i64 0))

set_option maxHeartbeats 4000000 in
theorem Do_nine (n1 n2 : Int) (b3 : Bool) (n4 n5 n6 : Int) (pf : Option Addr) (lf cf : Nat) (pc : Option Addr) (lc cc : Nat) (pi : Option Addr) (li ci : Nat) (w : World) :
    Calls Tryz.prog 8 #[.agg #[.int .i64 9, .int .i64 n1, .int .i64 n2, .bool b3, .int .i64 n4, .int .i64 n5, .int .i64 n6, .slice pf lf cf, .slice pc lc cc, .slice pi li ci]] w fun e w' => e = .returned (.tuple #[.agg #[.slice none 0 0, .int .i64 0, .int .i64 0, .int .i64 0, .int .i64 0, .int .i64 0, .int .i64 0], .int .i64 1]) ∧ Below w.heap.size w w' := by
  go_enter Tryz.func8, Tryz.ntmps8
  go_wp2
  have k0 : ((w.alloc (.cells #[.int .i64 9, .int .i64 n1, .int .i64 n2, .bool b3, .int .i64 n4, .int .i64 n5, .int .i64 n6, .slice pf lf cf, .slice pc lc cc, .slice pi li ci] 35)).alloc (.cells #[.slice none 0 0, .int .i64 0, .int .i64 0, .int .i64 0, .int .i64 0, .int .i64 0, .int .i64 0] 29)).cell? ⟨w.heap.size, 0, none⟩ = some (.int .i64 9) := by
    rw [World.cell?_alloc_old _ _ _ (by simp)]
    rw [World.cell?_alloc_at _ _ _ _ rfl]; rfl
  have k1 : ((w.alloc (.cells #[.int .i64 9, .int .i64 n1, .int .i64 n2, .bool b3, .int .i64 n4, .int .i64 n5, .int .i64 n6, .slice pf lf cf, .slice pc lc cc, .slice pi li ci] 35)).alloc (.cells #[.slice none 0 0, .int .i64 0, .int .i64 0, .int .i64 0, .int .i64 0, .int .i64 0, .int .i64 0] 29)).heap[w.heap.size + 1]? = some (.cells #[.slice none 0 0, .int .i64 0, .int .i64 0, .int .i64 0, .int .i64 0, .int .i64 0, .int .i64 0] 29 (0, 0)) :=
    (congrArg (_[·]?) (by simp)).trans (heap_alloc_new _ _)
  have hb2 : Below w.heap.size w ((w.alloc (.cells #[.int .i64 9, .int .i64 n1, .int .i64 n2, .bool b3, .int .i64 n4, .int .i64 n5, .int .i64 n6, .slice pf lf cf, .slice pc lc cc, .slice pi li ci] 35)).alloc (.cells #[.slice none 0 0, .int .i64 0, .int .i64 0, .int .i64 0, .int .i64 0, .int .i64 0, .int .i64 0] 29)) := ((Below.refl _ _).alloc (Nat.le_refl _) _).alloc (by simp) _
  have hz2 : w.heap.size + 2 ≤ ((w.alloc (.cells #[.int .i64 9, .int .i64 n1, .int .i64 n2, .bool b3, .int .i64 n4, .int .i64 n5, .int .i64 n6, .slice pf lf cf, .slice pc lc cc, .slice pi li ci] 35)).alloc (.cells #[.slice none 0 0, .int .i64 0, .int .i64 0, .int .i64 0, .int .i64 0, .int .i64 0, .int .i64 0] 29)).heap.size := by simp
  have K1 := Lib.hid k1
  have HB2 := Lib.hid hb2
  clear k1 hb2
  generalize (w.alloc (.cells #[.int .i64 9, .int .i64 n1, .int .i64 n2, .bool b3, .int .i64 n4, .int .i64 n5, .int .i64 n6, .slice pf lf cf, .slice pc lc cc, .slice pi li ci] 35)).alloc (.cells #[.slice none 0 0, .int .i64 0, .int .i64 0, .int .i64 0, .int .i64 0, .int .i64 0, .int .i64 0] 29) = w2 at *
  have hne1 : ¬ w.heap.size = w2.heap.size := by omega
  have hne2 : ¬ w2.heap.size = w.heap.size := by omega
  go_region_held3 (fun w' => w'.cell? ⟨w.heap.size, 0, none⟩ = some (.int .i64 9)) (first | go_keep | (exact cell_below hb1 (by assumption))) (first | (go_at_call 14; refine (operators_any _).mono ?_; rintro e w1 ⟨b, rfl, hbz, hm, hb1⟩; have q1 := look_no _ _ hm; have q2 := look_no _ _ (hm.alloc (.cells #[.int .i64 0, .int .i64 0, .nilFunc] 47)); unfold zeroOp at q1 q2; obtain ⟨hcc, hff⟩ := bcell hb1; have hzz := hb1.size) | (refine step_look_no (by rfl) _ _ (by rfl) b (by rfl) (by rfl) (by first | exact hm | exact hm.alloc _) ?_))
  · have hw : (w1.alloc (.cells #[.int .i64 0, .int .i64 0, .nilFunc] 47)).heap[w.heap.size + 1]? = some (.cells #[.slice none 0 0, .int .i64 0, .int .i64 0, .int .i64 0, .int .i64 0, .int .i64 0, .int .i64 0] 29 (0, 0)) := (heap_alloc_old w1 _ (Nat.lt_of_lt_of_le (show w.heap.size + 1 < w2.heap.size by omega) hzz)).trans ((hb1.block _ (show w.heap.size + 1 < w2.heap.size by omega)).trans K1.out)
    have hbw : Below w.heap.size w (w1.alloc (.cells #[.int .i64 0, .int .i64 0, .nilFunc] 47)) := (HB2.out.drew.trans (hb1.mono (show w.heap.size ≤ w2.heap.size by omega))).alloc (Nat.le_trans (show w.heap.size ≤ w2.heap.size by omega) hzz) _
    clear q1 q2 hcc hff hb1 hzz hm
    generalize w1.alloc (.cells #[.int .i64 0, .int .i64 0, .nilFunc] 47) = W at *
    obtain ⟨r0, r1, r2, r3, r4, r5, r6, f⟩ := res_facts W _ hw
    have f0 := f 0
    have f1 := f 1
    have f2 := f 2
    have f3 := f 3
    have f4 := f 4
    have f5 := f 5
    have f6 := f 6
    have HBW := Lib.hid hbw
    clear f hw hbw
    go_wp2
    exact bodyPost_ret (v := .tuple #[.agg #[.slice none 0 0, .int .i64 0, .int .i64 0, .int .i64 0, .int .i64 0, .int .i64 0, .int .i64 0], .int .i64 1]) (by simp [results, Tryz.results8, go_sem, r0, r1, r2, r3, r4, r5, r6]) rfl ⟨rfl, res_below HBW.out⟩
  · have hw : (w1.alloc (.cells #[.int .i64 0, .int .i64 0, .nilFunc] 47)).heap[w.heap.size + 1]? = some (.cells #[.slice none 0 0, .int .i64 0, .int .i64 0, .int .i64 0, .int .i64 0, .int .i64 0, .int .i64 0] 29 (0, 0)) := (heap_alloc_old w1 _ (Nat.lt_of_lt_of_le (show w.heap.size + 1 < w2.heap.size by omega) hzz)).trans ((hb1.block _ (show w.heap.size + 1 < w2.heap.size by omega)).trans K1.out)
    have hbw : Below w.heap.size w (w1.alloc (.cells #[.int .i64 0, .int .i64 0, .nilFunc] 47)) := (HB2.out.drew.trans (hb1.mono (show w.heap.size ≤ w2.heap.size by omega))).alloc (Nat.le_trans (show w.heap.size ≤ w2.heap.size by omega) hzz) _
    clear q1 q2 hcc hff hb1 hzz hm
    generalize w1.alloc (.cells #[.int .i64 0, .int .i64 0, .nilFunc] 47) = W at *
    obtain ⟨r0, r1, r2, r3, r4, r5, r6, f⟩ := res_facts W _ hw
    have f0 := f 0
    have f1 := f 1
    have f2 := f 2
    have f3 := f 3
    have f4 := f 4
    have f5 := f 5
    have f6 := f 6
    have HBW := Lib.hid hbw
    clear f hw hbw
    go_wp2
    exact bodyPost_ret (v := .tuple #[.agg #[.slice none 0 0, .int .i64 0, .int .i64 0, .int .i64 0, .int .i64 0, .int .i64 0, .int .i64 0], .int .i64 1]) (by simp [results, Tryz.results8, go_sem, r0, r1, r2, r3, r4, r5, r6]) rfl ⟨rfl, res_below HBW.out⟩
  · have hw : (((w1.setCell ⟨w2.heap.size, 0, none⟩ (.int .i64 0)).setCell ⟨w2.heap.size, 1, none⟩ (.int .i64 0)).setCell ⟨w2.heap.size, 2, none⟩ .nilFunc).heap[w.heap.size + 1]? = some (.cells #[.slice none 0 0, .int .i64 0, .int .i64 0, .int .i64 0, .int .i64 0, .int .i64 0, .int .i64 0] 29 (0, 0)) := by
      rw [set_other _ _ _ _ _ (by omega), set_other _ _ _ _ _ (by omega), set_other _ _ _ _ _ (by omega)]
      exact (hb1.block _ (show w.heap.size + 1 < (w2.alloc _).heap.size by simp; omega)).trans ((heap_alloc_old w2 _ (by omega)).trans K1.out)
    have hbw : Below w.heap.size w (((w1.setCell ⟨w2.heap.size, 0, none⟩ (.int .i64 0)).setCell ⟨w2.heap.size, 1, none⟩ (.int .i64 0)).setCell ⟨w2.heap.size, 2, none⟩ .nilFunc) := ((((HB2.out.alloc (by omega) (.cells #[.int .i64 0, .int .i64 0, .nilFunc] 47)).drew.trans (hb1.mono (show w.heap.size ≤ (w2.alloc _).heap.size by simp; omega))).setCell (p := ⟨w2.heap.size, 0, none⟩) (show w.heap.size ≤ w2.heap.size by omega) _).setCell (p := ⟨w2.heap.size, 1, none⟩) (show w.heap.size ≤ w2.heap.size by omega) _).setCell (p := ⟨w2.heap.size, 2, none⟩) (show w.heap.size ≤ w2.heap.size by omega) _
    clear q1 q2 hcc hff hb1 hzz hm
    generalize (((w1.setCell ⟨w2.heap.size, 0, none⟩ (.int .i64 0)).setCell ⟨w2.heap.size, 1, none⟩ (.int .i64 0)).setCell ⟨w2.heap.size, 2, none⟩ .nilFunc) = W at *
    obtain ⟨r0, r1, r2, r3, r4, r5, r6, f⟩ := res_facts W _ hw
    have f0 := f 0
    have f1 := f 1
    have f2 := f 2
    have f3 := f 3
    have f4 := f 4
    have f5 := f 5
    have f6 := f 6
    have HBW := Lib.hid hbw
    clear f hw hbw
    go_wp2
    exact bodyPost_ret (v := .tuple #[.agg #[.slice none 0 0, .int .i64 0, .int .i64 0, .int .i64 0, .int .i64 0, .int .i64 0, .int .i64 0], .int .i64 1]) (by simp [results, Tryz.results8, go_sem, r0, r1, r2, r3, r4, r5, r6]) rfl ⟨rfl, res_below HBW.out⟩

end Go.Proofs.YtloanidfkefenaaGreatDoor
