/-
  bindleref24.count: how many words follow.
-/
import Derived.Test.YtloanidfkefenaaGreatDoorQR5
namespace Go.Proofs.YtloanidfkefenaaGreatDoor
open Go.RowKit Go.Shelf
set_option maxRecDepth 100000
set_option linter.unusedVariables false

/-- Of a word: the count that it says, and whether so many follow. -/
def cntB (x : List UInt8) (m : Nat) : Bool := numB x && decide (0 ≤ numV x) && decide (numV x ≤ (m : Int))
def CntR (w : World) (x : List UInt8) (m : Nat) (e : Ending) (w' : World) : Prop := e = .returned (.tuple #[.int .i64 (if numB x = true then numV x else 0), .bool (cntB x m)]) ∧ w = w'

set_option maxHeartbeats 1000000 in
theorem count_out (p : Option Addr) (n c k : Nat) (w : World) (hk : n ≤ k) : Calls Tryz.prog 41 #[.slice p n c, .int .i64 k] w fun e w' => e = .returned (.tuple #[.int .i64 0, .bool false]) ∧ w = w' := by
  go_enter Tryz.func41, Tryz.ntmps41
  go_wp2
  go_ret2
  exact ⟨rfl, rfl⟩

set_option maxHeartbeats 2000000 in
theorem count_in (ws : List ByteArray) (p : Option Addr) (c k : Nat) (w : World) (hv : elStr.sl w (.slice p ws.length c) ws) (hc : ws.length ≤ c) (hl : ws.length ≤ 1000000) (hk : k < ws.length) (hs : ws[k].size ≤ 1000000) :
    Calls Tryz.prog 41 #[.slice p ws.length c, .int .i64 k] w (CntR w ws[k].data.toList (ws.length - k - 1)) := by
  obtain ⟨b, o, rfl, hcell0⟩ := El.sl_at hv k hk
  have hcell := hcell0 _ (List.getElem?_eq_getElem hk)
  have HP := fun e w' (h : CntR w ws[k].data.toList (ws.length - k - 1) e w') => h
  clear hcell0 hv
  generalize ws[k] = x at *
  have hcell : w.cell? ⟨b, o + k, none⟩ = some (.string x) := hcell
  have HC : Hid (∀ W, Calls Tryz.prog 40 #[.string x] W (NumR W x.data.toList)) := fun W => Number_any x W hs
  have hm : ((ws.length - k - 1 : Nat) : Int) = (ws.length : Int) - k - 1 := by omega
  have HCB : Hid (cntB x.data.toList (ws.length - k - 1) = (numB x.data.toList && decide (0 ≤ numV x.data.toList) && decide (numV x.data.toList ≤ (ws.length : Int) - k - 1))) := by
    unfold Hid cntB; rw [hm]
  clear hm HP
  unfold CntR
  have HIn : numB x.data.toList = true → InR (numV x.data.toList) := fun h => (itoa_num _ h).2
  generalize cntB x.data.toList (ws.length - k - 1) = CB at *
  unfold NumR at HC
  generalize numB x.data.toList = NB at *
  generalize numV x.data.toList = V at *
  have HI := Lib.hid HIn
  clear HIn hs
  cases NB
  case false =>
    go_enter Tryz.func41, Tryz.ntmps41
    go_wp2_with fail
    refine (HC.out _).mono ?_
    rintro e w' ⟨rfl, rfl⟩
    go_wp2
    go_ret2
    exact ⟨by rw [HCB.out]; rfl, rfl⟩
  case true =>
    obtain ⟨i1, i2⟩ := HI.out rfl
    by_cases h0 : 0 ≤ V
    · go_enter Tryz.func41, Tryz.ntmps41
      go_wp2_with fail
      refine (HC.out _).mono ?_
      rintro e w' ⟨rfl, rfl⟩
      go_wp2
      go_ret2
      refine ⟨?_, rfl⟩
      rw [HCB.out]
      exact ret_two rfl (vbool (by simp [h0]))
    · go_enter Tryz.func41, Tryz.ntmps41
      go_wp2_with fail
      refine (HC.out _).mono ?_
      rintro e w' ⟨rfl, rfl⟩
      go_wp2
      go_ret2
      refine ⟨?_, rfl⟩
      rw [HCB.out]
      exact ret_two rfl (vbool (by simp; omega))

end Go.Proofs.YtloanidfkefenaaGreatDoor
