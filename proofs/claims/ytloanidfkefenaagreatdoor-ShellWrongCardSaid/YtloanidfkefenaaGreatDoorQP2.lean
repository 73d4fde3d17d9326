/-
  The reader of words: number.
-/
import Derived.Test.YtloanidfkefenaaGreatDoorQP1
namespace Go.Proofs.YtloanidfkefenaaGreatDoor
open Go.RowKit Go.Shelf
set_option maxRecDepth 100000
set_option linter.unusedVariables false

/-- What a call on the reader leaves: the rest of the words, new memory, and nothing else turned. -/
def RdPost (w : World) (br C : Nat) (r : List ByteArray) (w' : World) : Prop := (∃ v, Rd w' br C v r) ∧ w.grownBy w' (some br)
theorem grown_set (w : World) (br : Nat) (v : Value) : w.grownBy (w.setCell ⟨br, 0, none⟩ v) (some br) := {
  os := rfl
  tape := rfl
  output := rfl
  size := by simp [World.setCell]
  block := fun k _ hk => Below.heap_setCell _ _ _ _ (fun e => hk (by rw [e])) }
theorem grown_trans {a b c : World} {row : Option Nat} (h : a.grownBy b row) (k : b.grownBy c row) : a.grownBy c row := {
  os := k.os.trans h.os
  tape := k.tape.trans h.tape
  output := k.output.trans h.output
  size := Nat.le_trans h.size k.size
  block := fun i hi hr => (k.block i (Nat.lt_of_lt_of_le hi h.size) hr).trans (h.block i hi hr) }
theorem grown_below {a b c : World} {row : Option Nat} (h : a.grownBy b row) (k : Below b.heap.size b c) : a.grownBy c row := {
  os := k.os.trans h.os
  tape := k.tape.trans h.tape
  output := k.output.trans h.output
  size := Nat.le_trans h.size k.size
  block := fun i hi hr => (k.block i (Nat.lt_of_lt_of_le hi h.size)).trans (h.block i hi hr) }

def hdW (ws : List ByteArray) : ByteArray := ws.headD ⟨#[]⟩

theorem Rd.form {w : World} {br C : Nat} {v : Value} {ws : List ByteArray} (h : Rd w br C v ws) : ∃ p c, v = .slice p ws.length c ∧ ws.length ≤ c := El.sl_form h.2.1

theorem word_any (br C : Nat) (ws : List ByteArray) (v : Value) (w : World) (h : Rd w br C v ws) (hl : ws.length ≤ 1000000) :
    Calls Tryz.prog 72 #[.pointer (some ⟨br, 0, none⟩)] w fun e w' => e = .returned (.string (hdW ws)) ∧ RdPost w br C ws.tail w' := by
  obtain ⟨p, c, rfl, hc⟩ := h.form
  cases ws with
  | nil =>
    refine (word_none br C p c w h).mono fun e w' ⟨h1, h2⟩ => ⟨h1, ⟨_, h2 ▸ h⟩, ?_⟩
    rw [← h2]; exact World.grownBy.refl _ _
  | cons x r =>
    refine (word_some br C p c x r w h hc (by simp at hl; omega)).mono fun e w' ⟨h1, v', h2, h3⟩ => ⟨h1, ⟨v', h2⟩, ?_⟩
    rw [h3]; exact grown_set w br v'

theorem RdPost.below {w w1 w2 : World} {br C : Nat} {r : List ByteArray} (h : RdPost w br C r w1) (hb : Below w1.heap.size w1 w2) : RdPost w br C r w2 := by
  obtain ⟨⟨v, h1⟩, h2⟩ := h
  exact ⟨⟨v, h1.below hb⟩, grown_below h2 hb⟩

set_option maxHeartbeats 1000000 in
theorem number_any (br C : Nat) (ws : List ByteArray) (v : Value) (w : World) (h : Rd w br C v ws) (hl : ws.length ≤ 1000000) (hs : (hdW ws).size ≤ 1000000) (HG : Hid (∀ W, w.grownBy W (some br) → Glob W)) :
    Calls Tryz.prog 67 #[.pointer (some ⟨br, 0, none⟩)] w fun e w' => e = .returned (.int .i64 (numP (hdW ws).data.toList)) ∧ RdPost w br C ws.tail w' := by
  have HW := Lib.hid (word_any br C ws v w h hl)
  generalize hdW ws = x at *
  generalize ws.tail = r at *
  clear h
  have HN : Hid (∀ W, Glob W → Calls Tryz.prog 118 #[.string x] W (NumPost W (numP x.data.toList))) := fun W GW => Atoi_any x W GW hs
  generalize numP x.data.toList = N at *
  go_enter Tryz.func67, Tryz.ntmps67
  go_wp2_with fail
  refine HW.out.mono ?_
  rintro e w1 ⟨rfl, hr1⟩
  have HR := Lib.hid hr1
  have G1 := HG.out w1 hr1.2
  clear hr1
  go_wp2_with fail
  refine (HN.out _ G1).mono ?_
  rintro e w2 ⟨er, rfl, hb2⟩
  have HR2 := Lib.hid (HR.out.below hb2)
  clear hb2
  go_wp2
  go_ret
  exact ⟨rfl, HR2.out⟩

end Go.Proofs.YtloanidfkefenaaGreatDoor
