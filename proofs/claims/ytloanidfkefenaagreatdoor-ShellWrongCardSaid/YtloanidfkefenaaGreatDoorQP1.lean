/-
  The reader of words: word and number.
-/
import Derived.Test.YtloanidfkefenaaGreatDoorQR6
namespace Go.Proofs.YtloanidfkefenaaGreatDoor
open Go.RowKit Go.Shelf
set_option maxRecDepth 100000
set_option linter.unusedVariables false

/-- A reader's variable in block br: the words that are left. -/
def Rd (w : World) (br C : Nat) (v : Value) (ws : List ByteArray) : Prop := w.heap[br]? = some (.cells #[v] 137 (0, 0)) ∧ elStr.sl w v ws ∧ ∀ a n c, v = .slice (some a) n c → a.block < C
theorem Rd.cell {w : World} {br C : Nat} {v : Value} {ws : List ByteArray} (h : Rd w br C v ws) : w.cell? ⟨br, 0, none⟩ = some v := by rw [Lib.cell_of_heap h.1]; rfl
theorem Rd.free {w : World} {br C : Nat} {v : Value} {ws : List ByteArray} (h : Rd w br C v ws) : w.frozen? ⟨br, 0, none⟩ = false := Lib.frozen_of_heap h.1 0
theorem Rd.below {w w1 : World} {br C : Nat} {v : Value} {ws : List ByteArray} (h : Rd w br C v ws) (hb : Below w.heap.size w w1) : Rd w1 br C v ws :=
  ⟨(hb.block br (Array.getElem?_eq_some_iff.1 h.1).1).trans h.1, El.sl_below hb h.2.1, h.2.2⟩

theorem set_cell_other (w : World) (br : Nat) (v : Value) (b o : Nat) (h : b ≠ br) : (w.setCell ⟨br, 0, none⟩ v).cell? ⟨b, o, none⟩ = w.cell? ⟨b, o, none⟩ := by
  unfold World.cell?
  rw [Below.heap_setCell _ _ _ _ (show b ≠ br from h)]
theorem Rd.ne {w : World} {br C : Nat} {v : Value} {ws : List ByteArray} (h : Rd w br C v ws) {b o : Nat} {x : ByteArray} (hc : w.cell? ⟨b, o, none⟩ = some (.string x)) (hv : ∀ y, v ≠ .string y) : b ≠ br := by
  rintro rfl
  rw [Lib.cell_of_heap h.1] at hc
  match o, hc with
  | 0, hc => simp at hc; exact hv _ hc
  | o + 1, hc => simp at hc
theorem Rd.step {w : World} {br C b o c : Nat} {x : ByteArray} {r : List ByteArray} (h : Rd w br C (.slice (some ⟨b, o, none⟩) (r.length + 1) c) (x :: r)) (hcap : r.length + 1 ≤ c) (hl : r.length ≤ 1000000) :
    Rd (w.setCell ⟨br, 0, none⟩ (.slice (some ⟨b, o + 1, none⟩) r.length (c - 1))) br C (.slice (some ⟨b, o + 1, none⟩) r.length (c - 1)) r := by
  refine ⟨one_setCell h.1, ?_, fun a n' c' e => by injection e with e1 e2 e3; injection e1 with e1; rw [← e1]; exact (show b < C from h.2.2 ⟨b, o, none⟩ _ _ rfl)⟩
  refine elStr.sl_mk _ _ _ _ _ (by omega) (by omega) fun k y hy => ?_
  obtain ⟨b', o', e', h'⟩ := El.sl_at h.2.1 (k + 1) (by have := (List.getElem?_eq_some_iff.1 hy).1; simp; exact this)
  injection e' with e'
  injection e' with e1 e2
  subst e1; subst e2
  have hc := h' y (by simpa using hy)
  have hc2 : w.cell? ⟨b, o + 1 + k, none⟩ = some (.string y) := by rw [show o + 1 + k = o + (k + 1) by omega]; exact hc
  rw [set_cell_other _ _ _ _ _ (h.ne hc2 (fun _ e => by cases e))]
  exact hc2
theorem Rd.last {w : World} {br C b o n : Nat} {x : ByteArray} {c0 : Nat} (h : Rd w br C (.slice (some ⟨b, o, none⟩) n c0) [x]) (c : Nat) :
    Rd (w.setCell ⟨br, 0, none⟩ (.slice (some ⟨b, o, none⟩) 0 c)) br C (.slice (some ⟨b, o, none⟩) 0 c) [] :=
  ⟨one_setCell h.1, elStr.sl_mk _ _ _ _ [] (Nat.zero_le _) (by simp) fun k y hy => by simp at hy, fun a n' c' e => by injection e with e1 e2 e3; injection e1 with e1; rw [← e1]; exact (show b < C from h.2.2 ⟨b, o, none⟩ _ _ rfl)⟩

/-- The reader stands where rows behind block C grow. -/
theorem Rd.grown {w w1 : World} {br C : Nat} {v : Value} {ws : List ByteArray} (h : Rd w br C v ws) {row : Option Nat} (hg : w.grownBy w1 row) (hbr : br < C) (hrow : ∀ g, row = some g → C ≤ g) : Rd w1 br C v ws := by
  have hne : ∀ k, k < C → some k ≠ row := fun k hk e => by have := hrow k e.symm; omega
  refine ⟨(hg.block br (Array.getElem?_eq_some_iff.1 h.1).1 (hne br hbr)).trans h.1, ?_, h.2.2⟩
  obtain ⟨p, c, e, hc⟩ := El.sl_form h.2.1
  subst e
  cases ws with
  | nil => exact ⟨p, c, rfl, hc, by simp, fun hp => absurd hp (by simp)⟩
  | cons x r =>
    obtain ⟨b, o, rfl, _⟩ := El.sl_at h.2.1 0 (by simp)
    have hb := h.2.2 _ _ _ rfl
    obtain ⟨_, _, _, _, hlen, _⟩ := h.2.1
    refine elStr.sl_mk _ _ _ _ _ hc hlen fun k y hy => ?_
    obtain ⟨b', o', e', h'⟩ := El.sl_at h.2.1 k (Array.getElem?_eq_some_iff.1 (by simpa using hy : (x :: r).toArray[k]? = some y)).1
    injection e' with e'
    injection e' with e1 e2
    subst e1; subst e2
    have hcell := h' y hy
    have hblt := World.block_lt_of_cell? w _ hcell
    rw [← hcell]
    unfold World.cell?
    rw [hg.block b hblt (hne b hb)]

set_option maxHeartbeats 1000000 in
theorem word_none (br C : Nat) (p : Option Addr) (c : Nat) (w : World) (h : Rd w br C (.slice p 0 c) []) :
    Calls Tryz.prog 72 #[.pointer (some ⟨br, 0, none⟩)] w fun e w' => e = .returned (.string ⟨#[]⟩) ∧ w = w' := by
  have hc := h.cell
  go_enter Tryz.func72, Tryz.ntmps72
  go_wp2
  go_ret
  exact ⟨rfl, rfl⟩

set_option maxHeartbeats 1000000 in
theorem word_some (br C : Nat) (p : Option Addr) (c : Nat) (x : ByteArray) (r : List ByteArray) (w : World) (h : Rd w br C (.slice p (r.length + 1) c) (x :: r)) (hcap : r.length + 1 ≤ c) (hl : r.length ≤ 1000000) :
    Calls Tryz.prog 72 #[.pointer (some ⟨br, 0, none⟩)] w fun e w' => e = .returned (.string x) ∧ ∃ v, Rd w' br C v r ∧ w' = w.setCell ⟨br, 0, none⟩ v := by
  have hc := h.cell
  have hf := h.free
  obtain ⟨b, o, rfl, hcell0⟩ := El.sl_at h.2.1 0 (by simp)
  have hcell := hcell0 x rfl
  rw [Nat.add_zero] at hcell
  have hcell : w.cell? ⟨b, o, none⟩ = some (.string x) := hcell
  clear hcell0
  have HH := Lib.hid h
  clear h
  have e1 : ((r.length : Int) + 1 == 0) = false := beq_eq_false_iff_ne.2 (by omega)
  go_enter Tryz.func72, Tryz.ntmps72
  go_wp2
  case inl h1 =>
    go_ret
    obtain rfl : r = [] := List.length_eq_zero_iff.1 (by omega)
    exact ⟨rfl, _, HH.out.last _, rfl⟩
  case inr h1 =>
    go_ret
    exact ⟨rfl, _, HH.out.step hcap hl, rfl⟩

end Go.Proofs.YtloanidfkefenaaGreatDoor
