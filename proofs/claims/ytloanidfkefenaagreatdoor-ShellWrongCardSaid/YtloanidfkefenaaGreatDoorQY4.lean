/-
  How the reference reads a line, section by section, in plain Lean; no program in this text.
-/
import Derived.Test.YtloanidfkefenaaGreatDoorQ2
namespace Go.Proofs.YtloanidfkefenaaGreatDoor
set_option maxRecDepth 100000

def chkP (part : Nat) : List UInt8 → Bool := if part = 2 then hexB else numB
def tail3 (R : List (List UInt8)) : Bool := R.isEmpty
def tail2 (R : List (List UInt8)) : Bool := secB hexB R && tail3 (restR R)
def tail1 (R : List (List UInt8)) : Bool := secB numB R && tail2 (restR R)
def tail0 (R : List (List UInt8)) : Bool := secB numB R && tail1 (restR R)
def tailB (part : Nat) (R : List (List UInt8)) : Bool := match part with | 0 => tail0 R | 1 => tail1 R | 2 => tail2 R | _ => tail3 R

theorem line_tail (ws : List (List UInt8)) (h : 10 ≤ ws.length) (hb : headB ws = true) : lineB ws = tailB 0 (ws.drop 7) := by
  unfold lineB tailB tail0 tail1 tail2 tail3
  rw [decide_eq_true h, hb]
  simp only [Bool.true_and, Bool.and_assoc]
theorem line_short (ws : List (List UInt8)) (h : ¬ 10 ≤ ws.length) : lineB ws = false := by
  unfold lineB; rw [decide_eq_false h]; simp
theorem line_head (ws : List (List UInt8)) (h : headB ws = false) : lineB ws = false := by
  unfold lineB; rw [h]; simp
theorem head_no (ws : List (List UInt8)) (k : Nat) (hk : k < 7) (hl : k < ws.length) (h : numB ws[k] = false) : headB ws = false := by
  unfold headB
  have : (ws.take 7).all numB = false := by
    rw [List.all_eq_false]
    exact ⟨ws[k], List.mem_iff_getElem.2 ⟨k, by rw [List.length_take]; omega, by rw [List.getElem_take]⟩, by rw [h]; decide⟩
  rw [this]; rfl
theorem head_all (ws : List (List UInt8)) (h : ∀ k (hk : k < ws.length), k < 7 → numB ws[k] = true) : (ws.take 7).all numB = true := by
  rw [List.all_eq_true]
  intro x hx
  obtain ⟨k, hk, rfl⟩ := List.mem_iff_getElem.1 hx
  rw [List.length_take] at hk
  rw [List.getElem_take]
  exact h k (by omega) (by omega)
theorem head_flag (ws : List (List UInt8)) (h3 : 3 < ws.length) (h0 : numV ws[3] ≠ 0) (h1 : numV ws[3] ≠ 1) : headB ws = false := by
  unfold headB
  have e : ws.getD 3 [] = ws[3] := by simp [List.getD, h3]
  rw [e, decide_eq_false h0, decide_eq_false h1]; simp
theorem head_yes (ws : List (List UInt8)) (h3 : 3 < ws.length) (ha : (ws.take 7).all numB = true) (h : numV ws[3] = 0 ∨ numV ws[3] = 1) : headB ws = true := by
  unfold headB
  have e : ws.getD 3 [] = ws[3] := by simp [List.getD, h3]
  rw [e, ha]
  rcases h with h | h <;> simp [h]

theorem tail_sec (part : Nat) (hp : part < 3) (R : List (List UInt8)) : tailB part R = (secB (chkP part) R && tailB (part + 1) (restR R)) := by
  match part, hp with
  | 0, _ => rfl
  | 1, _ => rfl
  | 2, _ => rfl
theorem tail_none (part : Nat) (hp : part < 3) : tailB part [] = false := by
  rw [tail_sec part hp]; rfl

theorem secB_cons (chk : List UInt8 → Bool) (w : List UInt8) (r : List (List UInt8)) : secB chk (w :: r) = (numB w && decide (0 ≤ numV w) && decide (numV w ≤ (r.length : Int)) && (r.take (numV w).toNat).all chk) := rfl
/-- How far a section has been read: from word i on, up to word e. -/
def InS (ws : List (List UInt8)) (part i e : Nat) : Prop := lineB ws = (((ws.drop i).take (e - i)).all (chkP part) && tailB (part + 1) (ws.drop e))
theorem sec_open (ws : List (List UInt8)) (part a k : Nat) (hp : part < 3) (ha : a < ws.length) (h : lineB ws = tailB part (ws.drop a)) (hn : numB ws[a] = true) (hk : numV ws[a] = (k : Int)) (hl : k ≤ ws.length - a - 1) : InS ws part (a + 1) (a + k + 1) := by
  unfold InS
  rw [h, tail_sec part hp, List.drop_eq_getElem_cons ha]
  unfold restR
  rw [secB_cons, List.headD_cons, List.tail_cons, hn, hk, Int.toNat_natCast, List.drop_drop]
  have e1 : decide ((0 : Int) ≤ (k : Int)) = true := decide_eq_true (by omega)
  have e2 : decide ((k : Int) ≤ ((ws.drop (a + 1)).length : Int)) = true := decide_eq_true (by rw [List.length_drop]; omega)
  rw [e1, e2, show a + 1 + k = a + k + 1 by omega, show a + k + 1 - (a + 1) = k by omega]
  rfl
theorem sec_shut (ws : List (List UInt8)) (part a : Nat) (hp : part < 3) (ha : a < ws.length) (h : lineB ws = tailB part (ws.drop a)) (hn : (numB ws[a] && decide (0 ≤ numV ws[a]) && decide (numV ws[a] ≤ ((ws.length - a - 1 : Nat) : Int))) = false) : lineB ws = false := by
  rw [h, tail_sec part hp, List.drop_eq_getElem_cons ha]
  have e : (ws.drop (a + 1)).length = ws.length - a - 1 := by rw [List.length_drop]; omega
  rw [secB_cons, e, hn]; rfl
theorem sec_none (ws : List (List UInt8)) (part a : Nat) (hp : part < 3) (ha : ws.length ≤ a) (h : lineB ws = tailB part (ws.drop a)) : lineB ws = false := by
  rw [h, List.drop_eq_nil_of_le ha, tail_none part hp]
theorem InS.go {ws : List (List UInt8)} {part i e : Nat} (h : InS ws part i e) (hi : i < e) (hl : i < ws.length) (hc : chkP part ws[i] = true) : InS ws part (i + 1) e := by
  unfold InS at h ⊢
  rw [h, List.drop_eq_getElem_cons hl, show e - i = (e - (i + 1)) + 1 by omega, List.take_succ_cons, List.all_cons, hc, Bool.true_and]
theorem InS.bad {ws : List (List UInt8)} {part i e : Nat} (h : InS ws part i e) (hi : i < e) (hl : i < ws.length) (hc : chkP part ws[i] = false) : lineB ws = false := by
  unfold InS at h
  rw [h, List.drop_eq_getElem_cons hl, show e - i = (e - (i + 1)) + 1 by omega, List.take_succ_cons, List.all_cons, hc]; rfl
theorem InS.done {ws : List (List UInt8)} {part e : Nat} (h : InS ws part e e) : lineB ws = tailB (part + 1) (ws.drop e) := by
  unfold InS at h
  rw [h, Nat.sub_self, List.take_zero]; rfl
theorem tail_end (ws : List (List UInt8)) (a : Nat) (ha : a ≤ ws.length) : tailB 3 (ws.drop a) = decide (a = ws.length) := by
  show (ws.drop a).isEmpty = _
  rw [Bool.eq_iff_iff, List.isEmpty_iff, decide_eq_true_eq]
  constructor
  · intro h
    have : (ws.drop a).length = 0 := by rw [h]; rfl
    rw [List.length_drop] at this; omega
  · intro h; rw [h, List.drop_length]

end Go.Proofs.YtloanidfkefenaaGreatDoor
