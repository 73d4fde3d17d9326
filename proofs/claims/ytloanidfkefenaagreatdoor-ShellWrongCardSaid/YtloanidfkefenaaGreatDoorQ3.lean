/-
  Where a text's first wrong line is, in plain Lean; no program in this text.
-/
import Derived.Test.YtloanidfkefenaaGreatDoorQ2
namespace Go.Proofs.YtloanidfkefenaaGreatDoor
set_option maxRecDepth 100000

/-- The number of the first line that is none; without one: none. -/
def parseW (n : Nat) : List (List UInt8) → Option Nat
  | [] => none
  | [x] => if x = [] then none else some n
  | x :: y :: r => if lineB (splitL 32 x) = true then parseW (n + 1) (y :: r) else some n
def parseT (n : Nat) (l : List UInt8) : Option Nat := parseW n (splitL 10 l)

theorem parseT_nil (n : Nat) : parseT n [] = none := rfl
theorem parseT_last (n : Nat) (p : List UInt8) (h : (10 : UInt8) ∉ p) (h0 : p ≠ []) : parseT n p = some n := by
  unfold parseT
  rw [splitL_miss 10 p h, parseW, if_neg h0]
theorem parseT_ok (n : Nat) (p r : List UInt8) (h : (10 : UInt8) ∉ p) (hb : lineB (splitL 32 p) = true) : parseT n (p ++ 10 :: r) = parseT (n + 1) r := by
  unfold parseT
  rw [splitL_hit 10 r p h]
  cases hs : splitL 10 r with
  | nil => exact absurd hs (splitL_ne 10 r)
  | cons y ys => rw [parseW, if_pos hb]
theorem parseT_bad (n : Nat) (p r : List UInt8) (h : (10 : UInt8) ∉ p) (hb : ¬ lineB (splitL 32 p) = true) : parseT n (p ++ 10 :: r) = some n := by
  unfold parseT
  rw [splitL_hit 10 r p h]
  cases hs : splitL 10 r with
  | nil => exact absurd hs (splitL_ne 10 r)
  | cons y ys => rw [parseW, if_neg hb]

theorem parse_nine : parseT 1 [57, 10] = some 1 := by decide +kernel
theorem parse_list : parseT 1 [57, 32, 48, 32, 48, 32, 48, 32, 48, 32, 48, 32, 48, 32, 48, 32, 48, 32, 48, 10] = none := by decide +kernel
theorem read_list : (rdP (splitL 32 [57, 32, 48, 32, 48, 32, 48, 32, 48, 32, 48, 32, 48, 32, 48, 32, 48, 32, 48])).kind = 9 ∧ (rdP (splitL 32 [57, 32, 48, 32, 48, 32, 48, 32, 48, 32, 48, 32, 48, 32, 48, 32, 48, 32, 48])).ins.length = 0 := by decide +kernel
theorem line_list : lineB (splitL 32 [57, 32, 48, 32, 48, 32, 48, 32, 48, 32, 48, 32, 48, 32, 48, 32, 48, 32, 48]) = true := by decide +kernel

end Go.Proofs.YtloanidfkefenaaGreatDoor
