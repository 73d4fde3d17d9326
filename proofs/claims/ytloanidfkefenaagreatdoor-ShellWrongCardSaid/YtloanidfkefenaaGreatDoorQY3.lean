/-
  How large the number of a wrong line is, in plain Lean; no program in this text.
-/
import Derived.Test.YtloanidfkefenaaGreatDoorQY2
namespace Go.Proofs.YtloanidfkefenaaGreatDoor
set_option maxRecDepth 100000

theorem parseW_le : ∀ (ws : List (List UInt8)) (n m : Nat), parseW n ws = some m → n ≤ m ∧ m ≤ n + ws.length
  | [], n, m, h => by simp [parseW] at h
  | [x], n, m, h => by
    unfold parseW at h
    split at h
    · cases h
    · injection h with h; subst h; simp
  | x :: y :: r, n, m, h => by
    unfold parseW at h
    split at h
    · have := parseW_le (y :: r) (n + 1) m h
      simp at this ⊢; omega
    · injection h with h; subst h; simp
theorem parseT_le (n : Nat) (l : List UInt8) (m : Nat) (h : parseT n l = some m) : n ≤ m ∧ m ≤ n + l.length + 1 := by
  have h1 := parseW_le _ n m h
  have h2 := splitL_len 10 l
  omega

end Go.Proofs.YtloanidfkefenaaGreatDoor
