/-
  bindleref24.digit, bytes and cut answer as the plain functions do.
-/
import Derived.Test.YtloanidfkefenaaGreatDoorQR2
namespace Go.Proofs.YtloanidfkefenaaGreatDoor
open Go.RowKit Go.Shelf
set_option maxRecDepth 100000
set_option linter.unusedVariables false

theorem digit_at (k : Nat) (h : k < 16) : ∃ e : Nat, e < 256 ∧ ((ByteArray.mk #[48, 49, 50, 51, 52, 53, 54, 55, 56, 57, 97, 98, 99, 100, 101, 102])[k]'(by exact h)).toNat = e ∧ Hid (e = hexC k) := by
  refine ⟨hexC k, ?_, digS_at ⟨k, h⟩, rfl⟩
  unfold hexC; split <;> omega

def DigR (w : World) (d : Nat) (e : Ending) (w' : World) : Prop := e = .returned (.int .i64 (digN d)) ∧ w = w'
theorem digN_none (d : Nat) (h : ∀ j, j < 16 → hexC j ≠ d) : digN d = -1 := by
  by_cases h0 : 0 ≤ digN d
  · obtain ⟨h1, h2⟩ := hexC_digN d h0
    exact absurd h1 (h _ h2)
  · unfold digN at h0 ⊢
    split
    · next h1 => rw [if_pos h1] at h0; omega
    · split
      · next h0' h1 => rw [if_neg h0', if_pos h1] at h0; omega
      · rfl

set_option maxHeartbeats 2000000 in
theorem digit_any (d : Nat) (w : World) (hd : d < 256) : Calls Tryz.prog 76 #[.int .u8 d] w (DigR w d) := by
  go_enter Tryz.func76, Tryz.ntmps76
  go_wp2
  go_loop [3] (fun i => ∃ k : Nat, k ≤ 16 ∧ i = .int .i64 k ∧ Hid (∀ j, j < k → hexC j ≠ d)) (fun i => 16 - (intOf i).toNat)
  case atStart => exact ⟨0, Nat.zero_le _, rfl, fun j hj => absurd hj (by omega)⟩
  case round =>
    obtain ⟨k, hk, rfl, hs⟩ := hrel
    by_cases hlt : k < 16
    · obtain ⟨e, he, hx, HE⟩ := digit_at k hlt
      have hsz : (ByteArray.mk #[48, 49, 50, 51, 52, 53, 54, 55, 56, 57, 97, 98, 99, 100, 101, 102]).size = 16 := rfl
      by_cases hed : e = d
      · subst hed
        have hR : DigR w e (.returned (.int .i64 k)) w := by
          refine ⟨?_, rfl⟩
          rw [HE.out, digN_hex k hlt]
        go_wp2
        go_ret
        exact hR
      · have e1 : ((e : Int) == (d : Int)) = false := beq_eq_false_iff_ne.2 (by omega)
        have hN : Hid (∀ j, j < k + 1 → hexC j ≠ d) := by
          intro j hj
          rcases Nat.lt_or_ge j k with h | h
          · exact hs.out j h
          · have : j = k := by omega
            rw [this, ← HE.out]; exact hed
        go_wp2
        go_round
        case rel => exact ⟨k + 1, by omega, by go_num, hN⟩
        case measure => simp [intOf]; omega
    · have hR : DigR w d (.returned (.int .i64 (-1))) w := by
        refine ⟨?_, rfl⟩
        rw [digN_none d fun j hj => hs.out j (by omega)]
      go_wp2
      go_ret
      exact hR

end Go.Proofs.YtloanidfkefenaaGreatDoor
