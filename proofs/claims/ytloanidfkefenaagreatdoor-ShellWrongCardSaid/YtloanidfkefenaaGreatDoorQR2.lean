/-
  bindleref24.Number at every string; digit.
-/
import Derived.Test.YtloanidfkefenaaGreatDoorQR1
namespace Go.Proofs.YtloanidfkefenaaGreatDoor
open Go.RowKit Go.Shelf
set_option maxRecDepth 100000
set_option linter.unusedVariables false

set_option maxHeartbeats 4000000 in
theorem Number_sign (w : World) : Calls Tryz.prog 40 #[.string ⟨#[45]⟩] w (NumR w (ByteArray.mk #[45]).data.toList) := by
  have hP : NumR w (ByteArray.mk #[45]).data.toList (.returned (.tuple #[.int .i64 0, .bool false])) w := NumR.no (by decide)
  generalize (ByteArray.mk #[45]).data.toList = L at *
  go_enter Tryz.func40, Tryz.ntmps40
  go_wp2
  go_ret2
  exact hP

set_option maxHeartbeats 4000000 in
theorem Number_negno (s : ByteArray) (w : World) (h1 : 1 < s.size) (hm : s.size ≤ 1000000) (hd : s[0].toNat = 45) (d1 : Nat) (hd1 : s[1].toNat = d1) (hd2 : d1 < 256) (h : 20 < s.size ∨ d1 = 48) (hN : Hid (numB s.data.toList = false)) :
    Calls Tryz.prog 40 #[.string s] w (NumR w s.data.toList) := by
  have e1 : ((s.size : Int) == 1) = false := beq_eq_false_iff_ne.2 (by omega)
  have n1 : ¬ s = ⟨#[48]⟩ := fun e => by subst e; exact absurd h1 (by decide)
  have n2 : (s.toList == [48]) = false := by rw [Lib.toList_data]; simpa using str_one s n1
  by_cases h2 : 20 < s.size
  · have e3 : decide (19 < (s.size : Int) - 1) = true := decide_eq_true (by omega)
    clear h
    go_enter Tryz.func40, Tryz.ntmps40
    go_wp2
    go_ret2
    exact NumR.no hN.out
  · have e3 : decide (19 < (s.size : Int) - 1) = false := decide_eq_false (by omega)
    have hd48 : d1 = 48 := by omega
    clear h
    subst hd48
    go_enter Tryz.func40, Tryz.ntmps40
    go_wp2
    go_ret2
    exact NumR.no hN.out

set_option maxHeartbeats 4000000 in
theorem Number_posno (s : ByteArray) (w : World) (h1 : 0 < s.size) (hm : s.size ≤ 1000000) (d0 : Nat) (hd : s[0].toNat = d0) (hn : d0 ≠ 45) (hd2 : d0 < 256) (h : 19 < s.size ∨ (d0 = 48 ∧ s ≠ ⟨#[48]⟩)) (hN : Hid (numB s.data.toList = false)) :
    Calls Tryz.prog 40 #[.string s] w (NumR w s.data.toList) := by
  have e1 : ((s.size : Int) == 0) = false := beq_eq_false_iff_ne.2 (by omega)
  have e2 : ((d0 : Int) == 45) = false := beq_eq_false_iff_ne.2 (by omega)
  by_cases h2 : 19 < s.size
  · have e3 : decide (19 < (s.size : Int)) = true := decide_eq_true (by omega)
    clear h
    go_enter Tryz.func40, Tryz.ntmps40
    go_wp2
    go_ret2
    exact NumR.no hN.out
  · have e3 : decide (19 < (s.size : Int)) = false := decide_eq_false (by omega)
    obtain ⟨hd48, n1⟩ : d0 = 48 ∧ s ≠ ⟨#[48]⟩ := by rcases h with h | h; exact absurd h h2; exact h
    have n2 : (s.toList == [48]) = false := by rw [Lib.toList_data]; simpa using str_one s n1
    clear h e2
    subst hd48
    go_enter Tryz.func40, Tryz.ntmps40
    go_wp2
    go_ret2
    exact NumR.no hN.out

theorem Number_any (s : ByteArray) (w : World) (hm : s.size ≤ 1000000) : Calls Tryz.prog 40 #[.string s] w (NumR w s.data.toList) := by
  have hl : s.data.toList.length = s.size := by simp
  by_cases h0 : s.size = 0
  · exact Number_empty s w h0
  obtain ⟨d0, hd0, hx0, _, ⟨x0, hxx, hdr⟩⟩ := str_at s 0 (by omega)
  rw [List.drop_zero] at hdr
  by_cases hneg : d0 = 45
  · have e45 : x0 = 45 := UInt8.toNat_inj.1 (by rw [hxx, hneg]; rfl)
    subst e45
    by_cases h1 : s.size = 1
    · have : s = ⟨#[45]⟩ := by
        cases s with
        | mk d =>
          congr 1
          apply Array.toList_inj.1
          simp only at hdr hl h1
          rw [hdr]
          have : (d.toList.drop (0 + 1)) = [] := List.drop_eq_nil_of_le (by omega)
          rw [this]
      subst this
      exact Number_sign w
    · obtain ⟨d1, hd1, hx1, _, ⟨x1, hxx1, hdr1⟩⟩ := str_at s 1 (by omega)
      have hmag : magL s.data.toList = s.data.toList.drop 1 := mag_neg hdr
      have hne : s.data.toList ≠ [48] := by rw [hdr]; simp
      by_cases hno : 20 < s.size ∨ d1 = 48
      · refine Number_negno s w (by omega) hm (by rw [hx0, hneg]) d1 hx1 hd1 hno ?_
        rcases hno with h | h
        · exact num_no_long (by rw [hmag, List.length_drop]; omega)
        · refine num_no_zero ?_ hne
          rw [hmag, hdr1, List.head?_cons]
          congr 1
          exact UInt8.toNat_inj.1 (by rw [hxx1, h]; rfl)
      · have n48 : x1 ≠ 48 := fun e => by rw [e] at hxx1; exact hno (Or.inr hxx1.symm)
        have hT : NumT s.data.toList 1 9223372036854775808 1 0 := NumT.neg hdr (by rw [hdr1]; simp) (by rw [List.length_drop]; omega) (by rw [hdr1]; simpa using n48)
        refine Number_neg s w (by omega) (by omega) (by rw [hx0, hneg]) d1 hx1 (by omega) hd1 hT ?_
        intro m hT2 hm0
        subst hm0
        have e1 : decV (magL s.data.toList) = 0 := by rw [hT2.2.1, List.drop_eq_nil_of_le (by omega)]; rfl
        rw [hmag, hdr1] at e1
        unfold decV at e1
        rw [List.foldl_cons] at e1
        have e2 := foldl_ge (s.data.toList.drop (1 + 1)) (decF 0 x1)
        have e3 : decF 0 x1 = 0 := by omega
        unfold decF at e3
        have e4 : numB s.data.toList = false ∨ 48 ≤ d1 := by
          by_cases hlt : 48 ≤ d1
          · exact Or.inr hlt
          · exact Or.inl (hT.bad hxx1 hdr1 (Or.inl (by omega)))
        rcases e4 with e4 | e4
        · have := hT2.2.2.2
          rw [e4, List.drop_eq_nil_of_le (by omega)] at this
          exact absurd this (by decide)
        · omega
  · have n45 : x0 ≠ 45 := fun e => by rw [e] at hxx; exact hneg hxx.symm
    have hh : s.data.toList.head? ≠ some 45 := by rw [hdr]; simpa using n45
    have hmag := mag_pos hh
    by_cases hno : 19 < s.size ∨ (d0 = 48 ∧ s ≠ ⟨#[48]⟩)
    · refine Number_posno s w (by omega) hm d0 hx0 hneg hd0 hno ?_
      rcases hno with h | ⟨h, hs⟩
      · exact num_no_long (by rw [hmag]; omega)
      · refine num_no_zero ?_ (str_one s hs)
        rw [hmag, hdr, List.head?_cons]
        congr 1
        exact UInt8.toNat_inj.1 (by rw [hxx, h]; rfl)
    · refine Number_pos s w (by omega) (by omega) d0 hx0 hneg hd0 ?_ (NumT.pos hh (by rw [hdr]; simp) (by omega) ?_)
      · by_cases h48 : d0 = 48
        · refine Or.inr ?_
          by_cases hs : s = ⟨#[48]⟩
          · exact hs
          · exact absurd (Or.inr ⟨h48, hs⟩) hno
        · exact Or.inl h48
      · intro e
        rw [hdr, List.head?_cons] at e
        injection e with e
        have h48 : d0 = 48 := by rw [← hxx, e]; rfl
        by_cases hs : s = ⟨#[48]⟩
        · rw [hs]
        · exact absurd (Or.inr ⟨h48, hs⟩) hno

/-- digit. -/
def digN (d : Nat) : Int := if 48 ≤ d ∧ d ≤ 57 then (d : Int) - 48 else if 97 ≤ d ∧ d ≤ 102 then (d : Int) - 87 else -1
def hexC (k : Nat) : Nat := if k < 10 then 48 + k else 87 + k
theorem digN_hex (k : Nat) (h : k < 16) : digN (hexC k) = k := by unfold digN hexC; split <;> split <;> (try split) <;> omega
theorem hexC_digN (d : Nat) (h : 0 ≤ digN d) : hexC (digN d).toNat = d ∧ (digN d).toNat < 16 := by
  unfold digN at h ⊢
  unfold hexC
  split at h <;> (try split at h) <;> (try omega)
  · next h1 => rw [if_pos h1]; constructor <;> (try split) <;> omega
  · next h0 h1 => rw [if_neg h0, if_pos h1]; constructor <;> (try split) <;> omega
def digS : ByteArray := ⟨#[48, 49, 50, 51, 52, 53, 54, 55, 56, 57, 97, 98, 99, 100, 101, 102]⟩
theorem digS_at : ∀ k : Fin 16, (digS[k.val]'(by have : digS.size = 16 := rfl; omega)).toNat = hexC k.val := by decide

end Go.Proofs.YtloanidfkefenaaGreatDoor
