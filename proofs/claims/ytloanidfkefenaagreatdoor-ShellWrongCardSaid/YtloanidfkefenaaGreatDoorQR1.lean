/-
  bindleref24.Number and digit answer as the plain functions do.
-/
import Derived.Test.YtloanidfkefenaaGreatDoorQG
import Derived.Laws.IdiomStrings
namespace Go.Proofs.YtloanidfkefenaaGreatDoor
open Go.RowKit Go.Shelf
set_option maxRecDepth 100000

def NumR (w : World) (l : List UInt8) (e : Ending) (w' : World) : Prop := e = .returned (.tuple #[.int .i64 (if numB l = true then numV l else 0), .bool (numB l)]) ∧ w = w'
theorem NumR.no {w : World} {l : List UInt8} (h : numB l = false) : NumR w l (.returned (.tuple #[.int .i64 0, .bool false])) w := by
  refine ⟨?_, rfl⟩; rw [h]; rfl
theorem NumR.yes {w : World} {l : List UInt8} {n : Int} (h : numB l = true) (hn : numV l = n) : NumR w l (.returned (.tuple #[.int .i64 n, .bool true])) w := by
  refine ⟨?_, rfl⟩; rw [h, hn]; rfl

/-- What is left of the numeral's reading. -/
def NumT (l : List UInt8) (f M : Nat) (i m : Nat) : Prop :=
  negB l = decide (f = 1) ∧ decV (magL l) = (l.drop i).foldl decF m ∧ m < 10 ^ (i - f) ∧
    numB l = ((l.drop i).all digB && decide ((l.drop i).foldl decF m ≤ M))
theorem NumT.small {l : List UInt8} {f M i m : Nat} (h : NumT l f M i m) (hi : i - f ≤ 18) : m ≤ 1000000000000000000 := by
  have h1 := h.2.2.1
  have : 10 ^ (i - f) ≤ 10 ^ 18 := Nat.pow_le_pow_right (by omega) hi
  omega
theorem NumT.bound {l : List UInt8} {f M i m : Nat} (h : NumT l f M i m) (hi : i - f ≤ 19) : m ≤ 10000000000000000000 := by
  have h1 := h.2.2.1
  have : 10 ^ (i - f) ≤ 10 ^ 19 := Nat.pow_le_pow_right (by omega) hi
  omega
theorem NumT.step {l : List UInt8} {f M i m d : Nat} {x : UInt8} (h : NumT l f M i m) (hf : f ≤ i) (hx : x.toNat = d) (hd : l.drop i = x :: l.drop (i + 1)) (h1 : 48 ≤ d) (h2 : d ≤ 57) : NumT l f M (i + 1) (m * 10 + (d - 48)) := by
  obtain ⟨a, b, c, e⟩ := h
  have hb : digB x = true := by unfold digB; rw [hx]; simp; omega
  have hm : decF m x = m * 10 + (d - 48) := by unfold decF; rw [hx]
  refine ⟨a, ?_, ?_, ?_⟩
  · rw [b, hd, List.foldl_cons, hm]
  · rw [show i + 1 - f = (i - f) + 1 by omega, Nat.pow_succ]; omega
  · rw [e, hd, List.foldl_cons, List.all_cons, hb, hm]; rfl
theorem NumT.bad {l : List UInt8} {f M i m d : Nat} {x : UInt8} (h : NumT l f M i m) (hx : x.toNat = d) (hd : l.drop i = x :: l.drop (i + 1)) (h1 : d < 48 ∨ 57 < d) : numB l = false := by
  obtain ⟨a, b, c, e⟩ := h
  have hb : digB x = false := by unfold digB; rw [hx]; simp; omega
  rw [e, hd, List.all_cons, hb]; rfl
theorem NumT.over {l : List UInt8} {f M i m : Nat} (h : NumT l f M i m) (hd : l.drop i = []) (hm : M < m) : numB l = false := by
  obtain ⟨a, b, c, e⟩ := h
  rw [e, hd]
  show (true && decide (m ≤ M)) = false
  rw [decide_eq_false (by omega)]; rfl
theorem NumT.fits {l : List UInt8} {f M i m : Nat} (h : NumT l f M i m) (hd : l.drop i = []) (hm : m ≤ M) : numB l = true ∧ numV l = if f = 1 then -(m : Int) else m := by
  obtain ⟨a, b, c, e⟩ := h
  refine ⟨by rw [e, hd]; show (true && decide (m ≤ M)) = true; rw [decide_eq_true hm]; rfl, ?_⟩
  unfold numV
  rw [a, b, hd]
  by_cases hf : f = 1 <;> simp [hf]

/-- A sign, and something behind it. -/
theorem NumT.neg {l : List UInt8} {r : List UInt8} (hl : l = 45 :: r) (h1 : r ≠ []) (h2 : r.length ≤ 19) (h3 : r.head? ≠ some 48) : NumT l 1 9223372036854775808 1 0 := by
  subst hl
  have e1 : negB (45 :: r) = true := rfl
  have e2 : magL (45 :: r) = r := by rw [magL, if_pos e1]; rfl
  refine ⟨by rw [e1]; rfl, by rw [e2]; rfl, by decide, ?_⟩
  unfold numB
  rw [e1, e2]
  have h3' : (r.head? == some 48) = false := by simpa using h3
  rw [h3']
  simp [h1, h2, decV]
theorem NumT.pos {l : List UInt8} (h0 : l.head? ≠ some 45) (h1 : l ≠ []) (h2 : l.length ≤ 19) (h3 : l.head? = some 48 → l = [48]) : NumT l 0 9223372036854775807 0 0 := by
  have e1 : negB l = false := by unfold negB; simpa using h0
  have e2 : magL l = l := by rw [magL, e1]; rfl
  refine ⟨by rw [e1]; rfl, by rw [e2]; rfl, by decide, ?_⟩
  unfold numB
  rw [e1, e2]
  have h3' : (l.head? == some 48 && l != [48]) = false := by
    by_cases e : l.head? = some 48
    · rw [h3 e]; rfl
    · have : (l.head? == some 48) = false := by simpa using e
      rw [this]; rfl
  rw [h3']
  simp [h1, h2, decV]
theorem num_no_empty : numB [] = false := by decide
theorem num_no_sign {l : List UInt8} (hl : l = [45]) : numB l = false := by subst hl; decide
theorem num_no_long {l : List UInt8} (h : 19 < (magL l).length) : numB l = false := by
  unfold numB
  have : decide ((magL l).length ≤ 19) = false := by simp; omega
  rw [this]; simp
theorem num_no_zero {l : List UInt8} (h : (magL l).head? = some 48) (h2 : l ≠ [48]) : numB l = false := by
  unfold numB
  rw [h]
  have : (l != [48]) = true := by simpa using h2
  rw [this]; simp
theorem mag_neg {l r : List UInt8} (h : l = 45 :: r) : magL l = r := by subst h; rfl
theorem mag_pos {l : List UInt8} (h : l.head? ≠ some 45) : magL l = l := by
  have e1 : negB l = false := by unfold negB; simpa using h
  rw [magL, e1]; rfl

theorem str_head (s : ByteArray) (k : Nat) (h : k < s.size) : ∃ d : Nat, d < 256 ∧ s[k].toNat = d ∧ wrap64 (d : Int) = d ∧ Hid (∃ x : UInt8, x.toNat = d ∧ s.data.toList.drop k = x :: s.data.toList.drop (k + 1)) := str_at s k h
theorem drop_list (s : ByteArray) (h : s.size = 0) : s.data.toList = [] := List.length_eq_zero_iff.1 (by simpa using h)
theorem str_one (s : ByteArray) (h : s ≠ ⟨#[48]⟩) : s.data.toList ≠ [48] := by
  intro e
  apply h
  cases s with
  | mk d => congr 1; exact Array.toList_inj.1 (by simpa using e)

set_option maxHeartbeats 4000000 in
theorem Number_empty (s : ByteArray) (w : World) (h0 : s.size = 0) : Calls Tryz.prog 40 #[.string s] w (NumR w s.data.toList) := by
  have hP := NumR.no (w := w) (l := s.data.toList) (by rw [drop_list s h0]; exact num_no_empty)
  generalize s.data.toList = L at *
  go_enter Tryz.func40, Tryz.ntmps40
  go_wp2
  go_ret2
  exact hP

set_option maxHeartbeats 4000000 in
theorem Number_neg (s : ByteArray) (w : World) (h1 : 1 < s.size) (h2 : s.size ≤ 20) (hd : s[0].toNat = 45) (d1 : Nat) (hd1 : s[1].toNat = d1) (hn : d1 ≠ 48) (hd2 : d1 < 256) (T : Hid (NumT s.data.toList 1 9223372036854775808 1 0)) (hz : Hid (∀ m, NumT s.data.toList 1 9223372036854775808 s.size m → m ≠ 0)) :
    Calls Tryz.prog 40 #[.string s] w (NumR w s.data.toList) := by
  have e1 : ((s.size : Int) == 1) = false := beq_eq_false_iff_ne.2 (by omega)
  have e2 : ((d1 : Int) == 48) = false := beq_eq_false_iff_ne.2 (by omega)
  have e3 : decide (19 < (s.size : Int) - 1) = false := decide_eq_false (by omega)
  go_enter Tryz.func40, Tryz.ntmps40
  go_wp2
  go_loop [6, 7] (fun n i => ∃ k m : Nat, 1 ≤ k ∧ k ≤ s.size ∧ i = .int .i64 k ∧ n = .int .u64 m ∧ m ≤ 10000000000000000000 ∧ Hid (NumT s.data.toList 1 9223372036854775808 k m)) (fun n i => s.size - (intOf i).toNat)
  case atStart => exact ⟨1, 0, Nat.le_refl _, by omega, rfl, rfl, by omega, T⟩
  case round =>
    obtain ⟨k, m, hk1, hk, rfl, rfl, hm, HT⟩ := hrel
    by_cases hlt : k < s.size
    · obtain ⟨d, hd8, hx, hw, HX⟩ := str_at s k hlt
      have hms : m ≤ 1000000000000000000 := HT.out.small (by omega)
      rcases (show (d < 48 ∨ 57 < d) ∨ (48 ≤ d ∧ d ≤ 57) from by omega) with hb | ⟨hb1, hb2⟩
      · have hN : Hid (numB s.data.toList = false) := by
          obtain ⟨x, hx1, hx2⟩ := HX.out
          exact HT.out.bad hx1 hx2 hb
        rcases hb with hb | hb
        · go_wp2
          go_ret2
          exact NumR.no hN.out
        · go_wp2
          go_ret2
          exact NumR.no hN.out
      · have hN : Hid (NumT s.data.toList 1 9223372036854775808 (k + 1) (m * 10 + (d - 48))) := by
          obtain ⟨x, hx1, hx2⟩ := HX.out
          exact HT.out.step hk1 hx1 hx2 hb1 hb2
        go_wp2
        go_round
        case rel => exact ⟨k + 1, m * 10 + (d - 48), by omega, by omega, by go_num, by go_num, hN.out.bound (by omega), hN⟩
        case measure => simp [intOf]; omega
    · have hk2 : k = s.size := by omega
      subst hk2
      have hdr : Hid (s.data.toList.drop s.size = []) := str_end s s.size (by omega)
      have hm0 : m ≠ 0 := hz.out m HT.out
      by_cases hov : 9223372036854775808 < m
      · have hN : Hid (numB s.data.toList = false) := HT.out.over hdr.out hov
        go_wp2
        go_ret2
        exact NumR.no hN.out
      · have hN := Lib.hid (HT.out.fits hdr.out (by omega))
        go_wp2
        go_ret2
        refine NumR.yes hN.out.1 ?_
        rw [hN.out.2]; simp; omega

set_option maxHeartbeats 4000000 in
theorem Number_zero (w : World) : Calls Tryz.prog 40 #[.string ⟨#[48]⟩] w (NumR w (ByteArray.mk #[48]).data.toList) := by
  have hP : NumR w (ByteArray.mk #[48]).data.toList (.returned (.tuple #[.int .i64 0, .bool true])) w := NumR.yes (by decide) (by decide)
  generalize (ByteArray.mk #[48]).data.toList = L at *
  go_enter Tryz.func40, Tryz.ntmps40
  go_wp2
  refine wp_loop_rounds 2 ?_
  rw [rounds_succ]
  go_wp2
  rw [rounds_succ]
  go_wp2
  go_ret2
  exact hP

set_option maxHeartbeats 4000000 in
theorem Number_pos (s : ByteArray) (w : World) (h1 : 0 < s.size) (h2 : s.size ≤ 19) (d0 : Nat) (hd : s[0].toNat = d0) (hn : d0 ≠ 45) (hd2 : d0 < 256) (hz : d0 ≠ 48 ∨ s = ⟨#[48]⟩) (T : Hid (NumT s.data.toList 0 9223372036854775807 0 0)) :
    Calls Tryz.prog 40 #[.string s] w (NumR w s.data.toList) := by
  have e1 : ((s.size : Int) == 0) = false := beq_eq_false_iff_ne.2 (by omega)
  have e2 : ((d0 : Int) == 45) = false := beq_eq_false_iff_ne.2 (by omega)
  have e3 : decide (19 < (s.size : Int)) = false := decide_eq_false (by omega)
  have HZ : (∃ hz : d0 ≠ 48, True) ∨ (s = ⟨#[48]⟩) := by rcases hz with h | h; exact Or.inl ⟨h, trivial⟩; exact Or.inr h
  clear hz
  rcases HZ with ⟨hz, _⟩ | rfl
  case inr => exact Number_zero w
  have e4 : ((d0 : Int) == 48) = false := beq_eq_false_iff_ne.2 (by omega)
  go_enter Tryz.func40, Tryz.ntmps40
  go_wp2
  go_loop [6, 7] (fun n i => ∃ k m : Nat, 0 ≤ k ∧ k ≤ s.size ∧ i = .int .i64 k ∧ n = .int .u64 m ∧ m ≤ 10000000000000000000 ∧ Hid (NumT s.data.toList 0 9223372036854775807 k m)) (fun n i => s.size - (intOf i).toNat)
  case atStart => exact ⟨0, 0, Nat.le_refl _, by omega, rfl, rfl, by omega, T⟩
  case round =>
    obtain ⟨k, m, hk1, hk, rfl, rfl, hm, HT⟩ := hrel
    by_cases hlt : k < s.size
    · obtain ⟨d, hd8, hx, hw, HX⟩ := str_at s k hlt
      have hms : m ≤ 1000000000000000000 := HT.out.small (by omega)
      rcases (show (d < 48 ∨ 57 < d) ∨ (48 ≤ d ∧ d ≤ 57) from by omega) with hb | ⟨hb1, hb2⟩
      · have hN : Hid (numB s.data.toList = false) := by
          obtain ⟨x, hx1, hx2⟩ := HX.out
          exact HT.out.bad hx1 hx2 hb
        rcases hb with hb | hb
        · go_wp2
          go_ret2
          exact NumR.no hN.out
        · go_wp2
          go_ret2
          exact NumR.no hN.out
      · have hN : Hid (NumT s.data.toList 0 9223372036854775807 (k + 1) (m * 10 + (d - 48))) := by
          obtain ⟨x, hx1, hx2⟩ := HX.out
          exact HT.out.step hk1 hx1 hx2 hb1 hb2
        go_wp2
        go_round
        case rel => exact ⟨k + 1, m * 10 + (d - 48), by omega, by omega, by go_num, by go_num, hN.out.bound (by omega), hN⟩
        case measure => simp [intOf]; omega
    · have hk2 : k = s.size := by omega
      subst hk2
      have hdr : Hid (s.data.toList.drop s.size = []) := str_end s s.size (by omega)
      by_cases hov : 9223372036854775807 < m
      · have hN : Hid (numB s.data.toList = false) := HT.out.over hdr.out hov
        go_wp2
        go_ret2
        exact NumR.no hN.out
      · have hN := Lib.hid (HT.out.fits hdr.out (by omega))
        go_wp2
        go_ret2
        refine NumR.yes hN.out.1 ?_
        rw [hN.out.2]; simp

end Go.Proofs.YtloanidfkefenaaGreatDoor
