/-
  bindleref24.cut hands back the words of a line.
-/
import Derived.Test.YtloanidfkefenaaGreatDoorQR4
namespace Go.Proofs.YtloanidfkefenaaGreatDoor
open Go.RowKit Go.Shelf
set_option maxRecDepth 100000
set_option linter.unusedVariables false

theorem El.sl_tmp2 {α : Type} (E : El α) (w : World) (T : TypeId) (x : α) (g : Nat) (hg : g = w.heap.size) (u : Value) (hu : u = E.enc x) : E.sl (w.alloc (.cells #[u] T)) (.slice (some ⟨g, 0, none⟩) 1 1) [x] := by
  subst hg; subst hu; exact E.sl_tmp w T x
theorem El.own_below {α : Type} {E : El α} {w w1 : World} {B : Nat} {v : Value} {l : List α} (h : E.own w B v l) (hb : Below w.heap.size w w1) : E.own w1 B v l := El.own_keep h hb

def strOf (l : List UInt8) : ByteArray := ⟨l.toArray⟩
theorem extract_str (s : ByteArray) (a b : Nat) : s.extract a b = strOf ((s.data.toList.drop a).take (b - a)) := by
  have h := Lib.extract_data s a b
  unfold strOf
  rw [← List.drop_take] at *
  rw [← h]

def CutT (l : List UInt8) (a i : Nat) (acc : List ByteArray) : Prop :=
  (a ≤ i ∧ i ≤ l.length ∧ (32 : UInt8) ∉ (l.drop a).take (i - a) ∧ strs 32 l = acc ++ strs 32 (l.drop a)) ∨ (i = l.length + 1 ∧ strs 32 l = acc)
theorem CutT.go {l : List UInt8} {a i : Nat} {acc : List ByteArray} {x : UInt8} (h : CutT l a i acc) (hi : i < l.length) (hd : l.drop i = x :: l.drop (i + 1)) (hx : x ≠ 32) : CutT l a (i + 1) acc := by
  rcases h with ⟨h1, h2, h3, h4⟩ | ⟨h1, _⟩
  · refine Or.inl ⟨by omega, by omega, ?_, h4⟩
    have e : (l.drop a).take (i + 1 - a) = (l.drop a).take (i - a) ++ [x] := by
      rw [show i + 1 - a = (i - a) + 1 by omega, List.take_succ_eq_append_getElem (by rw [List.length_drop]; omega)]
      congr 2
      rw [List.getElem_drop]
      have h5 := congrArg (fun l => l[0]?) hd
      simp only [List.getElem?_drop, List.getElem?_cons_zero, Nat.add_zero] at h5
      rw [List.getElem?_eq_getElem hi] at h5
      have h6 := Option.some.inj h5
      rw [← h6]
      congr 1; omega
    rw [e]
    intro hm
    rcases List.mem_append.1 hm with hm | hm
    · exact h3 hm
    · simp at hm; exact hx hm.symm
  · omega
theorem CutT.blank {l : List UInt8} {a i : Nat} {acc : List ByteArray} {x : UInt8} (h : CutT l a i acc) (hi : i < l.length) (hd : l.drop i = x :: l.drop (i + 1)) (hx : x = 32) : CutT l (i + 1) (i + 1) (acc ++ [strOf ((l.drop a).take (i - a))]) := by
  subst hx
  rcases h with ⟨h1, h2, h3, h4⟩ | ⟨h1, _⟩
  · refine Or.inl ⟨Nat.le_refl _, by omega, by simp, ?_⟩
    have e : l.drop a = (l.drop a).take (i - a) ++ 32 :: l.drop (i + 1) := by
      conv => lhs; rw [← List.take_append_drop (i - a) (l.drop a)]
      rw [List.drop_drop, show a + (i - a) = i by omega, hd]
    rw [h4]
    conv => lhs; rw [e]
    unfold strs
    rw [splitL_hit 32 _ _ h3, List.map_cons, List.append_assoc]
    rfl
  · omega
theorem CutT.last {l : List UInt8} {a i : Nat} {acc : List ByteArray} (h : CutT l a i acc) (hi : i = l.length) : CutT l (i + 1) (i + 1) (acc ++ [strOf ((l.drop a).take (i - a))]) := by
  rcases h with ⟨h1, h2, h3, h4⟩ | ⟨h1, _⟩
  · refine Or.inr ⟨by omega, ?_⟩
    have e : (l.drop a).take (i - a) = l.drop a := List.take_of_length_le (by rw [List.length_drop]; omega)
    rw [e] at h3 ⊢
    rw [h4]
    congr 1
    unfold strs
    rw [splitL_miss 32 _ h3]; rfl
  · omega
theorem CutT.done {l : List UInt8} {a i : Nat} {acc : List ByteArray} (h : CutT l a i acc) (hi : i = l.length + 1) : strs 32 l = acc := by
  rcases h with ⟨h1, h2, h3, h4⟩ | ⟨_, h⟩
  · omega
  · exact h

/-- A slice of strings. -/
def StrR (w : World) (l : List ByteArray) (e : Ending) (w' : World) : Prop := ∃ v, e = .returned v ∧ elStr.sl w' v l ∧ Below w.heap.size w w'

set_option maxHeartbeats 2000000 in
theorem cut_any (s : ByteArray) (w : World) (hm : s.size ≤ 100000) : Calls Tryz.prog 39 #[.string s] w (StrR w (strs 32 s.data.toList)) := by
  have hl : Hid (s.data.toList.length = s.size) := by unfold Hid; simp
  go_enter Tryz.func39, Tryz.ntmps39
  go_wp2
  go_loopw [3, 4, 5] (fun vv aa ii wr => ∃ (a i : Nat) (acc : List ByteArray), a ≤ i ∧ i ≤ s.size + 1 ∧ aa = .int .i64 a ∧ ii = .int .i64 i ∧ acc.length ≤ i ∧ elStr.own wr w.heap.size vv acc ∧ Below w.heap.size w wr ∧ Hid (CutT s.data.toList a i acc)) (fun _ _ ii _ => s.size + 1 - (intOf ii).toNat)
  case atStart => exact ⟨0, 0, [], Nat.le_refl _, by omega, rfl, rfl, by simp, elStr.own_nil _ _, Below.refl _ _, Or.inl ⟨Nat.le_refl _, Nat.zero_le _, by simp, by simp⟩⟩
  case round =>
    obtain ⟨a, i, acc, ha, hi, rfl, rfl, hal, hown, hB, HT⟩ := hrel
    have HO := Lib.hid hown
    rcases (show i < s.size ∨ i = s.size ∨ i = s.size + 1 from by omega) with hlt | rfl | rfl
    · have e1 : ((i : Int) == (s.size : Int)) = false := beq_eq_false_iff_ne.2 (by omega)
      obtain ⟨d, hd, hx, hw, HX⟩ := str_at s i hlt
      by_cases h32 : d = 32
      · subst h32
        have hN : Hid (CutT s.data.toList (i + 1) (i + 1) (acc ++ [s.extract a i])) := by
          obtain ⟨x, hx1, hx2⟩ := HX.out
          rw [extract_str]
          exact HT.out.blank (by rw [hl.out]; exact hlt) hx2 (UInt8.toNat_inj.1 (by rw [hx1]; rfl))
        clear hown
        go_wp2_with (at_builtin; refine wp_append_el elStr _ rfl _ _ rfl w.heap.size _ _ acc [s.extract a i] rfl rfl (El.own_below HO.out ((Below.refl _ _).alloc (Nat.le_refl _) _)) (elStr.sl_tmp2 _ _ _ _ rfl _ rfl) (by simp; omega) (by have := hB.size; simp; omega) ?_; intro v' w2 hown3 hgrow)
        go_roundw
        case rel => exact ⟨i + 1, i + 1, acc ++ [s.extract a i], Nat.le_refl _, by omega, by go_num, by go_num, by simp; omega, hown3, (hB.alloc hB.size _).grown hgrow (by have := hB.size; simp; omega) (own_base HO.out), hN⟩
        case measure => simp [intOf]; omega
      · have e2 : ((d : Int) == 32) = false := beq_eq_false_iff_ne.2 (by omega)
        have hN : Hid (CutT s.data.toList a (i + 1) acc) := by
          obtain ⟨x, hx1, hx2⟩ := HX.out
          exact HT.out.go (by rw [hl.out]; exact hlt) hx2 (fun e => h32 (by rw [← hx1, e]; rfl))
        go_wp2
        go_roundw
        case rel => exact ⟨a, i + 1, acc, by omega, by omega, by go_num, by go_num, by omega, HO.out, hB, hN⟩
        case measure => simp [intOf]; omega
    · have hN : Hid (CutT s.data.toList (s.size + 1) (s.size + 1) (acc ++ [s.extract a s.size])) := by
        rw [extract_str]
        exact HT.out.last hl.out.symm
      clear hown
      go_wp2_with (at_builtin; refine wp_append_el elStr _ rfl _ _ rfl w.heap.size _ _ acc [s.extract a s.size] rfl rfl (El.own_below HO.out ((Below.refl _ _).alloc (Nat.le_refl _) _)) (elStr.sl_tmp2 _ _ _ _ rfl _ rfl) (by simp; omega) (by have := hB.size; simp; omega) ?_; intro v' w2 hown3 hgrow)
      go_roundw
      case rel => exact ⟨s.size + 1, s.size + 1, acc ++ [s.extract a s.size], Nat.le_refl _, by omega, by go_num, by go_num, by simp; omega, hown3, (hB.alloc hB.size _).grown hgrow (by have := hB.size; simp; omega) (own_base HO.out), hN⟩
      case measure => simp [intOf]
    · have hD := Lib.hid (HT.out.done (by rw [hl.out]))
      have hsl := El.sl_of_own hown (by omega)
      rw [← hD.out] at hsl
      have hsl2 := Lib.hid hsl
      clear hsl hown
      go_wp2
      go_ret
      exact ⟨_, rfl, hsl2.out, hB⟩

end Go.Proofs.YtloanidfkefenaaGreatDoor
