/-
  script.Hex, flag, line$1: bytes as digits.
-/
import Derived.Test.YtloanidfkefenaaGreatDoorQP4
import Derived.Test.YtloanidfkefenaaGreatDoorQW
import Derived.Outline
namespace Go.Proofs.YtloanidfkefenaaGreatDoor
open Go.RowKit Go.Shelf
set_option maxRecDepth 100000
set_option linter.unusedVariables false

theorem bits_and : ∀ d : Fin 256, bits BinOp.and IntKind.u8 (d.val : Int) 15 = ((d.val % 16 : Nat) : Int) := by decide +kernel
theorem bits_andN (d : Nat) (h : d < 256) : bits BinOp.and IntKind.u8 (d : Int) 15 = ((d % 16 : Nat) : Int) := bits_and ⟨d, h⟩
theorem isW_fresh (T : TypeId) (hT : WTag T) (w : World) : IsW T w.heap.size w.heap.size [] (w.alloc (.cells #[.pointer none, .slice none 0 0] T)) :=
  ⟨.pointer none, Or.inl rfl, Nat.le_refl _, .slice none 0 0, heap_alloc_new w _, ⟨rfl, Or.inl ⟨rfl, rfl⟩⟩, by simp [Value.ownBlock]⟩
theorem hexL_snoc (l : List UInt8) (x : UInt8) : hexL (l ++ [x]) = hexL l ++ [digC (x.toNat / 16)] ++ [digC (x.toNat % 16)] := by
  unfold hexL; simp
theorem WriteByte_n (T : TypeId) (hT : WTag T) (B b : Nat) (l : List UInt8) (c : UInt8) (n : Nat) (hn : c.toNat = n) (w : World) (h : IsW T B b l w) (hlen : l.length ≤ 1000000000) (hBw : B ≤ w.heap.size) :
    Calls Tryz.prog 37 #[.pointer (some ⟨b, 0, none⟩), .int .u8 n] w fun e w' => e = .returned .nilIface ∧ IsW T B b (l ++ [c]) w' ∧ Below B w w' := by
  subst hn
  exact (WriteByte_any T hT B b l c w h hlen hBw).mono fun e w' ⟨h1, h2, h3, _⟩ => ⟨h1, h2, h3⟩

set_option maxHeartbeats 4000000 in
theorem Hex_any (v : Value) (l : List UInt8) (w : World) (h : Bts w v l) (hl : l.length ≤ 1000000) : Calls Tryz.prog 38 #[v] w (RS w (hexL l)) := by
  obtain ⟨p, c, rfl, hc, hcm⟩ := h.form
  have HB := Lib.hid h
  clear h
  go_enter Tryz.func38, Tryz.ntmps38
  go_wp2
  go_loopw [8] (fun kk wr => ∃ (k : Nat), k ≤ l.length ∧ kk = .int .i64 k ∧ Hid (IsW 64 w.heap.size w.heap.size (hexL (l.take k)) wr) ∧ Below w.heap.size w wr ∧ Hid (k = 0 → wr.heap[w.heap.size]? = some (.cells #[.pointer none, .slice none 0 0] 64 (0, 0)))) (fun kk _ => l.length - (intOf kk).toNat)
  case atStart => exact ⟨0, Nat.zero_le _, rfl, isW_fresh _ tagB w, (Below.refl _ _).alloc (Nat.le_refl _) _, fun _ => heap_alloc_new w _⟩
  case round =>
    obtain ⟨k, hk, rfl, HW, hB, H0⟩ := hrel
    by_cases hlt : k < l.length
    · obtain ⟨b, o, d, rfl, hcell, hd, hw, HX⟩ := (HB.out.below hB).at k hlt
      have hA := bits_andN d hd
      obtain ⟨e1, he1, hx1, HE1⟩ := digit_at (d / 16) (by omega)
      obtain ⟨e2, he2, hx2, HE2⟩ := digit_at (d % 16) (by omega)
      have hlen : (hexL (l.take k)).length ≤ 2000000 := by rw [hexL_len, List.length_take]; omega
      have HN : Hid (∃ x : UInt8, (digC (x.toNat / 16)).toNat = e1 ∧ (digC (x.toNat % 16)).toNat = e2 ∧ hexL (l.take (k + 1)) = hexL (l.take k) ++ [digC (x.toNat / 16)] ++ [digC (x.toNat % 16)]) := by
        obtain ⟨x, hx3, hx4⟩ := HX.out
        refine ⟨x, ?_, ?_, ?_⟩
        · rw [digC_nat _ (by omega), HE1.out, hx3]; rfl
        · rw [digC_nat _ (by omega), HE2.out, hx3]; rfl
        · rw [← hexL_snoc]
          congr 1
          rw [List.take_succ_eq_append_getElem hlt]
          rw [List.drop_eq_getElem_cons hlt] at hx4
          injection hx4 with hx5
          rw [hx5]
      obtain ⟨x, hx3, hx4, hN⟩ := HN.out
      have HN := Lib.hid hN
      have H3 := Lib.hid hx3
      have H4 := Lib.hid hx4
      clear hN hx3 hx4 HE1 HE2 HX
      generalize hexL (l.take k) = acc at *
      have hsz : w.heap.size ≤ wr.heap.size := hB.size
      go_wp2_with fail
      refine (WriteByte_n _ tagB w.heap.size w.heap.size acc _ _ H3.out _ HW.out (by omega) hsz).mono ?_
      rintro e w1 ⟨rfl, h1, hb1⟩
      have HW1 := Lib.hid h1
      have HB1 := Lib.hid (hB.trans hb1)
      have hsz1 : w.heap.size ≤ w1.heap.size := HB1.out.size
      clear h1 hb1
      go_wp2_with fail
      refine (WriteByte_n _ tagB w.heap.size w.heap.size _ _ _ H4.out _ HW1.out (by simp; omega) hsz1).mono ?_
      rintro e w2 ⟨rfl, h2, hb2⟩
      have HW2 : Hid (IsW 64 w.heap.size w.heap.size (hexL (l.take (k + 1))) w2) := by
        rw [HN.out]; exact h2
      have HB2 := Lib.hid (HB1.out.trans hb2)
      clear h2 hb2
      go_wp2
      go_roundw
      case rel => exact ⟨k + 1, by omega, by go_num, HW2, HB2.out, fun e => absurd e (by omega)⟩
      case measure => simp [intOf]; omega
    · obtain rfl : k = l.length := by omega
      have hsz : w.heap.size ≤ wr.heap.size := hB.size
      have e0 : l.take l.length = l := List.take_of_length_le (Nat.le_refl _)
      rw [e0] at HW
      clear e0
      by_cases h0 : l = []
      · subst h0
        go_wp2_with fail
        refine (WString_none _ tagB w.heap.size w.heap.size _ (H0.out rfl)).mono ?_
        rintro e w1 ⟨rfl, hb1⟩
        have HB1 := Lib.hid (hB.trans hb1)
        clear hb1
        go_wp2
        go_ret
        exact ⟨rfl, HB1.out⟩
      · have h1 : hexL l ≠ [] := by
          intro e
          have := hexL_len l
          rw [e] at this
          exact h0 (List.length_eq_zero_iff.1 (by simp at this; omega))
        go_wp2_with fail
        refine (WString_some _ tagB w.heap.size w.heap.size _ _ HW.out h1).mono ?_
        rintro e w1 ⟨rfl, hb1⟩
        have HB1 := Lib.hid (hB.trans hb1)
        clear hb1
        go_wp2
        go_ret
        exact ⟨rfl, HB1.out⟩

theorem flag_any (b : Bool) (w : World) : Calls Tryz.prog 121 #[.bool b] w fun e w' => e = .returned (.int .i64 (flagP b)) ∧ w = w' := by
  cases b
  · go_enter Tryz.func121, Tryz.ntmps121
    go_wp2
    go_ret
    exact ⟨rfl, rfl⟩
  · go_enter Tryz.func121, Tryz.ntmps121
    go_wp2
    go_ret
    exact ⟨rfl, rfl⟩

theorem str_append (a b : List UInt8) : strOf a ++ strOf b = strOf (a ++ b) := by
  apply ByteArray.ext
  show (ByteArray.mk a.toArray ++ ByteArray.mk b.toArray).data = (a ++ b).toArray
  simp

theorem line1_any (v : Value) (l : List UInt8) (w : World) (h : Bts w v l) (hl : l.length ≤ 1000000) : Calls Tryz.prog 124 #[v] w (RS w (xhex l)) := by
  have HC : Hid (Calls Tryz.prog 38 #[v] w fun e w' => e = .returned (.string (strOf (hexL l))) ∧ Below w.heap.size w w') := Hex_any v l w h hl
  have hx : (strOf (hexL l)).size ≤ 2000000 := by show (hexL l).length ≤ 2000000; rw [hexL_len]; omega
  have HX : Hid (ByteArray.mk #[120] ++ strOf (hexL l) = strOf (xhex l)) := str_append [120] (hexL l)
  clear h
  have HR : Hid (∀ W, Below w.heap.size w W → RS w (xhex l) (.returned (.string (ByteArray.mk #[120] ++ strOf (hexL l)))) W) := fun W hb => ⟨by rw [HX.out]; rfl, hb⟩
  generalize strOf (hexL l) = S at *
  go_enter Tryz.func124, Tryz.ntmps124
  go_wp2_with fail
  refine HC.out.mono ?_
  rintro e w1 ⟨rfl, hb1⟩
  have HB := Lib.hid hb1
  clear hb1 HC
  go_wp2
  go_ret
  exact HR.out _ HB.out

end Go.Proofs.YtloanidfkefenaaGreatDoor
