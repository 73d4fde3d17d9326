/-
  script.words: how many, and each as a word.
-/
import Derived.Test.YtloanidfkefenaaGreatDoorQX1
namespace Go.Proofs.YtloanidfkefenaaGreatDoor
open Go.RowKit Go.Shelf
set_option maxRecDepth 100000
set_option linter.unusedVariables false

/-- Strings of the call's own, as lists of bytes. -/
def WdR (w : World) (ws : List (List UInt8)) (e : Ending) (w' : World) : Prop := ∃ v, e = .returned v ∧ elStr.own w' w.heap.size v (ws.map strOf) ∧ Below w.heap.size w w'
theorem own_one (w : World) (B : Nat) (s : ByteArray) (hB : B ≤ w.heap.size) : elStr.own (w.alloc (.cells #[.string s] 9)) B (.slice (some ⟨w.heap.size, 0, none⟩) 1 1) [s] :=
  ⟨rfl, Or.inr ⟨w.heap.size, 1, #[.string s], rfl, hB, heap_alloc_new w _, Nat.le_refl _, by unfold maxLen; omega, rfl, rfl⟩⟩
theorem Itoa_str (n : Int) (w : World) (G : Glob w) (hn : InR n) : Calls Tryz.prog 36 #[.int .i64 n] w fun e w' => e = .returned (.string (strOf (Lib.itoa n))) ∧ Below w.heap.size w w' := Itoa_any n w G hn
theorem line1_str (v : Value) (l : List UInt8) (w : World) (h : Bts w v l) (hl : l.length ≤ 1000000) : Calls Tryz.prog 124 #[v] w fun e w' => e = .returned (.string (strOf (xhex l))) ∧ Below w.heap.size w w' := line1_any v l w h hl

theorem secW_go {α : Type} (f : α → List UInt8) (l : List α) (k : Nat) (hk : k < l.length) : (Lib.itoa l.length :: (l.take k).map f).map strOf ++ [strOf (f l[k])] = (Lib.itoa l.length :: (l.take (k + 1)).map f).map strOf := by
  rw [List.take_succ_eq_append_getElem hk]
  simp only [List.map_cons, List.map_append, List.map_nil, List.cons_append]
theorem secW_end {α : Type} (f : α → List UInt8) (l : List α) : (Lib.itoa l.length :: (l.take l.length).map f).map strOf = (secW (l.map f)).map strOf := by
  rw [List.take_of_length_le (Nat.le_refl _)]; unfold secW; rw [List.length_map]

set_option maxHeartbeats 4000000 in
theorem wordsI_any (v : Value) (l : List Int) (w : World) (h : elInt.sl w v l) (hl : l.length ≤ 1000000) (hI : Hid (∀ n ∈ l, InR n)) (HG : Hid (∀ W, Below w.heap.size w W → Glob W)) :
    Calls Tryz.prog 122 #[v, .func (.func 36) #[] #[]] w (WdR w (secW (l.map Lib.itoa))) := by
  obtain ⟨p, c, rfl, hc⟩ := El.sl_form h
  have HV := Lib.hid h
  clear h
  go_enter Tryz.func122, Tryz.ntmps122
  go_wp2_with fail
  refine (Itoa_str _ w (HG.out _ (Below.refl _ _)) ⟨by omega, by omega⟩).mono ?_
  rintro e w1 ⟨rfl, hb1⟩
  have hz1 := hb1.size
  have HO1 := Lib.hid (own_one w1 w.heap.size (strOf (Lib.itoa (l.length : Int))) hz1)
  have HB1 := Lib.hid (hb1.alloc hz1 (.cells #[.string (strOf (Lib.itoa (l.length : Int)))] 9))
  clear hb1
  have HE0 : Hid ((Lib.itoa l.length :: (l.take 0).map Lib.itoa).map strOf = [strOf (Lib.itoa (l.length : Int))]) := rfl
  generalize strOf (Lib.itoa (l.length : Int)) = S0 at *
  go_wp2
  go_loopw [5, 14] (fun vv kk wr => ∃ (k : Nat), k ≤ l.length ∧ kk = .int .i64 k ∧ Hid (elStr.own wr w.heap.size vv ((Lib.itoa l.length :: (l.take k).map Lib.itoa).map strOf)) ∧ Below w.heap.size w wr) (fun _ kk _ => l.length - (intOf kk).toNat)
  case atStart => exact ⟨0, Nat.zero_le _, rfl, by rw [HE0.out]; exact HO1, HB1.out⟩
  case round =>
    obtain ⟨k, hk, rfl, HO, hB⟩ := hrel
    by_cases hlt : k < l.length
    · obtain ⟨b, o, rfl, hcell0⟩ := El.sl_at (El.sl_below hB HV.out) k hlt
      have hcell := hcell0 _ (List.getElem?_eq_getElem hlt)
      have HN := Lib.hid (secW_go Lib.itoa l k hlt)
      have hIn := hI.out _ (List.getElem_mem hlt)
      clear hcell0
      have hlen : ((Lib.itoa l.length :: (l.take k).map Lib.itoa).map strOf).length ≤ 2000000 := by simp; omega
      generalize (Lib.itoa l.length :: (l.take k).map Lib.itoa).map strOf = acc at *
      generalize l[k] = x at *
      have hcell : wr.cell? ⟨b, o + k, none⟩ = some (.int .i64 x) := hcell
      have HIn := Lib.hid hIn
      clear hIn
      have HC := Lib.hid (fun W hW => Itoa_str x W (HG.out W hW) HIn.out)
      generalize strOf (Lib.itoa x) = X at *
      have hsz : w.heap.size ≤ wr.heap.size := hB.size
      go_wp2_with fail
      refine (HC.out _ hB).mono ?_
      rintro e w2 ⟨rfl, hb2⟩
      have HO2 := Lib.hid (El.own_below HO.out hb2)
      have HB2 := Lib.hid (hB.trans (hb2.mono hsz))
      have hsz2 : w.heap.size ≤ w2.heap.size := HB2.out.size
      clear hb2 HC
      go_wp2_with (at_builtin; refine wp_append_el elStr _ rfl _ _ rfl w.heap.size _ _ acc [X] rfl rfl (El.own_below HO2.out ((Below.refl _ _).alloc (Nat.le_refl _) _)) (elStr.sl_tmp2 _ _ _ _ rfl _ rfl) (by simp; omega) (by simp; omega) ?_; intro v' w3 hown3 hgrow)
      go_roundw
      case rel => exact ⟨k + 1, by omega, by go_num, by rw [← HN.out]; exact hown3, (HB2.out.alloc hsz2 _).grown hgrow (by simp; omega) (own_base HO2.out)⟩
      case measure => simp [intOf]; omega
    · obtain rfl : k = l.length := by omega
      have HD : Hid (WdR w (secW (l.map Lib.itoa)) (.returned u5) wr) := ⟨_, rfl, by rw [← secW_end]; exact HO.out, hB⟩
      go_wp2
      go_ret
      exact HD.out

set_option maxHeartbeats 4000000 in
theorem wordsB_any (v : Value) (l : List (List UInt8)) (w : World) (h : BtsS w v l) (hl : l.length ≤ 1000000) (hI : Hid (∀ x ∈ l, x.length ≤ 1000000)) (HG : Hid (∀ W, Below w.heap.size w W → Glob W)) :
    Calls Tryz.prog 123 #[v, .func (.func 124) #[] #[]] w (WdR w (secW (l.map xhex))) := by
  obtain ⟨svs, hsl, hsn, hsb⟩ := h
  obtain ⟨p, c, rfl, hc⟩ := El.sl_form hsl
  rw [hsn] at hc hsl
  rw [hsn]
  have HV := Lib.hid hsl
  have HSB := Lib.hid hsb
  have HSN := Lib.hid hsn
  clear hsl hsn hsb
  go_enter Tryz.func123, Tryz.ntmps123
  go_wp2_with fail
  refine (Itoa_str _ w (HG.out _ (Below.refl _ _)) ⟨by omega, by omega⟩).mono ?_
  rintro e w1 ⟨rfl, hb1⟩
  have hz1 := hb1.size
  have HO1 := Lib.hid (own_one w1 w.heap.size (strOf (Lib.itoa (l.length : Int))) hz1)
  have HB1 := Lib.hid (hb1.alloc hz1 (.cells #[.string (strOf (Lib.itoa (l.length : Int)))] 9))
  clear hb1
  have HE0 : Hid ((Lib.itoa l.length :: (l.take 0).map xhex).map strOf = [strOf (Lib.itoa (l.length : Int))]) := rfl
  generalize strOf (Lib.itoa (l.length : Int)) = S0 at *
  go_wp2
  go_loopw [5, 14] (fun vv kk wr => ∃ (k : Nat), k ≤ l.length ∧ kk = .int .i64 k ∧ Hid (elStr.own wr w.heap.size vv ((Lib.itoa l.length :: (l.take k).map xhex).map strOf)) ∧ Below w.heap.size w wr) (fun _ kk _ => l.length - (intOf kk).toNat)
  case atStart => exact ⟨0, Nat.zero_le _, rfl, by rw [HE0.out]; exact HO1, HB1.out⟩
  case round =>
    obtain ⟨k, hk, rfl, HO, hB⟩ := hrel
    by_cases hlt : k < l.length
    · have hlt' : k < svs.length := by rw [HSN.out]; exact hlt
      obtain ⟨b, o, rfl, hcell0⟩ := El.sl_at (El.sl_below hB HV.out) k hlt'
      have hcell := hcell0 _ (List.getElem?_eq_getElem hlt')
      obtain ⟨l1, hl1, hbt⟩ := HSB.out k _ (List.getElem?_eq_getElem hlt')
      rw [List.getElem?_eq_getElem hlt] at hl1
      injection hl1 with hl1
      subst hl1
      obtain ⟨⟨p2, n2, c2⟩, hsv⟩ : ∃ sv : SlV, sv = svs[k] := ⟨_, rfl⟩
      rw [← hsv] at hcell hbt
      clear hsv
      have HBT := Lib.hid hbt
      clear hbt hlt'
      have HN := Lib.hid (secW_go xhex l k hlt)
      have hIn := hI.out _ (List.getElem_mem hlt)
      clear hcell0
      have hlen : ((Lib.itoa l.length :: (l.take k).map xhex).map strOf).length ≤ 2000000 := by simp; omega
      generalize (Lib.itoa l.length :: (l.take k).map xhex).map strOf = acc at *
      generalize l[k] = x at *
      have hcell : wr.cell? ⟨b, o + k, none⟩ = some (.slice p2 n2 c2) := hcell
      have HIn := Lib.hid hIn
      clear hIn
      have HC := Lib.hid (fun W (hW : Below w.heap.size w W) => line1_str (.slice p2 n2 c2) x W (HBT.out.below hW) HIn.out)
      generalize strOf (xhex x) = X at *
      have hsz : w.heap.size ≤ wr.heap.size := hB.size
      go_wp2_with fail
      refine (HC.out _ hB).mono ?_
      rintro e w2 ⟨rfl, hb2⟩
      have HO2 := Lib.hid (El.own_below HO.out hb2)
      have HB2 := Lib.hid (hB.trans (hb2.mono hsz))
      have hsz2 : w.heap.size ≤ w2.heap.size := HB2.out.size
      clear hb2 HC
      go_wp2_with (at_builtin; refine wp_append_el elStr _ rfl _ _ rfl w.heap.size _ _ acc [X] rfl rfl (El.own_below HO2.out ((Below.refl _ _).alloc (Nat.le_refl _) _)) (elStr.sl_tmp2 _ _ _ _ rfl _ rfl) (by simp; omega) (by simp; omega) ?_; intro v' w3 hown3 hgrow)
      go_roundw
      case rel => exact ⟨k + 1, by omega, by go_num, by rw [← HN.out]; exact hown3, (HB2.out.alloc hsz2 _).grown hgrow (by simp; omega) (own_base HO2.out)⟩
      case measure => simp [intOf]; omega
    · obtain rfl : k = l.length := by omega
      have HD : Hid (WdR w (secW (l.map xhex)) (.returned u5) wr) := ⟨_, rfl, by rw [← secW_end]; exact HO.out, hB⟩
      go_wp2
      go_ret
      exact HD.out

end Go.Proofs.YtloanidfkefenaaGreatDoor
