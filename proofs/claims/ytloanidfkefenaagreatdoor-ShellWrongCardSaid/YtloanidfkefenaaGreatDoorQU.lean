/-
  script.unhex, script.read$1: digits as bytes.
-/
import Derived.Test.YtloanidfkefenaaGreatDoorQP2
import Derived.Test.YtloanidfkefenaaGreatDoorQH
import Derived.Outline
namespace Go.Proofs.YtloanidfkefenaaGreatDoor
open Go.RowKit Go.Shelf
set_option maxRecDepth 100000
set_option linter.unusedVariables false

theorem idxB_any (d : Nat) (w : World) (h : d < 256) : Calls Tryz.prog 120 #[.string ⟨#[48, 49, 50, 51, 52, 53, 54, 55, 56, 57, 97, 98, 99, 100, 101, 102]⟩, .int .u8 d] w fun e w' => e = .returned (.int .i64 (digN d)) ∧ w = w' := by
  refine (Any.strings_IndexByte Tryz.laysIndexByte _ _ _).mono fun e w' ⟨h1, h2⟩ => ⟨?_, h2.symm⟩
  rw [h1]
  have e1 : Lib.indexByte (ByteArray.mk #[48, 49, 50, 51, 52, 53, 54, 55, 56, 57, 97, 98, 99, 100, 101, 102]).data.toList (d : Int).toNat.toUInt8 = digK (d : Int).toNat.toUInt8 := idx_dig _
  rw [e1, digK_N]
  have e2 : ((d : Int).toNat.toUInt8).toNat = d := by
    rw [Int.toNat_natCast]; simp; omega
  rw [e2]

/-- What is cut off ahead: an x. -/
def unX (s : List UInt8) : List UInt8 := if s.head? = some 120 then s.tail else s
theorem unX_trim (s : List UInt8) : Lib.trimPrefix s [120] = unX s := by
  unfold Lib.trimPrefix unX Lib.hasPrefix
  cases s with
  | nil => rfl
  | cons x r =>
    by_cases h : x = 120
    · subst h; rfl
    · have e1 : (120 == x) = false := beq_eq_false_iff_ne.2 (fun e => h e.symm)
      have e2 : List.isPrefixOf [120] (x :: r) = false := by show ((120 == x) && _) = false; rw [e1]; rfl
      rw [e2, List.head?_cons, if_neg (by decide), if_neg (by simpa using h)]
theorem cutX_any (s : ByteArray) (w : World) : Calls Tryz.prog 119 #[.string s, .string ⟨#[120]⟩] w fun e w' => (∃ b, e = .returned (.tuple #[.string (strOf (unX s.data.toList)), .bool b])) ∧ w = w' := by
  refine (Any.strings_CutPrefix Tryz.laysCutPrefix s ⟨#[120]⟩ w).mono fun e w' ⟨h1, h2⟩ => ⟨⟨Lib.hasPrefix s.data.toList (ByteArray.mk #[120]).data.toList, ?_⟩, h2.symm⟩
  rw [h1]
  have e1 : Lib.trimPrefix s.data.toList (ByteArray.mk #[120]).data.toList = unX s.data.toList := unX_trim _
  rw [e1]; rfl

def UnT (l : List UInt8) (k : Nat) (acc : List UInt8) : Prop := unhexG l = acc ++ unhexG (l.drop k)
theorem UnT.yes {l : List UInt8} {k : Nat} {acc : List UInt8} {x y : UInt8} (h : UnT l k acc) (h1 : l.drop k = x :: l.drop (k + 1)) (h2 : l.drop (k + 1) = y :: l.drop (k + 2)) (hx : 0 ≤ digN x.toNat) (hy : 0 ≤ digN y.toNat) :
    UnT l (k + 2) (acc ++ [UInt8.ofNat ((digN x.toNat).toNat * 16 + (digN y.toNat).toNat)]) := by
  unfold UnT at h ⊢
  rw [h1, h2] at h
  rw [unhexG, if_pos ⟨by rw [digK_N]; exact hx, by rw [digK_N]; exact hy⟩] at h
  rw [h]; simp [digK_N]
theorem UnT.no {l : List UInt8} {k : Nat} {acc : List UInt8} {x y : UInt8} (h : UnT l k acc) (h1 : l.drop k = x :: l.drop (k + 1)) (h2 : l.drop (k + 1) = y :: l.drop (k + 2)) (hb : digN x.toNat < 0 ∨ digN y.toNat < 0) :
    UnT l (k + 2) acc := by
  unfold UnT at h ⊢
  rw [h1, h2] at h
  rw [unhexG, if_neg (by rw [digK_N, digK_N]; omega)] at h
  exact h
theorem UnT.done {l : List UInt8} {k : Nat} {acc : List UInt8} (h : UnT l k acc) (hk : l.length ≤ k + 1) : unhexG l = acc := by
  unfold UnT at h
  have h2 : (l.drop k).length ≤ 1 := by rw [List.length_drop]; omega
  cases hd : l.drop k with
  | nil => rw [hd] at h; simpa [unhexG] using h
  | cons x r =>
    rw [hd] at h h2
    obtain rfl : r = [] := List.length_eq_zero_iff.1 (by simp only [List.length_cons] at h2; omega)
    simpa [unhexG] using h

/-- Bytes of the call's own. -/
def OwnR (w : World) (l : List UInt8) (e : Ending) (w' : World) : Prop := ∃ v, e = .returned v ∧ Own w' w.heap.size v l ∧ Below w.heap.size w w'

theorem bits_or : ∀ a b : Fin 16, bits BinOp.or IntKind.i64 ((a.val : Int) * 16) (b.val : Int) = ((a.val * 16 + b.val : Nat) : Int) := by decide +kernel
theorem bits_orN (a b : Int) (ha : 0 ≤ a) (ha2 : a < 16) (hb : 0 ≤ b) (hb2 : b < 16) : bits BinOp.or IntKind.i64 (a * 16) b = ((a.toNat * 16 + b.toNat : Nat) : Int) := by
  have h := bits_or ⟨a.toNat, by omega⟩ ⟨b.toNat, by omega⟩
  simp only [Int.toNat_of_nonneg ha, Int.toNat_of_nonneg hb] at h
  exact h
theorem own_empty (w : World) : Own (w.alloc (.cells #[] 5)) w.heap.size (.slice (some ⟨w.heap.size, 0, none⟩) 0 0) [] :=
  ⟨rfl, Or.inr ⟨w.heap.size, 0, #[], rfl, Nat.le_refl _, heap_alloc_new w _, Nat.le_refl _, Nat.zero_le _, rfl, rfl⟩⟩

set_option maxHeartbeats 4000000 in
theorem unhex_any (s : ByteArray) (w : World) (hm : s.size ≤ 1000000) : Calls Tryz.prog 71 #[.string s] w (OwnR w (unhexP s.data.toList)) := by
  have HT0 : Hid (unhexP s.data.toList = unhexG (unX s.data.toList)) := rfl
  have HC := Lib.hid (cutX_any s w)
  have hsz : (strOf (unX s.data.toList)).size ≤ 1000000 := by
    show (unX s.data.toList).length ≤ 1000000
    have : s.data.toList.length = s.size := by simp
    unfold unX; split <;> simp <;> omega
  have HL : Hid ((strOf (unX s.data.toList)).data.toList = unX s.data.toList) := rfl
  generalize unhexP s.data.toList = U at *
  generalize unX s.data.toList = T at *
  generalize strOf T = t at *
  go_enter Tryz.func71, Tryz.ntmps71
  go_wp2_with fail
  refine HC.out.mono ?_
  rintro e w1 ⟨⟨b, rfl⟩, rfl⟩
  clear HC
  go_wp2
  go_loopw [3, 4] (fun vv kk wr => ∃ (k : Nat) (acc : List UInt8), k ≤ t.size + 1 ∧ kk = .int .i64 k ∧ acc.length ≤ k ∧ Own wr w.heap.size vv acc ∧ Below w.heap.size w wr ∧ Hid (UnT t.data.toList k acc)) (fun _ kk _ => t.size + 2 - (intOf kk).toNat)
  case atStart => exact ⟨0, [], Nat.zero_le _, rfl, by simp, own_empty w, (Below.refl _ _).alloc (Nat.le_refl _) _, rfl⟩
  case round =>
    obtain ⟨k, acc, hk, rfl, hal, hown, hB, HT⟩ := hrel
    have HO := Lib.hid hown
    clear hown
    by_cases hlt : k + 1 < t.size
    · obtain ⟨d, hd, hx, hw, HX⟩ := str_at t k (by omega)
      obtain ⟨d', hd', hx', hw', HX'⟩ := str_at t (k + 1) hlt
      have hi1 : (k : Int) < (t.size : Int) := by omega
      have hi2 : (k : Int) + 1 < (t.size : Int) := by omega
      have l1 := digN_lt d
      have l2 := digN_lt d'
      by_cases hb1 : 0 ≤ digN d
      · by_cases hb2 : 0 ≤ digN d'
        · obtain ⟨y, hy, hN⟩ : ∃ y : UInt8, y.toNat = (digN d).toNat * 16 + (digN d').toNat ∧ Hid (UnT t.data.toList (k + 2) (acc ++ [y])) := by
            obtain ⟨x, hx1, hx2⟩ := HX.out
            obtain ⟨y, hy1, hy2⟩ := HX'.out
            refine ⟨_, ?_, HT.out.yes hx2 hy2 (by rw [hx1]; exact hb1) (by rw [hy1]; exact hb2)⟩
            rw [byteN _ (by rw [hx1, hy1]; omega), hx1, hy1]
          have hA := bits_orN (digN d) (digN d') hb1 l1 hb2 l2
          have hlt2 : (digN d).toNat * 16 + (digN d').toNat < 256 := by omega
          generalize (digN d).toNat * 16 + (digN d').toNat = A at *
          have HY := Lib.hid hy
          clear hy
          have hmod : (A : Int) % 256 = A := by omega
          go_wp2
          go_quiet ((go_at_call 120; refine Calls.quiet_of_same ((idxB_any _ _ (by assumption)).mono fun _ _ h => ⟨h.1, h.2.symm⟩)))
          go_wp2_with (at_builtin; refine wp_append_bts _ rfl _ _ rfl w.heap.size _ _ acc [y] rfl rfl (own_below HO.out (((Qt.at wr _).below _).alloc (by simp) _)) (bts_tmp _ _ _ _ _ HY.out (by simp)) (by simp; omega) (by have := hB.size; simp; omega) ?_; intro v' w2 hown3 hgrow)
          go_roundw
          case rel => exact ⟨k + 2, acc ++ [y], by omega, by go_num, by simp; omega, hown3, ((hB.trans (((Qt.at wr _).below _).mono hB.size)).alloc (by have := hB.size; simp; omega) _).grown hgrow (by have := hB.size; simp; omega) (own_base HO.out), hN⟩
          case measure => simp [intOf]; omega
        · have hN : Hid (UnT t.data.toList (k + 2) acc) := by
            obtain ⟨x, hx1, hx2⟩ := HX.out
            obtain ⟨y, hy1, hy2⟩ := HX'.out
            exact HT.out.no hx2 hy2 (Or.inr (by rw [hy1]; omega))
          go_wp2
          go_quiet ((go_at_call 120; refine Calls.quiet_of_same ((idxB_any _ _ (by assumption)).mono fun _ _ h => ⟨h.1, h.2.symm⟩)))
          go_wp2
          go_roundw
          case rel => exact ⟨k + 2, acc, by omega, by go_num, by omega, own_below HO.out ((Qt.at wr _).below _), hB.trans (((Qt.at wr _).below _).mono hB.size), hN⟩
          case measure => simp [intOf]; omega
      · have hN : Hid (UnT t.data.toList (k + 2) acc) := by
          obtain ⟨x, hx1, hx2⟩ := HX.out
          obtain ⟨y, hy1, hy2⟩ := HX'.out
          exact HT.out.no hx2 hy2 (Or.inl (by rw [hx1]; omega))
        go_wp2
        go_quiet ((go_at_call 120; refine Calls.quiet_of_same ((idxB_any _ _ (by assumption)).mono fun _ _ h => ⟨h.1, h.2.symm⟩)))
        go_wp2
        go_roundw
        case rel => exact ⟨k + 2, acc, by omega, by go_num, by omega, own_below HO.out ((Qt.at wr _).below _), hB.trans (((Qt.at wr _).below _).mono hB.size), hN⟩
        case measure => simp [intOf]; omega
    · have hR : Hid (OwnR w U (.returned u3) wr) := by
        have hts : t.data.toList.length = t.size := by simp
        have h1 := HT.out.done (by omega)
        rw [HL.out] at h1
        rw [HT0.out, h1]
        exact ⟨_, rfl, HO.out, hB⟩
      go_wp2
      go_ret
      exact hR.out

/-- What a closure on the reader gives: bytes of its own. -/
def RdB (w : World) (br C : Nat) (l : List UInt8) (r : List ByteArray) (e : Ending) (w' : World) : Prop := ∃ v w1, e = .returned v ∧ RdPost w br C r w1 ∧ Own w' w1.heap.size v l ∧ Below w1.heap.size w1 w'

/-- The closure of script.read. -/
theorem read1_any (br C : Nat) (ws : List ByteArray) (v : Value) (w : World) (h : Rd w br C v ws) (hl : ws.length ≤ 1000000) (hs : (hdW ws).size ≤ 1000000) :
    Calls Tryz.prog 70 #[.pointer (some ⟨br, 0, none⟩)] w (RdB w br C (unhexP (hdW ws).data.toList) ws.tail) := by
  have HW := Lib.hid (word_any br C ws v w h hl)
  generalize hdW ws = x at *
  generalize ws.tail = r at *
  clear h
  have HN : Hid (∀ W, Calls Tryz.prog 71 #[.string x] W (OwnR W (unhexP x.data.toList))) := fun W => unhex_any x W hs
  generalize unhexP x.data.toList = N at *
  go_enter Tryz.func70, Tryz.ntmps70
  go_wp2_with fail
  refine HW.out.mono ?_
  rintro e w1 ⟨rfl, hr1⟩
  have HR := Lib.hid hr1
  clear hr1 HW
  go_wp2_with fail
  refine (HN.out _).mono ?_
  rintro e w2 ⟨v2, rfl, ho, hb2⟩
  have HO := Lib.hid ho
  have HB := Lib.hid hb2
  clear ho hb2 HN
  go_wp2
  go_ret
  exact ⟨_, _, rfl, HR.out, HO.out, HB.out⟩

end Go.Proofs.YtloanidfkefenaaGreatDoor
