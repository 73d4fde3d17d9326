/-
  bindleref24.bytes answers as the plain functions do.
-/
import Derived.Test.YtloanidfkefenaaGreatDoorQR3
namespace Go.Proofs.YtloanidfkefenaaGreatDoor
open Go.RowKit Go.Shelf
set_option maxRecDepth 100000
set_option linter.unusedVariables false

theorem own_below {w w1 : World} {base : Nat} {e : TypeId} {size n : Nat} {v : Value} {xs : List Value} (h : w.ownsRow base e size v n xs) (hb : Below w.heap.size w w1) : w1.ownsRow base e size v n xs :=
  h.kept (row := none) ⟨hb.os, hb.tape, hb.output, hb.size, fun k hk _ => hb.block k hk⟩ (by cases v.ownBlock <;> simp)
theorem own_base {w : World} {base : Nat} {e : TypeId} {size n : Nat} {v : Value} {xs : List Value} (h : w.ownsRow base e size v n xs) (k : Nat) (hk : v.ownBlock = some k) : base ≤ k := (h.lt k hk).1
theorem bts_tmp (w : World) (T : TypeId) (y : UInt8) (n g : Nat) (hy : y.toNat = n) (hg : g = w.heap.size) : Bts (w.alloc (.cells #[.int .u8 n] T)) (.slice (some ⟨g, 0, none⟩) 1 1) [y] := by
  subst hg
  refine ⟨some ⟨w.heap.size, 0, none⟩, 1, rfl, Nat.le_refl _, by omega, fun _ => ⟨_, _, rfl, fun i hi => ?_⟩⟩
  have : i = 0 := by simpa using hi
  subst this
  rw [World.cell?_alloc_at _ _ _ _ rfl]
  simp [← hy]

def HexR (w : World) (l : List UInt8) (e : Ending) (w' : World) : Prop := ∃ v, e = .returned (.tuple #[v, .bool (hexB l)]) ∧ Bts w' v (if hexB l = true then unhexP l else []) ∧ Below w.heap.size w w'
theorem HexR.no {w w' : World} {l : List UInt8} (h : hexB l = false) (hb : Below w.heap.size w w') : HexR w l (.returned (.tuple #[.slice none 0 0, .bool false])) w' := by
  refine ⟨.slice none 0 0, by rw [h], ?_, hb⟩
  rw [h]; exact bts_nil w'
def HexT (l : List UInt8) (k : Nat) (acc : List UInt8) : Prop := hexB l = ((l.drop k).all fun c => decide (0 ≤ digK c)) ∧ unhexP l = acc ++ unhexG (l.drop k)
theorem digK_N (c : UInt8) : digK c = digN c.toNat := rfl
theorem digN_lt (d : Nat) : digN d < 16 := by unfold digN; split <;> (try split) <;> omega
theorem HexT.start {l r : List UInt8} (h : l = 120 :: r) (hl : l.length % 2 = 1) : HexT l 1 [] := by
  subst h
  refine ⟨?_, rfl⟩
  unfold hexB
  rw [decide_eq_true hl]; rfl
theorem HexT.step {l : List UInt8} {k : Nat} {acc : List UInt8} {x y : UInt8} (h : HexT l k acc) (h1 : l.drop k = x :: l.drop (k + 1)) (h2 : l.drop (k + 1) = y :: l.drop (k + 2)) (hx : 0 ≤ digN x.toNat) (hy : 0 ≤ digN y.toNat) :
    HexT l (k + 2) (acc ++ [UInt8.ofNat ((digN x.toNat).toNat * 16 + (digN y.toNat).toNat)]) := by
  obtain ⟨a, b⟩ := h
  rw [h1, h2] at a b
  rw [unhexG, if_pos ⟨by rw [digK_N]; exact hx, by rw [digK_N]; exact hy⟩] at b
  refine ⟨?_, ?_⟩
  · rw [a, List.all_cons, List.all_cons]
    have t1 : decide (0 ≤ digK x) = true := decide_eq_true hx
    have t2 : decide (0 ≤ digK y) = true := decide_eq_true hy
    rw [t1, t2]; rfl
  · rw [b]; simp [digK_N]
theorem HexT.bad {l : List UInt8} {k : Nat} {acc : List UInt8} {x y : UInt8} (h : HexT l k acc) (h1 : l.drop k = x :: l.drop (k + 1)) (h2 : l.drop (k + 1) = y :: l.drop (k + 2)) (hb : digN x.toNat < 0 ∨ digN y.toNat < 0) : hexB l = false := by
  rw [h.1, h1, h2, List.all_cons, List.all_cons]
  rcases hb with hb | hb
  · have : decide (0 ≤ digK x) = false := decide_eq_false (by rw [digK_N]; omega)
    rw [this]; rfl
  · have : decide (0 ≤ digK y) = false := decide_eq_false (by rw [digK_N]; omega)
    rw [this]; simp

set_option maxHeartbeats 4000000 in
theorem bytes_no (s : ByteArray) (w : World) (hm : s.size ≤ 1000000) (h : s.size % 2 ≠ 1 ∨ (∃ h1 : 0 < s.size, s[0].toNat ≠ 120)) (hN : Hid (hexB s.data.toList = false)) :
    Calls Tryz.prog 42 #[.string s] w (HexR w s.data.toList) := by
  by_cases h2 : s.size % 2 = 1
  · obtain ⟨h1, h3⟩ : ∃ h1 : 0 < s.size, s[0].toNat ≠ 120 := by rcases h with h | h; exact absurd h2 h; exact h
    obtain ⟨d, hd, hx, hw, _⟩ := str_at s 0 h1
    rw [hx] at h3
    have e1 : ((s.size : Int) % 2) = 1 := by omega
    have e2 : (((s.size : Int) % 2) != 1) = false := by rw [e1]; rfl
    have e3 : ((d : Int) != 120) = true := bne_iff_ne.2 (by omega)
    have e4 : ((s.size : Int).tmod 2) = 1 := by rw [Int.tmod_eq_emod_of_nonneg (by omega)]; omega
    clear h
    go_enter Tryz.func42, Tryz.ntmps42
    go_wp2
    go_ret2
    exact HexR.no hN.out (Below.refl _ _)
  · clear h
    have e4 : ((s.size : Int).tmod 2) = 0 := by rw [Int.tmod_eq_emod_of_nonneg (by omega)]; omega
    go_enter Tryz.func42, Tryz.ntmps42
    go_wp2
    go_ret2
    exact HexR.no hN.out (Below.refl _ _)

set_option maxHeartbeats 1000000 in
theorem bytes_yes (s : ByteArray) (w : World) (hm : s.size ≤ 1000000) (h2 : s.size % 2 = 1) (h1 : 0 < s.size) (hx0 : s[0].toNat = 120) (hT : Hid (HexT s.data.toList 1 [])) :
    Calls Tryz.prog 42 #[.string s] w (HexR w s.data.toList) := by
  have e4 : ((s.size : Int).tmod 2) = 1 := by rw [Int.tmod_eq_emod_of_nonneg (by omega)]; omega
  go_enter Tryz.func42, Tryz.ntmps42
  go_wp2
  go_loopw [4, 5] (fun vv kk wr => ∃ (k : Nat) (acc : List UInt8), k % 2 = 1 ∧ k ≤ s.size ∧ kk = .int .i64 k ∧ acc.length ≤ k ∧ Own wr w.heap.size vv acc ∧ Below w.heap.size w wr ∧ Hid (HexT s.data.toList k acc)) (fun _ kk _ => s.size - (intOf kk).toNat)
  case atStart => exact ⟨1, [], rfl, h1, rfl, by simp, World.ownsRow_nil _ _ _ _, Below.refl _ _, hT⟩
  case round =>
    obtain ⟨k, acc, hk2, hk, rfl, hal, hown, hB, HT⟩ := hrel
    by_cases hlt : k < s.size
    · have hlt2 : k + 1 < s.size := by omega
      obtain ⟨d, hd, hx, hw, HX⟩ := str_at s k hlt
      obtain ⟨d', hd', hx', hw', HX'⟩ := str_at s (k + 1) hlt2
      have hi1 : (k : Int) < (s.size : Int) := by omega
      have hi2 : (k : Int) + 1 < (s.size : Int) := by omega
      have HO := Lib.hid hown
      clear hown
      have l1 := digN_lt d
      have l2 := digN_lt d'
      rcases (show (digN d < 0 ∨ digN d' < 0) ∨ (0 ≤ digN d ∧ 0 ≤ digN d') from by omega) with hb | ⟨hb1, hb2⟩
      · have hN : Hid (hexB s.data.toList = false) := by
          obtain ⟨x, hx1, hx2⟩ := HX.out
          obtain ⟨y, hy1, hy2⟩ := HX'.out
          exact HT.out.bad hx2 hy2 (by rw [hx1, hy1]; exact hb)
        rcases (show (digN d < 0) ∨ (0 ≤ digN d ∧ digN d' < 0) from by omega) with hb1 | ⟨hb1, hb2⟩
        · clear hb
          go_wp2
          go_quiet ((go_at_call 76; refine Calls.quiet_of_same ((digit_any _ _ (by assumption)).mono fun _ _ h => ⟨h.1, h.2.symm⟩)))
          go_wp2
          go_ret2
          exact HexR.no hN.out (hB.trans (((Qt.at _ _).below _).mono hB.size))
        · clear hb
          go_wp2
          go_quiet ((go_at_call 76; refine Calls.quiet_of_same ((digit_any _ _ (by assumption)).mono fun _ _ h => ⟨h.1, h.2.symm⟩)))
          go_wp2
          go_ret2
          exact HexR.no hN.out (hB.trans (((Qt.at _ _).below _).mono hB.size))
      · have hN : Hid (∃ y : UInt8, (y.toNat : Int) = digN d * 16 + digN d' ∧ HexT s.data.toList (k + 2) (acc ++ [y])) := by
          obtain ⟨x, hx1, hx2⟩ := HX.out
          obtain ⟨y, hy1, hy2⟩ := HX'.out
          refine ⟨_, ?_, HT.out.step hx2 hy2 (by rw [hx1]; exact hb1) (by rw [hy1]; exact hb2)⟩
          rw [byteN _ (by rw [hx1, hy1]; omega), hx1, hy1]
          omega
        obtain ⟨y, hy, hN⟩ := hN.out
        have HN := Lib.hid hN
        clear hN
        obtain ⟨A, hA⟩ : ∃ A : Nat, digN d * 16 + digN d' = (A : Int) := ⟨(digN d * 16 + digN d').toNat, by omega⟩
        have HY : Hid (y.toNat = A) := by unfold Hid; omega
        clear hy
        go_wp2
        go_quiet ((go_at_call 76; refine Calls.quiet_of_same ((digit_any _ _ (by assumption)).mono fun _ _ h => ⟨h.1, h.2.symm⟩)))
        go_wp2_with (at_builtin; refine wp_append_bts _ rfl _ _ rfl w.heap.size _ _ acc [y] rfl rfl (own_below HO.out (((Qt.at wr _).below _).alloc (by simp) _)) (bts_tmp _ _ _ _ _ HY.out (by simp)) (by simp; omega) (by have := hB.size; simp; omega) ?_; intro v' w2 hown3 hgrow)
        go_roundw
        case rel => exact ⟨k + 2, acc ++ [y], by omega, by omega, by go_num, by simp; omega, hown3, ((hB.trans (((Qt.at wr _).below _).mono hB.size)).alloc (by have := hB.size; simp; omega) _).grown hgrow (by have := hB.size; simp; omega) (own_base HO.out), HN⟩
        case measure => simp [intOf]; omega
    · have hks : k = s.size := by omega
      subst hks
      have hdr : Hid (s.data.toList.drop s.size = []) := str_end s s.size (by omega)
      have hbt := hown.bts
      obtain ⟨p', c', rfl, h5, h6⟩ := hbt.form
      have HR : Hid (HexR w s.data.toList (.returned (.tuple #[.slice p' acc.length c', .bool true])) wr) := by
        have h1 := HT.out.1
        have h2 := HT.out.2
        rw [hdr.out] at h1 h2
        have h3 : hexB s.data.toList = true := h1
        refine ⟨_, by rw [h3], ?_, hB⟩
        rw [h3, if_pos rfl, h2]
        simpa [unhexG] using hbt
      clear hown hbt
      go_wp2
      go_ret2
      exact HR.out

theorem bytes_any (s : ByteArray) (w : World) (hm : s.size ≤ 1000000) : Calls Tryz.prog 42 #[.string s] w (HexR w s.data.toList) := by
  have hl : s.data.toList.length = s.size := by simp
  by_cases h2 : s.size % 2 = 1
  · have h1 : 0 < s.size := by omega
    obtain ⟨d0, hd0, hx0, _, ⟨x0, hxx, hdr⟩⟩ := str_at s 0 h1
    rw [List.drop_zero] at hdr
    by_cases h3 : d0 = 120
    · have e : x0 = 120 := UInt8.toNat_inj.1 (by rw [hxx, h3]; rfl)
      subst e
      exact bytes_yes s w hm h2 h1 (by rw [hx0, h3]) (HexT.start hdr (by omega))
    · refine bytes_no s w hm (Or.inr ⟨h1, by rw [hx0]; exact h3⟩) ?_
      unfold Hid hexB
      have : (s.data.toList.head? == some 120) = false := by
        rw [hdr, List.head?_cons]
        have : x0 ≠ 120 := fun e => by rw [e] at hxx; exact h3 hxx.symm
        simpa using this
      rw [this]; simp
  · refine bytes_no s w hm (Or.inl h2) ?_
    unfold Hid hexB
    have : decide (s.data.toList.length % 2 = 1) = false := decide_eq_false (by omega)
    rw [this]; rfl

end Go.Proofs.YtloanidfkefenaaGreatDoor
