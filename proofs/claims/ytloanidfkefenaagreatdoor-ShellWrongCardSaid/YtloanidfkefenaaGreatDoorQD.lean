/-
  bindleref01.Dec and bindleref24.Dec at numbers that are not negative.
-/
import Derived.Test.YtloanidfkefenaaGreatDoorQG
import Derived.Lib.ItoaLen
import Derived.Lib.ItoaMem
import Derived.Laws.IdiomStrings
namespace Go.Proofs.YtloanidfkefenaaGreatDoor
open Go.RowKit Go.Shelf
set_option maxRecDepth 100000
set_option linter.unusedVariables false

theorem app_data (a b : ByteArray) : (a ++ b).data.toList = a.data.toList ++ b.data.toList := by simp
theorem Bts.str {w : World} {v : Value} {l : List UInt8} (h : Bts w v l) : (convert 38 9 v).run Tryz.prog w = .ok (.string ⟨l.toArray⟩) w := by
  obtain ⟨p, c, rfl, h1, h2, h3⟩ := h
  by_cases h0 : 0 < l.length
  · obtain ⟨b, o, rfl, hc⟩ := h3 h0
    exact run_convert_bytes_back w _ _ _ ⟨b, o, none⟩ c l Tryz.underlying38 Tryz.underlying5 Tryz.underlying9 (fun j hj => by
      have := hc j hj
      simp only [List.getD, List.getElem?_eq_getElem hj, Option.getD_some] at this
      rw [zaddr]; exact this)
  · have : l = [] := List.length_eq_zero_iff.1 (by omega)
    subst this
    have key : ∀ a, (Conv.bytesToString (.slice a 0 c)).run Tryz.prog w = .ok (.string ⟨#[]⟩) w := by
      intro a
      cases a with
      | none => simp [Conv.bytesToString]; rfl
      | some a => simp [Conv.bytesToString]; rfl
    rw [run_convert_bytes_string w _ _ _ p _ c Tryz.underlying38 Tryz.underlying5 Tryz.underlying9]
    exact key p

def untilP (l : List UInt8) : List UInt8 := l.takeWhile (· != 0)

theorem decS (n : Nat) (h : n < 10) : Lib.decDigits n = [UInt8.ofNat (48 + n)] := Lib.decDigits_one h
theorem decG (n : Nat) (h : ¬ n < 10) : Lib.decDigits n = Lib.decDigits (n / 10) ++ [UInt8.ofNat (48 + n % 10)] := by rw [Lib.decDigits, dif_neg h]
theorem decLn (n : Nat) (h : n ≤ 1000000000000000000) : (Lib.decDigits n).length ≤ 21 := by
  have := Lib.itoa_length_le (n : Int) (by omega) (by omega)
  rw [Lib.itoa_nonneg] at this; exact this

def decI (n : Nat) (S : ByteArray) (D : List UInt8) : Prop := (n = 0 ∧ S.data.toList = D) ∨ (0 < n ∧ Lib.decDigits n ++ S.data.toList = D)
theorem decI_step (n : Nat) (S T : ByteArray) (D : List UInt8) (h : decI n S D) (hn : 0 < n) (hT : T.data.toList = UInt8.ofNat (48 + n % 10) :: S.data.toList) : decI (n / 10) T D := by
  rcases h with ⟨h, _⟩ | ⟨_, h⟩
  · omega
  · by_cases h10 : n < 10
    · left
      refine ⟨by omega, ?_⟩
      rw [hT, ← h, decS n h10, show n % 10 = n by omega]; rfl
    · right
      refine ⟨by omega, ?_⟩
      rw [hT, ← h, decG n h10]; simp

theorem one_bytes (w : World) (b : Nat) (hb : b < 256) : (convert 38 9 (.slice (some ⟨w.heap.size, 0, none⟩) 1 1)).run Tryz.prog (w.alloc (.cells #[.int .u8 b] 5)) = .ok (.string ⟨#[UInt8.ofNat b]⟩) (w.alloc (.cells #[.int .u8 b] 5)) := by
  have h : Bts (w.alloc (.cells #[.int .u8 b] 5)) (.slice (some ⟨w.heap.size, 0, none⟩) 1 1) [UInt8.ofNat b] := by
    refine ⟨_, _, rfl, Nat.le_refl _, by omega, fun _ => ⟨_, 0, rfl, fun i hi => ?_⟩⟩
    have : i = 0 := by simpa using hi
    subst this
    have e : (UInt8.ofNat b).toNat = b := by rw [UInt8.toNat_ofNat']; omega
    simp [e]
  exact h.str

set_option maxHeartbeats 1000000 in
theorem Dec1_any (n : Nat) (w : World) (hn : n ≤ 1000000000000000000) :
    Calls Tryz.prog 17 #[.int .i64 n] w (RS w (Lib.decDigits n)) := by
  by_cases h0 : n = 0
  · subst h0
    go_enter Tryz.func17, Tryz.ntmps17
    go_wp2
    go_ret
    exact ⟨by rw [decS 0 (by omega)]; rfl, Below.refl _ _⟩
  · have hlen := decLn n hn
    have HL := Lib.hid hlen
    clear hlen
    obtain ⟨D, hD⟩ : ∃ D, Lib.decDigits n = D := ⟨_, rfl⟩
    rw [hD] at HL ⊢
    have HD := Lib.hid hD
    clear hD
    have hn0 : 0 < n := by omega
    go_enter Tryz.func17, Tryz.ntmps17
    go_wp2
    have HN0 := Lib.hid hn0
    clear hn0 h0
    go_loopw [0, 3] (fun nn ss wr => ∃ (m : Nat) (S : ByteArray), m ≤ 1000000000000000000 ∧ nn = .int .i64 m ∧ ss = .string S ∧ Hid (decI m S D) ∧ Below w.heap.size w wr) (fun nn _ _ => (intOf nn).toNat)
    case atStart => exact ⟨n, ⟨#[]⟩, hn, rfl, rfl, .inr ⟨HN0.out, by simpa using HD.out⟩, Below.refl _ _⟩
    case round =>
      obtain ⟨m, S, hm, rfl, rfl, hs, hB⟩ := hrel
      by_cases hm0 : 0 < m
      · have hcv := one_bytes wr (48 + m % 10) (by omega)
        rw [show ((48 + m % 10 : Nat) : Int) = 48 + (m : Int) % 10 by omega] at hcv
        have HS := Lib.hid (decI_step m S (⟨#[UInt8.ofNat (48 + m % 10)]⟩ ++ S) D hs.out hm0 (by rw [app_data]; rfl))
        rw [show UInt8.ofNat (48 + m % 10) = 48 + UInt8.ofNat (m % 10) by simp] at HS
        have hS : S.size ≤ 21 := by
          have h1 : S.data.toList.length = S.size := by simp
          have h2 := HL.out
          rcases hs.out with ⟨_, h⟩ | ⟨_, h⟩
          · rw [← h, h1] at h2; exact h2
          · rw [← h, List.length_append, h1] at h2; omega
        have hB2 := hB.alloc hB.size (.cells #[.int .u8 (48 + (m : Int) % 10)] 5)
        go_wp2
        go_roundw
        case rel => exact ⟨m / 10, ⟨#[48 + UInt8.ofNat (m % 10)]⟩ ++ S, by omega, by go_num, rfl, HS, hB2⟩
        case measure => simp [intOf]; omega
      · have hz : m = 0 := by omega
        subst hz
        go_wp2
        go_ret
        refine ⟨?_, hB⟩
        rcases hs.out with ⟨_, h⟩ | ⟨h, _⟩
        · rw [← h]; exact ret_str (by simp)
        · omega

set_option maxHeartbeats 1000000 in
theorem Dec_any (n : Nat) (w : World) (hn : n ≤ 1000000000000000000) :
    Calls Tryz.prog 9 #[.int .i64 n] w (RS w (Lib.itoa n)) := by
  have HC : Hid (Calls Tryz.prog 17 #[.int .i64 n] w (RS w (Lib.itoa n))) := by
    rw [itoa_pos (show ¬ (n : Int) < 0 by omega), Int.toNat_natCast]
    exact Dec1_any n w hn
  unfold RS at HC ⊢
  generalize Lib.itoa (n : Int) = D at *
  go_enter Tryz.func9, Tryz.ntmps9
  go_wp2_with fail
  refine HC.out.mono ?_
  rintro e w1 ⟨rfl, hb1⟩
  have HB := Lib.hid hb1
  clear hb1 HC
  go_wp2
  go_ret
  exact ⟨rfl, HB.out⟩

end Go.Proofs.YtloanidfkefenaaGreatDoor
