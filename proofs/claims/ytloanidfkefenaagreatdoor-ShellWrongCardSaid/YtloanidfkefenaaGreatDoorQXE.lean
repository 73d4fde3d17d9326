/-
  bindleref24.Read: where a text is none.
-/
import Derived.Test.YtloanidfkefenaaGreatDoorQXC
import Derived.Test.YtloanidfkefenaaGreatDoorQD
namespace Go.Proofs.YtloanidfkefenaaGreatDoor
open Go.RowKit Go.Shelf
set_option maxRecDepth 100000
set_option linter.unusedVariables false

def ReadT (w : World) (text : List UInt8) (e : Ending) (w' : World) : Prop :=
  (∀ n, parseT 1 text = some n → e = .returned (.tuple #[.slice none 0 0, .int .i64 n, .int .i64 15])) ∧
  (parseT 1 text = none → ∃ p m c, e = .returned (.tuple #[.slice p m c, .int .i64 0, .int .i64 0])) ∧ Below w.heap.size w w'
theorem ReadT.wrong {w w' : World} {text : List UInt8} {n : Nat} (h : parseT 1 text = some n) (hb : Below w.heap.size w w') : ReadT w text (.returned (.tuple #[.slice none 0 0, .int .i64 n, .int .i64 15])) w' :=
  ⟨fun m hm => (by rw [h] at hm; injection hm with hm; rw [hm]), fun hm => (by rw [h] at hm; cases hm), hb⟩
theorem ReadT.right {w w' : World} {text : List UInt8} {p : Option Addr} {m c : Nat} (h : parseT 1 text = none) (hb : Below w.heap.size w w') : ReadT w text (.returned (.tuple #[.slice p m c, .int .i64 0, .int .i64 0])) w' :=
  ⟨fun m hm => (by rw [h] at hm; cases hm), fun _ => ⟨p, m, c, rfl⟩, hb⟩

/-- A line begins at a, the text has been looked at up to i. -/
structure TxL (text : List UInt8) (n a i : Nat) : Prop where
  parse : parseT 1 text = parseT n (text.drop a)
  le : a ≤ i
  no : (10 : UInt8) ∉ (text.drop a).take (i - a)
theorem TxL.go {text : List UInt8} {n a i : Nat} {x : UInt8} (h : TxL text n a i) (hi : i < text.length) (hd : text.drop i = x :: text.drop (i + 1)) (hx : x ≠ 10) : TxL text n a (i + 1) := {
  parse := h.parse
  le := by have := h.le; omega
  no := by
    have hle := h.le
    rw [show i + 1 - a = (i - a) + 1 by omega, List.take_succ_eq_append_getElem (by rw [List.length_drop]; omega)]
    have e : (text.drop a)[i - a]'(by rw [List.length_drop]; omega) = x := by
      rw [List.getElem_drop]
      rw [List.drop_eq_getElem_cons hi] at hd
      injection hd with hd _
      rw [← hd]
      congr 1; omega
    rw [e]
    intro hm
    rcases List.mem_append.1 hm with hm | hm
    · exact h.no hm
    · simp at hm; exact hx hm.symm }
theorem TxL.line {text : List UInt8} {n a i : Nat} {x : UInt8} (h : TxL text n a i) (hi : i < text.length) (hd : text.drop i = x :: text.drop (i + 1)) (hx : x = 10) : text.drop a = (text.drop a).take (i - a) ++ 10 :: text.drop (i + 1) := by
  subst hx
  have hle := h.le
  conv => lhs; rw [← List.take_append_drop (i - a) (text.drop a)]
  rw [List.drop_drop, show a + (i - a) = i by omega, hd]
theorem TxL.ok {text : List UInt8} {n a i : Nat} {x : UInt8} (h : TxL text n a i) (hi : i < text.length) (hd : text.drop i = x :: text.drop (i + 1)) (hx : x = 10) (hb : lineB (splitL 32 ((text.drop a).take (i - a))) = true) : TxL text (n + 1) (i + 1) (i + 1) := {
  parse := by
    rw [h.parse, h.line hi hd hx]
    exact parseT_ok n _ _ h.no hb
  le := Nat.le_refl _
  no := by simp }
theorem TxL.bad {text : List UInt8} {n a i : Nat} {x : UInt8} (h : TxL text n a i) (hi : i < text.length) (hd : text.drop i = x :: text.drop (i + 1)) (hx : x = 10) (hb : lineB (splitL 32 ((text.drop a).take (i - a))) = false) : parseT 1 text = some n := by
  rw [h.parse, h.line hi hd hx]
  exact parseT_bad n _ _ h.no (by rw [hb]; decide)
theorem TxL.last {text : List UInt8} {n a i : Nat} (h : TxL text n a i) (hi : i = text.length) (ha : a < text.length) : parseT 1 text = some n := by
  have e : (text.drop a).take (i - a) = text.drop a := List.take_of_length_le (by rw [List.length_drop]; omega)
  have hno := h.no
  rw [e] at hno
  rw [h.parse]
  exact parseT_last n _ hno (by intro e2; have := congrArg List.length e2; rw [List.length_drop] at this; simp at this; omega)
theorem TxL.done {text : List UInt8} {n a i : Nat} (h : TxL text n a i) (ha : ¬ a < text.length) : parseT 1 text = none := by
  rw [h.parse, List.drop_eq_nil_of_le (by omega)]; rfl

theorem ReadLine_str (p : List UInt8) (b : Bool) (hb : lineB (splitL 32 p) = b) (w : World) (hs : p.length ≤ 100000) : Calls Tryz.prog 23 #[.string (strOf p)] w (RlR w b) := by
  subst hb; exact ReadLine_any (strOf p) w hs

set_option maxHeartbeats 8000000 in
theorem Read_any (s : ByteArray) (w : World) (hs : s.size ≤ 100000) : Calls Tryz.prog 13 #[.string s] w (ReadT w s.data.toList) := by
  have hl : s.data.toList.length = s.size := by simp
  have HL := Lib.hid hl
  clear hl
  go_enter Tryz.func13, Tryz.ntmps13
  go_wp2
  go_loopw [5, 6, 7, 8] (fun vv aa nn ii wr => ∃ (a n i m : Nat) (xs : List Value), i ≤ s.size ∧ n ≤ i + 1 ∧ m ≤ i ∧ aa = .int .i64 a ∧ nn = .int .i64 n ∧ ii = .int .i64 i ∧ Hid (wr.ownsRow w.heap.size 35 10 vv m xs) ∧ Below w.heap.size w wr ∧ Hid (TxL s.data.toList n a i)) (fun _ _ _ ii _ => s.size - (intOf ii).toNat)
  case atStart => exact ⟨0, 1, 0, 0, [], Nat.zero_le _, by omega, by omega, rfl, rfl, rfl, World.ownsRow_nil _ _ _ _, Below.refl _ _, ⟨rfl, Nat.le_refl _, by simp⟩⟩
  case round =>
    obtain ⟨a, n, i, m, xs, hi, hn, hm, rfl, rfl, rfl, HO, hB, HT⟩ := hrel
    have hle := HT.out.le
    have hsz : w.heap.size ≤ wr.heap.size := hB.size
    by_cases hlt : i < s.size
    · obtain ⟨d, hd, hx, hw, HX⟩ := str_at s i hlt
      by_cases h10 : d = 10
      · subst h10
        have e0 : (((10 : Nat) : Int) != 10) = false := rfl
        have HE : Hid (s.extract a i = strOf ((s.data.toList.drop a).take (i - a))) := extract_str s a i
        have hpl : ((s.data.toList.drop a).take (i - a)).length ≤ 100000 := by rw [List.length_take, List.length_drop, HL.out]; omega
        cases hb : lineB (splitL 32 ((s.data.toList.drop a).take (i - a))) with
        | true =>
          have HN : Hid (TxL s.data.toList (n + 1) (i + 1) (i + 1)) := by
            obtain ⟨x, hx1, hx2⟩ := HX.out
            exact HT.out.ok (by rw [HL.out]; exact hlt) hx2 (UInt8.toNat_inj.1 (by rw [hx1]; rfl)) hb
          have HC := Lib.hid (fun W => ReadLine_str _ true hb W hpl)
          rw [← HE.out] at HC
          clear hb hpl
          go_wp2_with fail
          refine (HC.out _).mono ?_
          rintro e w1 ⟨a0, a1, a2, b3, a4, a5, a6, F0, F1, F2, rfl, hb1⟩
          have HB1 := Lib.hid (hB.trans (hb1.mono hsz))
          have HO1 := Lib.hid (own_below HO.out hb1)
          have hsz1 : w.heap.size ≤ w1.heap.size := HB1.out.size
          clear hb1 HC
          go_wp2_with (at_builtin; refine wp_append_cmd _ rfl _ _ rfl w.heap.size _ m xs (w1.heap.size + 1) #[.int .i64 a0, .int .i64 a1, .int .i64 a2, .bool b3, .int .i64 a4, .int .i64 a5, .int .i64 a6, .slice F0.p F0.n F0.c, .slice F1.p F1.n F1.c, .slice F2.p F2.n F2.c] (0, 0) rfl rfl (own_below HO1.out (((Below.refl _ _).alloc (Nat.le_refl _) _).alloc (by simp) _)) ((congrArg (_[·]?) (by simp)).trans (heap_alloc_new _ _)) rfl (by simp [Value.oneCell']) (by omega) (by simp; omega) ?_; intro v3 w3 hown3 hgrow3)
          have HB3 := Lib.hid ((((HB1.out.alloc hsz1 _).alloc (by simp; omega) _).grown hgrow3 (by simp; omega) (own_base HO1.out)))
          have HO3 := Lib.hid hown3
          clear hgrow3 hown3
          go_roundw
          case rel => exact ⟨i + 1, n + 1, i + 1, m + 1, _, by omega, by omega, by omega, by go_num, by go_num, by go_num, HO3, HB3.out, HN⟩
          case measure => simp [intOf]; omega
        | false =>
          have HN : Hid (parseT 1 s.data.toList = some n) := by
            obtain ⟨x, hx1, hx2⟩ := HX.out
            exact HT.out.bad (by rw [HL.out]; exact hlt) hx2 (UInt8.toNat_inj.1 (by rw [hx1]; rfl)) hb
          have HC := Lib.hid (fun W => ReadLine_str _ false hb W hpl)
          rw [← HE.out] at HC
          clear hb hpl
          go_wp2_with fail
          refine (HC.out _).mono ?_
          rintro e w1 ⟨a0, a1, a2, b3, a4, a5, a6, F0, F1, F2, rfl, hb1⟩
          have HB1 := Lib.hid (hB.trans (hb1.mono hsz))
          clear hb1 HC
          go_wp2
          go_ret3
          exact ReadT.wrong HN.out (HB1.out.alloc HB1.out.size _)
      · have e0 : ((d : Int) != 10) = true := bne_iff_ne.2 (by omega)
        have HN : Hid (TxL s.data.toList n a (i + 1)) := by
          obtain ⟨x, hx1, hx2⟩ := HX.out
          exact HT.out.go (by rw [HL.out]; exact hlt) hx2 (fun e => h10 (by rw [← hx1, e]; rfl))
        go_wp2
        go_roundw
        case rel => exact ⟨a, n, i + 1, m, xs, by omega, by omega, by omega, by go_num, by go_num, by go_num, HO, hB, HN⟩
        case measure => simp [intOf]; omega
    · obtain rfl : i = s.size := by omega
      by_cases ha : a < s.size
      · have HN : Hid (parseT 1 s.data.toList = some n) := HT.out.last HL.out.symm (by rw [HL.out]; exact ha)
        go_wp2
        go_ret3
        exact ReadT.wrong HN.out hB
      · have HN : Hid (parseT 1 s.data.toList = none) := HT.out.done (by rw [HL.out]; exact ha)
        obtain ⟨p, q, c, hv⟩ : ∃ p q c, u5 = .slice p q c := by
          rcases HO.out.2 with ⟨hv, _⟩ | ⟨g, cap, cur, hv, _⟩
          · exact ⟨_, _, _, hv⟩
          · exact ⟨_, _, _, hv⟩
        have HV := Lib.hid hv
        clear hv
        go_wp2
        go_ret3
        rw [HV.out]
        exact ReadT.right HN.out hB

end Go.Proofs.YtloanidfkefenaaGreatDoor
