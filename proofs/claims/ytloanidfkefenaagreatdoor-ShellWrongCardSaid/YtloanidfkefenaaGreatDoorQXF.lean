/-
  bindlelaw25.answers and ShellWrong: true, whatever the text.
-/
import Derived.Test.YtloanidfkefenaaGreatDoorQXE
namespace Go.Proofs.YtloanidfkefenaaGreatDoor
open Go.RowKit Go.Shelf
set_option maxRecDepth 100000
set_option linter.unusedVariables false

theorem err1 : strOf (errL [1]) = ⟨#[101, 114, 114, 111, 114, 32, 49, 10]⟩ := by
  have : errL [1] = [101, 114, 114, 111, 114, 32, 49, 10] := by decide +kernel
  rw [this]; rfl
theorem err15 : strOf (errL [15, (1 : Nat)]) = ⟨#[101, 114, 114, 111, 114, 32, 49, 53, 32, 49, 10]⟩ := by
  have : errL [15, (1 : Nat)] = [101, 114, 114, 111, 114, 32, 49, 53, 32, 49, 10] := by decide +kernel
  rw [this]; rfl
theorem itoa15 : Lib.itoa 15 = [49, 53] := by decide +kernel
theorem err15n (n : Nat) : (ByteArray.mk #[101, 114, 114, 111, 114, 32, 49, 53, 32] ++ strOf (Lib.itoa n)) ++ ByteArray.mk #[10] = strOf (errL [15, n]) := by
  have e1 : ByteArray.mk #[101, 114, 114, 111, 114, 32, 49, 53, 32] ++ strOf (Lib.itoa n) = strOf ([101, 114, 114, 111, 114, 32, 49, 53, 32] ++ Lib.itoa n) := str_append [101, 114, 114, 111, 114, 32, 49, 53, 32] _
  have e2 : strOf ([101, 114, 114, 111, 114, 32, 49, 53, 32] ++ Lib.itoa n) ++ ByteArray.mk #[10] = strOf (([101, 114, 114, 111, 114, 32, 49, 53, 32] ++ Lib.itoa n) ++ [10]) := str_append _ [10]
  rw [e1, e2]
  congr 1
  unfold errL numsL errW
  rw [List.flatMap_cons, List.flatMap_cons, itoa15]
  simp

set_option maxHeartbeats 4000000 in
theorem answers_any (w : World) (HG : Hid (∀ W, Below w.heap.size w W → Glob W)) : Calls Tryz.prog 7 #[] w fun e w' => e = .returned (.bool true) ∧ Below w.heap.size w w' := by
  have H1 : Hid (∀ W, Below w.heap.size w W → Calls Tryz.prog 11 #[.string ⟨#[57, 32, 48, 32, 48, 32, 48, 32, 48, 32, 48, 32, 48, 32, 48, 32, 48, 32, 48, 10]⟩] W fun e w' => e = .returned (.string ⟨#[101, 114, 114, 111, 114, 32, 49, 10]⟩) ∧ Below W.heap.size W w') := fun W hW => by
    have h := Run_list W (fun W2 hW2 => HG.out W2 (hW.trans (hW2.mono hW.size)))
    rw [err1] at h
    exact h
  have H2 : Hid (∀ W, Below w.heap.size w W → Calls Tryz.prog 11 #[.string ⟨#[57, 10]⟩] W fun e w' => e = .returned (.string ⟨#[101, 114, 114, 111, 114, 32, 49, 53, 32, 49, 10]⟩) ∧ Below W.heap.size W w') := fun W hW => by
    have h := Run_wrong ⟨#[57, 10]⟩ 1 W (by decide) (fun W2 hW2 => HG.out W2 (hW.trans (hW2.mono hW.size))) parse_nine
    rw [err15] at h
    exact h
  have H3 : Hid (∀ W, Below w.heap.size w W → Calls Tryz.prog 11 #[.string ⟨#[]⟩] W fun e w' => e = .returned (.string ⟨#[]⟩) ∧ Below W.heap.size W w') := fun W hW =>
    Run_empty W (fun W2 hW2 => HG.out W2 (hW.trans (hW2.mono hW.size)))
  go_enter Tryz.func7, Tryz.ntmps7
  go_wp2_with fail
  refine (H1.out _ (Below.refl _ _)).mono ?_
  rintro e w1 ⟨rfl, hb1⟩
  have HB1 := Lib.hid hb1
  clear hb1 H1
  go_wp2_with fail
  refine (H2.out _ HB1.out).mono ?_
  rintro e w2 ⟨rfl, hb2⟩
  have HB2 := Lib.hid (HB1.out.trans (hb2.mono HB1.out.size))
  clear hb2 H2
  go_wp2_with fail
  refine (H3.out _ HB2.out).mono ?_
  rintro e w3 ⟨rfl, hb3⟩
  have HB3 := Lib.hid (HB2.out.trans (hb3.mono HB2.out.size))
  clear hb3 H3
  go_wp2
  go_ret
  exact ⟨rfl, HB3.out⟩

set_option maxHeartbeats 4000000 in
theorem ShellWrong_any (s : ByteArray) (w : World) (hs : s.size ≤ 9223372036854775807) (HG : Hid (∀ W, Below w.heap.size w W → Glob W)) : Calls Tryz.prog 4 #[.string s] w fun e w' => e = .returned (.bool true) ∧ Below w.heap.size w w' := by
  have HA : Hid (∀ W, Below w.heap.size w W → Calls Tryz.prog 7 #[] W fun e w' => e = .returned (.bool true) ∧ Below W.heap.size W w') := fun W hW => answers_any W (fun W2 hW2 => HG.out W2 (hW.trans (hW2.mono hW.size)))
  by_cases hbig : 20000 < s.size
  · go_enter Tryz.func4, Tryz.ntmps4
    go_wp2_with fail
    refine (HA.out _ (Below.refl _ _)).mono ?_
    rintro e w1 ⟨rfl, hb1⟩
    have HB1 := Lib.hid hb1
    clear hb1
    go_wp2
    go_ret
    exact ⟨rfl, HB1.out⟩
  · have HR := Lib.hid (Read_any s w (by omega))
    cases hp : parseT 1 s.data.toList with
    | none =>
      have HR2 : Hid (Calls Tryz.prog 13 #[.string s] w fun e w' => (∃ p m c, e = .returned (.tuple #[.slice p m c, .int .i64 0, .int .i64 0])) ∧ Below w.heap.size w w') := HR.out.mono fun e w' ⟨_, h2, h3⟩ => ⟨h2 hp, h3⟩
      clear HR hp
      go_enter Tryz.func4, Tryz.ntmps4
      go_wp2_with fail
      refine HR2.out.mono ?_
      rintro e w1 ⟨⟨p, m, c, rfl⟩, hb1⟩
      have HB1 := Lib.hid hb1
      clear hb1 HR2
      go_wp2_with fail
      refine (HA.out _ HB1.out).mono ?_
      rintro e w2 ⟨rfl, hb2⟩
      have HB2 := Lib.hid (HB1.out.trans (hb2.mono HB1.out.size))
      clear hb2
      go_wp2
      go_ret
      exact ⟨rfl, HB2.out⟩
    | some n =>
      have hl : s.data.toList.length = s.size := by simp
      have hn := (parseT_le 1 _ n hp).2
      have hn2 : n ≤ 20002 := by omega
      have HR2 : Hid (Calls Tryz.prog 13 #[.string s] w fun e w' => e = .returned (.tuple #[.slice none 0 0, .int .i64 n, .int .i64 15]) ∧ Below w.heap.size w w') := HR.out.mono fun e w' ⟨h1, _, h3⟩ => ⟨h1 n hp, h3⟩
      have HRun : Hid (∀ W, Below w.heap.size w W → Calls Tryz.prog 11 #[.string s] W fun e w' => e = .returned (.string (strOf (errL [15, n]))) ∧ Below W.heap.size W w') := fun W hW => Run_wrong s n W (by omega) (fun W2 hW2 => HG.out W2 (hW.trans (hW2.mono hW.size))) hp
      have HD : Hid (∀ W, Calls Tryz.prog 9 #[.int .i64 n] W fun e w' => e = .returned (.string (strOf (Lib.itoa n))) ∧ Below W.heap.size W w') := fun W => Dec_any n W (by omega)
      have hE := err15n n
      have hsz : (strOf (Lib.itoa n)).size ≤ 20 := (show (Lib.itoa (n : Int)).length ≤ 20 from itoa_len _ ⟨by omega, by omega⟩)
      clear HR hp hl hn
      generalize strOf (errL [15, n]) = R at *
      generalize strOf (Lib.itoa n) = X at *
      go_enter Tryz.func4, Tryz.ntmps4
      go_wp2_with fail
      refine HR2.out.mono ?_
      rintro e w1 ⟨rfl, hb1⟩
      have HB1 := Lib.hid hb1
      clear hb1 HR2
      go_wp2_with fail
      refine (HA.out _ HB1.out).mono ?_
      rintro e w2 ⟨rfl, hb2⟩
      have HB2 := Lib.hid (HB1.out.trans (hb2.mono HB1.out.size))
      clear hb2
      go_wp2_with fail
      refine (HRun.out _ HB2.out).mono ?_
      rintro e w3 ⟨rfl, hb3⟩
      have HB3 := Lib.hid (HB2.out.trans (hb3.mono HB2.out.size))
      clear hb3 HRun
      go_wp2_with fail
      refine (HD.out _).mono ?_
      rintro e w4 ⟨rfl, hb4⟩
      have HB4 := Lib.hid (HB3.out.trans (hb4.mono HB3.out.size))
      clear hb4 HD
      go_wp2
      go_ret
      exact ⟨rfl, HB4.out⟩

end Go.Proofs.YtloanidfkefenaaGreatDoor
