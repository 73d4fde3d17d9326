/-
  shell.Run at a text that is none, at the empty text, and at the text of a command that is none.
-/
import Derived.Test.YtloanidfkefenaaGreatDoorQX9
import Derived.Test.YtloanidfkefenaaGreatDoorQY3
import Derived.Handy
namespace Go.Proofs.YtloanidfkefenaaGreatDoor
open Go.RowKit Go.Shelf
set_option maxRecDepth 100000
set_option linter.unusedVariables false

def errW : List UInt8 := [101, 114, 114, 111, 114]

set_option maxHeartbeats 4000000 in
theorem done_err (B b : Nat) (l : List UInt8) (n : Int) (w : World) (h : IsW 66 B b l w) (hl : l.length ≤ 100000000) (hn : InR n) (hn0 : n ≠ 0) (hbw : b < w.heap.size) (hB : B ≤ w.heap.size) (HG : Hid (∀ W, Below B w W → Glob W)) :
    Calls Tryz.prog 20 #[.pointer (some ⟨b, 0, none⟩), .agg #[.slice none 0 0, .int .i64 0, .int .i64 0, .int .i64 0, .int .i64 0, .int .i64 0, .int .i64 0], .int .i64 n] w fun e w' => e = .returned (.tuple #[]) ∧ IsW 66 B b (l ++ errW ++ numsL [n] ++ [10]) w' ∧ Below B w w' := by
  have hne : (n == 0) = false := beq_eq_false_iff_ne.2 hn0
  have hne2 : (n != 0) = true := bne_iff_ne.2 hn0
  have HIW := Lib.hid h
  have HN : Hid (∀ m ∈ [n], InR m) := fun m hm => by simp at hm; subst hm; exact hn
  clear h hn hn0
  go_enter Tryz.func20, Tryz.ntmps20
  go_wp2_with fail
  refine (wline_any B b l (ByteArray.mk #[101, 114, 114, 111, 114]) _ [n] _ ((HIW.out.keep ((Below.refl _ _).alloc (Nat.le_refl _) _)).keep ((Below.refl _ _).alloc (Nat.le_refl _) _)) (numsAt_new _ b [n] (by simp; omega) _ rfl _ _ (by simp) rfl) hl (by decide) (by simp) HN (by simp; omega) (fun W hW => HG.out W ((((Below.refl _ _).alloc hB _).alloc (by simp; omega) _).trans hW))).mono ?_
  rintro e w1 ⟨rfl, h1, hb1⟩
  have H1 := Lib.hid h1
  have HB1 : Hid (Below B w w1) := (((Below.refl _ _).alloc hB _).alloc (by simp; omega) _).trans hb1
  clear h1 hb1
  go_wp2
  exact bodyPost_ret (v := .tuple #[]) (by simp [results, Tryz.results20, go_sem]) rfl ⟨rfl, H1.out, HB1.out⟩

/-- The line of an error. -/
def errL (ns : List Int) : List UInt8 := errW ++ numsL ns ++ [10]

set_option maxHeartbeats 4000000 in
theorem Run_wrong (s : ByteArray) (n : Nat) (w : World) (hs : s.size ≤ 100000) (HG : Hid (∀ W, Below w.heap.size w W → Glob W)) (hp : Hid (parseT 1 s.data.toList = some n)) :
    Calls Tryz.prog 11 #[.string s] w fun e w' => e = .returned (.string (strOf (errL [15, n]))) ∧ Below w.heap.size w w' := by
  have hl : s.data.toList.length = s.size := by simp
  obtain ⟨hn1, hn2⟩ := parseT_le 1 _ n hp.out
  have hn3 : n ≤ 100002 := by omega
  have HN : Hid (∀ m ∈ [(15 : Int), (n : Int)], InR m) := fun m hm => by
    simp at hm
    rcases hm with rfl | rfl
    · exact ⟨by decide, by decide⟩
    · exact ⟨by omega, by omega⟩
  have HP : Hid (∀ W, Below w.heap.size w W → Calls Tryz.prog 18 #[.string s] W fun e w' => e = .returned (.tuple #[.slice none 0 0, .int .i64 n, .int .i64 15]) ∧ Below W.heap.size W w') := fun W hW =>
    (Parse_any s W hs (fun W2 hW2 => HG.out W2 (hW.trans (hW2.mono hW.size)))).mono fun e w' ⟨h1, _, h3⟩ => ⟨h1 n hp.out, h3⟩
  clear hl hp hn1 hn2
  have HW0 := Lib.hid (isW_fresh 66 tagW w)
  go_enter Tryz.func11, Tryz.ntmps11
  go_wp2_with fail
  refine (HP.out _ ((Below.refl _ _).alloc (Nat.le_refl _) _)).mono ?_
  rintro e w1 ⟨rfl, hb1⟩
  have HW1 := Lib.hid (HW0.out.keep hb1)
  have HB1 : Hid (Below w.heap.size w w1) := ((Below.refl _ _).alloc (Nat.le_refl _) _).trans (hb1.mono (by simp))
  have hz1 : w.heap.size < w1.heap.size := by have := hb1.size; simp at this; omega
  clear hb1 HW0
  go_wp2_with fail
  refine (wline_any w.heap.size w.heap.size [] (ByteArray.mk #[101, 114, 114, 111, 114]) _ [15, (n : Int)] _ (HW1.out.keep ((Below.refl _ _).alloc (Nat.le_refl _) _)) (numsAt_new _ w.heap.size [15, (n : Int)] hz1 _ rfl _ _ rfl rfl) (by simp) (by decide) (by simp) HN (by simp; omega) (fun W hW => HG.out W ((HB1.out.alloc (by omega) _).trans hW))).mono ?_
  rintro e w2 ⟨rfl, h2, hb2⟩
  have HW2 : Hid (IsW 66 w.heap.size w.heap.size (errL [15, n]) w2) := h2
  have HB2 : Hid (Below w.heap.size w w2) := (HB1.out.alloc (by omega) _).trans hb2
  clear h2 hb2
  go_wp2
  refine wp_loop_rounds 1 ?_
  rw [rounds_succ]
  go_wp2_with fail
  refine (WString_some _ tagW w.heap.size w.heap.size _ _ HW2.out (by simp [errL, errW])).mono ?_
  rintro e w3 ⟨rfl, hb3⟩
  have HB3 := Lib.hid (HB2.out.trans hb3)
  clear hb3
  go_wp2
  go_ret
  exact ⟨rfl, HB3.out⟩

set_option maxHeartbeats 4000000 in
theorem Run_empty (w : World) (HG : Hid (∀ W, Below w.heap.size w W → Glob W)) :
    Calls Tryz.prog 11 #[.string ⟨#[]⟩] w fun e w' => e = .returned (.string ⟨#[]⟩) ∧ Below w.heap.size w w' := by
  have HP : Hid (∀ W, Below w.heap.size w W → Calls Tryz.prog 18 #[.string ⟨#[]⟩] W fun e w' => (∃ p c, e = .returned (.tuple #[.slice p 0 c, .int .i64 0, .int .i64 0])) ∧ Below W.heap.size W w') := fun W hW =>
    (Parse_any ⟨#[]⟩ W (by decide) (fun W2 hW2 => HG.out W2 (hW.trans (hW2.mono hW.size)))).mono fun e w' ⟨_, h2, h3⟩ => by
      obtain ⟨v, xs, rfl, ho, _⟩ := h2 rfl
      rcases ho.2 with ⟨rfl, _⟩ | ⟨g, cap, cur, rfl, _⟩
      · exact ⟨⟨none, 0, rfl⟩, h3⟩
      · exact ⟨⟨_, cap, rfl⟩, h3⟩
  have hb0 : (w.alloc (.cells #[.pointer none, .slice none 0 0] 66)).heap[w.heap.size]? = some (.cells #[.pointer none, .slice none 0 0] 66 (0, 0)) := heap_alloc_new w _
  have HB0 := Lib.hid hb0
  clear hb0
  go_enter Tryz.func11, Tryz.ntmps11
  go_wp2_with fail
  refine (HP.out _ ((Below.refl _ _).alloc (Nat.le_refl _) _)).mono ?_
  rintro e w1 ⟨⟨p, c, rfl⟩, hb1⟩
  have HW1 : Hid (w1.heap[w.heap.size]? = some (.cells #[.pointer none, .slice none 0 0] 66 (0, 0))) := (hb1.block _ (by simp)).trans HB0.out
  have HB1 : Hid (Below w.heap.size w w1) := ((Below.refl _ _).alloc (Nat.le_refl _) _).trans (hb1.mono (by simp))
  clear hb1 HB0
  go_wp2
  refine wp_loop_rounds 1 ?_
  rw [rounds_succ]
  go_wp2_with fail
  refine (WString_none _ tagW w.heap.size w.heap.size _ HW1.out).mono ?_
  rintro e w3 ⟨rfl, hb3⟩
  have HB3 := Lib.hid (HB1.out.trans hb3)
  clear hb3
  go_wp2
  go_ret
  exact ⟨rfl, HB3.out⟩

def listT : ByteArray := ⟨#[57, 32, 48, 32, 48, 32, 48, 32, 48, 32, 48, 32, 48, 32, 48, 32, 48, 32, 48, 10]⟩
theorem cells_ten {w : World} {g : Nat} {cur : Array Value} {T : TypeId} {a0 a1 a2 a3 a4 a5 a6 a7 a8 a9 : Value} (h : w.heap[g]? = some (.cells cur T (0, 0))) (ht : cur.toList.take 10 = [a0, a1, a2, a3, a4, a5, a6, a7, a8, a9]) :
    w.cell? ⟨g, 0, none⟩ = some a0 ∧ w.cell? ⟨g, 1, none⟩ = some a1 ∧ w.cell? ⟨g, 2, none⟩ = some a2 ∧ w.cell? ⟨g, 3, none⟩ = some a3 ∧ w.cell? ⟨g, 4, none⟩ = some a4 ∧ w.cell? ⟨g, 5, none⟩ = some a5 ∧ w.cell? ⟨g, 6, none⟩ = some a6 ∧ w.cell? ⟨g, 7, none⟩ = some a7 ∧ w.cell? ⟨g, 8, none⟩ = some a8 ∧ w.cell? ⟨g, 9, none⟩ = some a9 := by
  have key : ∀ (i : Nat) (v : Value), [a0, a1, a2, a3, a4, a5, a6, a7, a8, a9][i]? = some v → w.cell? ⟨g, i, none⟩ = some v := by
    intro i v hv
    rw [← ht, List.getElem?_take] at hv
    split at hv
    · rw [Lib.cell_of_heap h]; simpa using hv
    · cases hv
  exact ⟨key 0 _ rfl, key 1 _ rfl, key 2 _ rfl, key 3 _ rfl, key 4 _ rfl, key 5 _ rfl, key 6 _ rfl, key 7 _ rfl, key 8 _ rfl, key 9 _ rfl⟩
def ListP (w : World) (e : Ending) (w' : World) : Prop := ∃ g c n1 n2 b3 n4 n5 n6 fa fb fc ca cb cc p cap, e = .returned (.tuple #[.slice (some ⟨g, 0, none⟩) 1 c, .int .i64 0, .int .i64 0]) ∧ 1 ≤ c ∧ (w'.cell? ⟨g, 0, none⟩ = some (.int .i64 9) ∧ w'.cell? ⟨g, 1, none⟩ = some (.int .i64 n1) ∧ w'.cell? ⟨g, 2, none⟩ = some (.int .i64 n2) ∧ w'.cell? ⟨g, 3, none⟩ = some (.bool b3) ∧ w'.cell? ⟨g, 4, none⟩ = some (.int .i64 n4) ∧ w'.cell? ⟨g, 5, none⟩ = some (.int .i64 n5) ∧ w'.cell? ⟨g, 6, none⟩ = some (.int .i64 n6) ∧ w'.cell? ⟨g, 7, none⟩ = some (.slice fa fb fc) ∧ w'.cell? ⟨g, 8, none⟩ = some (.slice ca cb cc) ∧ w'.cell? ⟨g, 9, none⟩ = some (.slice p 0 cap)) ∧ Below w.heap.size w w'
theorem parse_listT (w w' : World) (e : Ending) (h : ParseR w listT.data.toList e w') : ListP w e w' := by
  obtain ⟨_, h2, h3⟩ := h
  obtain ⟨v, xs, rfl, ho, css, hx, hl, hc⟩ := h2 parse_list
  have hk : (cmdsT listT.data.toList).map (fun c => (c.kind, c.ins.length)) = [(9, 0)] := cmds_list
  obtain ⟨c, hcm⟩ : ∃ c, cmdsT listT.data.toList = [c] := by
    cases hh : cmdsT listT.data.toList with
    | nil => rw [hh] at hk; cases hk
    | cons c r =>
      rw [hh] at hk
      cases r with
      | nil => exact ⟨c, rfl⟩
      | cons d r => simp at hk
  rw [hcm] at ho hl hc hk
  simp only [List.map_cons, List.map_nil, List.cons.injEq, Prod.mk.injEq, and_true] at hk
  obtain ⟨hk1, hk2⟩ := hk
  obtain ⟨cs, h4, fa, fb, fc, ca, cb, cc, p, cap, h5⟩ := hc 0 c rfl
  rw [hk1, hk2] at h5
  have hcss : css = [cs] := by
    match css, hl, h4 with
    | [d], _, h4 => simp at h4; rw [h4]
  subst hcss
  simp at hx
  subst hx
  rcases ho.2 with ⟨_, h0⟩ | ⟨g, cap', cur, rfl, _, hg, hcap, _, _, ht⟩
  · simp at h0
  · have ht' : cur.toList.take 10 = xs := by simpa using ht
    rw [h5] at ht'
    exact ⟨g, cap', c.policy, c.limit, c.whole, c.budget, c.fan, c.room, fa, fb, fc, ca, cb, cc, p, cap, rfl, hcap, cells_ten hg ht', h3⟩

set_option maxHeartbeats 4000000 in
theorem Run_list (w : World) (HG : Hid (∀ W, Below w.heap.size w W → Glob W)) :
    Calls Tryz.prog 11 #[.string listT] w fun e w' => e = .returned (.string (strOf (errL [1]))) ∧ Below w.heap.size w w' := by
  have HP : Hid (∀ W, Below w.heap.size w W → Calls Tryz.prog 18 #[.string listT] W (ListP W)) := fun W hW =>
    (Parse_any listT W (by decide) (fun W2 hW2 => HG.out W2 (hW.trans (hW2.mono hW.size)))).mono fun e w' h => parse_listT W w' e h
  have HW0 := Lib.hid (isW_fresh 66 tagW w)
  generalize listT = tx at *
  go_enter Tryz.func11, Tryz.ntmps11
  go_wp2_with fail
  refine (HP.out _ ((Below.refl _ _).alloc (Nat.le_refl _) _)).mono ?_
  rintro e w1 ⟨g, c, n1, n2, b3, n4, n5, n6, fa, fb, fc, ca, cb, cc, p, cap, rfl, hc1, ⟨k0, k1, k2, k3, k4, k5, k6, k7, k8, k9⟩, hb1⟩
  have HW1 := Lib.hid (HW0.out.keep hb1)
  have HB1 : Hid (Below w.heap.size w w1) := ((Below.refl _ _).alloc (Nat.le_refl _) _).trans (hb1.mono (by simp))
  have hz1 : w.heap.size < w1.heap.size := by have := hb1.size; simp at this; omega
  clear hb1 HW0
  go_wp2
  refine wp_loop_rounds 2 ?_
  rw [rounds_succ]
  go_wp2_with fail
  clear k0 k1 k2 k3 k4 k5 k6 k7 k8 k9
  refine (Do_nine n1 n2 b3 n4 n5 n6 fa fb fc ca cb cc p 0 cap _).mono ?_
  rintro e w2 ⟨rfl, hb2⟩
  have HW2 := Lib.hid ((HW1.out.keep ((Below.refl _ _).alloc (Nat.le_refl _) _)).keep hb2)
  have HB2 : Hid (Below w.heap.size w w2) := (HB1.out.alloc (by omega) _).trans (hb2.mono (by simp; omega))
  have hz2 : w.heap.size < w2.heap.size := by have := hb2.size; simp at this; omega
  clear hb2 HW1
  go_wp2_with fail
  refine (done_err w.heap.size w.heap.size [] 1 w2 HW2.out (by simp) ⟨by decide, by decide⟩ (by decide) hz2 (by omega) (fun W hW => HG.out W (HB2.out.trans hW))).mono ?_
  rintro e w3 ⟨rfl, h3, hb3⟩
  have HW3 : Hid (IsW 66 w.heap.size w.heap.size (errL [1]) w3) := h3
  have HB3 := Lib.hid (HB2.out.trans hb3)
  clear h3 hb3 HW2
  go_wp2
  rw [rounds_succ]
  go_wp2_with fail
  refine (WString_some _ tagW w.heap.size w.heap.size _ _ HW3.out (by simp [errL, errW])).mono ?_
  rintro e w4 ⟨rfl, hb4⟩
  have HB4 := Lib.hid (HB3.out.trans hb4)
  clear hb4
  go_wp2
  go_ret
  exact ⟨rfl, HB4.out⟩

end Go.Proofs.YtloanidfkefenaaGreatDoor
