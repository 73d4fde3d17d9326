/-
  shell.writer.line: words, and numbers.
-/
import Derived.Test.YtloanidfkefenaaGreatDoorQX6
import Derived.Deep.RegionWith
namespace Go.Proofs.YtloanidfkefenaaGreatDoor
open Go.RowKit Go.Shelf
set_option maxRecDepth 100000
set_option linter.unusedVariables false

theorem IsW.keep {T : TypeId} {B b : Nat} {l : List UInt8} {w w1 : World} (h : IsW T B b l w) (hb : Below w.heap.size w w1) : IsW T B b l w1 := by
  obtain ⟨p, hp, hB, v, hbk, hown, hne⟩ := h
  refine ⟨p, hp, hB, v, (hb.block b (Array.getElem?_eq_some_iff.1 hbk).1).trans hbk, hown.kept (row := none) ⟨hb.os, hb.tape, hb.output, hb.size, fun k hk _ => hb.block k hk⟩ (by cases v.ownBlock <;> simp), hne⟩

/-- Numbers in a block of their own, which the writer does not touch. -/
def NumsAt (w : World) (b : Nat) (v : Value) (ns : List Int) : Prop :=
  (v = .slice none 0 0 ∧ ns = []) ∨ ∃ g, v = .slice (some ⟨g, 0, none⟩) ns.length ns.length ∧ g ≠ b ∧ w.heap[g]? = some (.cells (ns.map (Value.int .i64)).toArray 3 (0, 0))
theorem NumsAt.kept {w w1 : World} {b : Nat} {v : Value} {ns : List Int} (h : NumsAt w b v ns) (hk : Lib.OthersKept 5 (some b) w w1) : NumsAt w1 b v ns := by
  rcases h with h | ⟨g, h1, h2, h3⟩
  · exact Or.inl h
  · refine Or.inr ⟨g, h1, h2, hk g _ h3 (by simpa using h2) (fun c fz e => ?_)⟩
    injection e with _ e2 _
    exact absurd e2 (by decide)
theorem NumsAt.below {w w1 : World} {b : Nat} {v : Value} {ns : List Int} (h : NumsAt w b v ns) (hb : Below w.heap.size w w1) : NumsAt w1 b v ns := by
  rcases h with h | ⟨g, h1, h2, h3⟩
  · exact Or.inl h
  · exact Or.inr ⟨g, h1, h2, (hb.block g (Array.getElem?_eq_some_iff.1 h3).1).trans h3⟩
theorem NumsAt.form {w : World} {b : Nat} {v : Value} {ns : List Int} (h : NumsAt w b v ns) : ∃ p, v = .slice p ns.length ns.length := by
  rcases h with ⟨h1, h2⟩ | ⟨g, h1, _⟩
  · exact ⟨none, by rw [h1, h2]; rfl⟩
  · exact ⟨_, h1⟩
theorem NumsAt.at {w : World} {b : Nat} {p : Option Addr} {n c : Nat} {ns : List Int} (h : NumsAt w b (.slice p n c) ns) (k : Nat) (hk : k < ns.length) : ∃ g, p = some ⟨g, 0, none⟩ ∧ w.cell? ⟨g, k, none⟩ = some (.int .i64 ns[k]) := by
  rcases h with ⟨h1, h2⟩ | ⟨g, h1, _, h3⟩
  · rw [h2] at hk; simp at hk
  · injection h1 with h1
    refine ⟨g, h1, ?_⟩
    rw [Lib.cell_of_heap h3]
    simp [hk]
theorem numsAt_new (w : World) (b : Nat) (ns : List Int) (hb : b < w.heap.size) (cs : Array Value) (hc : cs = (ns.map (Value.int .i64)).toArray) (g n : Nat) (hg : g = w.heap.size) (hn : n = ns.length) : NumsAt (w.alloc (.cells cs 3)) b (.slice (some ⟨g, 0, none⟩) n n) ns := by
  subst hc; subst hg; subst hn
  exact Or.inr ⟨w.heap.size, rfl, by omega, heap_alloc_new w _⟩

def numsL (ns : List Int) : List UInt8 := ns.flatMap fun n => 32 :: Lib.itoa n
theorem numsL_snoc (ns : List Int) (n : Int) : numsL (ns ++ [n]) = numsL ns ++ (32 :: Lib.itoa n) := by simp [numsL]
theorem numsL_len (ns : List Int) (h : ∀ n ∈ ns, InR n) : (numsL ns).length ≤ 21 * ns.length := by
  induction ns with
  | nil => simp [numsL]
  | cons n r ih =>
    have h1 := itoa_len n (h n (by simp))
    have h2 := ih (fun m hm => h m (by simp [hm]))
    unfold numsL at h2 ⊢
    rw [List.flatMap_cons, List.length_append, List.length_cons, List.length_cons]
    omega

theorem WriteS (T : TypeId) (hT : WTag T) (B b : Nat) (l m : List UInt8) (s : ByteArray) (hm : m = l ++ s.data.toList) (w : World) (h : IsW T B b l w) (hlen : l.length ≤ 1000000000) (hs : s.size ≤ 1000000000) (hBw : B ≤ w.heap.size) :
    Calls Tryz.prog 35 #[.pointer (some ⟨b, 0, none⟩), .string s] w fun e w' => e = .returned (.tuple #[.int .i64 s.size, .nilIface]) ∧ IsW T B b m w' ∧ Below B w w' ∧ Lib.OthersKept 5 (some b) w w' := by
  subst hm; exact WriteString_any T hT B b l s w h hlen hs hBw

set_option maxHeartbeats 4000000 in
theorem wline_any (B b : Nat) (l : List UInt8) (word : ByteArray) (v : Value) (ns : List Int) (w : World) (h : IsW 66 B b l w) (hv : NumsAt w b v ns) (hl : l.length ≤ 100000000) (hw : word.size ≤ 100000000) (hn : ns.length ≤ 100) (hI : Hid (∀ n ∈ ns, InR n)) (hB : B ≤ w.heap.size) (HG : Hid (∀ W, Below B w W → Glob W)) :
    Calls Tryz.prog 19 #[.pointer (some ⟨b, 0, none⟩), .string word, v] w fun e w' => e = .returned (.tuple #[]) ∧ IsW 66 B b (l ++ word.data.toList ++ numsL ns ++ [10]) w' ∧ Below B w w' := by
  obtain ⟨p, rfl⟩ := hv.form
  have HW := Lib.hid h
  have HV := Lib.hid hv
  have hwl : word.data.toList.length = word.size := by simp
  have HWL := Lib.hid hwl
  clear h hv hwl
  go_enter Tryz.func19, Tryz.ntmps19
  go_wp2_with fail
  refine (WriteS _ tagW B b l (l ++ word.data.toList) word rfl w HW.out (by omega) (by omega) hB).mono ?_
  rintro e w1 ⟨rfl, h1, hb1, hk1⟩
  have HW1 : Hid (IsW 66 B b (l ++ word.data.toList ++ numsL (ns.take 0)) w1) := by
    unfold Hid; simpa [numsL] using h1
  have HV1 := Lib.hid (HV.out.kept hk1)
  have HB1 := Lib.hid hb1
  clear h1 hb1 hk1
  go_wp2
  go_loopw [15] (fun kk wr => ∃ (k : Nat), k ≤ ns.length ∧ kk = .int .i64 k ∧ Hid (IsW 66 B b (l ++ word.data.toList ++ numsL (ns.take k)) wr ∧ NumsAt wr b (.slice p ns.length ns.length) ns) ∧ Below B w wr) (fun kk _ => ns.length - (intOf kk).toNat)
  case atStart => exact ⟨0, Nat.zero_le _, rfl, ⟨HW1.out, HV1.out⟩, HB1.out⟩
  case round =>
    obtain ⟨k, hk, rfl, HR, hBr⟩ := hrel
    have hBz : B ≤ wr.heap.size := Nat.le_trans hB hBr.size
    have hlen : (l ++ word.data.toList ++ numsL (ns.take k)).length ≤ 200002100 := by
      have h1 := numsL_len (ns.take k) (fun n hn => hI.out n (List.mem_of_mem_take hn))
      rw [List.length_take] at h1
      rw [List.length_append, List.length_append, HWL.out]
      omega
    by_cases hlt : k < ns.length
    · obtain ⟨g, rfl, hcell⟩ := HR.out.2.at k hlt
      have hIn := Lib.hid (hI.out _ (List.getElem_mem hlt))
      have HN : Hid (l ++ word.data.toList ++ numsL (ns.take (k + 1)) = (l ++ word.data.toList ++ numsL (ns.take k)) ++ (ByteArray.mk #[32] ++ strOf (Lib.itoa ns[k])).data.toList) := by
        unfold Hid
        rw [List.take_succ_eq_append_getElem hlt, numsL_snoc]
        have e1 : (ByteArray.mk #[32] ++ strOf (Lib.itoa ns[k])) = strOf ([32] ++ Lib.itoa ns[k]) := str_append [32] _
        rw [e1]
        simp [strOf]
      have hil : (strOf (Lib.itoa ns[k])).size ≤ 20 := itoa_len _ hIn.out
      generalize hm : l ++ word.data.toList ++ numsL (ns.take (k + 1)) = m at *
      have HM := Lib.hid hm
      clear hm
      generalize l ++ word.data.toList ++ numsL (ns.take k) = acc at *
      generalize ns[k] = x at *
      have HC := Lib.hid (Itoa_str x wr.drew (HG.out wr.drew hBr.drew) hIn.out)
      have HRd : Hid (IsW 66 B b acc wr.drew) := HR.out.1.keep ((Below.refl _ _).drew)
      generalize strOf (Lib.itoa x) = X at *
      have HBr := Lib.hid hBr
      go_wp2_with fail
      go_region_with (first | (go_at_call 36; refine HC.out.mono ?_; rintro e w2 ⟨rfl, hb2⟩) | (go_at_call 35; refine (WriteS _ tagW B b acc m (ByteArray.mk #[32] ++ X) HN.out _ (HRd.out.keep hb2) (by omega) (by rw [ByteArray.size_append]; have : (ByteArray.mk #[32]).size = 1 := rfl; omega) (Nat.le_trans hBz hb2.size)).mono ?_; rintro e w3 ⟨rfl, h3, hb3, hk3⟩))
      have HB3 := Lib.hid ((HBr.out.drew.trans (hb2.mono hBz)).trans hb3)
      have HV3 := Lib.hid (((HR.out.2.below ((Below.refl _ _).drew)).below hb2).kept hk3)
      have HW3 := Lib.hid h3
      clear hb2 hb3 hk3 h3 HC
      go_wp2
      go_roundw
      case rel => exact ⟨k + 1, by omega, by go_num, ⟨(by rw [HM.out]; exact HW3.out), HV3.out⟩, HB3.out⟩
      case measure => simp [intOf]; omega
    · obtain rfl : k = ns.length := by omega
      rw [List.take_of_length_le (Nat.le_refl _)] at HR hlen
      have HRW := Lib.hid HR.out.1
      clear HR HW1 HV1
      generalize hm : l ++ word.data.toList ++ numsL ns = acc at *
      have HM := Lib.hid hm
      clear hm
      go_wp2_with fail
      refine (WriteByte_n _ tagW B b acc 10 10 rfl wr HRW.out (by omega) hBz).mono ?_
      rintro e w4 ⟨rfl, h4, hb4⟩
      have HB4 := Lib.hid (hBr.trans hb4)
      have HW4 := Lib.hid h4
      clear h4 hb4
      go_wp2
      go_end0
      exact ⟨rfl, (by rw [HM.out]; exact HW4.out), HB4.out⟩

end Go.Proofs.YtloanidfkefenaaGreatDoor
