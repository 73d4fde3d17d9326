/-
  script.read: the command of a line.
-/
import Derived.Test.YtloanidfkefenaaGreatDoorQX4
namespace Go.Proofs.YtloanidfkefenaaGreatDoor
open Go.RowKit Go.Shelf
set_option maxRecDepth 100000
set_option linter.unusedVariables false

/-- The same, behind the numbers. -/
structure CmdW (w : World) (z y : Nat) (rest : List ByteArray) (cs : Array Value) (wr : World) : Prop where
  rd : ∃ v, Rd wr y (y + 1) v rest
  cmd : wr.heap[y + 1]? = some (.cells cs 35 (0, 0))
  res : wr.heap[z]? = some (.cells #[.int .i64 0, .int .i64 0, .int .i64 0, .bool false, .int .i64 0, .int .i64 0, .int .i64 0, .slice none 0 0, .slice none 0 0, .slice none 0 0] 35 (0, 0))
  below : Below z w wr
  size : y + 4 ≤ wr.heap.size
  zy : z < y
theorem CmdW.call {w : World} {z y : Nat} {r r2 : List ByteArray} {cs : Array Value} {wr w2 : World} (h : CmdW w z y r cs wr) (hp : RdPost wr y (y + 1) r2 w2) : CmdW w z y r2 cs w2 := {
  rd := hp.1
  cmd := (hp.2.block _ (by have := h.size; omega) (by simp)).trans h.cmd
  res := (hp.2.block _ (by have := h.size; have := h.zy; omega) (by simp; have := h.zy; omega)).trans h.res
  below := h.below.grown hp.2 (by have := h.size; have := h.zy; omega) (fun k hk => by injection hk with hk; have := h.zy; omega)
  size := Nat.le_trans h.size hp.2.size
  zy := h.zy }
theorem CmdW.set {w : World} {z y : Nat} {r : List ByteArray} {cs : Array Value} {wr : World} (h : CmdW w z y r cs wr) (o : Nat) (v : Value) : CmdW w z y r (cs.setIfInBounds o v) (wr.setCell ⟨y + 1, o, none⟩ v) := {
  rd := by
    obtain ⟨v, hv⟩ := h.rd
    exact ⟨v, hv.grown (grown_setO wr (y + 1) o _) (by omega) (fun g hg => by injection hg with hg; omega)⟩
  cmd := heap_setCell_same wr (y + 1) o _ _ v h.cmd
  res := (set_other _ _ _ _ _ (by have := h.zy; omega)).trans h.res
  below := h.below.setCell (p := ⟨y + 1, o, none⟩) (show z ≤ y + 1 by have := h.zy; omega) _
  size := by rw [show (wr.setCell ⟨y + 1, o, none⟩ v).heap.size = wr.heap.size by simp [World.setCell]]; exact h.size
  zy := h.zy }
theorem CmdW.cell {w : World} {z y : Nat} {r : List ByteArray} {cs : Array Value} {wr : World} (h : CmdW w z y r cs wr) (o : Nat) : wr.cell? ⟨y + 1, o, none⟩ = cs[o]? := by rw [Lib.cell_of_heap h.cmd]
theorem CmdW.free {w : World} {z y : Nat} {r : List ByteArray} {cs : Array Value} {wr : World} (h : CmdW w z y r cs wr) (o : Nat) : wr.frozen? ⟨y + 1, o, none⟩ = false := Lib.frozen_of_heap h.cmd o
theorem RdW.done {w : World} {z y : Nat} {ws : List ByteArray} {wr : World} (h : RdW w z y ws 7 7 wr) :
    CmdW w z y (ws.drop 7) #[.int .i64 (nthN ws 0), .int .i64 (nthN ws 1), .int .i64 (nthN ws 2), .bool false, .int .i64 (nthN ws 4), .int .i64 (nthN ws 5), .int .i64 (nthN ws 6), .slice none 0 0, .slice none 0 0, .slice none 0 0] wr ∧ wr.cell? ⟨y + 1 + 1, 0, none⟩ = some (.int .i64 (nthN ws 3)) := by
  obtain ⟨n0, n1, n2, n3, n4, n5, n6, h1, h2, h3⟩ := h.cmd
  simp only [gotN, List.take_succ_cons, List.take_zero, List.replicate, List.append_nil, List.cons.injEq, Nat.sub_self, and_true] at h1
  obtain ⟨rfl, rfl, rfl, rfl, rfl, rfl, rfl⟩ := h1
  exact ⟨{ rd := h.rd, cmd := h2, res := h.res, below := h.below, size := h.size, zy := h.zy }, by rw [Lib.cell_of_heap h3]; rfl⟩

theorem rdW_start (w w1 : World) (z : Nat) (hz : z = w.heap.size) (ws : List ByteArray) (b : Nat) (hsl : elStr.sl w1 (.slice (some ⟨b, 0, none⟩) ws.length ws.length) ws) (hbl : b < w1.heap.size)
    (hb1 : Below (w.alloc (.cells #[.int .i64 0, .int .i64 0, .int .i64 0, .bool false, .int .i64 0, .int .i64 0, .int .i64 0, .slice none 0 0, .slice none 0 0, .slice none 0 0] 35)).heap.size (w.alloc (.cells #[.int .i64 0, .int .i64 0, .int .i64 0, .bool false, .int .i64 0, .int .i64 0, .int .i64 0, .slice none 0 0, .slice none 0 0, .slice none 0 0] 35)) w1) :
    RdW w z w1.heap.size ws 0 0 ((((w1.alloc (.cells #[.slice (some ⟨b, 0, none⟩) ws.length ws.length] 137)).alloc (.cells #[.int .i64 0, .int .i64 0, .int .i64 0, .bool false, .int .i64 0, .int .i64 0, .int .i64 0, .slice none 0 0, .slice none 0 0, .slice none 0 0] 35)).alloc (.cells #[.int .i64 0] 3)).alloc
      (.cells #[.pointer (some ⟨w1.heap.size + 1, 0, none⟩), .pointer (some ⟨w1.heap.size + 1, 1, none⟩), .pointer (some ⟨w1.heap.size + 1, 2, none⟩), .pointer (some ⟨w1.heap.size + 1 + 1, 0, none⟩), .pointer (some ⟨w1.heap.size + 1, 4, none⟩), .pointer (some ⟨w1.heap.size + 1, 5, none⟩), .pointer (some ⟨w1.heap.size + 1, 6, none⟩)] 139)) := by
  subst hz
  have hsz := hb1.size
  simp only [World.size_alloc] at hsz
  have a1 := fun (W : World) (o : Obj) => heap_alloc_new W o
  have a2 := fun (W : World) (o : Obj) (k : Nat) (hk : k < W.heap.size) => heap_alloc_old W o hk
  refine { rd := ⟨.slice (some ⟨b, 0, none⟩) ws.length ws.length, ?_, ?_, ?_⟩, cmd := ⟨0, 0, 0, 0, 0, 0, 0, rfl, ?_, ?_⟩, arr := ?_, res := ?_, below := ?_, size := by simp, zy := by omega }
  · rw [a2 _ _ _ (by simp only [World.size_alloc]; omega), a2 _ _ _ (by simp only [World.size_alloc]; omega), a2 _ _ _ (by simp only [World.size_alloc]; omega)]; exact a1 _ _
  · have h1 := El.sl_below ((Below.refl _ _).alloc (Nat.le_refl _) (.cells #[.slice (some ⟨b, 0, none⟩) ws.length ws.length] 137)) hsl
    have h2 := El.sl_below ((Below.refl _ _).alloc (Nat.le_refl _) (.cells #[.int .i64 0, .int .i64 0, .int .i64 0, .bool false, .int .i64 0, .int .i64 0, .int .i64 0, .slice none 0 0, .slice none 0 0, .slice none 0 0] 35)) h1
    have h3 := El.sl_below ((Below.refl _ _).alloc (Nat.le_refl _) (.cells #[.int .i64 0] 3)) h2
    exact El.sl_below ((Below.refl _ _).alloc (Nat.le_refl _) _) h3
  · intro a n c e
    injection e with e
    injection e with e
    rw [← e]
    show b < w1.heap.size + 1
    omega
  · rw [a2 _ _ _ (by simp only [World.size_alloc]; omega), a2 _ _ _ (by simp only [World.size_alloc]; omega)]
    exact (congrArg (_[·]?) (by simp)).trans (a1 _ _)
  · rw [a2 _ _ _ (by simp only [World.size_alloc]; omega)]
    exact (congrArg (_[·]?) (by simp)).trans (a1 _ _)
  · exact (congrArg (_[·]?) (by simp)).trans (a1 _ _)
  · rw [a2 _ _ _ (by simp; omega), a2 _ _ _ (by simp; omega), a2 _ _ _ (by simp; omega), a2 _ _ _ (by omega), hb1.block _ (by simp)]
    exact a1 _ _
  · have hb := ((Below.refl w.heap.size w).alloc (Nat.le_refl _) _).trans (hb1.mono (by simp))
    exact (((hb.alloc (by omega) _).alloc (by simp; omega) _).alloc (by simp; omega) _).alloc (by simp; omega) _

theorem CmdW.under {w : World} {z y : Nat} {r : List ByteArray} {cs : Array Value} {wr w2 : World} (h : CmdW w z y r cs wr) (hb : Below wr.heap.size wr w2) : CmdW w z y r cs w2 := {
  rd := by
    obtain ⟨v, hv⟩ := h.rd
    exact ⟨v, hv.below hb⟩
  cmd := (hb.block _ (by have := h.size; omega)).trans h.cmd
  res := (hb.block _ (by have := h.size; have := h.zy; omega)).trans h.res
  below := h.below.trans (hb.mono (by have := h.size; have := h.zy; omega))
  size := Nat.le_trans h.size hb.size
  zy := h.zy }
theorem CmdW.glob {w : World} {y : Nat} {r : List ByteArray} {cs : Array Value} {wr : World} (h : CmdW w w.heap.size y r cs wr) (HG : Hid (∀ W, Below w.heap.size w W → Glob W)) : Hid (∀ W, wr.grownBy W (some y) → Glob W) :=
  fun W hW => HG.out W (h.below.grown hW (by have := h.size; have := h.zy; omega) (fun k hk => by injection hk with hk; have := h.zy; omega))
/-- The two calls of things[int], at the reader. -/
theorem CmdW.nums {w : World} {y : Nat} {r : List ByteArray} {cs : Array Value} {wr : World} (h : CmdW w w.heap.size y r cs wr) (HG : Hid (∀ W, Below w.heap.size w W → Glob W)) (hl : r.length ≤ 1000000) (hs : WsOk r) :
    Calls Tryz.prog 68 #[.pointer (some ⟨y, 0, none⟩), .func (.func 67) #[.pointer (some ⟨y, 0, none⟩)] #[]] wr fun e w2 => ∃ p c B, e = .returned (.slice p ((takeS r).map numS).length c) ∧ y + 4 ≤ B ∧ elInt.own w2 B (.slice p ((takeS r).map numS).length c) ((takeS r).map numS) ∧ CmdW w w.heap.size y (restS r) cs w2 ∧ wr.grownBy w2 (some y) := by
  obtain ⟨v, hv⟩ := h.rd
  refine (thingsI_any y (y + 1) r v wr hv (by have := h.size; omega) (by omega) hl hs (h.glob HG)).mono ?_
  rintro e w2 ⟨v2, rfl, ho, hr⟩
  obtain ⟨p, c, rfl, _⟩ := El.sl_form (El.sl_of_own ho (by rw [List.length_map]; unfold takeS; rw [List.length_take, List.length_tail]; omega))
  exact ⟨p, c, _, rfl, h.size, ho, h.call hr, hr.2⟩
theorem CmdW.bts {w : World} {y : Nat} {r : List ByteArray} {cs : Array Value} {wr : World} (h : CmdW w w.heap.size y r cs wr) (HG : Hid (∀ W, Below w.heap.size w W → Glob W)) (hl : r.length ≤ 1000000) (hs : WsOk r) :
    Calls Tryz.prog 69 #[.pointer (some ⟨y, 0, none⟩), .func (.func 70) #[] #[.pointer (some ⟨y, 0, none⟩)]] wr fun e w2 => ∃ p n c B svs, e = .returned (.slice p n c) ∧ y + 4 ≤ B ∧ n = svs.length ∧ svs.length ≤ 1000000 ∧ elBts.own w2 B (.slice p n c) svs ∧ BtsO w2 B svs ((takeS r).map unS) ∧ CmdW w w.heap.size y (restS r) cs w2 ∧ wr.grownBy w2 (some y) := by
  obtain ⟨v, hv⟩ := h.rd
  refine (thingsB_any y (y + 1) r v wr hv (by have := h.size; omega) (by omega) hl hs (h.glob HG)).mono ?_
  rintro e w2 ⟨v2, svs, rfl, ho, hbo, hr⟩
  have hlen : svs.length ≤ 1000000 := by
    rw [hbo.1, List.length_map]; unfold takeS; rw [List.length_take, List.length_tail]; omega
  obtain ⟨p, c, rfl, _⟩ := El.sl_form (El.sl_of_own ho (by omega))
  exact ⟨p, _, c, _, svs, rfl, h.size, rfl, hlen, ho, hbo, h.call hr, hr.2⟩
theorem restS_len (ws : List ByteArray) : (restS ws).length ≤ ws.length := by
  unfold restS; rw [List.length_drop, List.length_tail]; omega
theorem WsOk.rest {ws : List ByteArray} (h : WsOk ws) : WsOk (restS ws) := h.tail.drop _

theorem CmdW.ten {w : World} {z y : Nat} {r : List ByteArray} {a0 a1 a2 a3 a4 a5 a6 a7 a8 a9 : Value} {wr : World} (h : CmdW w z y r #[a0, a1, a2, a3, a4, a5, a6, a7, a8, a9] wr) :
    wr.cell? ⟨y + 1, 0, none⟩ = some a0 ∧ wr.cell? ⟨y + 1, 1, none⟩ = some a1 ∧ wr.cell? ⟨y + 1, 2, none⟩ = some a2 ∧ wr.cell? ⟨y + 1, 3, none⟩ = some a3 ∧ wr.cell? ⟨y + 1, 4, none⟩ = some a4 ∧ wr.cell? ⟨y + 1, 5, none⟩ = some a5 ∧ wr.cell? ⟨y + 1, 6, none⟩ = some a6 ∧ wr.cell? ⟨y + 1, 7, none⟩ = some a7 ∧ wr.cell? ⟨y + 1, 8, none⟩ = some a8 ∧ wr.cell? ⟨y + 1, 9, none⟩ = some a9 :=
  ⟨(h.cell 0).trans rfl, (h.cell 1).trans rfl, (h.cell 2).trans rfl, (h.cell 3).trans rfl, (h.cell 4).trans rfl, (h.cell 5).trans rfl, (h.cell 6).trans rfl, (h.cell 7).trans rfl, (h.cell 8).trans rfl, (h.cell 9).trans rfl⟩
theorem CmdW.out10 {w : World} {z y : Nat} {r : List ByteArray} {cs : Array Value} {wr : World} (h : CmdW w z y r cs wr) :
    wr.cell? ⟨z, 0, none⟩ = some (.int .i64 0) ∧ wr.cell? ⟨z, 1, none⟩ = some (.int .i64 0) ∧ wr.cell? ⟨z, 2, none⟩ = some (.int .i64 0) ∧ wr.cell? ⟨z, 3, none⟩ = some (.bool false) ∧ wr.cell? ⟨z, 4, none⟩ = some (.int .i64 0) ∧ wr.cell? ⟨z, 5, none⟩ = some (.int .i64 0) ∧ wr.cell? ⟨z, 6, none⟩ = some (.int .i64 0) ∧ wr.cell? ⟨z, 7, none⟩ = some (.slice none 0 0) ∧ wr.cell? ⟨z, 8, none⟩ = some (.slice none 0 0) ∧ wr.cell? ⟨z, 9, none⟩ = some (.slice none 0 0) := by
  refine ⟨?_, ?_, ?_, ?_, ?_, ?_, ?_, ?_, ?_, ?_⟩ <;> (rw [Lib.cell_of_heap h.res]; rfl)
theorem CmdW.outF {w : World} {z y : Nat} {r : List ByteArray} {cs : Array Value} {wr : World} (h : CmdW w z y r cs wr) (o : Nat) : wr.frozen? ⟨z, o, none⟩ = false := Lib.frozen_of_heap h.res o
/-- What the call leaves in its result's block. -/
theorem CmdW.finish {w : World} {y : Nat} {r : List ByteArray} {cs : Array Value} {wr : World} (h : CmdW w w.heap.size y r cs wr) : Below w.heap.size w wr := h.below

theorem ten_below {w wr : World} {z : Nat} (hb : Below z w wr) (a0 a1 a2 a3 a4 a5 a6 a7 a8 a9 : Value) : Below z w ((((((((((wr.setCell ⟨z, 0, none⟩ a0).setCell ⟨z, 1, none⟩ a1).setCell ⟨z, 2, none⟩ a2).setCell ⟨z, 3, none⟩ a3).setCell ⟨z, 4, none⟩ a4).setCell ⟨z, 5, none⟩ a5).setCell ⟨z, 6, none⟩ a6).setCell ⟨z, 7, none⟩ a7).setCell ⟨z, 8, none⟩ a8).setCell ⟨z, 9, none⟩ a9) := ((((((((((hb.setCell (p := ⟨z, 0, none⟩) (Nat.le_refl _) a0).setCell (p := ⟨z, 1, none⟩) (Nat.le_refl _) a1).setCell (p := ⟨z, 2, none⟩) (Nat.le_refl _) a2).setCell (p := ⟨z, 3, none⟩) (Nat.le_refl _) a3).setCell (p := ⟨z, 4, none⟩) (Nat.le_refl _) a4).setCell (p := ⟨z, 5, none⟩) (Nat.le_refl _) a5).setCell (p := ⟨z, 6, none⟩) (Nat.le_refl _) a6).setCell (p := ⟨z, 7, none⟩) (Nat.le_refl _) a7).setCell (p := ⟨z, 8, none⟩) (Nat.le_refl _) a8).setCell (p := ⟨z, 9, none⟩) (Nat.le_refl _) a9)
theorem ten_grown (wr : World) (z : Nat) (a0 a1 a2 a3 a4 a5 a6 a7 a8 a9 : Value) : wr.grownBy ((((((((((wr.setCell ⟨z, 0, none⟩ a0).setCell ⟨z, 1, none⟩ a1).setCell ⟨z, 2, none⟩ a2).setCell ⟨z, 3, none⟩ a3).setCell ⟨z, 4, none⟩ a4).setCell ⟨z, 5, none⟩ a5).setCell ⟨z, 6, none⟩ a6).setCell ⟨z, 7, none⟩ a7).setCell ⟨z, 8, none⟩ a8).setCell ⟨z, 9, none⟩ a9) (some z) := grown_trans (grown_trans (grown_trans (grown_trans (grown_trans (grown_trans (grown_trans (grown_trans (grown_trans (grown_setO wr z 0 a0) (grown_setO _ z 1 a1)) (grown_setO _ z 2 a2)) (grown_setO _ z 3 a3)) (grown_setO _ z 4 a4)) (grown_setO _ z 5 a5)) (grown_setO _ z 6 a6)) (grown_setO _ z 7 a7)) (grown_setO _ z 8 a8)) (grown_setO _ z 9 a9)

def zeroCmd : Value := .agg #[.int .i64 0, .int .i64 0, .int .i64 0, .bool false, .int .i64 0, .int .i64 0, .int .i64 0, .slice none 0 0, .slice none 0 0, .slice none 0 0]
def ReadR (w : World) (ws : List ByteArray) (ok : Bool) (e : Ending) (w' : World) : Prop := ∃ v, e = .returned (.tuple #[v, .bool ok]) ∧ (ok = true → CmdR w' v (rdS ws)) ∧ (ok = false → v = zeroCmd) ∧ Below w.heap.size w w'

set_option maxHeartbeats 4000000 in
theorem read_any (s : ByteArray) (w : World) (hs : s.size ≤ 100000) (HG : Hid (∀ W, Below w.heap.size w W → Glob W)) :
    Calls Tryz.prog 34 #[.string s] w (ReadR w (strs 32 s.data.toList) (lineB (splitL 32 s.data.toList))) := by
  have HT := Lib.hid (read_test s hs)
  have HF := Lib.hid (rdS_fit s hs)
  have HS : Hid (∀ W, Below w.heap.size w W → Calls Tryz.prog 66 #[.string s, .string ⟨#[32]⟩] W (SlPost W (strs 32 s.data.toList))) := fun W hW => Split_any s 32 W (HG.out W hW) (by omega)
  obtain ⟨hok1, hok2⟩ := strs_ok s hs
  have HK := Lib.hid hok1
  clear hok1
  generalize hws : strs 32 s.data.toList = ws at *
  go_enter Tryz.func34, Tryz.ntmps34
  go_wp2_with fail
  refine (HS.out _ ((Below.refl _ _).alloc (Nat.le_refl _) _)).mono ?_
  rintro e w1 ⟨b, rfl, hsl, hb1⟩
  have hz1 := hb1.size
  simp only [World.size_alloc] at hz1
  have h0 : 0 < ws.length := by
    rw [← hws, strs_map, List.length_map]
    exact List.length_pos_iff.2 (splitL_ne _ _)
  have hbl : b < w1.heap.size := by
    obtain ⟨b', o', e', h'⟩ := El.sl_at hsl 0 h0
    injection e' with e'; injection e' with e1 e2
    subst e1
    exact World.block_lt_of_cell? _ _ (h' _ (List.getElem?_eq_getElem h0))
  have HW0 := Lib.hid (rdW_start w w1 w.heap.size rfl ws b hsl hbl hb1)
  clear hb1 hsl HS hbl h0
  have HWS := Lib.hid hws
  clear hws
  go_wp2
  generalize w1.heap.size = y at *
  go_loopw [19] (fun kk wr => ∃ k : Nat, k ≤ 7 ∧ kk = .int .i64 k ∧ Hid (RdW w w.heap.size y ws k k wr)) (fun kk _ => 7 - (intOf kk).toNat)
  case atStart => exact ⟨0, Nat.zero_le _, rfl, HW0⟩
  case round =>
    obtain ⟨k, hk, rfl, HR⟩ := hrel
    have hsz := HR.out.size
    by_cases hlt : k < 7
    · obtain ⟨v, hv⟩ := HR.out.rd
      have HC := Lib.hid (number_any y (y + 1) (ws.drop k) v wr hv (by rw [List.length_drop]; omega) (HK.out.drop k).hd (fun W hW => HG.out W (HR.out.below.grown hW (by have := HR.out.zy; omega) (fun g hg => by injection hg with hg; have := HR.out.zy; omega))))
      have HN : Hid (numP (hdW (ws.drop k)).data.toList = nthN ws k) := rfl
      rw [HN.out] at HC
      have HM : Hid (∀ W2, RdPost wr y (y + 1) (ws.drop k).tail W2 → RdW w w.heap.size y ws (k + 1) k W2) := fun W2 h2 => HR.out.call h2
      clear hv HN
      obtain ⟨a0, a1, a2, a3, a4, a5, a6⟩ := HR.out.ptrs
      rcases (show k = 0 ∨ k = 1 ∨ k = 2 ∨ k = 3 ∨ k = 4 ∨ k = 5 ∨ k = 6 by omega) with rfl | rfl | rfl | rfl | rfl | rfl | rfl
      all_goals
        go_wp2_with fail
        refine HC.out.mono ?_
        rintro e w2 ⟨rfl, h2⟩
        have HW2 := Lib.hid (HM.out _ h2)
        obtain ⟨⟨m0, c0⟩, ⟨m1, c1⟩, ⟨m2, c2⟩, ⟨m3, c3⟩, ⟨m4, c4⟩, ⟨m5, c5⟩, ⟨m6, c6⟩, f1, f2⟩ := HW2.out.cells
        have g0 := f1 0
        have g1 := f1 1
        have g2 := f1 2
        have g3 := f2 0
        have g4 := f1 4
        have g5 := f1 5
        have g6 := f1 6
        clear h2 HC HM f1 f2
        go_wp2
        go_roundw
        case rel => exact ⟨_, (by omega), (by go_num), HW2.out.store _ _ (by simp)⟩
        case measure => simp [intOf]
    · obtain rfl : k = 7 := by omega
      obtain ⟨hcw, hc3⟩ := HR.out.done
      have hc0 : wr.cell? ⟨y + 1, 3, none⟩ = some (.bool false) := hcw.cell 3
      have hf0 := hcw.free 3
      have HC0 := Lib.hid hcw
      have HB3 : Hid ((nthN ws 3 == 1) = decide (nthN ws 3 = 1)) := rfl
      generalize hbw : (nthN ws 3 == 1) = bw at *
      clear hcw HR
      have HC1 := Lib.hid (HC0.out.set 3 (.bool bw))
      have hl7 : (ws.drop 7).length ≤ 1000000 := by rw [List.length_drop]; omega
      have CA := Lib.hid (HC1.out.nums HG hl7 (HK.out.drop 7))
      have hlr1 := restS_len (ws.drop 7)
      have hlr2 := restS_len (restS (ws.drop 7))
      go_wp2_with fail
      clear hc0 hf0 HC0
      generalize wr.setCell ⟨y + 1, 3, none⟩ (.bool bw) = wA at *
      refine CA.out.mono ?_
      rintro e w2 ⟨p2, c2, B2, rfl, hB2, ho2, hcw2, _⟩
      have HO2 := Lib.hid ho2
      have HC2 := Lib.hid hcw2
      have hc2 : w2.cell? ⟨y + 1, 7, none⟩ = some (.slice none 0 0) := (hcw2.cell 7).trans rfl
      have hf2 := hcw2.free 7
      clear CA HC1 ho2 hcw2
      generalize hF : (takeS (ws.drop 7)).map numS = F at *
      have HF1 := Lib.hid hF
      clear hF
      generalize F.length = nF at *
      have HC3 := Lib.hid (HC2.out.set 7 (.slice p2 nF c2))
      have HO3 := Lib.hid (own_grown HO2.out (grown_setO w2 (y + 1) 7 (.slice p2 nF c2)) (by omega))
      have CB := Lib.hid (HC3.out.nums HG (by omega) (HK.out.drop 7).rest)
      go_wp2_with fail
      clear hc2 hf2 HC2 HO2
      generalize w2.setCell ⟨y + 1, 7, none⟩ (.slice p2 nF c2) = wB at *
      refine CB.out.mono ?_
      rintro e w4 ⟨p4, c4, B4, rfl, hB4, ho4, hcw4, hg4⟩
      have HO4 := Lib.hid ho4
      have HC4 := Lib.hid hcw4
      have HP4 := Lib.hid (own_grown HO3.out hg4 (by omega))
      have hc4 : w4.cell? ⟨y + 1, 8, none⟩ = some (.slice none 0 0) := (hcw4.cell 8).trans rfl
      have hf4 := hcw4.free 8
      clear CB HC3 ho4 hcw4 hg4 HO3
      generalize hG : (takeS (restS (ws.drop 7))).map numS = G at *
      have HG1 := Lib.hid hG
      clear hG
      generalize G.length = nG at *
      have HC5 := Lib.hid (HC4.out.set 8 (.slice p4 nG c4))
      have HO5 := Lib.hid (own_grown HO4.out (grown_setO w4 (y + 1) 8 (.slice p4 nG c4)) (by omega))
      have HP5 := Lib.hid (own_grown HP4.out (grown_setO w4 (y + 1) 8 (.slice p4 nG c4)) (by omega))
      have CC := Lib.hid (HC5.out.bts HG (by omega) (HK.out.drop 7).rest.rest)
      go_wp2_with fail
      clear hc4 hf4 HC4 HO4 HP4
      generalize w4.setCell ⟨y + 1, 8, none⟩ (.slice p4 nG c4) = wC at *
      refine CC.out.mono ?_
      rintro e w6 ⟨p6, n6, c6, B6, svs, rfl, hB6, hn6, hsv, ho6, hbo6, hcw6, hg6⟩
      have HO6 := Lib.hid ho6
      have HBO6 := Lib.hid hbo6
      have HC6 := Lib.hid hcw6
      have HP6 := Lib.hid (own_grown HP5.out hg6 (by omega))
      have HQ6 := Lib.hid (own_grown HO5.out hg6 (by omega))
      have hc6 : w6.cell? ⟨y + 1, 9, none⟩ = some (.slice none 0 0) := (hcw6.cell 9).trans rfl
      have hf6 := hcw6.free 9
      clear CC HC5 ho6 hbo6 hcw6 hg6 HO5 HP5 hn6
      have HC7 := Lib.hid (HC6.out.set 9 (.slice p6 n6 c6))
      have HO7 := Lib.hid (own_grown HO6.out (grown_setO w6 (y + 1) 9 (.slice p6 n6 c6)) (by omega))
      have HBO7 := Lib.hid (HBO6.out.rd (grown_setO w6 (y + 1) 9 (.slice p6 n6 c6)) (by omega))
      have HP7 := Lib.hid (own_grown HP6.out (grown_setO w6 (y + 1) 9 (.slice p6 n6 c6)) (by omega))
      have HQ7 := Lib.hid (own_grown HQ6.out (grown_setO w6 (y + 1) 9 (.slice p6 n6 c6)) (by omega))
      have HC8 : Hid (CmdW w w.heap.size y (restS (restS (restS (ws.drop 7)))) #[.int .i64 (nthN ws 0), .int .i64 (nthN ws 1), .int .i64 (nthN ws 2), .bool bw, .int .i64 (nthN ws 4), .int .i64 (nthN ws 5), .int .i64 (nthN ws 6), .slice p2 nF c2, .slice p4 nG c4, .slice p6 n6 c6] (w6.setCell ⟨y + 1, 9, none⟩ (.slice p6 n6 c6))) := HC7.out
      obtain ⟨k0, k1, k2, k3, k4, k5, k6, k7, k8, k9⟩ := HC8.out.ten
      clear HC7 HC6 HO6 HBO6 HP6 HQ6
      generalize hX : (takeS (restS (restS (ws.drop 7)))).map unS = X at *
      have HX1 := Lib.hid hX
      clear hX
      have HR8 : Hid (CmdR (w6.setCell ⟨y + 1, 9, none⟩ (.slice p6 n6 c6)) (.agg #[.int .i64 (nthN ws 0), .int .i64 (nthN ws 1), .int .i64 (nthN ws 2), .bool bw, .int .i64 (nthN ws 4), .int .i64 (nthN ws 5), .int .i64 (nthN ws 6), .slice p2 nF c2, .slice p4 nG c4, .slice p6 n6 c6]) (rdS ws)) := by
        refine ⟨.slice p2 nF c2, .slice p4 nG c4, .slice p6 n6 c6, ?_, ?_, ?_, ?_⟩
        · rw [HB3.out]; rfl
        · show elInt.sl _ _ ((takeS (ws.drop 7)).map numS)
          rw [HF1.out]
          exact El.sl_of_own HP7.out (by rw [← HF1.out, List.length_map]; unfold takeS; rw [List.length_take, List.length_tail]; omega)
        · show elInt.sl _ _ ((takeS (restS (ws.drop 7))).map numS)
          rw [HG1.out]
          exact El.sl_of_own HQ7.out (by rw [← HG1.out, List.length_map]; unfold takeS; rw [List.length_take, List.length_tail]; omega)
        · show BtsS _ _ ((takeS (restS (restS (ws.drop 7)))).map unS)
          rw [HX1.out]
          exact HBO7.out.toS HO7.out (by omega)
      have HZ := Lib.hid HC8.out.size
      go_wp2_with fail
      clear k0 k1 k2 k3 k4 k5 k6 k7 k8 k9 hc6 hf6
      generalize w6.setCell ⟨y + 1, 9, none⟩ (.slice p6 n6 c6) = wD at *
      refine (line_any _ (rdS ws) wD HR8.out (HWS.out ▸ HF.out) (fun W hW => HG.out W (HC8.out.below.trans (hW.mono (by have := HC8.out.size; have := HC8.out.zy; omega))))).mono ?_
      rintro e w8 ⟨rfl, hb8⟩
      have HC9 := Lib.hid (HC8.out.under hb8)
      have HP9 := Lib.hid (El.own_below HP7.out hb8)
      have HQ9 := Lib.hid (El.own_below HQ7.out hb8)
      have HO9 := Lib.hid (El.own_below HO7.out hb8)
      have HBO9 := Lib.hid (HBO7.out.below hb8)
      clear HP7 HQ7 HO7 HBO7 HR8
      obtain ⟨k0, k1, k2, k3, k4, k5, k6, k7, k8, k9⟩ := HC9.out.ten
      obtain ⟨q0, q1, q2, q3, q4, q5, q6, q7, q8, q9⟩ := HC9.out.out10
      have qf0 := HC9.out.outF 0
      have qf1 := HC9.out.outF 1
      have qf2 := HC9.out.outF 2
      have qf3 := HC9.out.outF 3
      have qf4 := HC9.out.outF 4
      have qf5 := HC9.out.outF 5
      have qf6 := HC9.out.outF 6
      have qf7 := HC9.out.outF 7
      have qf8 := HC9.out.outF 8
      have qf9 := HC9.out.outF 9
      clear hb8 HC8
      go_wp2
      · rename_i htest
        have hno : lineB (splitL 32 s.data.toList) = false := by
          cases hb : lineB (splitL 32 s.data.toList) with
          | false => rfl
          | true =>
            have h1 := HT.out.2 hb
            rw [h1] at htest
            simp at htest
        have HE := Lib.hid hno
        have HBz := Lib.hid (ten_below HC9.out.below (.int .i64 0) (.int .i64 0) (.int .i64 0) (.bool false) (.int .i64 0) (.int .i64 0) (.int .i64 0) (.slice none 0 0) (.slice none 0 0) (.slice none 0 0))
        clear hno htest
        refine bodyPost_ret (v := .tuple #[.agg #[.int .i64 0, .int .i64 0, .int .i64 0, .bool false, .int .i64 0, .int .i64 0, .int .i64 0, .slice none 0 0, .slice none 0 0, .slice none 0 0], .bool false]) (by simp [results, Tryz.results34, go_sem, q0, q1, q2, q3, q4, q5, q6, q7, q8, q9]) rfl ?_
        rw [HE.out]
        exact ⟨_, rfl, fun h => (by cases h), fun _ => rfl, HBz.out⟩
      · rename_i htest
        have hyes : lineB (splitL 32 s.data.toList) = true := by
          refine HT.out.1 ?_
          rw [Bool.not_eq_false', Lib.toList_data, Lib.toList_data] at htest
          exact ByteArray.ext (Array.ext' (eq_of_beq htest))
        have HE := Lib.hid hyes
        have HBz := Lib.hid (ten_below HC9.out.below (.int .i64 (nthN ws 0)) (.int .i64 (nthN ws 1)) (.int .i64 (nthN ws 2)) (.bool bw) (.int .i64 (nthN ws 4)) (.int .i64 (nthN ws 5)) (.int .i64 (nthN ws 6)) (.slice p2 nF c2) (.slice p4 nG c4) (.slice p6 n6 c6))
        have HGz := Lib.hid (ten_grown w8 w.heap.size (.int .i64 (nthN ws 0)) (.int .i64 (nthN ws 1)) (.int .i64 (nthN ws 2)) (.bool bw) (.int .i64 (nthN ws 4)) (.int .i64 (nthN ws 5)) (.int .i64 (nthN ws 6)) (.slice p2 nF c2) (.slice p4 nG c4) (.slice p6 n6 c6))
        clear hyes htest
        refine bodyPost_ret (v := .tuple #[.agg #[.int .i64 (nthN ws 0), .int .i64 (nthN ws 1), .int .i64 (nthN ws 2), .bool bw, .int .i64 (nthN ws 4), .int .i64 (nthN ws 5), .int .i64 (nthN ws 6), .slice p2 nF c2, .slice p4 nG c4, .slice p6 n6 c6], .bool true]) (by simp [results, Tryz.results34, go_sem, q0, q1, q2, q3, q4, q5, q6, q7, q8, q9]) rfl ?_
        rw [HE.out]
        refine ⟨_, rfl, fun _ => ?_, fun h => (by cases h), HBz.out⟩
        have hzy := HC9.out.zy
        refine ⟨.slice p2 nF c2, .slice p4 nG c4, .slice p6 n6 c6, ?_, ?_, ?_, ?_⟩
        · rw [HB3.out]; rfl
        · show elInt.sl _ _ ((takeS (ws.drop 7)).map numS)
          rw [HF1.out]
          exact El.sl_of_own (own_grown HP9.out HGz.out (by omega)) (by rw [← HF1.out, List.length_map]; unfold takeS; rw [List.length_take, List.length_tail]; omega)
        · show elInt.sl _ _ ((takeS (restS (ws.drop 7))).map numS)
          rw [HG1.out]
          exact El.sl_of_own (own_grown HQ9.out HGz.out (by omega)) (by rw [← HG1.out, List.length_map]; unfold takeS; rw [List.length_take, List.length_tail]; omega)
        · show BtsS _ _ ((takeS (restS (restS (ws.drop 7)))).map unS)
          rw [HX1.out]
          exact (HBO9.out.rd HGz.out (by omega)).toS (own_grown HO9.out HGz.out (by omega)) (by omega)

end Go.Proofs.YtloanidfkefenaaGreatDoor
