/-
  bindleref24.ReadLine: the memory that it reads into.
-/
import Derived.Test.YtloanidfkefenaaGreatDoorQXA
import Derived.Test.YtloanidfkefenaaGreatDoorQY4
namespace Go.Proofs.YtloanidfkefenaaGreatDoor
open Go.RowKit Go.Shelf
set_option maxRecDepth 100000
set_option linter.unusedVariables false

/-- Words as lists. -/
def lw (ws : List ByteArray) : List (List UInt8) := ws.map fun s => s.data.toList
theorem lw_len (ws : List ByteArray) : (lw ws).length = ws.length := List.length_map ..
theorem lw_at (ws : List ByteArray) (k : Nat) (h : k < ws.length) (h' : k < (lw ws).length) : (lw ws)[k] = ws[k].data.toList := List.getElem_map ..
theorem lw_strs (l : List UInt8) : lw (strs 32 l) = splitL 32 l := by
  unfold lw strs
  rw [List.map_map]
  conv => rhs; rw [← List.map_id (splitL 32 l)]
  exact List.map_congr_left fun x _ => rfl
def nV (ws : List ByteArray) (k : Nat) : Int := numV (ws.getD k ⟨#[]⟩).data.toList
theorem nV_at (ws : List ByteArray) (k : Nat) (h : k < ws.length) : nV ws k = numV ws[k].data.toList := by
  unfold nV; simp [List.getD, h]

theorem Number_yes (s : ByteArray) (w : World) (hm : s.size ≤ 1000000) (h : numB s.data.toList = true) : Calls Tryz.prog 40 #[.string s] w fun e w' => e = .returned (.tuple #[.int .i64 (numV s.data.toList), .bool true]) ∧ w = w' :=
  (Number_any s w hm).mono fun e w' ⟨h1, h2⟩ => ⟨by rw [h1, h]; rfl, h2⟩
theorem Number_no (s : ByteArray) (w : World) (hm : s.size ≤ 1000000) (h : numB s.data.toList = false) : Calls Tryz.prog 40 #[.string s] w fun e w' => e = .returned (.tuple #[.int .i64 0, .bool false]) ∧ w = w' :=
  (Number_any s w hm).mono fun e w' ⟨h1, h2⟩ => ⟨by rw [h1, h]; rfl, h2⟩
theorem Number_if (s : ByteArray) (w : World) (hm : s.size ≤ 1000000) : Calls Tryz.prog 40 #[.string s] w fun e w' => (∃ n : Int, e = .returned (.tuple #[.int .i64 n, .bool (numB s.data.toList)])) ∧ w = w' :=
  (Number_any s w hm).mono fun e w' ⟨h1, h2⟩ => ⟨⟨_, h1⟩, h2⟩
theorem bytes_if (s : ByteArray) (w : World) (hm : s.size ≤ 1000000) : Calls Tryz.prog 42 #[.string s] w fun e w' => (∃ p n c, e = .returned (.tuple #[.slice p n c, .bool (hexB s.data.toList)])) ∧ Below w.heap.size w w' :=
  (bytes_any s w hm).mono fun e w' ⟨v, h1, h2, h3⟩ => by
    obtain ⟨p, c, rfl, _⟩ := h2.form
    exact ⟨⟨p, _, c, h1⟩, h3⟩

theorem count_yes (ws : List ByteArray) (p : Option Addr) (c k : Nat) (w : World) (hv : elStr.sl w (.slice p ws.length c) ws) (hc : ws.length ≤ c) (hl : ws.length ≤ 1000000) (hk : k < ws.length) (hs : ws[k].size ≤ 1000000) (n : Nat) (hb : numB ws[k].data.toList = true) (hn : numV ws[k].data.toList = (n : Int)) (hle : n ≤ ws.length - k - 1) :
    Calls Tryz.prog 41 #[.slice p ws.length c, .int .i64 k] w fun e w' => e = .returned (.tuple #[.int .i64 n, .bool true]) ∧ w = w' :=
  (count_in ws p c k w hv hc hl hk hs).mono fun e w' ⟨h1, h2⟩ => ⟨by
    have e1 : cntB ws[k].data.toList (ws.length - k - 1) = true := by
      unfold cntB
      rw [hb, hn, decide_eq_true (by omega), decide_eq_true (by omega)]; rfl
    rw [h1, e1, hb, hn]; rfl, h2⟩
theorem count_no (ws : List ByteArray) (p : Option Addr) (c k : Nat) (w : World) (hv : elStr.sl w (.slice p ws.length c) ws) (hc : ws.length ≤ c) (hl : ws.length ≤ 1000000) (hk : k < ws.length) (hs : ws[k].size ≤ 1000000) (hb : cntB ws[k].data.toList (ws.length - k - 1) = false) :
    Calls Tryz.prog 41 #[.slice p ws.length c, .int .i64 k] w fun e w' => (∃ n : Int, e = .returned (.tuple #[.int .i64 n, .bool false])) ∧ w = w' :=
  (count_in ws p c k w hv hc hl hk hs).mono fun e w' ⟨h1, h2⟩ => ⟨⟨if numB ws[k].data.toList = true then numV ws[k].data.toList else 0, by rw [h1, hb]⟩, h2⟩

def zero10 : Array Value := #[.int .i64 0, .int .i64 0, .int .i64 0, .bool false, .int .i64 0, .int .i64 0, .int .i64 0, .slice none 0 0, .slice none 0 0, .slice none 0 0]
/-- The result's block, and what stands. -/
structure RlB (w w1 : World) (z y : Nat) (wr : World) : Prop where
  res : wr.heap[z]? = some (.cells #[.int .i64 0, .int .i64 0, .int .i64 0, .bool false, .int .i64 0, .int .i64 0, .int .i64 0, .slice none 0 0, .slice none 0 0, .slice none 0 0] 35 (0, 0))
  below : Below y w1 wr
  belowz : Below z w wr
  size : y < wr.heap.size
  zy : z < y
theorem RlB.cells {w w1 : World} {z y : Nat} {wr : World} (h : RlB w w1 z y wr) :
    wr.cell? ⟨z, 0, none⟩ = some (.int .i64 0) ∧ wr.cell? ⟨z, 1, none⟩ = some (.int .i64 0) ∧ wr.cell? ⟨z, 2, none⟩ = some (.int .i64 0) ∧ wr.cell? ⟨z, 3, none⟩ = some (.bool false) ∧ wr.cell? ⟨z, 4, none⟩ = some (.int .i64 0) ∧ wr.cell? ⟨z, 5, none⟩ = some (.int .i64 0) ∧ wr.cell? ⟨z, 6, none⟩ = some (.int .i64 0) ∧ wr.cell? ⟨z, 7, none⟩ = some (.slice none 0 0) ∧ wr.cell? ⟨z, 8, none⟩ = some (.slice none 0 0) ∧ wr.cell? ⟨z, 9, none⟩ = some (.slice none 0 0) := by
  refine ⟨?_, ?_, ?_, ?_, ?_, ?_, ?_, ?_, ?_, ?_⟩ <;> (rw [Lib.cell_of_heap h.res]; rfl)
theorem RlB.free {w w1 : World} {z y : Nat} {wr : World} (h : RlB w w1 z y wr) : wr.frozen? ⟨z, 0, none⟩ = false ∧ wr.frozen? ⟨z, 1, none⟩ = false ∧ wr.frozen? ⟨z, 2, none⟩ = false ∧ wr.frozen? ⟨z, 3, none⟩ = false ∧ wr.frozen? ⟨z, 4, none⟩ = false ∧ wr.frozen? ⟨z, 5, none⟩ = false ∧ wr.frozen? ⟨z, 6, none⟩ = false ∧ wr.frozen? ⟨z, 7, none⟩ = false ∧ wr.frozen? ⟨z, 8, none⟩ = false ∧ wr.frozen? ⟨z, 9, none⟩ = false :=
  ⟨Lib.frozen_of_heap h.res 0, Lib.frozen_of_heap h.res 1, Lib.frozen_of_heap h.res 2, Lib.frozen_of_heap h.res 3, Lib.frozen_of_heap h.res 4, Lib.frozen_of_heap h.res 5, Lib.frozen_of_heap h.res 6, Lib.frozen_of_heap h.res 7, Lib.frozen_of_heap h.res 8, Lib.frozen_of_heap h.res 9⟩
theorem RlB.under {w w1 : World} {z y : Nat} {wr w2 : World} (h : RlB w w1 z y wr) (hb : Below wr.heap.size wr w2) : RlB w w1 z y w2 := {
  res := (hb.block _ (by have := h.size; have := h.zy; omega)).trans h.res
  below := h.below.trans (hb.mono (by have := h.size; omega))
  belowz := h.belowz.trans (hb.mono (by have := h.size; have := h.zy; omega))
  size := Nat.lt_of_lt_of_le h.size hb.size
  zy := h.zy }
theorem RlB.grown {w w1 : World} {z y : Nat} {wr w2 : World} (h : RlB w w1 z y wr) {row : Option Nat} (hg : wr.grownBy w2 row) (hrow : ∀ k, row = some k → y ≤ k) : RlB w w1 z y w2 := {
  res := (hg.block _ (by have := h.size; have := h.zy; omega) (fun e => by have := hrow z e.symm; have := h.zy; omega)).trans h.res
  below := h.below.grown hg (by have := h.size; omega) hrow
  belowz := h.belowz.grown hg (by have := h.size; have := h.zy; omega) (fun k hk => by have := hrow k hk; have := h.zy; omega)
  size := Nat.lt_of_lt_of_le h.size hg.size
  zy := h.zy }

/-- The array of the seven numbers. -/
structure RlA (w w1 : World) (z y : Nat) (ws : List ByteArray) (k : Nat) (wr : World) : Prop extends RlB w w1 z y wr where
  arr : ∃ cs : Array Value, wr.heap[y]? = some (.cells cs 88 (0, 0)) ∧ cs.size = 7 ∧ (∀ j, j < 7 → ∃ n, cs[j]? = some (.int .i64 n)) ∧ ∀ j, j < k → cs[j]? = some (.int .i64 (nV ws j))
  good : ∀ j (h : j < ws.length), j < k → numB ws[j].data.toList = true
  last : wr.heap.size = y + 1
theorem RlA.cell {w w1 : World} {z y : Nat} {ws : List ByteArray} {k : Nat} {wr : World} (h : RlA w w1 z y ws k wr) (j : Nat) (hj : j < 7) : (∃ n, wr.cell? ⟨y, j, none⟩ = some (.int .i64 n)) ∧ wr.frozen? ⟨y, j, none⟩ = false := by
  obtain ⟨cs, h1, h2, h3, h4⟩ := h.arr
  obtain ⟨n, hn⟩ := h3 j hj
  exact ⟨⟨n, by rw [Lib.cell_of_heap h1]; exact hn⟩, Lib.frozen_of_heap h1 j⟩
theorem RlA.num {w w1 : World} {z y : Nat} {ws : List ByteArray} {k : Nat} {wr : World} (h : RlA w w1 z y ws k wr) (j : Nat) (hj : j < k) : wr.cell? ⟨y, j, none⟩ = some (.int .i64 (nV ws j)) := by
  obtain ⟨cs, h1, h2, h3, h4⟩ := h.arr
  rw [Lib.cell_of_heap h1]; exact h4 j hj
theorem RlA.store {w w1 : World} {z y : Nat} {ws : List ByteArray} {k : Nat} {wr : World} (h : RlA w w1 z y ws k wr) (hk : k < 7) (hl : k < ws.length) (hb : numB ws[k].data.toList = true) (n : Int) (hn : n = nV ws k) : RlA w w1 z y ws (k + 1) (wr.setCell ⟨y, k, none⟩ (.int .i64 n)) := {
  toRlB := h.toRlB.grown (grown_setO wr y k _) (fun g hg => by injection hg with hg; omega)
  arr := by
    subst hn
    obtain ⟨cs, h1, h2, h3, h4⟩ := h.arr
    refine ⟨cs.setIfInBounds k (.int .i64 (nV ws k)), heap_setCell_same wr y k _ _ _ h1, by simp [h2], fun j hj => ?_, fun j hj => ?_⟩
    · by_cases e : k = j
      · subst e; exact ⟨nV ws k, by rw [Array.getElem?_setIfInBounds]; simp [h2, hk]⟩
      · obtain ⟨m, hm⟩ := h3 j hj
        exact ⟨m, by rw [Array.getElem?_setIfInBounds_ne e]; exact hm⟩
    · by_cases e : k = j
      · subst e; rw [Array.getElem?_setIfInBounds]; simp [h2, hk]
      · rw [Array.getElem?_setIfInBounds_ne e]; exact h4 j (by omega)
  good := fun j hj hjk => by
    by_cases e : j = k
    · subst e; exact hb
    · exact h.good j hj (by omega)
  last := by rw [show (wr.setCell ⟨y, k, none⟩ (.int .i64 n)).heap.size = wr.heap.size by simp [World.setCell]]; exact h.last }
theorem rlA_start (w w1 : World) (z : Nat) (hz : z = w.heap.size) (ws : List ByteArray) (hb1 : Below (w.alloc (.cells #[.int .i64 0, .int .i64 0, .int .i64 0, .bool false, .int .i64 0, .int .i64 0, .int .i64 0, .slice none 0 0, .slice none 0 0, .slice none 0 0] 35)).heap.size (w.alloc (.cells #[.int .i64 0, .int .i64 0, .int .i64 0, .bool false, .int .i64 0, .int .i64 0, .int .i64 0, .slice none 0 0, .slice none 0 0, .slice none 0 0] 35)) w1) :
    RlA w w1 z w1.heap.size ws 0 (w1.alloc (.cells #[.int .i64 0, .int .i64 0, .int .i64 0, .int .i64 0, .int .i64 0, .int .i64 0, .int .i64 0] 88)) := by
  subst hz
  have hsz := hb1.size
  simp only [World.size_alloc] at hsz
  refine { res := ?_, below := (Below.refl _ _).alloc (Nat.le_refl _) _, belowz := ?_, size := by simp, zy := by omega, arr := ?_, good := fun j _ h => absurd h (by omega), last := by simp }
  · rw [heap_alloc_old _ _ (by omega), hb1.block _ (by simp)]
    exact heap_alloc_new _ _
  · exact (((Below.refl w.heap.size w).alloc (Nat.le_refl _) _).trans (hb1.mono (by simp))).alloc (by omega) _
  · refine ⟨_, heap_alloc_new _ _, rfl, fun j hj => ⟨0, ?_⟩, fun j hj => absurd hj (by omega)⟩
    match j, hj with
    | 0, _ => rfl
    | 1, _ => rfl
    | 2, _ => rfl
    | 3, _ => rfl
    | 4, _ => rfl
    | 5, _ => rfl
    | 6, _ => rfl

/-- The command's block. -/
structure RlC (w w1 : World) (z y yc : Nat) (cs : Array Value) (wr : World) : Prop extends RlB w w1 z y wr where
  cmd : wr.heap[yc]? = some (.cells cs 35 (0, 0))
  yz : y < yc
  cz : yc < wr.heap.size
theorem RlC.under {w w1 : World} {z y yc : Nat} {cs : Array Value} {wr w2 : World} (h : RlC w w1 z y yc cs wr) (hb : Below wr.heap.size wr w2) : RlC w w1 z y yc cs w2 := {
  toRlB := h.toRlB.under hb
  cmd := (hb.block _ h.cz).trans h.cmd
  yz := h.yz
  cz := Nat.lt_of_lt_of_le h.cz hb.size }
theorem RlC.set {w w1 : World} {z y yc : Nat} {cs : Array Value} {wr : World} (h : RlC w w1 z y yc cs wr) (o : Nat) (v : Value) : RlC w w1 z y yc (cs.setIfInBounds o v) (wr.setCell ⟨yc, o, none⟩ v) := {
  toRlB := h.toRlB.grown (grown_setO wr yc o v) (fun k hk => by injection hk with hk; have := h.yz; omega)
  cmd := heap_setCell_same wr yc o _ _ v h.cmd
  yz := h.yz
  cz := by rw [show (wr.setCell ⟨yc, o, none⟩ v).heap.size = wr.heap.size by simp [World.setCell]]; exact h.cz }
theorem RlC.grown {w w1 : World} {z y yc : Nat} {cs : Array Value} {wr w2 : World} (h : RlC w w1 z y yc cs wr) {row : Option Nat} (hg : wr.grownBy w2 row) (hrow : ∀ k, row = some k → yc < k) : RlC w w1 z y yc cs w2 := {
  toRlB := h.toRlB.grown hg (fun k hk => by have := hrow k hk; have := h.yz; omega)
  cmd := (hg.block _ h.cz (fun e => by have := hrow yc e.symm; omega)).trans h.cmd
  yz := h.yz
  cz := Nat.lt_of_lt_of_le h.cz hg.size }
theorem RlC.cell {w w1 : World} {z y yc : Nat} {cs : Array Value} {wr : World} (h : RlC w w1 z y yc cs wr) (o : Nat) : wr.cell? ⟨yc, o, none⟩ = cs[o]? := by rw [Lib.cell_of_heap h.cmd]
theorem RlC.freeC {w w1 : World} {z y yc : Nat} {cs : Array Value} {wr : World} (h : RlC w w1 z y yc cs wr) (o : Nat) : wr.frozen? ⟨yc, o, none⟩ = false := Lib.frozen_of_heap h.cmd o
theorem RlA.toC {w w1 : World} {z y : Nat} {ws : List ByteArray} {k : Nat} {wr : World} (h : RlA w w1 z y ws k wr) (cs : Array Value) : RlC w w1 z y wr.heap.size cs (wr.alloc (.cells cs 35)) := {
  toRlB := h.toRlB.under ((Below.refl _ _).alloc (Nat.le_refl _) _)
  cmd := heap_alloc_new _ _
  yz := h.size
  cz := by simp }

theorem RlC.ten {w w1 : World} {z y yc : Nat} {a0 a1 a2 a3 a4 a5 a6 a7 a8 a9 : Value} {wr : World} (h : RlC w w1 z y yc #[a0, a1, a2, a3, a4, a5, a6, a7, a8, a9] wr) :
    wr.cell? ⟨yc, 0, none⟩ = some a0 ∧ wr.cell? ⟨yc, 1, none⟩ = some a1 ∧ wr.cell? ⟨yc, 2, none⟩ = some a2 ∧ wr.cell? ⟨yc, 3, none⟩ = some a3 ∧ wr.cell? ⟨yc, 4, none⟩ = some a4 ∧ wr.cell? ⟨yc, 5, none⟩ = some a5 ∧ wr.cell? ⟨yc, 6, none⟩ = some a6 ∧ wr.cell? ⟨yc, 7, none⟩ = some a7 ∧ wr.cell? ⟨yc, 8, none⟩ = some a8 ∧ wr.cell? ⟨yc, 9, none⟩ = some a9 :=
  ⟨(h.cell 0).trans rfl, (h.cell 1).trans rfl, (h.cell 2).trans rfl, (h.cell 3).trans rfl, (h.cell 4).trans rfl, (h.cell 5).trans rfl, (h.cell 6).trans rfl, (h.cell 7).trans rfl, (h.cell 8).trans rfl, (h.cell 9).trans rfl⟩
theorem cnt_parts {x : List UInt8} {m : Nat} (h : cntB x m = true) : ∃ n : Nat, numB x = true ∧ numV x = (n : Int) ∧ n ≤ m := by
  unfold cntB at h
  simp only [Bool.and_eq_true, decide_eq_true_eq] at h
  exact ⟨(numV x).toNat, h.1.1, by omega, by omega⟩

/-- What is handed back: a command's value, and a bool. -/
def RlR (w : World) (b : Bool) (e : Ending) (w' : World) : Prop := ∃ (a0 a1 a2 : Int) (b3 : Bool) (a4 a5 a6 : Int) (F0 F1 F2 : SlV), e = .returned (.tuple #[.agg #[.int .i64 a0, .int .i64 a1, .int .i64 a2, .bool b3, .int .i64 a4, .int .i64 a5, .int .i64 a6, .slice F0.p F0.n F0.c, .slice F1.p F1.n F1.c, .slice F2.p F2.n F2.c], .bool b]) ∧ Below w.heap.size w w'
theorem RlR.no {w wr : World} {b : Bool} (hb : b = false) (h : Below w.heap.size w wr) : RlR w b (.returned (.tuple #[.agg #[.int .i64 0, .int .i64 0, .int .i64 0, .bool false, .int .i64 0, .int .i64 0, .int .i64 0, .slice none 0 0, .slice none 0 0, .slice none 0 0], .bool false]))
    ((((((((((wr.setCell ⟨w.heap.size, 0, none⟩ (.int .i64 0)).setCell ⟨w.heap.size, 1, none⟩ (.int .i64 0)).setCell ⟨w.heap.size, 2, none⟩ (.int .i64 0)).setCell ⟨w.heap.size, 3, none⟩ (.bool false)).setCell ⟨w.heap.size, 4, none⟩ (.int .i64 0)).setCell ⟨w.heap.size, 5, none⟩ (.int .i64 0)).setCell ⟨w.heap.size, 6, none⟩ (.int .i64 0)).setCell ⟨w.heap.size, 7, none⟩ (.slice none 0 0)).setCell ⟨w.heap.size, 8, none⟩ (.slice none 0 0)).setCell ⟨w.heap.size, 9, none⟩ (.slice none 0 0)) := by
  subst hb
  exact ⟨0, 0, 0, false, 0, 0, 0, ⟨none, 0, 0⟩, ⟨none, 0, 0⟩, ⟨none, 0, 0⟩, rfl, ten_below h _ _ _ _ _ _ _ _ _ _⟩

end Go.Proofs.YtloanidfkefenaaGreatDoor
