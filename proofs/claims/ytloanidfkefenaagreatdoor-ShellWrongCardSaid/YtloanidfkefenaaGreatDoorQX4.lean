/-
  script.read: the command of a line: the memory that it reads into.
-/
import Derived.Test.YtloanidfkefenaaGreatDoorQY1
import Derived.Outline
namespace Go.Proofs.YtloanidfkefenaaGreatDoor
open Go.RowKit Go.Shelf
set_option maxRecDepth 100000
set_option linter.unusedVariables false

/-- The seven numbers, as far as they are read. -/
def gotN (ws : List ByteArray) (k : Nat) : List Int := [nthN ws 0, nthN ws 1, nthN ws 2, nthN ws 3, nthN ws 4, nthN ws 5, nthN ws 6].take k ++ List.replicate (7 - k) 0

theorem grown_setO (w : World) (b o : Nat) (v : Value) : w.grownBy (w.setCell ⟨b, o, none⟩ v) (some b) := {
  os := rfl
  tape := rfl
  output := rfl
  size := by simp [World.setCell]
  block := fun k _ hk => Below.heap_setCell _ _ _ _ (fun e => hk (by rw [e])) }
theorem set_other (w : World) (b o : Nat) (v : Value) (k : Nat) (h : k ≠ b) : (w.setCell ⟨b, o, none⟩ v).heap[k]? = w.heap[k]? := Below.heap_setCell _ _ _ _ h

/-- The memory of script.read while it reads: the result's block z, the reader y, the command's block, 'whole', the pointers. -/
structure RdW (w : World) (z y : Nat) (ws : List ByteArray) (j k : Nat) (wr : World) : Prop where
  rd : ∃ v, Rd wr y (y + 1) v (ws.drop j)
  cmd : ∃ n0 n1 n2 n3 n4 n5 n6, [n0, n1, n2, n3, n4, n5, n6] = gotN ws k ∧
    wr.heap[y + 1]? = some (.cells #[.int .i64 n0, .int .i64 n1, .int .i64 n2, .bool false, .int .i64 n4, .int .i64 n5, .int .i64 n6, .slice none 0 0, .slice none 0 0, .slice none 0 0] 35 (0, 0)) ∧
    wr.heap[y + 1 + 1]? = some (.cells #[.int .i64 n3] 3 (0, 0))
  arr : wr.heap[y + 1 + 1 + 1]? = some (.cells #[.pointer (some ⟨y + 1, 0, none⟩), .pointer (some ⟨y + 1, 1, none⟩), .pointer (some ⟨y + 1, 2, none⟩), .pointer (some ⟨y + 1 + 1, 0, none⟩), .pointer (some ⟨y + 1, 4, none⟩), .pointer (some ⟨y + 1, 5, none⟩), .pointer (some ⟨y + 1, 6, none⟩)] 139 (0, 0))
  res : wr.heap[z]? = some (.cells #[.int .i64 0, .int .i64 0, .int .i64 0, .bool false, .int .i64 0, .int .i64 0, .int .i64 0, .slice none 0 0, .slice none 0 0, .slice none 0 0] 35 (0, 0))
  below : Below z w wr
  size : y + 4 ≤ wr.heap.size
  zy : z < y

theorem RdW.call {w : World} {z y : Nat} {ws : List ByteArray} {k : Nat} {wr w2 : World} (h : RdW w z y ws k k wr) (hp : RdPost wr y (y + 1) (ws.drop k).tail w2) : RdW w z y ws (k + 1) k w2 := {
  rd := by
    obtain ⟨v, hv⟩ := hp.1
    rw [List.tail_drop] at hv
    exact ⟨v, hv⟩
  cmd := by
    obtain ⟨n0, n1, n2, n3, n4, n5, n6, h1, h2, h3⟩ := h.cmd
    have hz := h.size
    exact ⟨n0, n1, n2, n3, n4, n5, n6, h1, (hp.2.block _ (by omega) (by simp)).trans h2, (hp.2.block _ (by omega) (by simp; omega)).trans h3⟩
  arr := (hp.2.block _ (by have := h.size; omega) (by simp; omega)).trans h.arr
  res := (hp.2.block _ (by have := h.size; have := h.zy; omega) (by simp; have := h.zy; omega)).trans h.res
  below := h.below.grown hp.2 (by have := h.size; have := h.zy; omega) (fun k hk => by injection hk with hk; have := h.zy; omega)
  size := Nat.le_trans h.size hp.2.size
  zy := h.zy }

theorem RdW.store {w : World} {z y : Nat} {ws : List ByteArray} {k : Nat} {wr : World} (h : RdW w z y ws (k + 1) k wr) (b o : Nat) (hk : (k, b, o) ∈ [(0, y + 1, 0), (1, y + 1, 1), (2, y + 1, 2), (3, y + 1 + 1, 0), (4, y + 1, 4), (5, y + 1, 5), (6, y + 1, 6)]) :
    RdW w z y ws (k + 1) (k + 1) (wr.setCell ⟨b, o, none⟩ (.int .i64 (nthN ws k))) := by
  have hb : y + 1 ≤ b ∧ b ≤ y + 1 + 1 := by
    simp only [List.mem_cons, Prod.mk.injEq, List.not_mem_nil, or_false] at hk
    omega
  have hzy := h.zy
  refine { rd := ?_, cmd := ?_, arr := ?_, res := ?_, below := ?_, size := ?_, zy := hzy }
  · obtain ⟨v, hv⟩ := h.rd
    exact ⟨v, hv.grown (grown_setO wr b o _) (by omega) (fun g hg => by injection hg with hg; omega)⟩
  · obtain ⟨n0, n1, n2, n3, n4, n5, n6, h1, h2, h3⟩ := h.cmd
    have c1 := fun (o : Nat) (v : Value) => heap_setCell_same wr (y + 1) o _ _ v h2
    have c2 := fun (o : Nat) (v : Value) => heap_setCell_same wr (y + 1 + 1) o _ _ v h3
    simp only [List.mem_cons, Prod.mk.injEq, List.not_mem_nil, or_false] at hk
    rcases hk with ⟨rfl, rfl, rfl⟩ | ⟨rfl, rfl, rfl⟩ | ⟨rfl, rfl, rfl⟩ | ⟨rfl, rfl, rfl⟩ | ⟨rfl, rfl, rfl⟩ | ⟨rfl, rfl, rfl⟩ | ⟨rfl, rfl, rfl⟩
    all_goals simp only [gotN, List.take_succ_cons, List.take_zero, List.replicate, List.cons_append, List.nil_append, List.cons.injEq, Nat.reduceSub, Nat.reduceAdd, List.take_succ_cons, and_true] at h1 ⊢
    · exact ⟨nthN ws 0, n1, n2, n3, n4, n5, n6, by simp_all, c1 0 _, (set_other _ _ _ _ _ (by omega)).trans h3⟩
    · exact ⟨n0, nthN ws 1, n2, n3, n4, n5, n6, by simp_all, c1 1 _, (set_other _ _ _ _ _ (by omega)).trans h3⟩
    · exact ⟨n0, n1, nthN ws 2, n3, n4, n5, n6, by simp_all, c1 2 _, (set_other _ _ _ _ _ (by omega)).trans h3⟩
    · exact ⟨n0, n1, n2, nthN ws 3, n4, n5, n6, by simp_all, (set_other _ _ _ _ _ (by omega)).trans h2, c2 0 _⟩
    · exact ⟨n0, n1, n2, n3, nthN ws 4, n5, n6, by simp_all, c1 4 _, (set_other _ _ _ _ _ (by omega)).trans h3⟩
    · exact ⟨n0, n1, n2, n3, n4, nthN ws 5, n6, by simp_all, c1 5 _, (set_other _ _ _ _ _ (by omega)).trans h3⟩
    · exact ⟨n0, n1, n2, n3, n4, n5, nthN ws 6, by simp_all, c1 6 _, (set_other _ _ _ _ _ (by omega)).trans h3⟩
  · exact (set_other _ _ _ _ _ (by omega)).trans h.arr
  · exact (set_other _ _ _ _ _ (by omega)).trans h.res
  · exact h.below.setCell (p := ⟨b, o, none⟩) (show z ≤ b by omega) _
  · rw [show (wr.setCell ⟨b, o, none⟩ (.int .i64 (nthN ws k))).heap.size = wr.heap.size by simp [World.setCell]]; exact h.size

/-- The cells and marks of it. -/
theorem RdW.cells {w : World} {z y : Nat} {ws : List ByteArray} {j k : Nat} {wr : World} (h : RdW w z y ws j k wr) :
    (∃ n, wr.cell? ⟨y + 1, 0, none⟩ = some (.int .i64 n)) ∧ (∃ n, wr.cell? ⟨y + 1, 1, none⟩ = some (.int .i64 n)) ∧ (∃ n, wr.cell? ⟨y + 1, 2, none⟩ = some (.int .i64 n)) ∧ (∃ n, wr.cell? ⟨y + 1 + 1, 0, none⟩ = some (.int .i64 n)) ∧
    (∃ n, wr.cell? ⟨y + 1, 4, none⟩ = some (.int .i64 n)) ∧ (∃ n, wr.cell? ⟨y + 1, 5, none⟩ = some (.int .i64 n)) ∧ (∃ n, wr.cell? ⟨y + 1, 6, none⟩ = some (.int .i64 n)) ∧
    (∀ o, wr.frozen? ⟨y + 1, o, none⟩ = false) ∧ (∀ o, wr.frozen? ⟨y + 1 + 1, o, none⟩ = false) := by
  obtain ⟨n0, n1, n2, n3, n4, n5, n6, h1, h2, h3⟩ := h.cmd
  refine ⟨⟨n0, ?_⟩, ⟨n1, ?_⟩, ⟨n2, ?_⟩, ⟨n3, ?_⟩, ⟨n4, ?_⟩, ⟨n5, ?_⟩, ⟨n6, ?_⟩, fun o => Lib.frozen_of_heap h2 o, fun o => Lib.frozen_of_heap h3 o⟩
  all_goals (first | (rw [Lib.cell_of_heap h2]; rfl) | (rw [Lib.cell_of_heap h3]; rfl))
theorem RdW.ptrs {w : World} {z y : Nat} {ws : List ByteArray} {j k : Nat} {wr : World} (h : RdW w z y ws j k wr) :
    wr.cell? ⟨y + 1 + 1 + 1, 0, none⟩ = some (.pointer (some ⟨y + 1, 0, none⟩)) ∧ wr.cell? ⟨y + 1 + 1 + 1, 1, none⟩ = some (.pointer (some ⟨y + 1, 1, none⟩)) ∧ wr.cell? ⟨y + 1 + 1 + 1, 2, none⟩ = some (.pointer (some ⟨y + 1, 2, none⟩)) ∧
    wr.cell? ⟨y + 1 + 1 + 1, 3, none⟩ = some (.pointer (some ⟨y + 1 + 1, 0, none⟩)) ∧ wr.cell? ⟨y + 1 + 1 + 1, 4, none⟩ = some (.pointer (some ⟨y + 1, 4, none⟩)) ∧ wr.cell? ⟨y + 1 + 1 + 1, 5, none⟩ = some (.pointer (some ⟨y + 1, 5, none⟩)) ∧
    wr.cell? ⟨y + 1 + 1 + 1, 6, none⟩ = some (.pointer (some ⟨y + 1, 6, none⟩)) := by
  refine ⟨?_, ?_, ?_, ?_, ?_, ?_, ?_⟩ <;> (rw [Lib.cell_of_heap h.arr]; rfl)

end Go.Proofs.YtloanidfkefenaaGreatDoor
