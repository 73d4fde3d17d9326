/- append(x, make([]byte, n)...): zeros behind a row of bytes that the call owns. -/
import Derived.Test.YtloanidfkefenaaGreatDoorB
import Derived.Lib.AppendZerosOnto
import Derived.Laws.IdiomCopy
namespace Go.Proofs.YtloanidfkefenaaGreatDoor
open Go.RowKit
set_option maxRecDepth 100000

def encZ (n : Nat) : List Value := List.replicate n (.int .u8 0)
theorem zeroCells_one (m : Nat) : Builtin.zeroCells (Value.int .u8 0).cells m = (encZ m).toArray := by
  have h := toList_madeCells_one (Value.int .u8 0) m
  have e : Builtin.zeroCells (Value.int .u8 0).cells m = madeCells #[Value.int .u8 0] (m * 1) := by
    unfold Builtin.zeroCells madeCells; rfl
  rw [e, Nat.mul_one]
  apply Array.ext'
  rw [h]; rfl

theorem zcells_far {g : Nat} : ∀ (vs : List Value) (o : Nat) (w : World) (k : Nat), k ≠ g → (w.setCells g o vs).heap[k]? = w.heap[k]?
  | [], _, _, _, _ => rfl
  | v :: vs, o, w, k, h => by
    rw [World.setCells, zcells_far vs (o + 1) _ k h]
    exact Below.heap_setCell _ _ _ _ h
theorem zcells_same {g : Nat} : ∀ (vs : List Value) (o : Nat) (w : World), (w.setCells g o vs).os = w.os ∧ (w.setCells g o vs).tape = w.tape ∧ (w.setCells g o vs).output = w.output ∧ (w.setCells g o vs).heap.size = w.heap.size
  | [], _, _ => ⟨rfl, rfl, rfl, rfl⟩
  | v :: vs, o, w => by
    obtain ⟨h1, h2, h3, h4⟩ := zcells_same (g := g) vs (o + 1) (w.setCell ⟨g, o, none⟩ v)
    rw [World.setCells]
    exact ⟨h1, h2, h3, by rw [h4]; simp [World.setCell]⟩
theorem zcells_row {g : Nat} {e : TypeId} : ∀ (vs : List Value) (o : Nat) (w : World) (cur : Array Value), w.heap[g]? = some (.cells cur e (0, 0)) → o + vs.length ≤ cur.size →
    ∃ cur', (w.setCells g o vs).heap[g]? = some (.cells cur' e (0, 0)) ∧ cur'.size = cur.size ∧ cur'.toList.take (o + vs.length) = cur.toList.take o ++ vs
  | [], o, w, cur, h, _ => ⟨cur, h, rfl, by simp⟩
  | v :: vs, o, w, cur, h, hl => by
    simp only [List.length_cons] at hl
    have h1 : (w.setCell ⟨g, o, none⟩ v).heap[g]? = some (.cells (cur.setIfInBounds o v) e (0, 0)) := heap_setCell_same w g o cur e v h
    obtain ⟨cur', h2, h3, h4⟩ := zcells_row vs (o + 1) _ _ h1 (by simp; omega)
    refine ⟨cur', by rw [World.setCells]; exact h2, by rw [h3]; simp, ?_⟩
    rw [List.length_cons, show o + (vs.length + 1) = o + 1 + vs.length by omega, h4]
    have hlt : o < cur.toList.length := by simp; omega
    rw [Array.toList_setIfInBounds, List.take_succ_eq_append_getElem (by simpa using hlt)]
    simp [List.take_set_of_le]

theorem run_append_zeros {P : Program} (w : World) (B t tn ty e : TypeId) (i : TypeInfo) {kn : IntKind} (ht : P.underlying t = some (.slice e)) (htn : P.underlying tn = some (.int kn)) (hi : P.info? e = some i) (hz : i.zero = some (.int .u8 0)) (hs : i.size = 1) (hb : i.bytes = 1)
    (v : Value) (n : Nat) (xs : List Value) (hown : w.ownsRow B e 1 v n xs) (m : Nat) (h0 : 0 < m) (hm : n + m ≤ 1000000000000) (hB : B ≤ w.heap.size) :
    ∃ v' w', (Builtin.append_ #[t, tn] ty #[v, .int .i64 m]).run P w = .ok v' w' ∧ w'.ownsRow B e 1 v' (n + m) (xs ++ encZ m) ∧ w.grownBy w' v.ownBlock := by
  have hlen : (xs ++ encZ m).length = (n + m) * 1 := by rw [List.length_append, hown.1]; simp [encZ]
  have grows : ∀ (A : Option Addr) (cap : Nat), cap < n + m → (Builtin.firstCells i.size n (.slice A n cap)).run P w.drew = .ok xs.toArray w.drew →
      ∃ v' w', (Builtin.append_ #[t, tn] ty #[.slice A n cap, .int .i64 m]).run P w = .ok v' w' ∧ w'.ownsRow B e 1 v' (n + m) (xs ++ encZ m) ∧ (∀ row, w.grownBy w' row) := by
    intro A cap hcap hfc
    have hr := Lib.run_append_grow_zeros (P := P) w t tn ty e i (.int .u8 0) .i64 kn ht htn hi hz A n cap xs hfc m h0 (by omega) hcap (by omega) (by rw [hb]; omega) (growslice_fits hcap (by rw [hb]; omega))
    have hge := grownCap_ge w (n + m) cap e
    have hcm := grownCap_le_maxLen w (n + m) cap e (by unfold maxLen; omega)
    refine ⟨_, _, hr, ⟨hlen, .inr ⟨w.heap.size, _, _, rfl, hB, heap_alloc_new w.drew _, hge, hcm, ?_, ?_⟩⟩, fun row => ⟨rfl, rfl, rfl, by simp, fun k hk _ => Below.heap_alloc w.drew _ k hk⟩⟩
    · rw [zeroCells_one, zeroCells_one]
      simp only [Array.size_append, List.size_toArray, encZ, List.length_replicate]
      have := hown.1
      omega
    · rw [zeroCells_one, zeroCells_one]
      simp only [Array.toList_append, List.append_assoc]
      rw [← List.append_assoc, ← hlen]
      exact List.take_left
  rcases hown.2 with ⟨rfl, rfl⟩ | ⟨g, cap, cur, rfl, hg0, hg, hnc, hcm, hcs, htake⟩
  · have hx : xs = [] := List.eq_nil_of_length_eq_zero (by simpa using hown.1)
    subst hx
    obtain ⟨v', w', h1, h2, h3⟩ := grows none 0 (by omega) (by simp [Builtin.firstCells])
    exact ⟨v', w', h1, h2, h3 _⟩
  · by_cases hroom : n + m ≤ cap
    · obtain ⟨cur', h3, h4, h5⟩ := zcells_row (encZ m) n w cur hg (by simp [encZ]; omega)
      obtain ⟨s1, s2, s3, s4⟩ := zcells_same (g := g) (encZ m) n w
      have hst := run_storeCells_cells (P := P) g n (encZ m) 0 w (fun j hj => by
        rw [cell_of_row w g _ cur e (0, 0) hg]
        simp [encZ] at hj
        simp; omega) (fun j _ => by rw [frozen_of_row w g _ cur e hg]) (fun u hu => by rw [List.eq_of_mem_replicate hu]; rfl)
      refine ⟨.slice (some ⟨g, 0, none⟩) (n + m) cap, w.setCells g n (encZ m), ?_, ⟨hlen, .inr ⟨g, cap, cur', rfl, hg0, h3, hroom, hcm, by rw [h4, hcs], ?_⟩⟩, ⟨s1, s2, s3, by rw [s4]; exact Nat.le_refl _, fun k _ hk => zcells_far _ _ _ k (fun e => hk (by simp [Value.ownBlock, e]))⟩⟩
      · simp only [Nat.add_zero] at hst
        have hw : IntKind.i64.wrap (m : Int) = m := by rw [IntKind.wrap_i64]; omega
        have hneg : ¬ ((m : Int) < 0) := by omega
        have hbig : ¬ (281474976710656 < (m : Int) * (i.bytes : Int)) := by rw [hb]; omega
        have hmz : ¬ m = 0 := by omega
        have hz1 : Builtin.zeroCells #[Value.int .u8 0] m = (encZ m).toArray := zeroCells_one m
        have hz2 : (Value.int IntKind.u8 0).cells = #[Value.int .u8 0] := rfl
        have hadd : (⟨g, 0, none⟩ : Addr).add n = ⟨g, n, none⟩ := by unfold Addr.add; split <;> simp_all
        simp [Builtin.append_, run_underlying ht, run_underlying htn, sizeOf, typeInfo, zeroValue, hi, hz, hs, asInt, asIntOf, hw, hneg, hbig, hroom, hmz, hz1, hz2, hadd, hst]
      · have h6 : cur.toList.take n = xs := by simpa using htake
        have : (encZ m).length = m := by simp [encZ]
        rw [this, h6] at h5
        simpa using h5
    · have hc : ∀ j u, xs[j]? = some u → w.cell? ((⟨g, 0, none⟩ : Addr).add j) = some u := hown.cells (g := g) rfl
      obtain ⟨v', w', h1, h2, h3⟩ := grows (some ⟨g, 0, none⟩) cap (by omega) (run_firstCells_some (P := P) w.drew i.size n _ n cap xs (by rw [hs]; exact hown.1) (by simpa using hc))
      exact ⟨v', w', h1, h2, h3 _⟩

end Go.Proofs.YtloanidfkefenaaGreatDoor
