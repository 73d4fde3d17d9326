/- Appends to a row of bytes that the call owns: as steps of a walk. -/
import Derived.Test.YtloanidfkefenaaGreatDoorZ
namespace Go.Proofs.YtloanidfkefenaaGreatDoor
open Go.RowKit
set_option maxRecDepth 100000

def encB (b : UInt8) : Value := .int .u8 b.toNat
/-- A row of bytes of the call's own, behind block number B. -/
def Own (w : World) (B : Nat) (v : Value) (l : List UInt8) : Prop := w.ownsRow B 5 1 v l.length (l.map encB)
theorem tinfo5 : (Tryz.prog.info? 5).map (fun i => (i.zero, i.size, i.bytes)) = some (some (.int .u8 0), 1, 1) := by kernel_rfl
theorem zaddr (b o j : Nat) : (⟨b, o, none⟩ : Addr).add j = ⟨b, o + j, none⟩ := by unfold Addr.add; split <;> simp_all

theorem zload (w : World) (A : Addr) : (loadCells A 0).run Tryz.prog w = .ok #[] w := by
  have := run_loadCells_list (P := Tryz.prog) w A [] (fun j v h => by simp at h)
  simpa using this
theorem bts_of_own {w : World} {base e : Nat} {v : Value} {n : Nat} {l : List UInt8} (h : w.ownsRow base e 1 v n (l.map encB)) : Bts w v l := by
  have hn : l.length = n := by simpa using h.1
  subst hn
  rcases h.2 with ⟨rfl, h0⟩ | ⟨g, cap, cur, rfl, _, _, h1, h2, _⟩
  · have : l = [] := List.length_eq_zero_iff.1 h0
    subst this
    exact ⟨none, 0, rfl, Nat.le_refl _, by omega, fun hp => absurd hp (by simp)⟩
  · refine ⟨_, _, rfl, h1, by simpa [maxLen] using h2, fun hp => ⟨g, 0, rfl, fun i hi => ?_⟩⟩
    rw [Nat.zero_add, h.cellAt i (by omega), List.getElem?_map, List.getElem?_eq_getElem hi]
    simp [encB, List.getD, hi]
theorem Own.bts {w : World} {B : Nat} {v : Value} {l : List UInt8} (h : Own w B v l) : Bts w v l := bts_of_own h

theorem run_append_bts (w : World) (B ty : Nat) (v x : Value) (a l : List UInt8) (hown : Own w B v a) (hx : Bts w x l) (hm : a.length + l.length ≤ 1000000000000) (hB : B ≤ w.heap.size) :
    ∃ v' w', (Builtin.append_ #[38, 38] ty #[v, x]).run Tryz.prog w = .ok v' w' ∧ Own w' B v' (a ++ l) ∧ w.grownBy w' v.ownBlock := by
  obtain ⟨i0, hi, hz0, hz1, hz2⟩ := info_parts tinfo5
  obtain ⟨p, c, rfl, hc, hcm, hr⟩ := hx
  by_cases h0 : 0 < l.length
  · obtain ⟨b, o, rfl, hcell⟩ := hr h0
    obtain ⟨v', w', h1, h2, h3, _⟩ := run_append_own (P := Tryz.prog) w B 38 ty 5 i0 (.int .u8 0) 1 1 Tryz.underlying38 hi hz0 hz1 hz2 rfl (by omega) v a.length (a.map encB) hown ⟨b, o, none⟩ l.length c (l.map encB) (by simp) (by
      intro j u hj
      rw [zaddr]
      rw [List.getElem?_map] at hj
      cases hh : l[j]? with
      | none => rw [hh] at hj; cases hj
      | some y =>
        rw [hh] at hj
        injection hj with hj
        have hlt := (List.getElem?_eq_some_iff.1 hh).1
        rw [hcell j hlt, ← hj]
        simp [encB, List.getD, hh]) (fun u hu => by obtain ⟨y, _, rfl⟩ := List.mem_map.1 hu; rfl) (by unfold maxLen; omega) (by omega) hB
    exact ⟨v', w', h1, by unfold Own; rw [List.length_append, List.map_append]; exact h2, h3⟩
  · have hl : l = [] := List.length_eq_zero_iff.1 (by omega)
    subst hl
    refine ⟨v, w, ?_, by rw [List.append_nil]; exact hown, World.grownBy.refl _ _⟩
    rcases hown.2 with ⟨rfl, hn⟩ | ⟨g, cap, cur, rfl, _, _, hnc, _⟩
    · simp [Builtin.append_, run_underlying Tryz.underlying38, sizeOf, typeInfo, hi, Builtin.lenOf, Builtin.firstCells]
      cases p with
      | none => simp
      | some A => simp [zload w A]
    · simp [Builtin.append_, run_underlying Tryz.underlying38, sizeOf, typeInfo, hi, Builtin.lenOf, Builtin.firstCells, hnc, storeCells]
      cases p with
      | none => simp [storeCells]
      | some A => simp [zload w A, storeCells]

theorem run_append_z (w : World) (B ty : Nat) (v : Value) (a : List UInt8) (hown : Own w B v a) (m : Nat) (hm : a.length + m ≤ 1000000000000) (hB : B ≤ w.heap.size) :
    ∃ v' w', (Builtin.append_ #[38, 3] ty #[v, .int .i64 m]).run Tryz.prog w = .ok v' w' ∧ Own w' B v' (a ++ List.replicate m 0) ∧ w.grownBy w' v.ownBlock := by
  obtain ⟨i0, hi, hz0, hz1, hz2⟩ := info_parts tinfo5
  by_cases h0 : 0 < m
  · obtain ⟨v', w', h1, h2, h3⟩ := run_append_zeros (P := Tryz.prog) w B 38 3 ty 5 i0 Tryz.underlying38 Tryz.underlying3 hi hz0 hz1 hz2 v a.length (a.map encB) hown m h0 hm hB
    exact ⟨v', w', h1, by unfold Own; rw [List.length_append, List.map_append, List.length_replicate]; simpa [encZ, encB] using h2, h3⟩
  · have hm0 : m = 0 := by omega
    subst hm0
    refine ⟨v, w, ?_, by simpa using hown, World.grownBy.refl _ _⟩
    have hw0 : IntKind.i64.wrap 0 = 0 := by rw [IntKind.wrap_i64]; rfl
    rcases hown.2 with ⟨rfl, hn⟩ | ⟨g, cap, cur, rfl, _, _, hnc, _⟩
    · simp [Builtin.append_, run_underlying Tryz.underlying38, run_underlying Tryz.underlying3, sizeOf, typeInfo, hi, asInt, asIntOf, hw0]
    · simp [Builtin.append_, run_underlying Tryz.underlying38, run_underlying Tryz.underlying3, sizeOf, typeInfo, hi, asInt, asIntOf, hw0, hnc, storeCells]

variable {ops : Array Oper} {rest : List Oper} {o : Oper} {a : Act} {Q : Exit → Act → World → Prop}
theorem wp_append_bts (w : World) (hgd : o.guard = none) (sl x : Operand) (ho : o.op = .call { callee := .builtin .append, args := #[sl, x], argTypes := #[38, 38] })
    (B : Nat) (v xv : Value) (l1 l2 : List UInt8) (hs : a.eval sl = v) (hx : a.eval x = xv) (hown : Own w B v l1) (hb : Bts w xv l2) (hm : l1.length + l2.length ≤ 1000000000000) (hB : B ≤ w.heap.size)
    (h : ∀ v' w', Own w' B v' (l1 ++ l2) → w.grownBy w' v.ownBlock → wpList Tryz.prog ops Q rest (a.put o.dst v') w') : wpList Tryz.prog ops Q (o :: rest) a w := by
  refine wpList_plain hgd fun K hK => ?_
  obtain ⟨v', w', hr, h2, h3⟩ := run_append_bts w B o.type v xv l1 l2 hown hb hm hB
  unfold Oper.wp execOp
  simp only [ho, resolve, invoke, builtin, Sem.run_bind, Sem.run_pure, Result.andThen_ok, List.map_toArray, List.map_cons, List.map_nil, hs, hx, hr]
  exact hK _ _ (h v' w' h2 h3)
theorem wp_append_z (w : World) (hgd : o.guard = none) (sl x : Operand) (ho : o.op = .call { callee := .builtin .append, args := #[sl, x], argTypes := #[38, 3] })
    (B : Nat) (v : Value) (l1 : List UInt8) (M : Int) (m : Nat) (hs : a.eval sl = v) (hx : a.eval x = .int .i64 M) (hM : M = m) (hown : Own w B v l1) (hm : l1.length + m ≤ 1000000000000) (hB : B ≤ w.heap.size)
    (h : ∀ v' w', Own w' B v' (l1 ++ List.replicate m 0) → w.grownBy w' v.ownBlock → wpList Tryz.prog ops Q rest (a.put o.dst v') w') : wpList Tryz.prog ops Q (o :: rest) a w := by
  refine wpList_plain hgd fun K hK => ?_
  subst hM
  obtain ⟨v', w', hr, h2, h3⟩ := run_append_z w B o.type v l1 hown m hm hB
  unfold Oper.wp execOp
  simp only [ho, resolve, invoke, builtin, Sem.run_bind, Sem.run_pure, Result.andThen_ok, List.map_toArray, List.map_cons, List.map_nil, hs, hx, hr]
  exact hK _ _ (h v' w' h2 h3)

end Go.Proofs.YtloanidfkefenaaGreatDoor
