/-
  Appends to a row of one-cell elements that the call owns, as steps of a walk.
-/
import Derived.Test.YtloanidfkefenaaGreatDoorZ2
namespace Go.Proofs.YtloanidfkefenaaGreatDoor
open Go.RowKit
set_option maxRecDepth 100000

/-- A kind of one-cell elements of the program's. -/
structure El (α : Type) where
  e : TypeId
  t : TypeId
  enc : α → Value
  bytes : Nat
  z : Value
  one : ∀ x, (enc x).oneCell' = true
  ht : Tryz.prog.underlying t = some (.slice e)
  info : (Tryz.prog.info? e).map (fun i => (i.zero, i.size, i.bytes)) = some (some z, 1, bytes)
  zc : z.cells.size = 1
  hby : bytes ≤ 64

/-- A slice's value. -/
structure SlV where
  p : Option Addr
  n : Nat
  c : Nat
def SlV.v (s : SlV) : Value := .slice s.p s.n s.c

def elInt : El Int := { e := 3, t := 33, enc := fun n => .int .i64 n, bytes := 8, z := .int .i64 0, one := fun _ => rfl, ht := Tryz.underlying33, info := by kernel_rfl, zc := rfl, hby := by decide }
def elStr : El ByteArray := { e := 9, t := 86, enc := fun s => .string s, bytes := 16, z := .string ByteArray.empty, one := fun _ => rfl, ht := Tryz.underlying86, info := by kernel_rfl, zc := rfl, hby := by decide }
def elBts : El SlV := { e := 38, t := 25, enc := SlV.v, bytes := 24, z := .slice none 0 0, one := fun _ => rfl, ht := Tryz.underlying25, info := by kernel_rfl, zc := rfl, hby := by decide }

variable {α : Type}
/-- A row of the call's own, behind block number B. -/
def El.own (E : El α) (w : World) (B : Nat) (v : Value) (l : List α) : Prop := w.ownsRow B E.e 1 v l.length (l.map E.enc)
def El.sl (E : El α) (w : World) (v : Value) (l : List α) : Prop := (Ty.one E.enc).Sl w v l

theorem El.sl_at {E : El α} {w : World} {p : Option Addr} {n c : Nat} {l : List α} (h : E.sl w (.slice p n c) l) (k : Nat) (hk : k < l.length) :
    ∃ b o, p = some ⟨b, o, none⟩ ∧ ∀ x, l[k]? = some x → w.cell? ⟨b, o + k, none⟩ = some (E.enc x) := by
  obtain ⟨p', c', h1, _, _, h2⟩ := h
  injection h1 with h1
  subst h1
  obtain ⟨b, o, h3, h4⟩ := h2 (by omega)
  refine ⟨b, o, h3, fun x hx => ?_⟩
  obtain ⟨cs, h5, h6⟩ := h4 k x hx
  have h5' : cs = [E.enc x] := h5
  subst h5'
  have := h6 0 _ rfl
  simpa [Ty.one] using this
theorem El.sl_form {E : El α} {w : World} {v : Value} {l : List α} (h : E.sl w v l) : ∃ p c, v = .slice p l.length c ∧ l.length ≤ c := by
  obtain ⟨p, c, h1, h2, _⟩ := h; exact ⟨p, c, h1, h2⟩
theorem El.sl_nil (E : El α) (w : World) : E.sl w (.slice none 0 0) [] := ⟨none, 0, rfl, Nat.le_refl _, by simp, fun hp => absurd hp (by simp)⟩
theorem El.own_nil (E : El α) (w : World) (B : Nat) : E.own w B (.slice none 0 0) [] := ⟨rfl, Or.inl ⟨rfl, rfl⟩⟩
theorem El.sl_mk (E : El α) (w : World) (b o c : Nat) (l : List α) (h1 : l.length ≤ c) (h2 : l.length ≤ 9223372036854775807) (h : ∀ k x, l[k]? = some x → w.cell? ⟨b, o + k, none⟩ = some (E.enc x)) : E.sl w (.slice (some ⟨b, o, none⟩) l.length c) l :=
  ⟨_, c, rfl, h1, h2, fun _ => ⟨b, o, rfl, fun j x hx => ⟨[E.enc x], rfl, fun i u hu => by
    match i, hu with
    | 0, hu =>
      injection hu with hu
      subst hu
      simpa [Ty.one] using h j x hx⟩⟩⟩
theorem El.sl_tmp (E : El α) (w : World) (T : TypeId) (x : α) : E.sl (w.alloc (.cells #[E.enc x] T)) (.slice (some ⟨w.heap.size, 0, none⟩) 1 1) [x] :=
  E.sl_mk _ _ 0 1 [x] (by simp) (by simp) fun k y hy => by
    match k, hy with
    | 0, hy =>
      injection hy with hy
      subst hy
      rw [World.cell?_alloc_at _ _ _ _ rfl]; rfl
theorem El.sl_below {E : El α} {w w' : World} {v : Value} {l : List α} (hb : Below w.heap.size w w') (h : E.sl w v l) : E.sl w' v l := Ty.Sl.below hb h
theorem El.sl_of_own {E : El α} {w : World} {B : Nat} {v : Value} {l : List α} (h : E.own w B v l) (hl : l.length ≤ 9223372036854775807) : E.sl w v l := by
  rcases h.2 with ⟨rfl, h0⟩ | ⟨g, cap, cur, rfl, _, _, h1, h2, _⟩
  · have : l = [] := List.length_eq_zero_iff.1 h0
    subst this
    exact E.sl_nil w
  · refine E.sl_mk w g 0 cap l h1 hl fun k x hx => ?_
    have hk := (List.getElem?_eq_some_iff.1 hx).1
    rw [Nat.zero_add, h.cellAt k (by simpa using hk), List.getElem?_map, hx]; rfl
theorem El.own_keep {E : El α} {w w' : World} {B : Nat} {v : Value} {l : List α} (h : E.own w B v l) (hb : Below w.heap.size w w') : E.own w' B v l := by
  refine ⟨h.1, ?_⟩
  rcases h.2 with ⟨rfl, h0⟩ | ⟨g, cap, cur, rfl, h1, h2, h3⟩
  · exact Or.inl ⟨rfl, h0⟩
  · exact Or.inr ⟨g, cap, cur, rfl, h1, (hb.block g (Array.getElem?_eq_some_iff.1 h2).1).trans h2, h3⟩

theorem El.append (E : El α) (w : World) (B ty : Nat) (v x : Value) (a l : List α) (hown : E.own w B v a) (hx : E.sl w x l) (hm : a.length + l.length ≤ 1000000000) (hB : B ≤ w.heap.size) :
    ∃ v' w', (Builtin.append_ #[E.t, E.t] ty #[v, x]).run Tryz.prog w = .ok v' w' ∧ E.own w' B v' (a ++ l) ∧ w.grownBy w' v.ownBlock := by
  obtain ⟨i0, hi, hz0, hz1, hz2⟩ := info_parts E.info
  obtain ⟨p, c, rfl, hc⟩ := El.sl_form hx
  have hby := E.hby
  by_cases h0 : 0 < l.length
  · obtain ⟨b, o, rfl, _⟩ := El.sl_at hx 0 h0
    obtain ⟨v', w', h1, h2, h3, _⟩ := run_append_own (P := Tryz.prog) w B E.t ty E.e i0 E.z 1 E.bytes E.ht hi hz0 hz1 hz2 E.zc (by omega) v a.length (a.map E.enc) hown ⟨b, o, none⟩ l.length c (l.map E.enc) (by simp) (by
      intro j u hj
      rw [zaddr]
      rw [List.getElem?_map] at hj
      cases hh : l[j]? with
      | none => rw [hh] at hj; cases hj
      | some y =>
        rw [hh] at hj
        injection hj with hj
        have hlt := (List.getElem?_eq_some_iff.1 hh).1
        obtain ⟨b', o', e', h'⟩ := El.sl_at hx j hlt
        injection e' with e'
        injection e' with e1 e2
        subst e1; subst e2
        rw [h' y hh]; exact congrArg some hj) (fun u hu => by obtain ⟨y, _, rfl⟩ := List.mem_map.1 hu; exact E.one y) (by unfold maxLen; omega) (by
          have : (a.length + l.length) * E.bytes ≤ 1000000000 * 64 := Nat.mul_le_mul hm hby
          omega) hB
    exact ⟨v', w', h1, by unfold El.own; rw [List.length_append, List.map_append]; exact h2, h3⟩
  · have hl : l = [] := List.length_eq_zero_iff.1 (by omega)
    subst hl
    refine ⟨v, w, ?_, by rw [List.append_nil]; exact hown, World.grownBy.refl _ _⟩
    rcases hown.2 with ⟨rfl, hn⟩ | ⟨g, cap, cur, rfl, _, _, hnc, _⟩
    · simp [Builtin.append_, run_underlying E.ht, sizeOf, typeInfo, hi, Builtin.lenOf, Builtin.firstCells]
      cases p with
      | none => simp
      | some A => simp [zload w A]
    · simp [Builtin.append_, run_underlying E.ht, sizeOf, typeInfo, hi, Builtin.lenOf, Builtin.firstCells, hnc, storeCells, hz1]
      cases p with
      | none => simp [storeCells]
      | some A => simp [zload w A, storeCells]

variable {ops : Array Oper} {rest : List Oper} {o : Oper} {a : Act} {Q : Exit → Act → World → Prop}
theorem wp_append_el (E : El α) (w : World) (hgd : o.guard = none) (sl x : Operand) (ho : o.op = .call { callee := .builtin .append, args := #[sl, x], argTypes := #[E.t, E.t] })
    (B : Nat) (v xv : Value) (l1 l2 : List α) (hs : a.eval sl = v) (hx : a.eval x = xv) (hown : E.own w B v l1) (hb : E.sl w xv l2) (hm : l1.length + l2.length ≤ 1000000000) (hB : B ≤ w.heap.size)
    (h : ∀ v' w', E.own w' B v' (l1 ++ l2) → w.grownBy w' v.ownBlock → wpList Tryz.prog ops Q rest (a.put o.dst v') w') : wpList Tryz.prog ops Q (o :: rest) a w := by
  refine wpList_plain hgd fun K hK => ?_
  obtain ⟨v', w', hr, h2, h3⟩ := E.append w B o.type v xv l1 l2 hown hb hm hB
  unfold Oper.wp execOp
  simp only [ho, resolve, invoke, builtin, Sem.run_bind, Sem.run_pure, Result.andThen_ok, List.map_toArray, List.map_cons, List.map_nil, hs, hx, hr]
  exact hK _ _ (h v' w' h2 h3)

end Go.Proofs.YtloanidfkefenaaGreatDoor
