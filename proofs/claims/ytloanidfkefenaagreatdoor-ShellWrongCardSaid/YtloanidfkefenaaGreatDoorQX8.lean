/-
  algebra.operators: the map of the operators.
-/
import Derived.Test.YtloanidfkefenaaGreatDoorQX7
import Derived.Maps.OwnSet
import Derived.Maps.Keyed
namespace Go.Proofs.YtloanidfkefenaaGreatDoor
open Go.RowKit Go.Shelf
open Go.Maps (Keyed)
set_option maxRecDepth 100000
set_option linter.unusedVariables false

def opV (a b : Int) (f : Nat) : Value := .agg #[.int .i64 a, .int .i64 b, .func (.func f) #[] #[]]
def opD (a b : Int) (f : Nat) : DataW Unit := .agg [.lit (.int .i64 a), .lit (.int .i64 b), .lit (.int .i64 f)]
def opL (l : List Value) : Option (DataW Unit × List MemPlace) := match l with
  | [.int .i64 a, .int .i64 b, .func (.func f) fi ca] => if fi.size = 0 ∧ ca.size = 0 then some (opD a b f, []) else none
  | [.int .i64 a, .int .i64 b, .nilFunc] => some (.agg [.lit (.int .i64 a), .lit (.int .i64 b), .nil], [])
  | _ => none
/-- How an operator reads. -/
def opR (v : Value) : Option (DataW Unit × List MemPlace) := match v with
  | .agg cs => opL cs.toList
  | _ => none
def zeroOp : Value := .agg #[.int .i64 0, .int .i64 0, .nilFunc]
def zeroOpD : DataW Unit := .agg [.lit (.int .i64 0), .lit (.int .i64 0), .nil]
theorem opR_zero {v : Value} {ps : List MemPlace} (h : opR v = some (zeroOpD, ps)) : v = zeroOp := by
  unfold opR at h
  split at h
  · next cs =>
    unfold opL at h
    split at h
    · split at h
      · simp [opD, zeroOpD] at h
      · cases h
    · next a b he =>
      simp [zeroOpD] at h
      obtain ⟨⟨rfl, rfl⟩, _⟩ := h
      unfold zeroOp
      congr 1
      exact Array.toList_inj.1 he
    · cases h
  · cases h

theorem wp_insert_own {H : Type} {P : Program} (w : World) {ops : Array Oper} {rest : List Oper} {o : Oper} {a : Act} {Q : Exit → Act → World → Prop}
    (hg : o.guard = none) (m x v : Operand) (t : TypeId) (hop : o.op = Op.insert t m x v)
    (k e : TypeId) (K : Keyed P k) (ht : P.underlying t = some (.map k e)) (R : Value → Option (DataW H × List MemPlace)) (b n : Nat) (D : DataW H)
    (hm : a.eval m = .map (some b)) (hown : w.ownsMap P k R b n D) (hn : n < maxLen) (key val : Value) (kl : Lit) (hx : a.eval x = key) (hv : a.eval v = val) (hkey : keyOf P k key = some kl)
    (d : DataW H) (ps : List MemPlace) (hval : R val = some (d, ps))
    (hK : ∀ w', w'.ownsMap P k R b (n + 1) (D.put kl d) → w.grownBy w' (some b) → wpList P ops Q rest (a.put o.dst undef) w') :
    wpList P ops Q (o :: rest) a w := by
  refine wpList_plain hg fun K' hK' => ?_
  obtain ⟨w', hrun, r1, r2⟩ := hown.update K ht hn hkey hval
  unfold Oper.wp
  simp [execOp, hop, hm, hx, hv, hrun, Result.andThen]
  exact hK' _ _ (hK w' r1 r2)

theorem KI : Keyed Tryz.prog 3 := Go.Maps.int_keyed Tryz.underlying3
theorem keyI (n : Int) (h : (Lit.int .i64 n).wf = true) : keyOf Tryz.prog 3 (.int .i64 n) = some (.int .i64 n) := Go.Maps.keyOf_int_mk Tryz.underlying3 h

def opsD : DataW Unit := (DataW.put (DataW.put (DataW.put (DataW.put (DataW.put (DataW.put (DataW.put (DataW.put (DataW.map []) (.int .i64 1) (opD 1 1 24)) (.int .i64 2) (opD 1 4611686018427387904 25)) (.int .i64 6) (opD 1 4611686018427387904 25)) (.int .i64 3) (opD 3 3 26)) (.int .i64 4) (opD 2 2 27)) (.int .i64 5) (opD 1 1 28)) (.int .i64 7) (opD 1 1 29)) (.int .i64 8) (opD 1 1 30))
def OpsR (w : World) (e : Ending) (w' : World) : Prop := ∃ b, e = .returned (.map (some b)) ∧ w.heap.size ≤ b ∧ w'.ownsMap Tryz.prog 3 opR b 8 opsD ∧ Below w.heap.size w w'

set_option maxHeartbeats 4000000 in
theorem operators_any (w : World) : Calls Tryz.prog 14 #[] w (OpsR w) := by
  have hmm := @run_makeMap Tryz.prog
  have h0 := World.ownsMap_made (H := Unit) w Tryz.prog 3 opR
  go_enter Tryz.func14, Tryz.ntmps14
  go_wp2_with (first | (refine wp_insert_own _ rfl _ _ _ 49 rfl 3 47 KI Tryz.underlying49 opR _ 0 _ rfl h0 (by unfold maxLen; omega) _ _ _ rfl rfl (keyI 1 (by decide)) _ [] rfl ?_; intro w1 h1 g1) | (refine wp_insert_own _ rfl _ _ _ 49 rfl 3 47 KI Tryz.underlying49 opR _ 1 _ rfl h1 (by unfold maxLen; omega) _ _ _ rfl rfl (keyI 2 (by decide)) _ [] rfl ?_; intro w2 h2 g2) | (refine wp_insert_own _ rfl _ _ _ 49 rfl 3 47 KI Tryz.underlying49 opR _ 2 _ rfl h2 (by unfold maxLen; omega) _ _ _ rfl rfl (keyI 6 (by decide)) _ [] rfl ?_; intro w3 h3 g3) | (refine wp_insert_own _ rfl _ _ _ 49 rfl 3 47 KI Tryz.underlying49 opR _ 3 _ rfl h3 (by unfold maxLen; omega) _ _ _ rfl rfl (keyI 3 (by decide)) _ [] rfl ?_; intro w4 h4 g4) | (refine wp_insert_own _ rfl _ _ _ 49 rfl 3 47 KI Tryz.underlying49 opR _ 4 _ rfl h4 (by unfold maxLen; omega) _ _ _ rfl rfl (keyI 4 (by decide)) _ [] rfl ?_; intro w5 h5 g5) | (refine wp_insert_own _ rfl _ _ _ 49 rfl 3 47 KI Tryz.underlying49 opR _ 5 _ rfl h5 (by unfold maxLen; omega) _ _ _ rfl rfl (keyI 5 (by decide)) _ [] rfl ?_; intro w6 h6 g6) | (refine wp_insert_own _ rfl _ _ _ 49 rfl 3 47 KI Tryz.underlying49 opR _ 6 _ rfl h6 (by unfold maxLen; omega) _ _ _ rfl rfl (keyI 7 (by decide)) _ [] rfl ?_; intro w7 h7 g7) | (refine wp_insert_own _ rfl _ _ _ 49 rfl 3 47 KI Tryz.underlying49 opR _ 7 _ rfl h7 (by unfold maxLen; omega) _ _ _ rfl rfl (keyI 8 (by decide)) _ [] rfl ?_; intro w8 h8 g8))
  have b0 : Below w.heap.size w (w.alloc (.map #[] 0)) := (Below.refl _ _).alloc (Nat.le_refl _) _
  have b1 := b0.grown g1 b0.size (fun k hk => by injection hk with hk; omega)
  have b2 := b1.grown g2 b1.size (fun k hk => by injection hk with hk; omega)
  have b3 := b2.grown g3 b2.size (fun k hk => by injection hk with hk; omega)
  have b4 := b3.grown g4 b3.size (fun k hk => by injection hk with hk; omega)
  have b5 := b4.grown g5 b4.size (fun k hk => by injection hk with hk; omega)
  have b6 := b5.grown g6 b5.size (fun k hk => by injection hk with hk; omega)
  have b7 := b6.grown g7 b6.size (fun k hk => by injection hk with hk; omega)
  have b8 := b7.grown g8 b7.size (fun k hk => by injection hk with hk; omega)
  go_ret
  exact ⟨w.heap.size, rfl, Nat.le_refl _, h8, b8⟩

theorem ops_has9 : Maps.has opsD (.int .i64 9) = false := by kernel_rfl
theorem ops_at9 : opsD.atKey (.int .i64 9) zeroOpD = zeroOpD := by kernel_rfl
theorem zeroOpV (W : World) : (zeroValue 47).run Tryz.prog W = .ok zeroOp W := Tryz.zeroValue47 W
theorem look_no (W : World) (b : Nat) (h : W.ownsMap Tryz.prog 3 opR b 8 opsD) : (Instr.lookup 49 (.map (some b)) (.int .i64 9) true).run Tryz.prog W = .ok (.tuple #[zeroOp, .bool false]) W := by
  obtain ⟨v, ps, h1, h2⟩ := h.look_ok KI Tryz.underlying49 (zeroOpV W) (zd := zeroOpD) (zp := []) rfl (keyI 9 (by decide))
  rw [ops_at9] at h2
  rw [opR_zero h2, ops_has9] at h1
  exact h1

end Go.Proofs.YtloanidfkefenaaGreatDoor
