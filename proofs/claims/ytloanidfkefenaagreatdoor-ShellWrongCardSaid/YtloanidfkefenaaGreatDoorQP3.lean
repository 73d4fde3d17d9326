/-
  The reader of words: things, numbers.
-/
import Derived.Test.YtloanidfkefenaaGreatDoorQP2
namespace Go.Proofs.YtloanidfkefenaaGreatDoor
open Go.RowKit Go.Shelf
set_option maxRecDepth 100000
set_option linter.unusedVariables false

def numS (x : ByteArray) : Int := numP x.data.toList
def takeS (ws : List ByteArray) : List ByteArray := ws.tail.take (numS (hdW ws)).toNat
def restS (ws : List ByteArray) : List ByteArray := ws.tail.drop (numS (hdW ws)).toNat
def WsOk (ws : List ByteArray) : Prop := ∀ x ∈ ws, x.size ≤ 1000000
theorem WsOk.hd {ws : List ByteArray} (h : WsOk ws) : (hdW ws).size ≤ 1000000 := by
  cases ws with
  | nil => exact Nat.zero_le _
  | cons x r => exact h x (by simp)
theorem WsOk.tail {ws : List ByteArray} (h : WsOk ws) : WsOk ws.tail := fun x hx => h x (List.mem_of_mem_tail hx)
theorem WsOk.drop {ws : List ByteArray} (h : WsOk ws) (k : Nat) : WsOk (ws.drop k) := fun x hx => h x (List.mem_of_mem_drop hx)

/-- The list that the reader gave, and the rest. -/
def ThPost {α : Type} (E : El α) (w : World) (br C : Nat) (l : List α) (rest : List ByteArray) (e : Ending) (w' : World) : Prop := ∃ v, e = .returned v ∧ E.own w' w.heap.size v l ∧ RdPost w br C rest w'

theorem RdPost.trans {w w1 w2 : World} {br C : Nat} {r r2 : List ByteArray} (h : RdPost w br C r w1) (k : RdPost w1 br C r2 w2) : RdPost w br C r2 w2 := ⟨k.1, grown_trans h.2 k.2⟩
theorem own_grown {α : Type} {E : El α} {w w1 : World} {B br : Nat} {v : Value} {l : List α} (h : E.own w B v l) (hg : w.grownBy w1 (some br)) (hb : br < B) : E.own w1 B v l :=
  h.kept hg (by
    refine Or.inr fun e => ?_
    have := own_base h br e
    omega)

/-- Rows that are the call's own grow: the older blocks stand. -/
theorem grown_rows {w w1 w2 w3 : World} {br : Nat} {row : Option Nat} (h : w.grownBy w1 (some br)) (hb : Below w1.heap.size w1 w2) (hg : w2.grownBy w3 row) (hrow : ∀ g, row = some g → w.heap.size ≤ g) : w.grownBy w3 (some br) := by
  have h2 := grown_below h hb
  exact {
    os := hg.os.trans h2.os
    tape := hg.tape.trans h2.tape
    output := hg.output.trans h2.output
    size := Nat.le_trans h2.size hg.size
    block := fun k hk hr => (hg.block k (Nat.lt_of_lt_of_le hk h2.size) (fun e => by have := hrow k e.symm; omega)).trans (h2.block k hk hr) }

set_option maxHeartbeats 2000000 in
theorem thingsI_any (br C : Nat) (ws : List ByteArray) (v : Value) (w : World) (h : Rd w br C v ws) (hC : C ≤ w.heap.size) (hbC : br < C) (hl : ws.length ≤ 1000000) (hs : WsOk ws) (HG : Hid (∀ W, w.grownBy W (some br) → Glob W)) :
    Calls Tryz.prog 68 #[.pointer (some ⟨br, 0, none⟩), .func (.func 67) #[.pointer (some ⟨br, 0, none⟩)] #[]] w (ThPost elInt w br C ((takeS ws).map numS) (restS ws)) := by
  have hbr : br < w.heap.size := (Array.getElem?_eq_some_iff.1 h.1).1
  have hN := numP_in (hdW ws).data.toList
  have HC := Lib.hid (number_any br C ws v w h hl hs.hd HG)
  have hrl : ws.tail.length ≤ 1000000 := by rw [List.length_tail]; omega
  have HS := Lib.hid hs.tail
  have HT : Hid (takeS ws = ws.tail.take (numP (hdW ws).data.toList).toNat) := rfl
  have HR : Hid (restS ws = ws.tail.drop (numP (hdW ws).data.toList).toNat) := rfl
  clear h hs
  generalize takeS ws = TK at *
  generalize restS ws = RS at *
  generalize numP (hdW ws).data.toList = N at *
  generalize ws.tail = r at *
  obtain ⟨n1, n2⟩ := hN
  go_enter Tryz.func68, Tryz.ntmps68
  go_wp2_with fail
  refine HC.out.mono ?_
  rintro e w1 ⟨rfl, hr1⟩
  have HR1 := Lib.hid hr1
  clear hr1 HC
  go_wp2
  go_loopw [5, 6] (fun vv nn wr => ∃ (k : Nat), k ≤ r.length ∧ k ≤ N.toNat ∧ nn = .int .i64 (N - k) ∧ elInt.own wr w.heap.size vv ((r.take k).map numS) ∧ Hid (RdPost w br C (r.drop k) wr)) (fun _ nn _ => (intOf nn).toNat)
  case atStart => exact ⟨0, Nat.zero_le _, Nat.zero_le _, by simp, elInt.own_nil _ _, HR1⟩
  case round =>
    obtain ⟨k, hk, hkN, rfl, hown, HP⟩ := hrel
    obtain ⟨⟨v1, hrd⟩, hg⟩ := HP.out
    obtain ⟨p, c, rfl, hpc⟩ := hrd.form
    have hcell := hrd.cell
    have hlen : (r.drop k).length = r.length - k := List.length_drop
    rw [hlen] at hcell hpc hrd
    have HO := Lib.hid hown
    by_cases hn : 0 < N - k
    · by_cases hlt : k < r.length
      · have HG2 : Hid (∀ W, wr.grownBy W (some br) → Glob W) := fun W hW => HG.out W (grown_trans hg hW)
        have HC := Lib.hid (number_any br C (r.drop k) _ wr hrd (by omega) (WsOk.drop HS.out k).hd HG2)
        have HK : Hid ((r.take k).map numS ++ [numP (hdW (r.drop k)).data.toList] = (r.take (k + 1)).map numS) := by
          unfold Hid
          rw [List.take_succ_eq_append_getElem hlt, List.map_append, List.drop_eq_getElem_cons hlt]; rfl
        have HTl : Hid ((r.drop k).tail = r.drop (k + 1)) := by unfold Hid; rw [List.tail_drop]
        generalize numP (hdW (r.drop k)).data.toList = X at *
        have hl1 : ((r.take k).map numS).length ≤ 1000000 := by rw [List.length_map, List.length_take]; omega
        generalize (r.take k).map numS = acc at *
        clear hown hrd hg hlen
        have hlp : (0 : Int) < ((r.length - k : Nat) : Int) := by omega
        go_wp2_with fail
        refine HC.out.mono ?_
        rintro e w2 ⟨rfl, hr2⟩
        have HP2 := Lib.hid (HP.out.trans hr2)
        have HO2 := Lib.hid (own_grown HO.out hr2.2 hbr)
        have hsz : w.heap.size ≤ w2.heap.size := HP2.out.2.size
        clear hr2 HC
        go_wp2_with (at_builtin; refine wp_append_el elInt _ rfl _ _ rfl w.heap.size _ _ acc [X] rfl rfl (El.own_below HO2.out ((Below.refl _ _).alloc (Nat.le_refl _) _)) (elInt.sl_tmp2 _ _ _ _ rfl _ rfl) (by simp; omega) (by simp; omega) ?_; intro v' w3 hown3 hgrow)
        go_roundw
        case rel =>
          refine ⟨k + 1, by omega, by omega, by go_num, by rw [← HK.out]; exact hown3, ?_⟩
          obtain ⟨⟨v2, hrd2⟩, hg2⟩ := HP2.out
          rw [HTl.out] at hrd2
          have hrow := own_base HO2.out
          refine ⟨⟨v2, (hrd2.below ((Below.refl _ _).alloc (Nat.le_refl _) _)).grown hgrow hbC (fun g hg => Nat.le_trans hC (hrow g hg))⟩, ?_⟩
          exact grown_rows hg2 ((Below.refl _ _).alloc (Nat.le_refl _) _) hgrow hrow
        case measure => simp [intOf]; omega
      · obtain rfl : k = r.length := by omega
        have hD : Hid (ThPost elInt w br C (TK.map numS) RS (.returned u5) wr) := by
          have e1 : (TK : List ByteArray) = r.take r.length := by rw [HT.out, List.take_of_length_le (by omega), List.take_of_length_le (Nat.le_refl _)]
          have e2 : (RS : List ByteArray) = r.drop r.length := by rw [HR.out, List.drop_eq_nil_of_le (by omega), List.drop_eq_nil_of_le (Nat.le_refl _)]
          rw [e1, e2]
          exact ⟨_, rfl, HO.out, HP.out⟩
        have hz : r.length - r.length = 0 := by omega
        rw [hz] at hcell
        clear hown hrd hg hlen hpc hz
        go_wp2
        go_ret
        exact hD.out
    · have hD : Hid (ThPost elInt w br C (TK.map numS) RS (.returned u5) wr) := by
        have e0 : N.toNat = k := by omega
        rw [HT.out, HR.out, e0]
        exact ⟨_, rfl, HO.out, HP.out⟩
      clear hown hrd hg hlen hpc hcell
      go_wp2
      go_ret
      exact hD.out

end Go.Proofs.YtloanidfkefenaaGreatDoor
