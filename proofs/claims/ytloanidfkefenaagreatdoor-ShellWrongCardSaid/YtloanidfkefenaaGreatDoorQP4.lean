/-
  The reader of words: things, bytes.
-/
import Derived.Test.YtloanidfkefenaaGreatDoorQP3
import Derived.Test.YtloanidfkefenaaGreatDoorQU
namespace Go.Proofs.YtloanidfkefenaaGreatDoor
open Go.RowKit Go.Shelf
set_option maxRecDepth 100000
set_option linter.unusedVariables false

def unS (x : ByteArray) : List UInt8 := unhexP x.data.toList

/-- Rows of bytes of the call's own, behind block B. -/
def BtsO (w : World) (B : Nat) (svs : List SlV) (ls : List (List UInt8)) : Prop := svs.length = ls.length ∧ ∀ (j : Nat) (sv : SlV), svs[j]? = some sv → ∃ l B', ls[j]? = some l ∧ B ≤ B' ∧ Own w B' sv.v l
/-- A slice of slices of bytes reads as a list of lists. -/
def BtsS (w : World) (v : Value) (ls : List (List UInt8)) : Prop := ∃ svs : List SlV, elBts.sl w v svs ∧ svs.length = ls.length ∧ ∀ (j : Nat) (sv : SlV), svs[j]? = some sv → ∃ l, ls[j]? = some l ∧ Bts w sv.v l
theorem BtsS.below {w w1 : World} {v : Value} {ls : List (List UInt8)} (h : BtsS w v ls) (hb : Below w.heap.size w w1) : BtsS w1 v ls := by
  obtain ⟨svs, h1, h2, h3⟩ := h
  refine ⟨svs, El.sl_below hb h1, h2, fun j sv hj => ?_⟩
  obtain ⟨l, h4, h5⟩ := h3 j sv hj
  exact ⟨l, h4, h5.below hb⟩
theorem BtsO.nil (w : World) (B : Nat) : BtsO w B [] [] := ⟨rfl, fun j sv h => by simp at h⟩
theorem BtsO.below {w w1 : World} {B : Nat} {svs : List SlV} {ls : List (List UInt8)} (h : BtsO w B svs ls) (hb : Below w.heap.size w w1) : BtsO w1 B svs ls := by
  refine ⟨h.1, fun j sv hj => ?_⟩
  obtain ⟨l, B', h1, h2, h3⟩ := h.2 j sv hj
  exact ⟨l, B', h1, h2, own_below h3 hb⟩
theorem BtsO.rd {w w1 : World} {B br : Nat} {svs : List SlV} {ls : List (List UInt8)} (h : BtsO w B svs ls) (hg : w.grownBy w1 (some br)) (hb : br < B) : BtsO w1 B svs ls := by
  refine ⟨h.1, fun j sv hj => ?_⟩
  obtain ⟨l, B', h1, h2, h3⟩ := h.2 j sv hj
  refine ⟨l, B', h1, h2, h3.kept hg (Or.inr fun e => ?_)⟩
  have := own_base h3 br e
  omega
theorem BtsO.append {w w1 : World} {B B0 : Nat} {svs svs0 : List SlV} {vv : Value} {ls : List (List UInt8)} (h : BtsO w B svs ls) (ho : elBts.own w B0 vv svs0) (hg : w.grownBy w1 vv.ownBlock) : BtsO w1 B svs ls := by
  refine ⟨h.1, fun j sv hj => ?_⟩
  obtain ⟨l, B', h1, h2, h3⟩ := h.2 j sv hj
  refine ⟨l, B', h1, h2, h3.kept hg ?_⟩
  rcases h3.2 with ⟨hv, _⟩ | ⟨g, cap, cur, hv, _, hgg, _⟩
  · left; rw [hv]; rfl
  · right
    rw [hv]
    rcases ho.2 with ⟨hv', _⟩ | ⟨g', cap', cur', hv', _, hgg', _⟩
    · rw [hv']; simp [Value.ownBlock]
    · rw [hv']
      intro e
      simp only [Value.ownBlock, Option.some.injEq] at e
      subst e
      rw [hgg] at hgg'
      injection hgg' with hgg'
      injection hgg' with _ e2 _
      exact absurd e2 (by decide)
theorem BtsO.snoc {w : World} {B B' : Nat} {svs : List SlV} {sv : SlV} {ls : List (List UInt8)} {l : List UInt8} (h : BtsO w B svs ls) (hs : Own w B' sv.v l) (hb : B ≤ B') : BtsO w B (svs ++ [sv]) (ls ++ [l]) := by
  refine ⟨by simp [h.1], fun j x hj => ?_⟩
  rcases Nat.lt_or_ge j svs.length with hlt | hge
  · rw [List.getElem?_append_left hlt] at hj
    obtain ⟨l', B'', h1, h2⟩ := h.2 j x hj
    exact ⟨l', B'', by rw [List.getElem?_append_left (by rw [← h.1]; exact hlt)]; exact h1, h2⟩
  · rw [List.getElem?_append_right hge] at hj
    have hj0 : j - svs.length = 0 := by
      have := (List.getElem?_eq_some_iff.1 hj).1
      simp at this; omega
    rw [hj0] at hj
    simp at hj
    subst hj
    refine ⟨l, B', ?_, hb, hs⟩
    rw [List.getElem?_append_right (by rw [← h.1]; exact hge), ← h.1, hj0]; rfl
theorem BtsO.toS {w : World} {B B0 : Nat} {svs : List SlV} {vv : Value} {ls : List (List UInt8)} (h : BtsO w B svs ls) (ho : elBts.own w B0 vv svs) (hl : svs.length ≤ 9223372036854775807) : BtsS w vv ls := by
  refine ⟨svs, El.sl_of_own ho hl, h.1, fun j sv hj => ?_⟩
  obtain ⟨l, B', h1, _, h3⟩ := h.2 j sv hj
  exact ⟨l, h1, h3.bts⟩

def ThB (w : World) (br C : Nat) (ls : List (List UInt8)) (rest : List ByteArray) (e : Ending) (w' : World) : Prop := ∃ v svs, e = .returned v ∧ elBts.own w' w.heap.size v svs ∧ BtsO w' w.heap.size svs ls ∧ RdPost w br C rest w'

set_option maxHeartbeats 2000000 in
theorem thingsB_any (br C : Nat) (ws : List ByteArray) (v : Value) (w : World) (h : Rd w br C v ws) (hC : C ≤ w.heap.size) (hbC : br < C) (hl : ws.length ≤ 1000000) (hs : WsOk ws) (HG : Hid (∀ W, w.grownBy W (some br) → Glob W)) :
    Calls Tryz.prog 69 #[.pointer (some ⟨br, 0, none⟩), .func (.func 70) #[] #[.pointer (some ⟨br, 0, none⟩)]] w (ThB w br C ((takeS ws).map unS) (restS ws)) := by
  have hbr : br < w.heap.size := (Array.getElem?_eq_some_iff.1 h.1).1
  have hN := numP_in (hdW ws).data.toList
  have HC := Lib.hid (number_any br C ws v w h hl hs.hd HG)
  have hrl : ws.tail.length ≤ 1000000 := by rw [List.length_tail]; omega
  have HS := Lib.hid hs.tail
  have HT : Hid (takeS ws = ws.tail.take (numP (hdW ws).data.toList).toNat) := rfl
  have HR : Hid (restS ws = ws.tail.drop (numP (hdW ws).data.toList).toNat) := rfl
  clear h hs
  generalize takeS ws = TK at *
  generalize restS ws = RS at *
  generalize numP (hdW ws).data.toList = N at *
  generalize ws.tail = r at *
  obtain ⟨n1, n2⟩ := hN
  go_enter Tryz.func69, Tryz.ntmps69
  go_wp2_with fail
  refine HC.out.mono ?_
  rintro e w1 ⟨rfl, hr1⟩
  have HR1 := Lib.hid hr1
  clear hr1 HC
  go_wp2
  go_loopw [5, 6] (fun vv nn wr => ∃ (k : Nat) (svs : List SlV), k ≤ r.length ∧ k ≤ N.toNat ∧ nn = .int .i64 (N - k) ∧ elBts.own wr w.heap.size vv svs ∧ Hid (RdPost w br C (r.drop k) wr ∧ BtsO wr w.heap.size svs ((r.take k).map unS))) (fun _ nn _ => (intOf nn).toNat)
  case atStart => exact ⟨0, [], Nat.zero_le _, Nat.zero_le _, by simp, elBts.own_nil _ _, HR1.out, BtsO.nil _ _⟩
  case round =>
    obtain ⟨k, svs, hk, hkN, rfl, hown, HPO⟩ := hrel
    have HP := Lib.hid HPO.out.1
    have HS0 := Lib.hid HPO.out.2
    clear HPO
    have hsvl : svs.length = k := by
      have := HS0.out.1
      rw [List.length_map, List.length_take] at this; omega
    obtain ⟨⟨v1, hrd⟩, hg⟩ := HP.out
    obtain ⟨p, c, rfl, hpc⟩ := hrd.form
    have hcell := hrd.cell
    have hlen : (r.drop k).length = r.length - k := List.length_drop
    rw [hlen] at hcell hpc hrd
    have HO := Lib.hid hown
    by_cases hn : 0 < N - k
    · by_cases hlt : k < r.length
      · have HG2 : Hid (∀ W, wr.grownBy W (some br) → Glob W) := fun W hW => HG.out W (grown_trans hg hW)
        have HC := Lib.hid (read1_any br C (r.drop k) _ wr hrd (by omega) (WsOk.drop HS.out k).hd)
        have HK : Hid ((r.take k).map unS ++ [unhexP (hdW (r.drop k)).data.toList] = (r.take (k + 1)).map unS) := by
          unfold Hid
          rw [List.take_succ_eq_append_getElem hlt, List.map_append, List.drop_eq_getElem_cons hlt]; rfl
        have HTl : Hid ((r.drop k).tail = r.drop (k + 1)) := by unfold Hid; rw [List.tail_drop]
        generalize unhexP (hdW (r.drop k)).data.toList = X at *
        generalize (r.take k).map unS = acc at *
        have hl1 : svs.length ≤ 1000000 := by omega
        have HSL := Lib.hid hsvl
        clear hown hrd hg hlen hsvl
        have hlp : (0 : Int) < ((r.length - k : Nat) : Int) := by omega
        go_wp2_with fail
        refine HC.out.mono ?_
        rintro e w2 ⟨v2, w1', rfl, hr2, ho2, hb2⟩
        obtain ⟨p2, n2, c2, rfl⟩ : ∃ p2 n2 c2, v2 = .slice p2 n2 c2 := by
          obtain ⟨p2, c2, rfl, _⟩ := ho2.bts.form
          exact ⟨p2, _, c2, rfl⟩
        have HX := Lib.hid ho2
        have HP2 := Lib.hid ((HP.out.trans hr2).below hb2)
        have HO2 := Lib.hid (El.own_below (own_grown HO.out hr2.2 hbr) hb2)
        have HBO := Lib.hid (((HS0.out.rd hr2.2 hbr).below hb2).snoc (sv := ⟨p2, n2, c2⟩) ho2 (Nat.le_trans HP.out.2.size hr2.2.size))
        have hsz : w.heap.size ≤ w2.heap.size := HP2.out.2.size
        clear hr2 HC ho2 hb2
        go_wp2_with (at_builtin; refine wp_append_el elBts _ rfl _ _ rfl w.heap.size _ _ svs [⟨p2, n2, c2⟩] rfl rfl (El.own_below HO2.out ((Below.refl _ _).alloc (Nat.le_refl _) _)) (elBts.sl_tmp2 _ _ _ _ rfl _ rfl) (by simp; omega) (by simp; omega) ?_; intro v' w3 hown3 hgrow)
        go_roundw
        case rel =>
          refine ⟨k + 1, svs ++ [⟨p2, n2, c2⟩], by omega, by omega, by go_num, hown3, ?_⟩
          obtain ⟨⟨v2, hrd2⟩, hg2⟩ := HP2.out
          rw [HTl.out] at hrd2
          have hrow := own_base HO2.out
          refine ⟨⟨⟨v2, (hrd2.below ((Below.refl _ _).alloc (Nat.le_refl _) _)).grown hgrow hbC (fun g hg => Nat.le_trans hC (hrow g hg))⟩, ?_⟩, ?_⟩
          · exact grown_rows hg2 ((Below.refl _ _).alloc (Nat.le_refl _) _) hgrow hrow
          · rw [← HK.out]
            exact (HBO.out.below ((Below.refl _ _).alloc (Nat.le_refl _) _)).append (El.own_below HO2.out ((Below.refl _ _).alloc (Nat.le_refl _) _)) hgrow
        case measure => simp [intOf]; omega
      · obtain rfl : k = r.length := by omega
        have hD : Hid (ThB w br C (TK.map unS) RS (.returned u5) wr) := by
          have e1 : (TK : List ByteArray) = r.take r.length := by rw [HT.out, List.take_of_length_le (by omega), List.take_of_length_le (Nat.le_refl _)]
          have e2 : (RS : List ByteArray) = r.drop r.length := by rw [HR.out, List.drop_eq_nil_of_le (by omega), List.drop_eq_nil_of_le (Nat.le_refl _)]
          rw [e1, e2]
          exact ⟨_, _, rfl, HO.out, HS0.out, HP.out⟩
        have hz : r.length - r.length = 0 := by omega
        rw [hz] at hcell
        clear hown hrd hg hlen hpc hz
        go_wp2
        go_ret
        exact hD.out
    · have hD : Hid (ThB w br C (TK.map unS) RS (.returned u5) wr) := by
        have e0 : N.toNat = k := by omega
        rw [HT.out, HR.out, e0]
        exact ⟨_, _, rfl, HO.out, HS0.out, HP.out⟩
      clear hown hrd hg hlen hpc hcell
      go_wp2
      go_ret
      exact hD.out

end Go.Proofs.YtloanidfkefenaaGreatDoor
