/-
  script.line: a command's line.
-/
import Derived.Test.YtloanidfkefenaaGreatDoorQX2
import Derived.Deep.RegionHeld3
import Derived.StillTactics
namespace Go.Proofs.YtloanidfkefenaaGreatDoor
open Go.RowKit Go.Shelf
set_option maxRecDepth 100000
set_option linter.unusedVariables false

theorem Join_str (ws : List (List UInt8)) (v : Value) (w : World) (h : elStr.sl w v (ws.map strOf)) (h0 : ws ≠ []) (hn : ws.length ≤ 10000000) (hj : (joinL 32 ws).length ≤ 140737488355328) :
    Calls Tryz.prog 104 #[v, .string ⟨#[32]⟩] w fun e w' => e = .returned (.string (strOf (joinL 32 ws))) ∧ Below w.heap.size w w' := by
  obtain ⟨p, c, rfl, hc⟩ := El.sl_form h
  have hpos : 0 < (ws.map strOf).length := by rw [List.length_map]; exact List.length_pos_iff.2 h0
  obtain ⟨b, o, rfl, h1⟩ := El.sl_at h 0 hpos
  have e1 : (ws.map strOf).map (·.data.toList) = ws := by
    rw [List.map_map]
    conv => rhs; rw [← List.map_id ws]
    exact List.map_congr_left fun x _ => rfl
  have hb := World.block_lt_of_cell? w _ (h1 _ (List.getElem?_eq_getElem hpos))
  have e2 : Lib.join ((ws.map strOf).map (·.data.toList)) (ByteArray.mk #[32]).data.toList = joinL 32 ws := by rw [e1, joinL_join]
  refine (Any.strings_Join Tryz.laysJoin Tryz.joinExtra b o c (ws.map strOf) ⟨#[32]⟩ w ?_ hb (by rw [List.length_map]; omega) hc (by rw [e2]; exact hj)).mono ?_
  · intro j x hx
    obtain ⟨b', o', e', h2⟩ := El.sl_at h j (List.getElem?_eq_some_iff.1 hx).1
    injection e' with e'
    injection e' with e3 e4
    subst e3; subst e4
    exact h2 x hx
  · rintro e w' ⟨rfl, hb'⟩
    rw [e2]; exact ⟨rfl, hb'⟩

/-- A command's value reads as a command. -/
def CmdR (w : World) (v : Value) (c : CmdP) : Prop := ∃ fv cv iv, v = .agg #[.int .i64 c.kind, .int .i64 c.policy, .int .i64 c.limit, .bool c.whole, .int .i64 c.budget, .int .i64 c.fan, .int .i64 c.room, fv, cv, iv] ∧ elInt.sl w fv c.fails ∧ elInt.sl w cv c.chunks ∧ BtsS w iv c.ins

def headN (c : CmdP) : List Int := [c.kind, c.policy, c.limit, flagP c.whole, c.budget, c.fan, c.room]
theorem headN_words (c : CmdP) : headW c = (headN c).map Lib.itoa := rfl
theorem headN_in (c : CmdP) (h : CmdOk c) : ∀ n ∈ headN c, InR n := by
  intro n hn
  unfold headN at hn
  simp only [List.mem_cons, List.not_mem_nil, or_false] at hn
  rcases hn with rfl | rfl | rfl | rfl | rfl | rfl | rfl
  · exact h.kind
  · exact h.policy
  · exact h.limit
  · exact flag_in _
  · exact h.budget
  · exact h.fan
  · exact h.room

set_option maxHeartbeats 4000000 in
theorem line_any (v : Value) (c : CmdP) (w : World) (h : CmdR w v c) (hf : CmdFit c) (HG : Hid (∀ W, Below w.heap.size w W → Glob W)) :
    Calls Tryz.prog 73 #[v] w fun e w' => e = .returned (.string (strOf (bodyP c ++ [10]))) ∧ Below w.heap.size w w' := by
  obtain ⟨fv, cv, iv, rfl, h1, h2, h3⟩ := h
  obtain ⟨p1, c1, rfl, hc1⟩ := El.sl_form h1
  obtain ⟨p2, c2, rfl, hc2⟩ := El.sl_form h2
  obtain ⟨p3, n3, c3, rfl⟩ : ∃ p n c, iv = .slice p n c := by
    obtain ⟨svs, h4, _⟩ := h3
    obtain ⟨p, c, e, _⟩ := El.sl_form h4
    exact ⟨p, _, c, e⟩
  have H1 := Lib.hid h1
  have H2 := Lib.hid h2
  have H3 := Lib.hid h3
  have HF := Lib.hid hf
  clear h1 h2 h3 hf
  go_enter Tryz.func73, Tryz.ntmps73
  go_wp2
  have k0 : (w.alloc (.cells #[.int .i64 c.kind, .int .i64 c.policy, .int .i64 c.limit, .bool c.whole, .int .i64 c.budget, .int .i64 c.fan, .int .i64 c.room, .slice p1 c.fails.length c1, .slice p2 c.chunks.length c2, .slice p3 n3 c3] 35)).cell? ⟨w.heap.size, 0, none⟩ = some (Value.int .i64 c.kind) := by rw [World.cell?_alloc_at _ _ _ _ rfl]; rfl
  have k1 : (w.alloc (.cells #[.int .i64 c.kind, .int .i64 c.policy, .int .i64 c.limit, .bool c.whole, .int .i64 c.budget, .int .i64 c.fan, .int .i64 c.room, .slice p1 c.fails.length c1, .slice p2 c.chunks.length c2, .slice p3 n3 c3] 35)).cell? ⟨w.heap.size, 1, none⟩ = some (Value.int .i64 c.policy) := by rw [World.cell?_alloc_at _ _ _ _ rfl]; rfl
  have k2 : (w.alloc (.cells #[.int .i64 c.kind, .int .i64 c.policy, .int .i64 c.limit, .bool c.whole, .int .i64 c.budget, .int .i64 c.fan, .int .i64 c.room, .slice p1 c.fails.length c1, .slice p2 c.chunks.length c2, .slice p3 n3 c3] 35)).cell? ⟨w.heap.size, 2, none⟩ = some (Value.int .i64 c.limit) := by rw [World.cell?_alloc_at _ _ _ _ rfl]; rfl
  have k3 : (w.alloc (.cells #[.int .i64 c.kind, .int .i64 c.policy, .int .i64 c.limit, .bool c.whole, .int .i64 c.budget, .int .i64 c.fan, .int .i64 c.room, .slice p1 c.fails.length c1, .slice p2 c.chunks.length c2, .slice p3 n3 c3] 35)).cell? ⟨w.heap.size, 3, none⟩ = some (Value.bool c.whole) := by rw [World.cell?_alloc_at _ _ _ _ rfl]; rfl
  have k4 : (w.alloc (.cells #[.int .i64 c.kind, .int .i64 c.policy, .int .i64 c.limit, .bool c.whole, .int .i64 c.budget, .int .i64 c.fan, .int .i64 c.room, .slice p1 c.fails.length c1, .slice p2 c.chunks.length c2, .slice p3 n3 c3] 35)).cell? ⟨w.heap.size, 4, none⟩ = some (Value.int .i64 c.budget) := by rw [World.cell?_alloc_at _ _ _ _ rfl]; rfl
  have k5 : (w.alloc (.cells #[.int .i64 c.kind, .int .i64 c.policy, .int .i64 c.limit, .bool c.whole, .int .i64 c.budget, .int .i64 c.fan, .int .i64 c.room, .slice p1 c.fails.length c1, .slice p2 c.chunks.length c2, .slice p3 n3 c3] 35)).cell? ⟨w.heap.size, 5, none⟩ = some (Value.int .i64 c.fan) := by rw [World.cell?_alloc_at _ _ _ _ rfl]; rfl
  have k6 : (w.alloc (.cells #[.int .i64 c.kind, .int .i64 c.policy, .int .i64 c.limit, .bool c.whole, .int .i64 c.budget, .int .i64 c.fan, .int .i64 c.room, .slice p1 c.fails.length c1, .slice p2 c.chunks.length c2, .slice p3 n3 c3] 35)).cell? ⟨w.heap.size, 6, none⟩ = some (Value.int .i64 c.room) := by rw [World.cell?_alloc_at _ _ _ _ rfl]; rfl
  have k7 : (w.alloc (.cells #[.int .i64 c.kind, .int .i64 c.policy, .int .i64 c.limit, .bool c.whole, .int .i64 c.budget, .int .i64 c.fan, .int .i64 c.room, .slice p1 c.fails.length c1, .slice p2 c.chunks.length c2, .slice p3 n3 c3] 35)).cell? ⟨w.heap.size, 7, none⟩ = some (Value.slice p1 c.fails.length c1) := by rw [World.cell?_alloc_at _ _ _ _ rfl]; rfl
  have k8 : (w.alloc (.cells #[.int .i64 c.kind, .int .i64 c.policy, .int .i64 c.limit, .bool c.whole, .int .i64 c.budget, .int .i64 c.fan, .int .i64 c.room, .slice p1 c.fails.length c1, .slice p2 c.chunks.length c2, .slice p3 n3 c3] 35)).cell? ⟨w.heap.size, 8, none⟩ = some (Value.slice p2 c.chunks.length c2) := by rw [World.cell?_alloc_at _ _ _ _ rfl]; rfl
  have k9 : (w.alloc (.cells #[.int .i64 c.kind, .int .i64 c.policy, .int .i64 c.limit, .bool c.whole, .int .i64 c.budget, .int .i64 c.fan, .int .i64 c.room, .slice p1 c.fails.length c1, .slice p2 c.chunks.length c2, .slice p3 n3 c3] 35)).cell? ⟨w.heap.size, 9, none⟩ = some (Value.slice p3 n3 c3) := by rw [World.cell?_alloc_at _ _ _ _ rfl]; rfl
  have hb0 : Below w.heap.size w (w.alloc (.cells #[.int .i64 c.kind, .int .i64 c.policy, .int .i64 c.limit, .bool c.whole, .int .i64 c.budget, .int .i64 c.fan, .int .i64 c.room, .slice p1 c.fails.length c1, .slice p2 c.chunks.length c2, .slice p3 n3 c3] 35)) := (Below.refl _ _).alloc (Nat.le_refl _) _
  have hz0 : (w.alloc (.cells #[.int .i64 c.kind, .int .i64 c.policy, .int .i64 c.limit, .bool c.whole, .int .i64 c.budget, .int .i64 c.fan, .int .i64 c.room, .slice p1 c.fails.length c1, .slice p2 c.chunks.length c2, .slice p3 n3 c3] 35)).heap.size = w.heap.size + 1 := by simp
  have HB0 := Lib.hid hb0
  have HZ0 := Lib.hid hz0
  clear hb0 hz0
  generalize w.alloc (.cells #[.int .i64 c.kind, .int .i64 c.policy, .int .i64 c.limit, .bool c.whole, .int .i64 c.budget, .int .i64 c.fan, .int .i64 c.room, .slice p1 c.fails.length c1, .slice p2 c.chunks.length c2, .slice p3 n3 c3] 35) = w0 at *
  go_region_held3 (fun w' => w'.cell? ⟨w.heap.size, 0, none⟩ = some (.int .i64 c.kind) ∧ w'.cell? ⟨w.heap.size, 1, none⟩ = some (.int .i64 c.policy) ∧ w'.cell? ⟨w.heap.size, 2, none⟩ = some (.int .i64 c.limit) ∧ w'.cell? ⟨w.heap.size, 3, none⟩ = some (.bool c.whole) ∧ w'.cell? ⟨w.heap.size, 4, none⟩ = some (.int .i64 c.budget) ∧ w'.cell? ⟨w.heap.size, 5, none⟩ = some (.int .i64 c.fan) ∧ w'.cell? ⟨w.heap.size, 6, none⟩ = some (.int .i64 c.room)) (go_keep) (first | (go_at_call 121; refine (flag_any _ _).mono ?_; rintro e w' ⟨rfl, rfl⟩))
  clear k0 k1 k2 k3 k4 k5 k6
  have hz0 := HZ0.out
  have hb2 : Below w0.heap.size w0 ((w0.alloc (.cells #[.int .i64 c.kind, .int .i64 c.policy, .int .i64 c.limit, .int .i64 (flagP c.whole), .int .i64 c.budget, .int .i64 c.fan, .int .i64 c.room] 3)).drew) := ((Below.refl _ _).alloc (Nat.le_refl _) _).drew
  have HA : Hid (elInt.sl ((w0.alloc (.cells #[.int .i64 c.kind, .int .i64 c.policy, .int .i64 c.limit, .int .i64 (flagP c.whole), .int .i64 c.budget, .int .i64 c.fan, .int .i64 c.room] 3)).drew) (.slice (some ⟨w0.heap.size, 0, none⟩) 7 7) (headN c)) := by
    refine elInt.sl_mk _ _ _ _ (headN c) (by simp [headN]) (by simp [headN]) fun k x hx => ?_
    have hk : k < 7 := by have := (List.getElem?_eq_some_iff.1 hx).1; simpa [headN] using this
    show (w0.alloc _).cell? _ = _
    rw [World.cell?_alloc_at _ _ _ _ rfl]
    match k, hk, hx with
    | 0, _, hx => simp [headN] at hx; subst hx; rfl
    | 1, _, hx => simp [headN] at hx; subst hx; rfl
    | 2, _, hx => simp [headN] at hx; subst hx; rfl
    | 3, _, hx => simp [headN] at hx; subst hx; rfl
    | 4, _, hx => simp [headN] at hx; subst hx; rfl
    | 5, _, hx => simp [headN] at hx; subst hx; rfl
    | 6, _, hx => simp [headN] at hx; subst hx; rfl
  have HB2 := Lib.hid (HB0.out.trans (hb2.mono (by omega)))
  have K7 := Lib.hid (cell_below hb2 k7)
  have K8 := Lib.hid (cell_below hb2 k8)
  have K9 := Lib.hid (cell_below hb2 k9)
  clear k7 k8 k9 hb2 hz0 HB0 HZ0
  generalize (w0.alloc (.cells #[.int .i64 c.kind, .int .i64 c.policy, .int .i64 c.limit, .int .i64 (flagP c.whole), .int .i64 c.budget, .int .i64 c.fan, .int .i64 c.room] 3)).drew = w2 at *
  generalize w0.heap.size = z2 at *
  go_wp2
  go_loopw [3, 23] (fun vv kk wr => ∃ (k : Nat), k ≤ 7 ∧ kk = .int .i64 k ∧ Hid (elStr.own wr w2.heap.size vv ((((headN c).take k).map Lib.itoa).map strOf)) ∧ Below w2.heap.size w2 wr) (fun _ kk _ => 7 - (intOf kk).toNat)
  case atStart => exact ⟨0, Nat.zero_le _, rfl, elStr.own_nil _ _, Below.refl _ _⟩
  case round =>
    obtain ⟨k, hk, rfl, HO, hB⟩ := hrel
    have hln : (headN c).length = 7 := rfl
    by_cases hlt : k < 7
    · have hlt' : k < (headN c).length := hlt
      obtain ⟨b, o, he, hcell0⟩ := El.sl_at (El.sl_below hB HA.out) k hlt'
      injection he with he
      injection he with he1 he2
      subst he1
      subst he2
      have hcell := hcell0 _ (List.getElem?_eq_getElem hlt')
      have hIn := headN_in c HF.out.toCmdOk _ (List.getElem_mem hlt')
      have HN : Hid ((((headN c).take k).map Lib.itoa).map strOf ++ [strOf (Lib.itoa (headN c)[k])] = (((headN c).take (k + 1)).map Lib.itoa).map strOf) := by
        unfold Hid
        rw [List.take_succ_eq_append_getElem hlt', List.map_append, List.map_append]; rfl
      clear hcell0 hln
      have hlen : ((((headN c).take k).map Lib.itoa).map strOf).length ≤ 2000000 := by
        rw [List.length_map, List.length_map, List.length_take]; omega
      generalize (((headN c).take k).map Lib.itoa).map strOf = acc at *
      generalize (headN c)[k] = x at *
      rw [Nat.zero_add] at hcell
      have hcell : wr.cell? ⟨z2, k, none⟩ = some (.int .i64 x) := hcell
      have HIn := Lib.hid hIn
      clear hIn hlt'
      have hsz : w2.heap.size ≤ wr.heap.size := hB.size
      have HBr := Lib.hid (HB2.out.trans (hB.mono (HB2.out.size)))
      have HC := Lib.hid (Itoa_str x wr (HG.out wr HBr.out) HIn.out)
      generalize strOf (Lib.itoa x) = X at *
      go_wp2_with fail
      refine HC.out.mono ?_
      rintro e w3 ⟨rfl, hb3⟩
      have HO3 := Lib.hid (El.own_below HO.out hb3)
      have HB3 := Lib.hid (hB.trans (hb3.mono hsz))
      have hsz3 : w2.heap.size ≤ w3.heap.size := HB3.out.size
      clear hb3 HC
      go_wp2_with (at_builtin; refine wp_append_el elStr _ rfl _ _ rfl w2.heap.size _ _ acc [X] rfl rfl (El.own_below HO3.out ((Below.refl _ _).alloc (Nat.le_refl _) _)) (elStr.sl_tmp2 _ _ _ _ rfl _ rfl) (by simp; omega) (by simp; omega) ?_; intro v' w4 hown4 hgrow)
      go_roundw
      case rel => exact ⟨k + 1, by omega, by go_num, by rw [← HN.out]; exact hown4, (HB3.out.alloc hsz3 _).grown hgrow (by simp; omega) (own_base HO3.out)⟩
      case measure => simp [intOf]; omega
    · obtain rfl : k = 7 := by omega
      have c7 := cell_below hB K7.out
      have HBr := Lib.hid (HB2.out.trans (hB.mono (HB2.out.size)))
      have HOr : Hid (elStr.own wr w2.heap.size u3 ((headW c).map strOf)) := HO.out
      have HW : Hid ((headW c).map strOf ++ (secW (c.fails.map Lib.itoa)).map strOf ++ (secW (c.chunks.map Lib.itoa)).map strOf ++ (secW (c.ins.map xhex)).map strOf = (wordsP c).map strOf) := by
        unfold Hid wordsP
        rw [List.map_append, List.map_append, List.map_append, List.append_assoc, List.append_assoc]
      have l0 : ((headW c).map strOf).length ≤ 7 := by simp [headW]
      have l1 : ((secW (c.fails.map Lib.itoa)).map strOf).length ≤ 1000001 := by have := HF.out.lf; simp [secW]; omega
      have l2 : ((secW (c.chunks.map Lib.itoa)).map strOf).length ≤ 1000001 := by have := HF.out.lc; simp [secW]; omega
      have l3 : ((secW (c.ins.map xhex)).map strOf).length ≤ 1000001 := by have := HF.out.li; simp [secW]; omega
      have hsz : w2.heap.size ≤ wr.heap.size := hB.size
      have hB0 := Lib.hid hB
      clear HO hB K7 HA hln
      have C1 := Lib.hid (wordsI_any (.slice p1 c.fails.length c1) c.fails wr (El.sl_below HBr.out H1.out) HF.out.lf (HF.out.fails) (fun W hW => HG.out W (HBr.out.trans (hW.mono HBr.out.size))))
      have C2 : Hid (∀ W, Below w.heap.size w W → Calls Tryz.prog 122 #[.slice p2 c.chunks.length c2, .func (.func 36) #[] #[]] W (WdR W (secW (c.chunks.map Lib.itoa)))) := fun W0 hW0 => wordsI_any (.slice p2 c.chunks.length c2) c.chunks W0 (El.sl_below hW0 H2.out) HF.out.lc (HF.out.chunks) (fun W hW => HG.out W (hW0.trans (hW.mono hW0.size)))
      have C3 : Hid (∀ W, Below w.heap.size w W → Calls Tryz.prog 123 #[.slice p3 n3 c3, .func (.func 124) #[] #[]] W (WdR W (secW (c.ins.map xhex)))) := fun W0 hW0 => wordsB_any (.slice p3 n3 c3) c.ins W0 (H3.out.below hW0) HF.out.li (HF.out.ib) (fun W hW => HG.out W (hW0.trans (hW.mono hW0.size)))
      have CJ : Hid (∀ W V, elStr.sl W V ((wordsP c).map strOf) → Calls Tryz.prog 104 #[V, .string ⟨#[32]⟩] W fun e w' => e = .returned (.string (strOf (bodyP c))) ∧ Below W.heap.size W w') := fun W V hV => Join_str (wordsP c) V W hV (by simp [wordsP, headW]) (by have := words_num c HF.out.toCmdOk; omega) (by have := body_len c HF.out; unfold bodyP at this; omega)
      have lw : ((wordsP c).map strOf).length ≤ 3000010 := by rw [List.length_map]; exact words_num c HF.out.toCmdOk
      have lb : (strOf (bodyP c)).size ≤ 3000010 * 2000002 := body_len c HF.out
      have HE : Hid (strOf (bodyP c) ++ ByteArray.mk #[10] = strOf (bodyP c ++ [10])) := str_append (bodyP c) [10]
      generalize strOf (bodyP c) = BD at *
      unfold WdR at C1 C2 C3
      generalize (headW c).map strOf = A0 at *
      generalize (secW (c.fails.map Lib.itoa)).map strOf = S1 at *
      generalize (secW (c.chunks.map Lib.itoa)).map strOf = S2 at *
      generalize (secW (c.ins.map xhex)).map strOf = S3 at *
      generalize (wordsP c).map strOf = AW at *
      go_wp2_with fail
      refine C1.out.mono ?_
      rintro e w3 ⟨v3, rfl, ho3, hb3⟩
      have HX3 := Lib.hid (El.sl_of_own ho3 (by omega))
      have HO3 := Lib.hid (El.own_below HOr.out hb3)
      have HB3 := Lib.hid (hB0.out.trans (hb3.mono hsz))
      have hsz3 : w2.heap.size ≤ w3.heap.size := HB3.out.size
      clear C1 HOr hB0 c7 ho3 hb3
      go_wp2_with (at_builtin; refine wp_append_el elStr _ rfl _ _ rfl w2.heap.size _ _ A0 S1 rfl rfl HO3.out HX3.out (by omega) (by omega) ?_; intro v4 w4 hown4 hgrow4; have c8 := cell_below (HB3.out.grown hgrow4 hsz3 (own_base HO3.out)) K8.out)
      have HB4 := Lib.hid (HB3.out.grown hgrow4 hsz3 (own_base HO3.out))
      have HO4 := Lib.hid hown4
      have HW4 := Lib.hid (HB2.out.trans (HB4.out.mono HB2.out.size))
      have hsz4 : w2.heap.size ≤ w4.heap.size := HB4.out.size
      clear hgrow4 hown4 HB3 HO3 HX3
      have C2' := Lib.hid (C2.out _ HW4.out)
      refine C2'.out.mono ?_
      rintro e w5 ⟨v5, rfl, ho5, hb5⟩
      have HX5 := Lib.hid (El.sl_of_own ho5 (by omega))
      have HO5 := Lib.hid (El.own_below HO4.out hb5)
      have HB5 := Lib.hid (HB4.out.trans (hb5.mono hsz4))
      have hsz5 : w2.heap.size ≤ w5.heap.size := HB5.out.size
      have l01 : (A0 ++ S1).length ≤ 2000000 := by rw [List.length_append]; omega
      generalize A0 ++ S1 = A1 at *
      clear C2 C2' ho5 hb5 c8 HO4 HB4 HW4
      go_wp2_with (at_builtin; refine wp_append_el elStr _ rfl _ _ rfl w2.heap.size _ _ A1 S2 rfl rfl HO5.out HX5.out (by omega) (by omega) ?_; intro v6 w6 hown6 hgrow6; have c9 := cell_below (HB5.out.grown hgrow6 hsz5 (own_base HO5.out)) K9.out)
      have HB6 := Lib.hid (HB5.out.grown hgrow6 hsz5 (own_base HO5.out))
      have HO6 := Lib.hid hown6
      have HW6 := Lib.hid (HB2.out.trans (HB6.out.mono HB2.out.size))
      have hsz6 : w2.heap.size ≤ w6.heap.size := HB6.out.size
      clear hgrow6 hown6 HB5 HO5 HX5
      have C3' := Lib.hid (C3.out _ HW6.out)
      refine C3'.out.mono ?_
      rintro e w7 ⟨v7, rfl, ho7, hb7⟩
      have HX7 := Lib.hid (El.sl_of_own ho7 (by omega))
      have HO7 := Lib.hid (El.own_below HO6.out hb7)
      have HB7 := Lib.hid (HB6.out.trans (hb7.mono hsz6))
      have hsz7 : w2.heap.size ≤ w7.heap.size := HB7.out.size
      have l02 : (A1 ++ S2).length ≤ 4000000 := by rw [List.length_append]; omega
      generalize A1 ++ S2 = A2 at *
      clear C3 C3' ho7 hb7 c9 HO6 HB6 HW6
      go_wp2_with (at_builtin; refine wp_append_el elStr _ rfl _ _ rfl w2.heap.size _ _ A2 S3 rfl rfl HO7.out HX7.out (by omega) (by omega) ?_; intro v8 w8 hown8 hgrow8)
      have HB8 := Lib.hid (HB7.out.grown hgrow8 hsz7 (own_base HO7.out))
      have HW8 := Lib.hid (HB2.out.trans (HB8.out.mono HB2.out.size))
      have HX8 : Hid (elStr.sl w8 v8 AW) := by
        rw [HW.out] at hown8
        exact El.sl_of_own hown8 (by omega)
      clear hgrow8 hown8 HB7 HO7 HX7
      refine (CJ.out _ _ HX8.out).mono ?_
      rintro e w9 ⟨rfl, hb9⟩
      have HW9 := Lib.hid (HW8.out.trans (hb9.mono HW8.out.size))
      clear hb9
      go_wp2
      go_ret
      exact ⟨ret_str HE.out, HW9.out⟩

end Go.Proofs.YtloanidfkefenaaGreatDoor
