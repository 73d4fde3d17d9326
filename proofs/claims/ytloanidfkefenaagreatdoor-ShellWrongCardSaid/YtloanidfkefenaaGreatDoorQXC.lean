/-
  bindleref24.ReadLine: a line is a command's just where the plain function says so.
-/
import Derived.Test.YtloanidfkefenaaGreatDoorQXB
import Derived.Deep.LoopGhost
import Derived.Deep.CutRange
namespace Go.Proofs.YtloanidfkefenaaGreatDoor
open Go.RowKit Go.Shelf
set_option maxRecDepth 100000
set_option linter.unusedVariables false

set_option maxHeartbeats 8000000 in
theorem ReadLine_any (s : ByteArray) (w : World) (hs : s.size ≤ 100000) : Calls Tryz.prog 23 #[.string s] w (RlR w (lineB (splitL 32 s.data.toList))) := by
  have HC : Hid (∀ W, Calls Tryz.prog 39 #[.string s] W (StrR W (strs 32 s.data.toList))) := fun W => cut_any s W hs
  have HLW : Hid (splitL 32 s.data.toList = lw (strs 32 s.data.toList)) := (lw_strs _).symm
  obtain ⟨hok1, hok2⟩ := strs_ok s hs
  have HK := Lib.hid hok1
  clear hok1
  rw [HLW.out]
  generalize strs 32 s.data.toList = ws at *
  clear HLW
  have HLL := Lib.hid (lw_len ws)
  generalize hB : lineB (lw ws) = LB at *
  have HB := Lib.hid hB
  clear hB
  go_enter Tryz.func23, Tryz.ntmps23
  go_wp2_with fail
  refine (HC.out _).mono ?_
  rintro e w1 ⟨v, rfl, hsl, hb1⟩
  obtain ⟨p, c, rfl, hpc⟩ := El.sl_form hsl
  have HA0 := Lib.hid (rlA_start w w1 w.heap.size rfl ws hb1)
  have HSL := Lib.hid hsl
  have hz1 : w.heap.size < w1.heap.size := by have := hb1.size; simp at this; omega
  have hr1 : w1.heap[w.heap.size]? = some (.cells #[.int .i64 0, .int .i64 0, .int .i64 0, .bool false, .int .i64 0, .int .i64 0, .int .i64 0, .slice none 0 0, .slice none 0 0, .slice none 0 0] 35 (0, 0)) := (hb1.block _ (by simp)).trans (heap_alloc_new _ _)
  have HR1 := Lib.hid hr1
  have HB1 : Hid (Below w.heap.size w w1) := ((Below.refl w.heap.size w).alloc (Nat.le_refl _) _).trans (hb1.mono (by simp))
  clear hb1 hsl HC hr1
  by_cases h10 : ws.length < 10
  · have HE : Hid (LB = false) := by
      unfold Hid
      rw [← HB.out]; exact line_short _ (by rw [HLL.out]; omega)
    have q0 : w1.cell? ⟨w.heap.size, 0, none⟩ = some (.int .i64 0) := by rw [Lib.cell_of_heap HR1.out]; rfl
    have q1 : w1.cell? ⟨w.heap.size, 1, none⟩ = some (.int .i64 0) := by rw [Lib.cell_of_heap HR1.out]; rfl
    have q2 : w1.cell? ⟨w.heap.size, 2, none⟩ = some (.int .i64 0) := by rw [Lib.cell_of_heap HR1.out]; rfl
    have q3 : w1.cell? ⟨w.heap.size, 3, none⟩ = some (.bool false) := by rw [Lib.cell_of_heap HR1.out]; rfl
    have q4 : w1.cell? ⟨w.heap.size, 4, none⟩ = some (.int .i64 0) := by rw [Lib.cell_of_heap HR1.out]; rfl
    have q5 : w1.cell? ⟨w.heap.size, 5, none⟩ = some (.int .i64 0) := by rw [Lib.cell_of_heap HR1.out]; rfl
    have q6 : w1.cell? ⟨w.heap.size, 6, none⟩ = some (.int .i64 0) := by rw [Lib.cell_of_heap HR1.out]; rfl
    have q7 : w1.cell? ⟨w.heap.size, 7, none⟩ = some (.slice none 0 0) := by rw [Lib.cell_of_heap HR1.out]; rfl
    have q8 : w1.cell? ⟨w.heap.size, 8, none⟩ = some (.slice none 0 0) := by rw [Lib.cell_of_heap HR1.out]; rfl
    have q9 : w1.cell? ⟨w.heap.size, 9, none⟩ = some (.slice none 0 0) := by rw [Lib.cell_of_heap HR1.out]; rfl
    have f := fun o => Lib.frozen_of_heap HR1.out o
    have f0 := f 0
    have f1 := f 1
    have f2 := f 2
    have f3 := f 3
    have f4 := f 4
    have f5 := f 5
    have f6 := f 6
    have f7 := f 7
    have f8 := f 8
    have f9 := f 9
    clear f
    go_wp2
    exact bodyPost_ret (v := .tuple #[.agg #[.int .i64 0, .int .i64 0, .int .i64 0, .bool false, .int .i64 0, .int .i64 0, .int .i64 0, .slice none 0 0, .slice none 0 0, .slice none 0 0], .bool false]) (by simp [results, Tryz.results23, go_sem, q0, q1, q2, q3, q4, q5, q6, q7, q8, q9]) rfl (RlR.no HE.out HB1.out)
  · have hd10 : decide ((ws.length : Int) < 10) = false := decide_eq_false (by omega)
    go_wp2
    go_loopw [6] (fun kk wr => ∃ (k : Nat), k ≤ 7 ∧ kk = .int .i64 k ∧ Hid (RlA w w1 w.heap.size w1.heap.size ws k wr)) (fun kk _ => 7 - (intOf kk).toNat)
    case atStart => exact ⟨0, Nat.zero_le _, rfl, HA0⟩
    case round =>
      obtain ⟨k, hk, rfl, HR⟩ := hrel
      by_cases hlt : k < 7
      · have hkl : k < ws.length := by omega
        obtain ⟨b, o, rfl, hcell0⟩ := El.sl_at (El.sl_below HR.out.below HSL.out) k hkl
        have hcell : wr.cell? ⟨b, o + k, none⟩ = some (.string ws[k]) := hcell0 _ (List.getElem?_eq_getElem hkl)
        have hxs : ws[k].size ≤ 1000000 := HK.out _ (List.getElem_mem hkl)
        clear hcell0
        cases hnb : numB ws[k].data.toList with
        | true =>
          have HC := Lib.hid (Number_yes ws[k] wr hxs hnb)
          obtain ⟨⟨n0, hc0⟩, hf0⟩ := HR.out.cell k hlt
          have HN := Lib.hid (HR.out.store hlt hkl hnb (numV ws[k].data.toList) (nV_at ws k hkl).symm)
          clear hnb
          generalize numV ws[k].data.toList = V at *
          generalize ws[k] = X at *
          go_wp2_with fail
          refine HC.out.mono ?_
          rintro e w2 ⟨rfl, rfl⟩
          go_wp2
          go_roundw
          case rel => exact ⟨k + 1, by omega, by go_num, HN⟩
          case measure => simp [intOf]; omega
        | false =>
          have HC := Lib.hid (Number_no ws[k] wr hxs hnb)
          have HE : Hid (LB = false) := by
            unfold Hid
            rw [← HB.out]
            have hkl' : k < (lw ws).length := by rw [HLL.out]; exact hkl
            exact line_head _ (head_no _ k hlt hkl' (by rw [lw_at ws k hkl hkl']; exact hnb))
          clear hnb
          generalize ws[k] = X at *
          obtain ⟨q0, q1, q2, q3, q4, q5, q6, q7, q8, q9⟩ := HR.out.cells
          obtain ⟨f0, f1, f2, f3, f4, f5, f6, f7, f8, f9⟩ := HR.out.free
          have HBz := Lib.hid HR.out.belowz
          go_wp2_with fail
          refine HC.out.mono ?_
          rintro e w2 ⟨rfl, rfl⟩
          go_wp2
          exact bodyPost_ret (v := .tuple #[.agg #[.int .i64 0, .int .i64 0, .int .i64 0, .bool false, .int .i64 0, .int .i64 0, .int .i64 0, .slice none 0 0, .slice none 0 0, .slice none 0 0], .bool false]) (by simp [results, Tryz.results23, go_sem, q0, q1, q2, q3, q4, q5, q6, q7, q8, q9]) rfl (RlR.no HE.out HBz.out)
      · obtain rfl : k = 7 := by omega
        have m0 := HR.out.num 0 (by omega)
        have m1 := HR.out.num 1 (by omega)
        have m2 := HR.out.num 2 (by omega)
        have m3 := HR.out.num 3 (by omega)
        have m4 := HR.out.num 4 (by omega)
        have m5 := HR.out.num 5 (by omega)
        have m6 := HR.out.num 6 (by omega)
        have HG : Hid ((!decide (nV ws 3 = 0) && !decide (nV ws 3 = 1)) = !headB (lw ws)) := by
          have h3 : 3 < (lw ws).length := by rw [HLL.out]; omega
          have e3 : nV ws 3 = numV (lw ws)[3] := by rw [lw_at ws 3 (by omega) h3]; exact nV_at ws 3 (by omega)
          have hall := head_all (lw ws) (fun k hk hk7 => by rw [lw_at ws k (by rw [← HLL.out]; exact hk) hk]; exact HR.out.good k _ hk7)
          by_cases hv : nV ws 3 = 0 ∨ nV ws 3 = 1
          · have := head_yes _ h3 hall (by rw [← e3]; exact hv)
            rw [this]
            rcases hv with hv | hv <;> rw [hv] <;> rfl
          · have := head_flag _ h3 (by rw [← e3]; omega) (by rw [← e3]; omega)
            rw [this, decide_eq_false (by omega), decide_eq_false (by omega)]; rfl
        have HC0 := Lib.hid (HR.out.toC #[.int .i64 (nV ws 0), .int .i64 (nV ws 1), .int .i64 (nV ws 2), .bool (nV ws 3 == 1), .int .i64 (nV ws 4), .int .i64 (nV ws 5), .int .i64 (nV ws 6), .slice none 0 0, .slice none 0 0, .slice none 0 0])
        clear HR HA0
        generalize nV ws 0 = N0 at *
        generalize nV ws 1 = N1 at *
        generalize nV ws 2 = N2 at *
        generalize nV ws 3 = N3 at *
        generalize nV ws 4 = N4 at *
        generalize nV ws 5 = N5 at *
        generalize nV ws 6 = N6 at *
        go_upto_region 13 with fail
        have m3' := cell_below ((Below.refl wr.heap.size wr).alloc (Nat.le_refl _) (.cells #[.int .i64 N0, .int .i64 N1, .int .i64 N2, .bool (N3 == 1), .int .i64 N4, .int .i64 N5, .int .i64 N6, .slice none 0 0, .slice none 0 0, .slice none 0 0] 35)) m3
        clear m0 m1 m2 m3 m4 m5 m6 hlt hd10
        generalize wr.alloc (.cells #[.int .i64 N0, .int .i64 N1, .int .i64 N2, .bool (N3 == 1), .int .i64 N4, .int .i64 N5, .int .i64 N6, .slice none 0 0, .slice none 0 0, .slice none 0 0] 35) = wc at *
        generalize wr.heap.size = yc at *
        go_cut [66] from 59 to 65 (fun s66 wx => s66 = .bool (!decide (N3 = 0) && !decide (N3 = 1)) ∧ wx = wc)
        case first =>
          by_cases hv0 : N3 = 0
          · subst hv0
            go_wp2_with fail
            go_meet
            exact ⟨rfl, rfl⟩
          · by_cases hv1 : N3 = 1
            · subst hv1
              go_wp2_with fail
              go_meet
              exact ⟨rfl, rfl⟩
            · have e0 : (N3 != 0) = true := bne_iff_ne.2 hv0
              have e1 : (N3 != 1) = true := bne_iff_ne.2 hv1
              go_wp2_with fail
              go_meet
              exact ⟨by rw [decide_eq_false hv0, decide_eq_false hv1]; rfl, rfl⟩
        case rest =>
          obtain ⟨rfl, rfl⟩ := hcut
          rw [HG.out]
          cases hh : headB (lw ws) with
          | false =>
            have HE : Hid (LB = false) := by
              unfold Hid
              rw [← HB.out]; exact line_head _ hh
            obtain ⟨q0, q1, q2, q3, q4, q5, q6, q7, q8, q9⟩ := HC0.out.toRlB.cells
            obtain ⟨f0, f1, f2, f3, f4, f5, f6, f7, f8, f9⟩ := HC0.out.toRlB.free
            have HBz := Lib.hid HC0.out.toRlB.belowz
            clear hh
            go_wp2
            exact bodyPost_ret (v := .tuple #[.agg #[.int .i64 0, .int .i64 0, .int .i64 0, .bool false, .int .i64 0, .int .i64 0, .int .i64 0, .slice none 0 0, .slice none 0 0, .slice none 0 0], .bool false]) (by simp [results, Tryz.results23, go_sem, q0, q1, q2, q3, q4, q5, q6, q7, q8, q9]) rfl (RlR.no HE.out HBz.out)
          | true =>
            have HT : Hid (lineB (lw ws) = tailB 0 ((lw ws).drop 7)) := line_tail _ (by rw [HLL.out]; omega) hh
            clear hh
            go_wp2
            generalize (N3 == 1) = b3 at *
            go_loopw [10, 11] (fun aa pp wr => ∃ (at_ part : Nat) (F0 F1 F2 : SlV), part ≤ 3 ∧ at_ ≤ ws.length ∧ aa = .int .i64 at_ ∧ pp = .int .i64 part ∧ Hid (RlC w w1 w.heap.size w1.heap.size yc #[.int .i64 N0, .int .i64 N1, .int .i64 N2, .bool b3, .int .i64 N4, .int .i64 N5, .int .i64 N6, .slice F0.p F0.n F0.c, .slice F1.p F1.n F1.c, .slice F2.p F2.n F2.c] wr) ∧ Hid ((part ≤ 0 → F0 = ⟨none, 0, 0⟩) ∧ (part ≤ 1 → F1 = ⟨none, 0, 0⟩) ∧ (part ≤ 2 → F2 = ⟨none, 0, 0⟩)) ∧ Hid (lineB (lw ws) = tailB part ((lw ws).drop at_))) (fun _ pp _ => 3 - (intOf pp).toNat)
            case atStart => exact ⟨7, 0, ⟨none, 0, 0⟩, ⟨none, 0, 0⟩, ⟨none, 0, 0⟩, by omega, by omega, rfl, rfl, HC0, ⟨fun _ => rfl, fun _ => rfl, fun _ => rfl⟩, HT⟩
            case round =>
              clear HC0 HT HG
              obtain ⟨a, part, F0, F1, F2, hp3, ha, rfl, rfl, HCr, HF, HT⟩ := hrel
              by_cases hp : part < 3
              · by_cases hal : a < ws.length
                · have HWr := Lib.hid (El.sl_below HCr.out.below HSL.out)
                  have hal' : a < (lw ws).length := by rw [HLL.out]; exact hal
                  have hxs : ws[a].size ≤ 1000000 := HK.out _ (List.getElem_mem hal)
                  cases hcn : cntB ws[a].data.toList (ws.length - a - 1) with
                  | false =>
                    have HC := Lib.hid (count_no ws p c a wr HWr.out hpc (by omega) hal hxs hcn)
                    have HE : Hid (LB = false) := by
                      unfold Hid
                      rw [← HB.out]
                      refine sec_shut (lw ws) part a hp hal' HT.out ?_
                      rw [lw_at ws a hal hal', HLL.out]; exact hcn
                    obtain ⟨q0, q1, q2, q3, q4, q5, q6, q7, q8, q9⟩ := HCr.out.toRlB.cells
                    obtain ⟨f0, f1, f2, f3, f4, f5, f6, f7, f8, f9⟩ := HCr.out.toRlB.free
                    have HBz := Lib.hid HCr.out.toRlB.belowz
                    clear hcn
                    go_wp2_with fail
                    refine HC.out.mono ?_
                    rintro e w2 ⟨⟨n, rfl⟩, rfl⟩
                    go_wp2
                    exact bodyPost_ret (v := .tuple #[.agg #[.int .i64 0, .int .i64 0, .int .i64 0, .bool false, .int .i64 0, .int .i64 0, .int .i64 0, .slice none 0 0, .slice none 0 0, .slice none 0 0], .bool false]) (by simp [results, Tryz.results23, go_sem, q0, q1, q2, q3, q4, q5, q6, q7, q8, q9]) rfl (RlR.no HE.out HBz.out)
                  | true =>
                    obtain ⟨n, hnb, hn, hle⟩ := cnt_parts hcn
                    rcases (show part = 0 ∨ part = 1 ∨ part = 2 by omega) with rfl | rfl | rfl
                    · have HIn := Lib.hid (sec_open (lw ws) 0 a n (by omega) hal' HT.out (by rw [lw_at ws a hal hal']; exact hnb) (by rw [lw_at ws a hal hal']; exact hn) (by rw [HLL.out]; exact hle))
                      have HC := Lib.hid (count_yes ws p c a wr HWr.out hpc (by omega) hal hxs n hnb hn hle)
                      obtain rfl := HF.out.1 (by omega)
                      obtain rfl := HF.out.2.1 (by omega)
                      obtain rfl := HF.out.2.2 (by omega)
                      clear hn hnb hcn HF
                      go_wp2_with fail
                      refine HC.out.mono ?_
                      rintro e w2 ⟨rfl, rfl⟩
                      clear HC
                      go_wp2
                      obtain ⟨wo, rfl⟩ : ∃ wo : World, wo = wr := ⟨_, rfl⟩
                      go_loopw [14] (fun ii wr => ∃ (i : Nat) (F : SlV) (L : List Int), a + 1 ≤ i ∧ i ≤ a + n + 1 ∧ ii = .int .i64 i ∧ L.length ≤ i ∧ Hid (RlC w w1 w.heap.size w1.heap.size yc #[.int .i64 N0, .int .i64 N1, .int .i64 N2, .bool b3, .int .i64 N4, .int .i64 N5, .int .i64 N6, .slice F.p F.n F.c, .slice (⟨none, 0, 0⟩ : SlV).p (⟨none, 0, 0⟩ : SlV).n (⟨none, 0, 0⟩ : SlV).c, .slice (⟨none, 0, 0⟩ : SlV).p (⟨none, 0, 0⟩ : SlV).n (⟨none, 0, 0⟩ : SlV).c] wr) ∧ Hid (elInt.own wr (yc + 1) (.slice F.p F.n F.c) L) ∧ Hid (InS (lw ws) 0 i (a + n + 1))) (fun ii _ => a + n + 2 - (intOf ii).toNat)
                      case atStart => exact ⟨a + 1, ⟨none, 0, 0⟩, [], Nat.le_refl _, by omega, by go_num, by simp, HCr, elInt.own_nil _ _, HIn⟩
                      case round =>
                        clear HCr HIn HWr HT
                        obtain ⟨i, F, L, hi1, hi2, rfl, hL, HCr, HO, HIn⟩ := hrel
                        by_cases hin : i ≤ a + n
                        · have hil : i < ws.length := by omega
                          have hil' : i < (lw ws).length := by rw [HLL.out]; exact hil
                          obtain ⟨b, o, rfl, hcell0⟩ := El.sl_at (El.sl_below HCr.out.below HSL.out) i hil
                          have hcell : wr.cell? ⟨b, o + i, none⟩ = some (.string ws[i]) := hcell0 _ (List.getElem?_eq_getElem hil)
                          have hxi : ws[i].size ≤ 1000000 := HK.out _ (List.getElem_mem hil)
                          have HN := Lib.hid (fun W => Number_if ws[i] W hxi)
                          have HBt := Lib.hid (fun W => bytes_if ws[i] W hxi)
                          clear hcell0
                          cases hchk : numB ws[i].data.toList with
                          | true =>
                            have HI2 : Hid (InS (lw ws) 0 (i + 1) (a + n + 1)) := HIn.out.go (by omega) hil' (by rw [lw_at ws i hil hil']; exact hchk)
                            unfold Hid at HN HBt
                            rw [hchk] at HN
                            clear hchk hil'
                            generalize numB ws[i].data.toList = NB at *
                            generalize hexB ws[i].data.toList = XB at *
                            generalize ws[i] = X at *
                            have HN := Lib.hid HN
                            have HBt := Lib.hid HBt
                            go_wp2_with fail
                            refine (HN.out _).mono ?_
                            rintro e w2 ⟨⟨m, rfl⟩, rfl⟩
                            go_wp2_with fail
                            refine (HBt.out _).mono ?_
                            rintro e w3 ⟨⟨q, qn, qc, rfl⟩, hb3⟩
                            have HC3 := Lib.hid (HCr.out.under hb3)
                            have HO3 := Lib.hid (El.own_below HO.out hb3)
                            have hc3 : w3.cell? ⟨yc, 7, none⟩ = some (.slice F.p F.n F.c) := (HC3.out.cell 7).trans rfl
                            have hz3 : yc + 1 ≤ w3.heap.size := HC3.out.cz
                            clear hb3 HN HBt
                            go_wp2_with (at_builtin; refine wp_append_el elInt _ rfl _ _ rfl (yc + 1) _ _ L [m] rfl rfl (El.own_below HO3.out ((Below.refl _ _).alloc (Nat.le_refl _) _)) (elInt.sl_tmp2 _ _ _ _ rfl _ rfl) (by simp; omega) (by simp; omega) ?_; intro v4 w4 hown4 hgrow4; obtain ⟨p4, n4, c4, rfl⟩ : ∃ p n c, v4 = .slice p n c := (by obtain ⟨p4, c4, e4, _⟩ := El.sl_form (El.sl_of_own hown4 (by simp; omega)); exact ⟨p4, _, c4, e4⟩); have HC4 := Lib.hid ((HC3.out.under ((Below.refl _ _).alloc (Nat.le_refl _) _)).grown hgrow4 (fun g hg => own_base HO3.out g hg)); have HO4 := Lib.hid hown4; have hc4 : w4.cell? ⟨yc, 7, none⟩ = some (.slice F.p F.n F.c) := (HC4.out.cell 7).trans rfl; have hf4 := HC4.out.freeC 7; clear hown4 hgrow4)
                            go_roundw
                            case rel => exact ⟨i + 1, ⟨p4, n4, c4⟩, L ++ [m], by omega, by omega, by go_num, by simp; omega, HC4.out.set 7 (.slice p4 n4 c4), own_grown HO4.out (grown_setO w4 yc 7 (.slice p4 n4 c4)) (by omega), HI2⟩
                            case measure => simp [intOf]; omega
                          | false =>
                            have HE : Hid (LB = false) := by
                              unfold Hid
                              rw [← HB.out]
                              exact HIn.out.bad (by omega) hil' (by rw [lw_at ws i hil hil']; exact hchk)
                            unfold Hid at HN HBt
                            rw [hchk] at HN
                            clear hchk hil'
                            generalize numB ws[i].data.toList = NB at *
                            generalize hexB ws[i].data.toList = XB at *
                            generalize ws[i] = X at *
                            have HN := Lib.hid HN
                            have HBt := Lib.hid HBt
                            go_wp2_with fail
                            refine (HN.out _).mono ?_
                            rintro e w2 ⟨⟨m, rfl⟩, rfl⟩
                            go_wp2_with fail
                            refine (HBt.out _).mono ?_
                            rintro e w3 ⟨⟨q, qn, qc, rfl⟩, hb3⟩
                            have HC3 := Lib.hid (HCr.out.toRlB.under hb3)
                            clear hb3 HN HBt
                            obtain ⟨q0, q1, q2, q3, q4, q5, q6, q7, q8, q9⟩ := HC3.out.cells
                            obtain ⟨f0, f1, f2, f3, f4, f5, f6, f7, f8, f9⟩ := HC3.out.free
                            have HBz := Lib.hid HC3.out.belowz
                            go_wp2
                            exact bodyPost_ret (v := .tuple #[.agg #[.int .i64 0, .int .i64 0, .int .i64 0, .bool false, .int .i64 0, .int .i64 0, .int .i64 0, .slice none 0 0, .slice none 0 0, .slice none 0 0], .bool false]) (by simp [results, Tryz.results23, go_sem, q0, q1, q2, q3, q4, q5, q6, q7, q8, q9]) rfl (RlR.no HE.out HBz.out)
                        · obtain rfl : i = a + n + 1 := by omega
                          have HD := Lib.hid HIn.out.done
                          clear HIn
                          go_wp2
                          go_roundw
                          case rel => (repeat apply Exists.intro); exact ⟨⟨a + n + 1, 1, F, ⟨none, 0, 0⟩, ⟨none, 0, 0⟩, (by omega), (by omega), (by go_num), (by go_num), HCr, ⟨fun h => absurd h (by omega), fun h => rfl, fun h => rfl⟩, HD⟩, rfl⟩
                          case measure => simp [intOf]
                    · have HIn := Lib.hid (sec_open (lw ws) 1 a n (by omega) hal' HT.out (by rw [lw_at ws a hal hal']; exact hnb) (by rw [lw_at ws a hal hal']; exact hn) (by rw [HLL.out]; exact hle))
                      have HC := Lib.hid (count_yes ws p c a wr HWr.out hpc (by omega) hal hxs n hnb hn hle)
                      obtain rfl := HF.out.2.1 (by omega)
                      obtain rfl := HF.out.2.2 (by omega)
                      clear hn hnb hcn HF
                      go_wp2_with fail
                      refine HC.out.mono ?_
                      rintro e w2 ⟨rfl, rfl⟩
                      clear HC
                      go_wp2
                      obtain ⟨wo, rfl⟩ : ∃ wo : World, wo = wr := ⟨_, rfl⟩
                      go_loopw [14] (fun ii wr => ∃ (i : Nat) (F : SlV) (L : List Int), a + 1 ≤ i ∧ i ≤ a + n + 1 ∧ ii = .int .i64 i ∧ L.length ≤ i ∧ Hid (RlC w w1 w.heap.size w1.heap.size yc #[.int .i64 N0, .int .i64 N1, .int .i64 N2, .bool b3, .int .i64 N4, .int .i64 N5, .int .i64 N6, .slice F0.p F0.n F0.c, .slice F.p F.n F.c, .slice (⟨none, 0, 0⟩ : SlV).p (⟨none, 0, 0⟩ : SlV).n (⟨none, 0, 0⟩ : SlV).c] wr) ∧ Hid (elInt.own wr (yc + 1) (.slice F.p F.n F.c) L) ∧ Hid (InS (lw ws) 1 i (a + n + 1))) (fun ii _ => a + n + 2 - (intOf ii).toNat)
                      case atStart => exact ⟨a + 1, ⟨none, 0, 0⟩, [], Nat.le_refl _, by omega, by go_num, by simp, HCr, elInt.own_nil _ _, HIn⟩
                      case round =>
                        clear HCr HIn HWr HT
                        obtain ⟨i, F, L, hi1, hi2, rfl, hL, HCr, HO, HIn⟩ := hrel
                        by_cases hin : i ≤ a + n
                        · have hil : i < ws.length := by omega
                          have hil' : i < (lw ws).length := by rw [HLL.out]; exact hil
                          obtain ⟨b, o, rfl, hcell0⟩ := El.sl_at (El.sl_below HCr.out.below HSL.out) i hil
                          have hcell : wr.cell? ⟨b, o + i, none⟩ = some (.string ws[i]) := hcell0 _ (List.getElem?_eq_getElem hil)
                          have hxi : ws[i].size ≤ 1000000 := HK.out _ (List.getElem_mem hil)
                          have HN := Lib.hid (fun W => Number_if ws[i] W hxi)
                          have HBt := Lib.hid (fun W => bytes_if ws[i] W hxi)
                          clear hcell0
                          cases hchk : numB ws[i].data.toList with
                          | true =>
                            have HI2 : Hid (InS (lw ws) 1 (i + 1) (a + n + 1)) := HIn.out.go (by omega) hil' (by rw [lw_at ws i hil hil']; exact hchk)
                            unfold Hid at HN HBt
                            rw [hchk] at HN
                            clear hchk hil'
                            generalize numB ws[i].data.toList = NB at *
                            generalize hexB ws[i].data.toList = XB at *
                            generalize ws[i] = X at *
                            have HN := Lib.hid HN
                            have HBt := Lib.hid HBt
                            go_wp2_with fail
                            refine (HN.out _).mono ?_
                            rintro e w2 ⟨⟨m, rfl⟩, rfl⟩
                            go_wp2_with fail
                            refine (HBt.out _).mono ?_
                            rintro e w3 ⟨⟨q, qn, qc, rfl⟩, hb3⟩
                            have HC3 := Lib.hid (HCr.out.under hb3)
                            have HO3 := Lib.hid (El.own_below HO.out hb3)
                            have hc3 : w3.cell? ⟨yc, 8, none⟩ = some (.slice F.p F.n F.c) := (HC3.out.cell 8).trans rfl
                            have hz3 : yc + 1 ≤ w3.heap.size := HC3.out.cz
                            clear hb3 HN HBt
                            go_wp2_with (at_builtin; refine wp_append_el elInt _ rfl _ _ rfl (yc + 1) _ _ L [m] rfl rfl (El.own_below HO3.out ((Below.refl _ _).alloc (Nat.le_refl _) _)) (elInt.sl_tmp2 _ _ _ _ rfl _ rfl) (by simp; omega) (by simp; omega) ?_; intro v4 w4 hown4 hgrow4; obtain ⟨p4, n4, c4, rfl⟩ : ∃ p n c, v4 = .slice p n c := (by obtain ⟨p4, c4, e4, _⟩ := El.sl_form (El.sl_of_own hown4 (by simp; omega)); exact ⟨p4, _, c4, e4⟩); have HC4 := Lib.hid ((HC3.out.under ((Below.refl _ _).alloc (Nat.le_refl _) _)).grown hgrow4 (fun g hg => own_base HO3.out g hg)); have HO4 := Lib.hid hown4; have hc4 : w4.cell? ⟨yc, 8, none⟩ = some (.slice F.p F.n F.c) := (HC4.out.cell 8).trans rfl; have hf4 := HC4.out.freeC 8; clear hown4 hgrow4)
                            go_roundw
                            case rel => exact ⟨i + 1, ⟨p4, n4, c4⟩, L ++ [m], by omega, by omega, by go_num, by simp; omega, HC4.out.set 8 (.slice p4 n4 c4), own_grown HO4.out (grown_setO w4 yc 8 (.slice p4 n4 c4)) (by omega), HI2⟩
                            case measure => simp [intOf]; omega
                          | false =>
                            have HE : Hid (LB = false) := by
                              unfold Hid
                              rw [← HB.out]
                              exact HIn.out.bad (by omega) hil' (by rw [lw_at ws i hil hil']; exact hchk)
                            unfold Hid at HN HBt
                            rw [hchk] at HN
                            clear hchk hil'
                            generalize numB ws[i].data.toList = NB at *
                            generalize hexB ws[i].data.toList = XB at *
                            generalize ws[i] = X at *
                            have HN := Lib.hid HN
                            have HBt := Lib.hid HBt
                            go_wp2_with fail
                            refine (HN.out _).mono ?_
                            rintro e w2 ⟨⟨m, rfl⟩, rfl⟩
                            go_wp2_with fail
                            refine (HBt.out _).mono ?_
                            rintro e w3 ⟨⟨q, qn, qc, rfl⟩, hb3⟩
                            have HC3 := Lib.hid (HCr.out.toRlB.under hb3)
                            clear hb3 HN HBt
                            obtain ⟨q0, q1, q2, q3, q4, q5, q6, q7, q8, q9⟩ := HC3.out.cells
                            obtain ⟨f0, f1, f2, f3, f4, f5, f6, f7, f8, f9⟩ := HC3.out.free
                            have HBz := Lib.hid HC3.out.belowz
                            go_wp2
                            exact bodyPost_ret (v := .tuple #[.agg #[.int .i64 0, .int .i64 0, .int .i64 0, .bool false, .int .i64 0, .int .i64 0, .int .i64 0, .slice none 0 0, .slice none 0 0, .slice none 0 0], .bool false]) (by simp [results, Tryz.results23, go_sem, q0, q1, q2, q3, q4, q5, q6, q7, q8, q9]) rfl (RlR.no HE.out HBz.out)
                        · obtain rfl : i = a + n + 1 := by omega
                          have HD := Lib.hid HIn.out.done
                          clear HIn
                          go_wp2
                          go_roundw
                          case rel => (repeat apply Exists.intro); exact ⟨⟨a + n + 1, 2, F0, F, ⟨none, 0, 0⟩, (by omega), (by omega), (by go_num), (by go_num), HCr, ⟨fun h => absurd h (by omega), fun h => absurd h (by omega), fun h => rfl⟩, HD⟩, rfl⟩
                          case measure => simp [intOf]
                    · have HIn := Lib.hid (sec_open (lw ws) 2 a n (by omega) hal' HT.out (by rw [lw_at ws a hal hal']; exact hnb) (by rw [lw_at ws a hal hal']; exact hn) (by rw [HLL.out]; exact hle))
                      have HC := Lib.hid (count_yes ws p c a wr HWr.out hpc (by omega) hal hxs n hnb hn hle)
                      obtain rfl := HF.out.2.2 (by omega)
                      clear hn hnb hcn HF
                      go_wp2_with fail
                      refine HC.out.mono ?_
                      rintro e w2 ⟨rfl, rfl⟩
                      clear HC
                      go_wp2
                      obtain ⟨wo, rfl⟩ : ∃ wo : World, wo = wr := ⟨_, rfl⟩
                      go_loopw [14] (fun ii wr => ∃ (i : Nat) (F : SlV) (L : List SlV), a + 1 ≤ i ∧ i ≤ a + n + 1 ∧ ii = .int .i64 i ∧ L.length ≤ i ∧ Hid (RlC w w1 w.heap.size w1.heap.size yc #[.int .i64 N0, .int .i64 N1, .int .i64 N2, .bool b3, .int .i64 N4, .int .i64 N5, .int .i64 N6, .slice F0.p F0.n F0.c, .slice F1.p F1.n F1.c, .slice F.p F.n F.c] wr) ∧ Hid (elBts.own wr (yc + 1) (.slice F.p F.n F.c) L) ∧ Hid (InS (lw ws) 2 i (a + n + 1))) (fun ii _ => a + n + 2 - (intOf ii).toNat)
                      case atStart => exact ⟨a + 1, ⟨none, 0, 0⟩, [], Nat.le_refl _, by omega, by go_num, by simp, HCr, elBts.own_nil _ _, HIn⟩
                      case round =>
                        clear HCr HIn HWr HT
                        obtain ⟨i, F, L, hi1, hi2, rfl, hL, HCr, HO, HIn⟩ := hrel
                        by_cases hin : i ≤ a + n
                        · have hil : i < ws.length := by omega
                          have hil' : i < (lw ws).length := by rw [HLL.out]; exact hil
                          obtain ⟨b, o, rfl, hcell0⟩ := El.sl_at (El.sl_below HCr.out.below HSL.out) i hil
                          have hcell : wr.cell? ⟨b, o + i, none⟩ = some (.string ws[i]) := hcell0 _ (List.getElem?_eq_getElem hil)
                          have hxi : ws[i].size ≤ 1000000 := HK.out _ (List.getElem_mem hil)
                          have HN := Lib.hid (fun W => Number_if ws[i] W hxi)
                          have HBt := Lib.hid (fun W => bytes_if ws[i] W hxi)
                          clear hcell0
                          cases hchk : hexB ws[i].data.toList with
                          | true =>
                            have HI2 : Hid (InS (lw ws) 2 (i + 1) (a + n + 1)) := HIn.out.go (by omega) hil' (by rw [lw_at ws i hil hil']; exact hchk)
                            unfold Hid at HN HBt
                            rw [hchk] at HBt
                            clear hchk hil'
                            generalize numB ws[i].data.toList = NB at *
                            generalize hexB ws[i].data.toList = XB at *
                            generalize ws[i] = X at *
                            have HN := Lib.hid HN
                            have HBt := Lib.hid HBt
                            go_wp2_with fail
                            refine (HN.out _).mono ?_
                            rintro e w2 ⟨⟨m, rfl⟩, rfl⟩
                            go_wp2_with fail
                            refine (HBt.out _).mono ?_
                            rintro e w3 ⟨⟨q, qn, qc, rfl⟩, hb3⟩
                            have HC3 := Lib.hid (HCr.out.under hb3)
                            have HO3 := Lib.hid (El.own_below HO.out hb3)
                            have hc3 : w3.cell? ⟨yc, 9, none⟩ = some (.slice F.p F.n F.c) := (HC3.out.cell 9).trans rfl
                            have hz3 : yc + 1 ≤ w3.heap.size := HC3.out.cz
                            clear hb3 HN HBt
                            go_wp2_with (at_builtin; refine wp_append_el elBts _ rfl _ _ rfl (yc + 1) _ _ L [(⟨q, qn, qc⟩ : SlV)] rfl rfl (El.own_below HO3.out ((Below.refl _ _).alloc (Nat.le_refl _) _)) (elBts.sl_tmp2 _ _ _ _ rfl _ rfl) (by simp; omega) (by simp; omega) ?_; intro v4 w4 hown4 hgrow4; obtain ⟨p4, n4, c4, rfl⟩ : ∃ p n c, v4 = .slice p n c := (by obtain ⟨p4, c4, e4, _⟩ := El.sl_form (El.sl_of_own hown4 (by simp; omega)); exact ⟨p4, _, c4, e4⟩); have HC4 := Lib.hid ((HC3.out.under ((Below.refl _ _).alloc (Nat.le_refl _) _)).grown hgrow4 (fun g hg => own_base HO3.out g hg)); have HO4 := Lib.hid hown4; have hc4 : w4.cell? ⟨yc, 9, none⟩ = some (.slice F.p F.n F.c) := (HC4.out.cell 9).trans rfl; have hf4 := HC4.out.freeC 9; clear hown4 hgrow4)
                            go_roundw
                            case rel => exact ⟨i + 1, ⟨p4, n4, c4⟩, L ++ [(⟨q, qn, qc⟩ : SlV)], by omega, by omega, by go_num, by simp; omega, HC4.out.set 9 (.slice p4 n4 c4), own_grown HO4.out (grown_setO w4 yc 9 (.slice p4 n4 c4)) (by omega), HI2⟩
                            case measure => simp [intOf]; omega
                          | false =>
                            have HE : Hid (LB = false) := by
                              unfold Hid
                              rw [← HB.out]
                              exact HIn.out.bad (by omega) hil' (by rw [lw_at ws i hil hil']; exact hchk)
                            unfold Hid at HN HBt
                            rw [hchk] at HBt
                            clear hchk hil'
                            generalize numB ws[i].data.toList = NB at *
                            generalize hexB ws[i].data.toList = XB at *
                            generalize ws[i] = X at *
                            have HN := Lib.hid HN
                            have HBt := Lib.hid HBt
                            go_wp2_with fail
                            refine (HN.out _).mono ?_
                            rintro e w2 ⟨⟨m, rfl⟩, rfl⟩
                            go_wp2_with fail
                            refine (HBt.out _).mono ?_
                            rintro e w3 ⟨⟨q, qn, qc, rfl⟩, hb3⟩
                            have HC3 := Lib.hid (HCr.out.toRlB.under hb3)
                            clear hb3 HN HBt
                            obtain ⟨q0, q1, q2, q3, q4, q5, q6, q7, q8, q9⟩ := HC3.out.cells
                            obtain ⟨f0, f1, f2, f3, f4, f5, f6, f7, f8, f9⟩ := HC3.out.free
                            have HBz := Lib.hid HC3.out.belowz
                            go_wp2
                            exact bodyPost_ret (v := .tuple #[.agg #[.int .i64 0, .int .i64 0, .int .i64 0, .bool false, .int .i64 0, .int .i64 0, .int .i64 0, .slice none 0 0, .slice none 0 0, .slice none 0 0], .bool false]) (by simp [results, Tryz.results23, go_sem, q0, q1, q2, q3, q4, q5, q6, q7, q8, q9]) rfl (RlR.no HE.out HBz.out)
                        · obtain rfl : i = a + n + 1 := by omega
                          have HD := Lib.hid HIn.out.done
                          clear HIn
                          go_wp2
                          go_roundw
                          case rel => (repeat apply Exists.intro); exact ⟨⟨a + n + 1, 3, F0, F1, F, (by omega), (by omega), (by go_num), (by go_num), HCr, ⟨fun h => absurd h (by omega), fun h => absurd h (by omega), fun h => absurd h (by omega)⟩, HD⟩, rfl⟩
                          case measure => simp [intOf]
                · have HC := Lib.hid (count_out p ws.length c a wr (by omega))
                  have HE : Hid (LB = false) := by
                    unfold Hid
                    rw [← HB.out]
                    exact sec_none (lw ws) part a hp (by rw [HLL.out]; omega) HT.out
                  obtain ⟨q0, q1, q2, q3, q4, q5, q6, q7, q8, q9⟩ := HCr.out.toRlB.cells
                  obtain ⟨f0, f1, f2, f3, f4, f5, f6, f7, f8, f9⟩ := HCr.out.toRlB.free
                  have HBz := Lib.hid HCr.out.toRlB.belowz
                  go_wp2_with fail
                  refine HC.out.mono ?_
                  rintro e w2 ⟨rfl, rfl⟩
                  go_wp2
                  exact bodyPost_ret (v := .tuple #[.agg #[.int .i64 0, .int .i64 0, .int .i64 0, .bool false, .int .i64 0, .int .i64 0, .int .i64 0, .slice none 0 0, .slice none 0 0, .slice none 0 0], .bool false]) (by simp [results, Tryz.results23, go_sem, q0, q1, q2, q3, q4, q5, q6, q7, q8, q9]) rfl (RlR.no HE.out HBz.out)
              · obtain rfl : part = 3 := by omega
                have hE : ((a : Int) == (ws.length : Int)) = LB := by
                  rw [← HB.out, HT.out, tail_end _ _ (by rw [HLL.out]; exact ha), HLL.out]
                  rw [Bool.eq_iff_iff, beq_iff_eq, decide_eq_true_eq]
                  omega
                obtain ⟨k0, k1, k2, k3, k4, k5, k6, k7, k8, k9⟩ := HCr.out.ten
                obtain ⟨q0, q1, q2, q3, q4, q5, q6, q7, q8, q9⟩ := HCr.out.toRlB.cells
                obtain ⟨f0, f1, f2, f3, f4, f5, f6, f7, f8, f9⟩ := HCr.out.toRlB.free
                have HBz := Lib.hid HCr.out.toRlB.belowz
                go_wp2
                exact bodyPost_ret (v := .tuple #[.agg #[.int .i64 N0, .int .i64 N1, .int .i64 N2, .bool b3, .int .i64 N4, .int .i64 N5, .int .i64 N6, .slice F0.p F0.n F0.c, .slice F1.p F1.n F1.c, .slice F2.p F2.n F2.c], .bool LB]) (by simp [results, Tryz.results23, go_sem, q0, q1, q2, q3, q4, q5, q6, q7, q8, q9]) rfl ⟨N0, N1, N2, b3, N4, N5, N6, F0, F1, F2, rfl, ten_below HBz.out _ _ _ _ _ _ _ _ _ _⟩

end Go.Proofs.YtloanidfkefenaaGreatDoor
