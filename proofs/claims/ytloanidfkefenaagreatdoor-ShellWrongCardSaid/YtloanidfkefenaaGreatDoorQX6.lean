/-
  script.Parse: the commands of a text, or where it is none.
-/
import Derived.Test.YtloanidfkefenaaGreatDoorQX5
import Derived.Test.YtloanidfkefenaaGreatDoorQY2
namespace Go.Proofs.YtloanidfkefenaaGreatDoor
open Go.RowKit Go.Shelf
set_option maxRecDepth 100000
set_option linter.unusedVariables false

theorem size_zero (s : ByteArray) (h : s.size = 0) : s = ⟨#[]⟩ := by
  obtain ⟨d⟩ := s
  have : d = #[] := Array.eq_empty_of_size_eq_zero h
  rw [this]
theorem str_ne (s : ByteArray) (h : ¬ s.size = 0) : ¬ s.toList = [] ∧ s.toList.isEmpty = false := by
  have e : s.toList = s.data.toList := Lib.toList_data s
  have hl : s.data.toList.length = s.size := by simp
  constructor
  · rw [e]; intro h2; rw [h2] at hl; exact h hl.symm
  · rw [e]; cases hd : s.data.toList with
    | nil => rw [hd] at hl; exact absurd hl.symm h
    | cons a b => rfl
theorem Cut_yes (t : ByteArray) (p r : List UInt8) (w : World) (G : Glob w) (hs : t.size ≤ 1000000) (hp : (10 : UInt8) ∉ p) (h : t.data.toList = p ++ 10 :: r) :
    Calls Tryz.prog 33 #[.string t, .string ⟨#[10]⟩] w fun e w' => e = .returned (.tuple #[.string (strOf p), .string (strOf r), .bool true]) ∧ Below w.heap.size w w' :=
  (Cut_hit t 10 p r w G hs hp h).mono fun e w' ⟨h1, h2⟩ => ⟨h1, h2.below _⟩
theorem Cut_no (t : ByteArray) (w : World) (G : Glob w) (hs : t.size ≤ 1000000) (hp : (10 : UInt8) ∉ t.data.toList) :
    Calls Tryz.prog 33 #[.string t, .string ⟨#[10]⟩] w fun e w' => e = .returned (.tuple #[.string (strOf t.data.toList), .string ⟨#[]⟩, .bool false]) ∧ Below w.heap.size w w' :=
  (Cut_miss t 10 w G hs hp).mono fun e w' ⟨h1, h2⟩ => ⟨h1, h2.below _⟩

theorem tinfoCmd : (Tryz.prog.info? 35).map (fun i => (i.zero, i.size, i.bytes)) = some (some zeroCmd, 10, 128) := by kernel_rfl

variable {ops : Array Oper} {rest : List Oper} {o : Oper} {a : Act} {Q : Exit → Act → World → Prop}
theorem wp_append_cmd (w : World) (hgd : o.guard = none) (sl x : Operand) (ho : o.op = .call { callee := .builtin .append, args := #[sl, x], argTypes := #[22, 22] })
    (B : Nat) (v : Value) (n : Nat) (xs : List Value) (g : Nat) (cs : Array Value) (fr : Nat × Nat) (hs : a.eval sl = v) (hx : a.eval x = .slice (some ⟨g, 0, none⟩) 1 1) (hown : w.ownsRow B 35 10 v n xs) (hg : w.heap[g]? = some (.cells cs 35 fr)) (hc : cs.size = 10) (h1 : ∀ u ∈ cs.toList, u.oneCell' = true) (hn : n ≤ 1000000) (hB : B ≤ w.heap.size)
    (h : ∀ v' w', w'.ownsRow B 35 10 v' (n + 1) (xs ++ cs.toList) → w.grownBy w' v.ownBlock → wpList Tryz.prog ops Q rest (a.put o.dst v') w') : wpList Tryz.prog ops Q (o :: rest) a w := by
  obtain ⟨i0, hi, hz0, hz1, hz2⟩ := info_parts tinfoCmd
  refine wpList_append_own w hgd sl x 22 ho B 35 i0 zeroCmd 10 128 Tryz.underlying22 hi hz0 hz1 hz2 rfl (by decide) v n xs hs hown ⟨g, 0, none⟩ 1 1 cs.toList hx (by simpa using hc) ?_ h1 (by unfold maxLen; omega) (by omega) hB (fun v' w' h2 h3 _ => h v' w' h2 h3)
  intro j u hj
  rw [zaddr, Nat.zero_add]
  simp only [World.cell?, hg]
  simpa using hj

/-- The cells of a command in a row. -/
def CmdC (c : CmdP) (cs : List Value) : Prop := ∃ fa fb fc ca cb cc p cap, cs = [.int .i64 c.kind, .int .i64 c.policy, .int .i64 c.limit, .bool c.whole, .int .i64 c.budget, .int .i64 c.fan, .int .i64 c.room, .slice fa fb fc, .slice ca cb cc, .slice p c.ins.length cap]
def FlatC (L : List CmdP) (xs : List Value) : Prop := ∃ css : List (List Value), xs = css.flatten ∧ css.length = L.length ∧ ∀ (j : Nat) c, L[j]? = some c → ∃ cs, css[j]? = some cs ∧ CmdC c cs
theorem FlatC.nil : FlatC [] [] := ⟨[], rfl, rfl, fun j c h => by simp at h⟩
theorem FlatC.snoc {L : List CmdP} {xs : List Value} {c : CmdP} {cs : List Value} (h : FlatC L xs) (hc : CmdC c cs) : FlatC (L ++ [c]) (xs ++ cs) := by
  obtain ⟨css, h1, h2, h3⟩ := h
  refine ⟨css ++ [cs], by rw [h1]; simp, by simp [h2], fun j d hj => ?_⟩
  rcases Nat.lt_or_ge j L.length with hlt | hge
  · rw [List.getElem?_append_left hlt] at hj
    obtain ⟨ds, h4, h5⟩ := h3 j d hj
    exact ⟨ds, by rw [List.getElem?_append_left (by rw [h2]; exact hlt)]; exact h4, h5⟩
  · rw [List.getElem?_append_right hge] at hj
    have hj0 : j - L.length = 0 := by
      have := (List.getElem?_eq_some_iff.1 hj).1
      simp at this; omega
    rw [hj0] at hj
    simp at hj
    subst hj
    exact ⟨cs, by rw [List.getElem?_append_right (by rw [h2]; exact hge), h2, hj0]; rfl, hc⟩

def ParseR (w : World) (text : List UInt8) (e : Ending) (w' : World) : Prop :=
  (∀ n, parseT 1 text = some n → e = .returned (.tuple #[.slice none 0 0, .int .i64 n, .int .i64 15])) ∧
  (parseT 1 text = none → ∃ v xs, e = .returned (.tuple #[v, .int .i64 0, .int .i64 0]) ∧ w'.ownsRow w.heap.size 35 10 v (cmdsT text).length xs ∧ FlatC (cmdsT text) xs) ∧ Below w.heap.size w w'
theorem ParseR.wrong {w w' : World} {text : List UInt8} {n : Nat} (h : parseT 1 text = some n) (hb : Below w.heap.size w w') : ParseR w text (.returned (.tuple #[.slice none 0 0, .int .i64 n, .int .i64 15])) w' :=
  ⟨fun m hm => (by rw [h] at hm; injection hm with hm; rw [hm]), fun hm => (by rw [h] at hm; cases hm), hb⟩
theorem ParseR.right {w w' : World} {text : List UInt8} {v : Value} {xs : List Value} (h : parseT 1 text = none) (ho : w'.ownsRow w.heap.size 35 10 v (cmdsT text).length xs) (hf : FlatC (cmdsT text) xs) (hb : Below w.heap.size w w') : ParseR w text (.returned (.tuple #[v, .int .i64 0, .int .i64 0])) w' :=
  ⟨fun m hm => (by rw [h] at hm; cases hm), fun _ => ⟨v, xs, rfl, ho, hf⟩, hb⟩

theorem read_ok_any (p : List UInt8) (w : World) (hs : p.length ≤ 100000) (HG : Hid (∀ W, Below w.heap.size w W → Glob W)) (hb : lineB (splitL 32 p) = true) :
    Calls Tryz.prog 34 #[.string (strOf p)] w fun e w' => ∃ fv cv q cap, e = .returned (.tuple #[.agg #[.int .i64 (rdP (splitL 32 p)).kind, .int .i64 (rdP (splitL 32 p)).policy, .int .i64 (rdP (splitL 32 p)).limit, .bool (rdP (splitL 32 p)).whole, .int .i64 (rdP (splitL 32 p)).budget, .int .i64 (rdP (splitL 32 p)).fan, .int .i64 (rdP (splitL 32 p)).room, fv, cv, .slice q (rdP (splitL 32 p)).ins.length cap], .bool true]) ∧ (∃ a b c, fv = .slice a b c) ∧ (∃ a b c, cv = .slice a b c) ∧ Below w.heap.size w w' := by
  refine (read_any (strOf p) w hs HG).mono ?_
  rintro e w' ⟨v, rfl, h1, _, h3⟩
  have hb' : lineB (splitL 32 (strOf p).data.toList) = true := hb
  obtain ⟨fv, cv, iv, rfl, h4, h5, svs, h6, h7, _⟩ := h1 hb'
  have e1 : rdS (strs 32 (strOf p).data.toList) = rdP (splitL 32 p) := rdS_map (splitL 32 p)
  rw [e1] at h7 ⊢
  obtain ⟨p1, c1, rfl, _⟩ := El.sl_form h4
  obtain ⟨p2, c2, rfl, _⟩ := El.sl_form h5
  obtain ⟨p3, c3, rfl, _⟩ := El.sl_form h6
  rw [hb', h7]
  exact ⟨_, _, p3, c3, rfl, ⟨_, _, _, rfl⟩, ⟨_, _, _, rfl⟩, h3⟩
theorem read_no_any (p : List UInt8) (w : World) (hs : p.length ≤ 100000) (HG : Hid (∀ W, Below w.heap.size w W → Glob W)) (hb : lineB (splitL 32 p) = false) :
    Calls Tryz.prog 34 #[.string (strOf p)] w fun e w' => e = .returned (.tuple #[.agg #[.int .i64 0, .int .i64 0, .int .i64 0, .bool false, .int .i64 0, .int .i64 0, .int .i64 0, .slice none 0 0, .slice none 0 0, .slice none 0 0], .bool false]) ∧ Below w.heap.size w w' := by
  refine (read_any (strOf p) w hs HG).mono ?_
  rintro e w' ⟨v, rfl, _, h2, h3⟩
  have hb' : lineB (splitL 32 (strOf p).data.toList) = false := hb
  rw [h2 hb', hb']
  exact ⟨rfl, h3⟩

set_option maxHeartbeats 4000000 in
theorem Parse_any (s : ByteArray) (w : World) (hs : s.size ≤ 100000) (HG : Hid (∀ W, Below w.heap.size w W → Glob W)) :
    Calls Tryz.prog 18 #[.string s] w (ParseR w s.data.toList) := by
  generalize htx : s.data.toList = text
  have HT0 : Hid (TxS text s.data.toList (0 + 1) []) := by
    show TxS text s.data.toList 1 []
    rw [htx]; exact TxS.start _
  clear htx
  go_enter Tryz.func18, Tryz.ntmps18
  go_wp2
  go_loopw [0, 5, 6] (fun tt vv nn wr => ∃ (t : ByteArray) (n : Nat) (L : List CmdP) (xs : List Value), tt = .string t ∧ nn = .int .i64 (n + 1) ∧ L.length = n ∧ n + t.size ≤ 100000 ∧ Hid (wr.ownsRow w.heap.size 35 10 vv n xs ∧ FlatC L xs) ∧ Below w.heap.size w wr ∧ Hid (TxS text t.data.toList (n + 1) L)) (fun tt _ _ _ => (match tt with | .string t => t.size | _ => 0))
  case atStart => exact ⟨s, 0, [], [], rfl, rfl, rfl, by omega, ⟨World.ownsRow_nil _ _ _ _, FlatC.nil⟩, Below.refl _ _, HT0⟩
  case round =>
    obtain ⟨t, n, L, xs, rfl, rfl, hL, hn, HO, hB, HT⟩ := hrel
    have HLn := Lib.hid hL
    clear hL
    have hsz : w.heap.size ≤ wr.heap.size := hB.size
    by_cases h0 : t.size = 0
    · obtain rfl := size_zero t h0
      have HR : Hid (ParseR w text (.returned (.tuple #[u5, .int .i64 0, .int .i64 0])) wr) := by
        obtain ⟨h1, h2⟩ := HT.out.done
        have ho := HO.out.1
        rw [← HLn.out, ← h2] at ho
        exact ParseR.right h1 ho (h2 ▸ HO.out.2) hB
      clear h0
      go_wp2
      go_ret3
      exact HR.out
    · obtain ⟨n1, n2⟩ := str_ne t h0
      have hl : t.data.toList.length = t.size := by simp
      have hne : t.data.toList ≠ [] := fun e => by rw [e] at hl; exact h0 hl.symm
      by_cases hm : (10 : UInt8) ∈ t.data.toList
      · obtain ⟨p, r, hp, hpr⟩ := split_at 10 _ hm
        have hlen : p.length + r.length + 1 = t.size := by rw [← hl, hpr]; simp; omega
        have CC := Lib.hid (Cut_yes t p r wr (HG.out _ hB) (by omega) hp hpr)
        rw [hpr] at HT
        have HP := Lib.hid hp
        have hpl : p.length ≤ 100000 := by omega
        have hrl : (strOf r).size = r.length := rfl
        have hrs : n + 1 + (strOf r).size ≤ 100000 := by omega
        have hrm : (strOf r).size < t.size := by omega
        have HRT : Hid ((strOf r).data.toList = r) := rfl
        cases hb : lineB (splitL 32 p) with
        | true =>
          have HN : Hid (TxS text (strOf r).data.toList (n + 1 + 1) (L ++ [rdP (splitL 32 p)])) := HT.out.ok hp hb
          have CR := Lib.hid (fun W (hW : Below w.heap.size w W) => read_ok_any p W hpl (fun W2 hW2 => HG.out W2 (hW.trans (hW2.mono hW.size))) hb)
          clear hl hne hm hp hpr hb HRT hrl hlen
          generalize rdP (splitL 32 p) = c at *
          generalize strOf r = t2 at *
          go_wp2_with fail
          refine CC.out.mono ?_
          rintro e w1 ⟨rfl, hb1⟩
          have HB1 := Lib.hid (hB.trans (hb1.mono hsz))
          have HO1 := Lib.hid (own_below HO.out.1 hb1)
          clear hb1 CC
          go_wp2_with fail
          refine (CR.out _ HB1.out).mono ?_
          rintro e w2 ⟨fv, cv, q, cap, rfl, ⟨fa, fb, fc, rfl⟩, ⟨ca, cb, cc, rfl⟩, hb2⟩
          have hsz1 : w.heap.size ≤ w1.heap.size := HB1.out.size
          have HB2 := Lib.hid (HB1.out.trans (hb2.mono hsz1))
          have HO2 := Lib.hid (own_below HO1.out hb2)
          have hsz2 : w.heap.size ≤ w2.heap.size := HB2.out.size
          clear hb2 CR
          go_wp2_with (at_builtin; refine wp_append_cmd _ rfl _ _ rfl w.heap.size _ n xs (w2.heap.size + 1) #[.int .i64 c.kind, .int .i64 c.policy, .int .i64 c.limit, .bool c.whole, .int .i64 c.budget, .int .i64 c.fan, .int .i64 c.room, .slice fa fb fc, .slice ca cb cc, .slice q c.ins.length cap] (0, 0) rfl rfl (own_below HO2.out (((Below.refl _ _).alloc (Nat.le_refl _) _).alloc (by simp) _)) ((congrArg (_[·]?) (by simp)).trans (heap_alloc_new _ _)) rfl (by simp [Value.oneCell']) (by omega) (by simp; omega) ?_; intro v3 w3 hown3 hgrow3)
          have HB3 := Lib.hid ((((HB2.out.alloc hsz2 _).alloc (by simp; omega) _).grown hgrow3 (by simp; omega) (own_base HO2.out)))
          go_roundw
          case rel => exact ⟨t2, n + 1, L ++ [c], _, rfl, (by go_num), (by rw [List.length_append, HLn.out]; rfl), (by omega), ⟨hown3, HO.out.2.snoc ⟨_, _, _, _, _, _, _, _, rfl⟩⟩, HB3.out, HN⟩
          case measure => simp; omega
        | false =>
          have HN := Lib.hid (HT.out.bad hp hb)
          have CR := Lib.hid (fun W (hW : Below w.heap.size w W) => read_no_any p W hpl (fun W2 hW2 => HG.out W2 (hW.trans (hW2.mono hW.size))) hb)
          clear hl hne hm hp hpr hb HRT hrl hlen
          generalize strOf r = t2 at *
          go_wp2_with fail
          refine CC.out.mono ?_
          rintro e w1 ⟨rfl, hb1⟩
          have HB1 := Lib.hid (hB.trans (hb1.mono hsz))
          clear hb1 CC
          go_wp2_with fail
          refine (CR.out _ HB1.out).mono ?_
          rintro e w2 ⟨rfl, hb2⟩
          have hsz1 : w.heap.size ≤ w1.heap.size := HB1.out.size
          have HB2 := Lib.hid (HB1.out.trans (hb2.mono hsz1))
          clear hb2 CR
          go_wp2
          go_ret3
          exact ParseR.wrong HN.out (HB2.out.alloc HB2.out.size _)
      · have CC := Lib.hid (Cut_no t wr (HG.out _ hB) (by omega) hm)
        have HN := Lib.hid (HT.out.last hm hne)
        have hpl : t.data.toList.length ≤ 100000 := by omega
        cases hb : lineB (splitL 32 t.data.toList) with
        | true =>
          have CR := Lib.hid (fun W (hW : Below w.heap.size w W) => read_ok_any t.data.toList W hpl (fun W2 hW2 => HG.out W2 (hW.trans (hW2.mono hW.size))) hb)
          clear hl hne hm hb
          generalize rdP (splitL 32 t.data.toList) = c at *
          generalize strOf t.data.toList = t2 at *
          go_wp2_with fail
          refine CC.out.mono ?_
          rintro e w1 ⟨rfl, hb1⟩
          have HB1 := Lib.hid (hB.trans (hb1.mono hsz))
          clear hb1 CC
          go_wp2_with fail
          refine (CR.out _ HB1.out).mono ?_
          rintro e w2 ⟨fv, cv, q, cap, rfl, ⟨fa, fb, fc, rfl⟩, ⟨ca, cb, cc, rfl⟩, hb2⟩
          have hsz1 : w.heap.size ≤ w1.heap.size := HB1.out.size
          have HB2 := Lib.hid (HB1.out.trans (hb2.mono hsz1))
          clear hb2 CR
          go_wp2
          go_ret3
          exact ParseR.wrong HN.out (HB2.out.alloc HB2.out.size _)
        | false =>
          have CR := Lib.hid (fun W (hW : Below w.heap.size w W) => read_no_any t.data.toList W hpl (fun W2 hW2 => HG.out W2 (hW.trans (hW2.mono hW.size))) hb)
          clear hl hne hm hb
          generalize strOf t.data.toList = t2 at *
          go_wp2_with fail
          refine CC.out.mono ?_
          rintro e w1 ⟨rfl, hb1⟩
          have HB1 := Lib.hid (hB.trans (hb1.mono hsz))
          clear hb1 CC
          go_wp2_with fail
          refine (CR.out _ HB1.out).mono ?_
          rintro e w2 ⟨rfl, hb2⟩
          have hsz1 : w.heap.size ≤ w1.heap.size := HB1.out.size
          have HB2 := Lib.hid (HB1.out.trans (hb2.mono hsz1))
          clear hb2 CR
          go_wp2
          go_ret3
          exact ParseR.wrong HN.out (HB2.out.alloc HB2.out.size _)

end Go.Proofs.YtloanidfkefenaaGreatDoor
