/-
  A line is a command's just where it is what its reading is written as, in plain Lean; no program in this text.
-/
import Derived.Test.YtloanidfkefenaaGreatDoorQ1
namespace Go.Proofs.YtloanidfkefenaaGreatDoor
set_option maxRecDepth 100000

/-! Bytes as hexadecimal digits. -/
def digC (k : Nat) : UInt8 := UInt8.ofNat (if k < 10 then 48 + k else 87 + k)
def digK (c : UInt8) : Int := if 48 ≤ c.toNat ∧ c.toNat ≤ 57 then (c.toNat : Int) - 48 else if 97 ≤ c.toNat ∧ c.toNat ≤ 102 then (c.toNat : Int) - 87 else -1
def hexL (b : List UInt8) : List UInt8 := b.flatMap fun c => [digC (c.toNat / 16), digC (c.toNat % 16)]
def hexB (s : List UInt8) : Bool := decide (s.length % 2 = 1) && s.head? == some 120 && s.tail.all fun c => decide (0 ≤ digK c)
def unhexG : List UInt8 → List UInt8
  | a :: b :: r => if 0 ≤ digK a ∧ 0 ≤ digK b then UInt8.ofNat ((digK a).toNat * 16 + (digK b).toNat) :: unhexG r else unhexG r
  | _ => []
def unhexP (s : List UInt8) : List UInt8 := unhexG (if s.head? = some 120 then s.tail else s)
def xhex (b : List UInt8) : List UInt8 := 120 :: hexL b

theorem digC_nat (k : Nat) (h : k < 16) : (digC k).toNat = if k < 10 then 48 + k else 87 + k := by
  unfold digC; rw [byteN]; split <;> omega
theorem digK_digC (k : Nat) (h : k < 16) : digK (digC k) = k := by
  unfold digK; rw [digC_nat k h]; split <;> omega
theorem digK_lt (c : UInt8) : digK c < 16 := by unfold digK; split <;> (try split) <;> omega
theorem digC_digK (c : UInt8) (h : 0 ≤ digK c) : digC (digK c).toNat = c := by
  apply UInt8.toNat.inj
  have hl := digK_lt c
  rw [digC_nat _ (by omega)]
  unfold digK at h hl ⊢
  split at h <;> (try split at h) <;> (try omega)
  · next h1 => rw [if_pos h1]; split <;> omega
  · next h0 h1 => rw [if_neg h0, if_pos h1]; split <;> omega
theorem hex_back : ∀ (n : Nat) (t : List UInt8), t.length = 2 * n → (t.all fun c => decide (0 ≤ digK c)) = true → hexL (unhexG t) = t
  | 0, t, hl, _ => by obtain rfl : t = [] := List.length_eq_zero_iff.1 (by omega); rfl
  | n + 1, [], hl, _ => by simp at hl
  | n + 1, [a], hl, _ => by simp at hl; omega
  | n + 1, a :: b :: r, hl, h => by
    simp only [List.all_cons, Bool.and_eq_true, decide_eq_true_eq] at h
    obtain ⟨h1, h2, h3⟩ := h
    have l1 := digK_lt a
    have l2 := digK_lt b
    rw [unhexG, if_pos ⟨h1, h2⟩]
    have ih := hex_back n r (by simp at hl; omega) h3
    unfold hexL at ih ⊢
    rw [List.flatMap_cons, ih, byteN _ (by omega)]
    rw [show ((digK a).toNat * 16 + (digK b).toNat) / 16 = (digK a).toNat by omega, show ((digK a).toNat * 16 + (digK b).toNat) % 16 = (digK b).toNat by omega, digC_digK a h1, digC_digK b h2]
    rfl
theorem xhex_back (s : List UInt8) (h : hexB s = true) : xhex (unhexP s) = s := by
  unfold hexB at h
  simp only [Bool.and_eq_true, decide_eq_true_eq] at h
  obtain ⟨⟨h1, h2⟩, h3⟩ := h
  cases s with
  | nil => simp at h1
  | cons x t =>
    obtain rfl : x = 120 := by simpa using h2
    unfold unhexP xhex
    rw [List.head?_cons, if_pos rfl, List.tail_cons, hex_back ((t.length) / 2) t (by simp at h1; omega) h3]
theorem hexL_len (b : List UInt8) : (hexL b).length = 2 * b.length := by
  induction b with
  | nil => rfl
  | cons x r ih => unfold hexL at ih ⊢; rw [List.flatMap_cons, List.length_append, ih]; simp; omega
theorem hexL_all (b : List UInt8) : ((hexL b).all fun c => decide (0 ≤ digK c)) = true := by
  induction b with
  | nil => rfl
  | cons x r ih =>
    have hx : x.toNat < 256 := x.toNat_lt
    unfold hexL at ih ⊢
    rw [List.flatMap_cons, List.all_append, ih]
    simp only [List.all_cons, List.all_nil, Bool.and_true]
    rw [digK_digC _ (by omega), digK_digC _ (by omega)]
    simp; omega
theorem hexB_xhex (b : List UInt8) : hexB (xhex b) = true := by
  unfold hexB xhex
  have := hexL_len b
  rw [List.tail_cons, hexL_all]
  simp; omega

/-! Commands. -/
structure CmdP where
  kind : Int
  policy : Int
  limit : Int
  whole : Bool
  budget : Int
  fan : Int
  room : Int
  fails : List Int
  chunks : List Int
  ins : List (List UInt8)

def secW (l : List (List UInt8)) : List (List UInt8) := Lib.itoa l.length :: l
def flagP (b : Bool) : Int := if b then 1 else 0
def headW (c : CmdP) : List (List UInt8) := [c.kind, c.policy, c.limit, flagP c.whole, c.budget, c.fan, c.room].map Lib.itoa
def wordsP (c : CmdP) : List (List UInt8) := headW c ++ (secW (c.fails.map Lib.itoa) ++ (secW (c.chunks.map Lib.itoa) ++ secW (c.ins.map xhex)))
def bodyP (c : CmdP) : List UInt8 := joinL 32 (wordsP c)

def takeW (ws : List (List UInt8)) : List (List UInt8) := ws.tail.take (numP (ws.headD [])).toNat
def restW (ws : List (List UInt8)) : List (List UInt8) := ws.tail.drop (numP (ws.headD [])).toNat
def rdP (ws : List (List UInt8)) : CmdP := {
  kind := numP (ws.getD 0 [])
  policy := numP (ws.getD 1 [])
  limit := numP (ws.getD 2 [])
  whole := decide (numP (ws.getD 3 []) = 1)
  budget := numP (ws.getD 4 [])
  fan := numP (ws.getD 5 [])
  room := numP (ws.getD 6 [])
  fails := (takeW (ws.drop 7)).map numP
  chunks := (takeW (restW (ws.drop 7))).map numP
  ins := (takeW (restW (restW (ws.drop 7)))).map unhexP }

/-- A count, and as many words as it says that are right. -/
def secB (chk : List UInt8 → Bool) : List (List UInt8) → Bool
  | [] => false
  | w :: r => numB w && decide (0 ≤ numV w) && decide (numV w ≤ r.length) && (r.take (numV w).toNat).all chk
def restR (ws : List (List UInt8)) : List (List UInt8) := ws.tail.drop (numV (ws.headD [])).toNat
def headB (ws : List (List UInt8)) : Bool := (ws.take 7).all numB && (decide (numV (ws.getD 3 []) = 0) || decide (numV (ws.getD 3 []) = 1))
def lineB (ws : List (List UInt8)) : Bool :=
  decide (10 ≤ ws.length) && headB ws && secB numB (ws.drop 7) && secB numB (restR (ws.drop 7)) && secB hexB (restR (restR (ws.drop 7))) &&
    (restR (restR (restR (ws.drop 7)))).isEmpty

theorem sec_back {α : Type} (chk : List UInt8 → Bool) (f : List UInt8 → α) (g : α → List UInt8) (hfg : ∀ x, chk x = true → g (f x) = x) (ws : List (List UInt8)) (h : secB chk ws = true) :
    secW (((takeW ws).map f).map g) ++ restW ws = ws ∧ restW ws = restR ws := by
  cases ws with
  | nil => cases h
  | cons w r =>
    unfold secB at h
    simp only [Bool.and_eq_true, decide_eq_true_eq] at h
    obtain ⟨⟨⟨h1, h2⟩, h3⟩, h4⟩ := h
    have e := numP_num w h1
    unfold takeW restW restR
    rw [List.headD_cons, List.tail_cons, e]
    refine ⟨?_, rfl⟩
    have hm : ((r.take (numV w).toNat).map f).map g = r.take (numV w).toNat := by
      rw [List.map_map]
      conv => rhs; rw [← List.map_id (r.take (numV w).toNat)]
      refine List.map_congr_left fun x hx => ?_
      exact hfg x (List.all_eq_true.1 h4 x hx)
    rw [hm, secW, List.length_take, Nat.min_eq_left (by omega), Int.toNat_of_nonneg h2, (itoa_num w h1).1, List.cons_append, List.take_append_drop]

theorem line_back (ws : List (List UInt8)) (h : lineB ws = true) : wordsP (rdP ws) = ws := by
  unfold lineB at h
  simp only [Bool.and_eq_true, decide_eq_true_eq, List.isEmpty_iff] at h
  obtain ⟨⟨⟨⟨⟨h1, h2⟩, h3⟩, h4⟩, h5⟩, h6⟩ := h
  have b1 := sec_back numB numP Lib.itoa (fun x hx => by rw [numP_num x hx]; exact (itoa_num x hx).1) _ h3
  rw [← b1.2] at h4 h5 h6
  have b2 := sec_back numB numP Lib.itoa (fun x hx => by rw [numP_num x hx]; exact (itoa_num x hx).1) _ h4
  rw [← b2.2] at h5 h6
  have b3 := sec_back hexB unhexP xhex xhex_back _ h5
  rw [← b3.2] at h6
  have hd : headW (rdP ws) = ws.take 7 := by
    unfold headB at h2
    rw [Bool.and_eq_true] at h2
    obtain ⟨ha, hw⟩ := h2
    match ws, h1, ha, hw with
    | w0 :: w1 :: w2 :: w3 :: w4 :: w5 :: w6 :: r, _, ha, hw =>
      simp only [List.take_succ_cons, List.take_zero, List.all_cons, List.all_nil, Bool.and_true, Bool.and_eq_true] at ha
      obtain ⟨a0, a1, a2, a3, a4, a5, a6⟩ := ha
      have e3 : flagP (decide (numP w3 = 1)) = numV w3 := by
        rw [numP_num w3 a3]
        simp only [List.getD_cons_succ, List.getD_cons_zero, Bool.or_eq_true, decide_eq_true_eq] at hw
        rcases hw with e | e <;> rw [e] <;> rfl
      simp only [headW, rdP, List.getD_cons_succ, List.getD_cons_zero, List.map_cons, List.map_nil, List.take_succ_cons, List.take_zero]
      rw [e3, numP_num w0 a0, numP_num w1 a1, numP_num w2 a2, numP_num w4 a4, numP_num w5 a5, numP_num w6 a6]
      rw [(itoa_num w0 a0).1, (itoa_num w1 a1).1, (itoa_num w2 a2).1, (itoa_num w3 a3).1, (itoa_num w4 a4).1, (itoa_num w5 a5).1, (itoa_num w6 a6).1]
  unfold wordsP
  rw [hd]
  have b3' := b3.1
  rw [h6, List.append_nil] at b3'
  have e : secW ((rdP ws).fails.map Lib.itoa) ++ (secW ((rdP ws).chunks.map Lib.itoa) ++ secW ((rdP ws).ins.map xhex)) = ws.drop 7 := by
    show secW (((takeW (ws.drop 7)).map numP).map Lib.itoa) ++ (secW (((takeW (restW (ws.drop 7))).map numP).map Lib.itoa) ++ secW (((takeW (restW (restW (ws.drop 7)))).map unhexP).map xhex)) = ws.drop 7
    rw [b3', b2.1, b1.1]
  rw [e, List.take_append_drop]

structure CmdOk (c : CmdP) : Prop where
  kind : InR c.kind
  policy : InR c.policy
  limit : InR c.limit
  budget : InR c.budget
  fan : InR c.fan
  room : InR c.room
  fails : ∀ n ∈ c.fails, InR n
  chunks : ∀ n ∈ c.chunks, InR n
  lf : c.fails.length ≤ 1000000
  lc : c.chunks.length ≤ 1000000
  li : c.ins.length ≤ 1000000

theorem sec_words (chk : List UInt8 → Bool) (l r : List (List UInt8)) (hl : l.length ≤ 1000000) (hc : ∀ x ∈ l, chk x = true) :
    secB chk (secW l ++ r) = true ∧ restR (secW l ++ r) = r := by
  have hr : InR (l.length : Int) := ⟨by omega, by omega⟩
  obtain ⟨n1, n2⟩ := numB_itoa _ hr
  unfold secW restR
  rw [List.cons_append, secB, List.headD_cons, List.tail_cons, n1, n2, Int.toNat_natCast, List.take_left, List.drop_left]
  refine ⟨?_, rfl⟩
  simp only [Bool.true_and, Bool.and_eq_true, decide_eq_true_eq, List.length_append]
  exact ⟨⟨by omega, by omega⟩, List.all_eq_true.2 hc⟩

theorem flag_in (b : Bool) : InR (flagP b) := by cases b <;> exact ⟨by decide, by decide⟩

theorem line_words (c : CmdP) (h : CmdOk c) : lineB (wordsP c) = true := by
  have s1 := sec_words numB (c.fails.map Lib.itoa) (secW (c.chunks.map Lib.itoa) ++ secW (c.ins.map xhex)) (by simpa using h.lf) (fun x hx => by
    obtain ⟨n, hn, rfl⟩ := List.mem_map.1 hx; exact (numB_itoa n (h.fails n hn)).1)
  have s2 := sec_words numB (c.chunks.map Lib.itoa) (secW (c.ins.map xhex)) (by simpa using h.lc) (fun x hx => by
    obtain ⟨n, hn, rfl⟩ := List.mem_map.1 hx; exact (numB_itoa n (h.chunks n hn)).1)
  have s3 := sec_words hexB (c.ins.map xhex) [] (by simpa using h.li) (fun x hx => by
    obtain ⟨n, hn, rfl⟩ := List.mem_map.1 hx; exact hexB_xhex n)
  rw [List.append_nil] at s3
  have hd : (wordsP c).drop 7 = secW (c.fails.map Lib.itoa) ++ (secW (c.chunks.map Lib.itoa) ++ secW (c.ins.map xhex)) := rfl
  unfold lineB
  rw [hd, s1.1, s1.2, s2.1, s2.2, s3.1, s3.2]
  have hh : headB (wordsP c) = true := by
    unfold headB
    have ht : (wordsP c).take 7 = headW c := rfl
    have h3 : (wordsP c).getD 3 [] = Lib.itoa (flagP c.whole) := rfl
    rw [ht, h3, (numB_itoa _ (flag_in c.whole)).2]
    unfold headW
    simp only [List.map_cons, List.map_nil, List.all_cons, List.all_nil]
    rw [(numB_itoa _ h.kind).1, (numB_itoa _ h.policy).1, (numB_itoa _ h.limit).1, (numB_itoa _ (flag_in c.whole)).1, (numB_itoa _ h.budget).1, (numB_itoa _ h.fan).1, (numB_itoa _ h.room).1]
    cases c.whole <;> rfl
  rw [hh]
  have hl : 10 ≤ (wordsP c).length := by
    unfold wordsP headW secW
    simp; omega
  simp [hl]

theorem sat_in (s : List UInt8) : InR (Lib.atoiSat s) := by
  unfold Lib.atoiSat
  split <;> exact ⟨by decide, by decide⟩
theorem numP_ok (s : List UInt8) (v : Int) (h : Lib.atoiAll s = .ok v) : InR v := by
  unfold Lib.atoiAll at h
  cases s with
  | nil => cases h
  | cons c r =>
    simp only at h
    split at h
    · cases h
    · cases h
    · next u hu =>
      split at h
      · cases h
      · split at h
        · cases h
        · injection h with h
          subst h
          constructor <;> split <;> omega
theorem numP_in (s : List UInt8) : InR (numP s) := by
  cases h : Lib.atoiAll s
  · next v =>
    have e : numP s = v := by rw [numP, h]
    rw [e]; exact numP_ok s v h
  · have e : numP s = 0 := by rw [numP, h]
    rw [e]; exact ⟨by decide, by decide⟩
  · have e : numP s = Lib.atoiSat s := by rw [numP, h]
    rw [e]; exact sat_in s

theorem splitL_len (c : UInt8) : ∀ l, (splitL c l).length ≤ l.length + 1
  | [] => by simp [splitL]
  | x :: r => by
    have ih := splitL_len c r
    unfold splitL
    split
    · simp; omega
    · split
      · simp
      · next h => rw [h] at ih; simp at ih ⊢; omega

theorem read_ok (ws : List (List UInt8)) (h : ws.length ≤ 1000000) : CmdOk (rdP ws) := {
  kind := numP_in _
  policy := numP_in _
  limit := numP_in _
  budget := numP_in _
  fan := numP_in _
  room := numP_in _
  fails := fun n hn => by obtain ⟨x, _, rfl⟩ := List.mem_map.1 hn; exact numP_in x
  chunks := fun n hn => by obtain ⟨x, _, rfl⟩ := List.mem_map.1 hn; exact numP_in x
  lf := by simp [rdP, takeW]; omega
  lc := by simp [rdP, takeW, restW]; omega
  li := by simp [rdP, takeW, restW]; omega }

theorem digits_no (u : Nat) (c : UInt8) (h : c = 32 ∨ c = 10) : c ∉ Lib.decDigits u := by
  intro hm
  have := List.all_eq_true.1 (dec_facts u).2.1 c hm
  rcases h with rfl | rfl <;> simp [digB] at this
theorem itoa_no (n : Int) (c : UInt8) (h : c = 32 ∨ c = 10) : c ∉ Lib.itoa n := by
  by_cases hn : n < 0
  · rw [itoa_neg hn]
    intro hm
    rcases List.mem_cons.1 hm with e | e
    · rcases h with rfl | rfl <;> cases e
    · exact digits_no _ c h e
  · rw [itoa_pos hn]; exact digits_no _ c h
theorem xhex_no (b : List UInt8) (c : UInt8) (h : c = 32 ∨ c = 10) : c ∉ xhex b := by
  intro hm
  rcases List.mem_cons.1 hm with e | e
  · rcases h with rfl | rfl <;> cases e
  · have := List.all_eq_true.1 (hexL_all b) c e
    rcases h with rfl | rfl <;> simp [digK] at this
theorem words_no (c : CmdP) : ∀ w ∈ wordsP c, (32 : UInt8) ∉ w := by
  intro w hw
  unfold wordsP headW secW at hw
  simp only [List.mem_append, List.mem_cons, List.mem_map] at hw
  rcases hw with ⟨n, _, rfl⟩ | ((rfl | ⟨n, _, rfl⟩) | ((rfl | ⟨n, _, rfl⟩) | (rfl | ⟨n, _, rfl⟩))) <;> first | exact itoa_no _ _ (Or.inl rfl) | exact xhex_no _ _ (Or.inl rfl)

/-- THE LAW OF A LINE. -/
theorem line_law (s : List UInt8) (h : s.length ≤ 100000) : (bodyP (rdP (splitL 32 s)) = s) ↔ lineB (splitL 32 s) = true := by
  constructor
  · intro e
    have h1 := split_join 32 (wordsP (rdP (splitL 32 s))) (by unfold wordsP headW; simp) (words_no _)
    have h2 : joinL 32 (wordsP (rdP (splitL 32 s))) = s := e
    rw [h2] at h1
    have := splitL_len 32 s
    have h3 := line_words _ (read_ok (splitL 32 s) (by omega))
    rwa [← h1] at h3
  · intro e
    unfold bodyP
    rw [line_back _ e, join_split]

end Go.Proofs.YtloanidfkefenaaGreatDoor
