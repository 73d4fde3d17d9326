/-
  A command as a line, in plain Lean: words at blanks, numbers as decimals, bytes as hexadecimal digits; no program in this text.
-/
import Derived.Lib.Split
import Derived.Lib.ItoaNum
import Derived.Lib.AtoiAll
namespace Go.Proofs.YtloanidfkefenaaGreatDoor
set_option maxRecDepth 100000

/-! Words. -/
def splitL (c : UInt8) : List UInt8 → List (List UInt8)
  | [] => [[]]
  | x :: r => if x = c then [] :: splitL c r else match splitL c r with
    | [] => [[x]]
    | y :: ys => (x :: y) :: ys

def joinL (c : UInt8) : List (List UInt8) → List UInt8
  | [] => []
  | [x] => x
  | x :: y :: r => x ++ c :: joinL c (y :: r)

theorem splitL_ne (c : UInt8) (l : List UInt8) : splitL c l ≠ [] := by
  cases l with
  | nil => simp [splitL]
  | cons x r =>
    unfold splitL
    split
    · simp
    · split <;> simp
theorem splitL_miss (c : UInt8) : ∀ (p : List UInt8), c ∉ p → splitL c p = [p]
  | [], _ => rfl
  | x :: r, h => by
    have h1 : x ≠ c := fun e => h (by simp [e])
    have h2 : c ∉ r := fun e => h (by simp [e])
    rw [splitL, if_neg h1, splitL_miss c r h2]
theorem splitL_hit (c : UInt8) (r : List UInt8) : ∀ (p : List UInt8), c ∉ p → splitL c (p ++ c :: r) = p :: splitL c r
  | [], _ => by rw [List.nil_append, splitL, if_pos rfl]
  | x :: p, h => by
    have h1 : x ≠ c := fun e => h (by simp [e])
    have h2 : c ∉ p := fun e => h (by simp [e])
    rw [List.cons_append, splitL, if_neg h1, splitL_hit c r p h2]
theorem join_split (c : UInt8) : ∀ l, joinL c (splitL c l) = l
  | [] => rfl
  | x :: r => by
    have ih := join_split c r
    unfold splitL
    split
    · next h =>
      subst h
      cases hs : splitL x r with
      | nil => exact absurd hs (splitL_ne x r)
      | cons y ys =>
        rw [hs] at ih
        rw [joinL, ih]; rfl
    · split
      · next hs => exact absurd hs (splitL_ne c r)
      · next y ys hs =>
        rw [hs] at ih
        cases ys with
        | nil => rw [joinL] at ih ⊢; rw [ih]
        | cons z zs => rw [joinL] at ih ⊢; rw [List.cons_append, ih]
theorem split_join (c : UInt8) : ∀ (ws : List (List UInt8)), ws ≠ [] → (∀ w ∈ ws, c ∉ w) → splitL c (joinL c ws) = ws
  | [], h, _ => absurd rfl h
  | [x], _, h => splitL_miss c x (h x (by simp))
  | x :: y :: r, _, h => by
    rw [joinL, splitL_hit c _ x (h x (by simp)), split_join c (y :: r) (by simp) (fun w hw => h w (by simp at hw ⊢; exact Or.inr hw))]

/-- The library's split at one byte. -/
theorem lib_split (c : UInt8) : ∀ (n : Nat) (s : List UInt8), s.length ≤ n → Lib.splitK [c] 0 (Lib.count s [c]) s = splitL c s := by
  intro n
  induction n with
  | zero =>
    intro s hs
    obtain rfl : s = [] := List.length_eq_zero_iff.1 (by omega)
    rfl
  | succ n ih =>
    intro s hs
    rcases Lib.index_spec s [c] with ⟨h1, h2⟩ | ⟨i, h1, h2, h3, h4⟩
    · rw [Lib.count_miss h1, Lib.splitK]
      have hc : c ∉ s := by
        intro hm
        obtain ⟨k, hk, e⟩ := List.getElem_of_mem hm
        have := h2 k (by omega)
        unfold Lib.occAt at this
        rw [List.drop_eq_getElem_cons hk, e] at this
        simp at this
      rw [splitL_miss c s hc]
    · have hr : i + 1 ≤ s.length := by
        rcases Lib.occAt_room h3 with h | h
        · simpa using h
        · cases h
      have hi : s[i]? = some c := Lib.occAt_head rfl h3
      have hp : c ∉ s.take i := by
        intro hm
        obtain ⟨k, hk, e⟩ := List.getElem_of_mem hm
        have hk2 : k < i := by simp at hk; omega
        have h5 := h4 k hk2
        unfold Lib.occAt at h5
        rw [List.drop_eq_getElem_cons (by omega)] at h5
        rw [List.getElem_take] at e
        rw [e] at h5
        simp at h5
      have hsp : s = s.take i ++ c :: s.drop (i + 1) := by
        have e1 : s[i]'(by omega) = c := by
          rw [List.getElem?_eq_getElem (by omega)] at hi
          injection hi
        rw [← e1, ← List.drop_eq_getElem_cons, List.take_append_drop]
      have e0 : ¬ ((Lib.index s [c] == -1) = true) := by rw [h1]; simp
      rw [Lib.count_hit (by simp) h1, Nat.add_comm 1, Lib.splitK, if_neg e0, h1]
      simp only [Int.toNat_natCast, Nat.add_zero, List.length_singleton]
      rw [ih _ (by simp; omega)]
      conv => rhs; rw [hsp]
      rw [splitL_hit c _ _ hp]

/-! Numbers. -/
def digB (b : UInt8) : Bool := decide (48 ≤ b.toNat) && decide (b.toNat ≤ 57)
def decF (n : Nat) (b : UInt8) : Nat := n * 10 + (b.toNat - 48)
def decV (l : List UInt8) : Nat := l.foldl decF 0
def negB (s : List UInt8) : Bool := s.head? == some 45
def magL (s : List UInt8) : List UInt8 := if negB s then s.tail else s
def numB (s : List UInt8) : Bool :=
  decide (magL s ≠ []) && decide ((magL s).length ≤ 19) && !((magL s).head? == some 48 && s != [48]) && (magL s).all digB &&
    decide (decV (magL s) ≤ if negB s then 9223372036854775808 else 9223372036854775807)
def numV (s : List UInt8) : Int := if negB s then -(decV (magL s) : Int) else decV (magL s)

theorem decV_one (l : List UInt8) (b : UInt8) : decV (l ++ [b]) = decV l * 10 + (b.toNat - 48) := by
  simp [decV, decF, List.foldl_append]
theorem byteN (k : Nat) (h : k < 256) : (UInt8.ofNat k).toNat = k := by
  rw [UInt8.toNat_ofNat']; omega
theorem dec_step (u : Nat) (h : ¬ u < 10) : Lib.decDigits u = Lib.decDigits (u / 10) ++ [UInt8.ofNat (48 + u % 10)] := by
  rw [Lib.decDigits, dif_neg h]
theorem dec_facts (u : Nat) : decV (Lib.decDigits u) = u ∧ (Lib.decDigits u).all digB = true ∧ Lib.decDigits u ≠ [] ∧ ((Lib.decDigits u).head? = some 48 → u = 0) ∧ Lib.decDigits u ≠ [45] ∧ (Lib.decDigits u).head? ≠ some 45 := by
  induction u using Nat.strongRecOn with
  | _ u ih =>
    by_cases h : u < 10
    · rw [Lib.decDigits_one h]
      have hb := byteN (48 + u) (by omega)
      refine ⟨?_, ?_, by simp, ?_, ?_, ?_⟩
      · simp only [decV, List.foldl, decF]; rw [hb]; omega
      · simp only [List.all_cons, List.all_nil, digB]; rw [hb]; simp; omega
      · intro e
        simp only [List.head?_cons, Option.some.injEq] at e
        have := congrArg UInt8.toNat e; rw [hb] at this
        have : (48 : UInt8).toNat = 48 := rfl
        omega
      · intro e
        simp only [List.cons.injEq, and_true] at e
        have := congrArg UInt8.toNat e; rw [hb] at this
        have : (45 : UInt8).toNat = 45 := rfl
        omega
      · intro e
        simp only [List.head?_cons, Option.some.injEq] at e
        have := congrArg UInt8.toNat e; rw [hb] at this
        have : (45 : UInt8).toNat = 45 := rfl
        omega
    · rw [dec_step u h]
      obtain ⟨i1, i2, i3, i4, i5, i6⟩ := ih (u / 10) (by omega)
      have hb := byteN (48 + u % 10) (by omega)
      have hh : (Lib.decDigits (u / 10) ++ [UInt8.ofNat (48 + u % 10)]).head? = (Lib.decDigits (u / 10)).head? := by
        cases hd : Lib.decDigits (u / 10) with
        | nil => exact absurd hd i3
        | cons x r => rfl
      refine ⟨?_, ?_, by simp, ?_, ?_, ?_⟩
      · rw [decV_one, i1, hb]; omega
      · rw [List.all_append, i2]; simp only [List.all_cons, List.all_nil, digB]; rw [hb]; simp; omega
      · rw [hh]; intro e; have := i4 e; omega
      · intro e
        have := congrArg List.length e
        simp at this
        exact i3 this
      · rw [hh]; exact i6
theorem dec_len (k : Nat) : ∀ u, u < 10 ^ k → 1 ≤ k → (Lib.decDigits u).length ≤ k := by
  induction k with
  | zero => omega
  | succ k ih =>
    intro u hu _
    by_cases h : u < 10
    · rw [Lib.decDigits_one h]; simp
    · rw [dec_step u h]
      have hk : 1 ≤ k := by
        rcases Nat.eq_zero_or_pos k with rfl | hk
        · simp at hu; omega
        · exact hk
      have := ih (u / 10) (by rw [Nat.pow_succ] at hu; omega) hk
      simp; omega
/-- Digits without a leading zero are what the number is written as. -/
theorem dec_back (l : List UInt8) : l ≠ [] → l.all digB = true → (l.head? = some 48 → l = [48]) → Lib.decDigits (decV l) = l := by
  induction hn : l.length generalizing l with
  | zero => intro h; exact absurd (List.length_eq_zero_iff.1 hn) h
  | succ n ih =>
    intro hne hall hz
    obtain ⟨p, b, rfl⟩ : ∃ p b, l = p ++ [b] := ⟨l.dropLast, l.getLast hne, (List.dropLast_concat_getLast hne).symm⟩
    have hb : digB b = true := by
      rw [List.all_append] at hall
      simp at hall; exact hall.2
    have hb2 : 48 ≤ b.toNat ∧ b.toNat ≤ 57 := by simpa [digB] using hb
    rw [decV_one]
    cases p with
    | nil =>
      have e : decV [] * 10 + (b.toNat - 48) = b.toNat - 48 := by simp [decV]
      rw [e, Lib.decDigits_one (by omega)]
      rw [show 48 + (b.toNat - 48) = b.toNat by omega, UInt8.ofNat_toNat]; rfl
    | cons x p =>
      have hx : x ≠ 48 := by
        intro e; subst e
        have := hz rfl
        simp at this
      have hxd : digB x = true := by simp at hall; exact hall.1
      have hx2 : 48 ≤ x.toNat ∧ x.toNat ≤ 57 := by simpa [digB] using hxd
      have hrec := ih (x :: p) (by simp at hn ⊢; omega) (by simp) (by rw [List.all_append] at hall; simp at hall ⊢; exact hall.1) (by intro e; simp at e; exact absurd e hx)
      have hpos : 0 < decV (x :: p) := by
        rcases Nat.eq_zero_or_pos (decV (x :: p)) with e | e
        · rw [e] at hrec
          rw [Lib.decDigits_one (by omega)] at hrec
          simp at hrec
          exact absurd hrec.1.symm (by simpa using hx)
        · exact e
      rw [dec_step _ (by omega)]
      rw [show (decV (x :: p) * 10 + (b.toNat - 48)) / 10 = decV (x :: p) by omega, hrec]
      rw [show 48 + (decV (x :: p) * 10 + (b.toNat - 48)) % 10 = b.toNat by omega, UInt8.ofNat_toNat]

def InR (n : Int) : Prop := -9223372036854775808 ≤ n ∧ n ≤ 9223372036854775807

theorem itoa_neg {n : Int} (h : n < 0) : Lib.itoa n = 45 :: Lib.decDigits n.natAbs := by rw [Lib.itoa, if_pos h]
theorem itoa_pos {n : Int} (h : ¬ n < 0) : Lib.itoa n = Lib.decDigits n.toNat := by rw [Lib.itoa, if_neg h]

theorem numB_itoa (n : Int) (h : InR n) : numB (Lib.itoa n) = true ∧ numV (Lib.itoa n) = n := by
  obtain ⟨h1, h2⟩ := h
  by_cases hn : n < 0
  · rw [itoa_neg hn]
    obtain ⟨i1, i2, i3, i4, i5, i6⟩ := dec_facts n.natAbs
    have il := dec_len 19 n.natAbs (by omega) (by omega)
    have e1 : negB (45 :: Lib.decDigits n.natAbs) = true := rfl
    have e2 : magL (45 :: Lib.decDigits n.natAbs) = Lib.decDigits n.natAbs := by rw [magL, if_pos e1]; rfl
    unfold numB numV
    rw [e1, e2, i1, i2]
    constructor
    · have h48 : (Lib.decDigits n.natAbs).head? ≠ some 48 := fun e => by have := i4 e; omega
      have h48b : ((Lib.decDigits n.natAbs).head? == some 48) = false := by simpa using h48
      rw [h48b]
      simp [i3, il]; omega
    · simp; omega
  · rw [itoa_pos hn]
    obtain ⟨i1, i2, i3, i4, i5, i6⟩ := dec_facts n.toNat
    have il := dec_len 19 n.toNat (by omega) (by omega)
    have e1 : negB (Lib.decDigits n.toNat) = false := by unfold negB; simpa using i6
    have e2 : magL (Lib.decDigits n.toNat) = Lib.decDigits n.toNat := by rw [magL, e1]; rfl
    unfold numB numV
    rw [e1, e2, i1, i2]
    constructor
    · have h48 : ((Lib.decDigits n.toNat).head? == some 48 && Lib.decDigits n.toNat != [48]) = false := by
        by_cases e : (Lib.decDigits n.toNat).head? = some 48
        · have := i4 e
          rw [this, Lib.decDigits_one (by omega)]; rfl
        · have : ((Lib.decDigits n.toNat).head? == some 48) = false := by simpa using e
          rw [this]; rfl
      rw [h48]
      simp [i3, il]; omega
    · simp; omega

theorem itoa_num (s : List UInt8) (h : numB s = true) : Lib.itoa (numV s) = s ∧ InR (numV s) := by
  unfold numB at h
  simp only [Bool.and_eq_true, decide_eq_true_eq, Bool.not_eq_true'] at h
  obtain ⟨⟨⟨⟨h1, h2⟩, h3⟩, h4⟩, h5⟩ := h
  unfold numV InR
  cases hn : negB s with
  | true =>
    have e2 : magL s = s.tail := by rw [magL, hn]; rfl
    rw [hn] at h5
    simp only [if_true] at h5 ⊢
    have hs : s = 45 :: magL s := by
      rw [e2]
      unfold negB at hn
      cases s with
      | nil => simp at hn
      | cons x r => simp at hn; simp [hn]
    have hz : (magL s).head? ≠ some 48 := by
      intro e
      rw [e] at h3
      simp at h3
      rw [h3] at hs
      simp at hs
    have hb := dec_back (magL s) h1 h4 (fun e => absurd e hz)
    have hp : decV (magL s) ≠ 0 := by
      intro e; rw [e, Lib.decDigits_one (by omega)] at hb
      rw [← hb] at hz; simp at hz
    refine ⟨?_, by omega, by omega⟩
    rw [itoa_neg (by omega)]
    rw [show (-(decV (magL s) : Int)).natAbs = decV (magL s) by omega, hb]
    exact hs.symm
  | false =>
    have e2 : magL s = s := by rw [magL, hn]; rfl
    rw [hn] at h5
    rw [e2] at h1 h3 h4 h5 ⊢
    simp only [Bool.false_eq_true, if_false] at h5 ⊢
    refine ⟨?_, by omega, by omega⟩
    rw [itoa_pos (by omega), Int.toNat_natCast]
    refine dec_back s h1 h4 fun e => ?_
    rw [e] at h3
    simpa using h3

/-- What the program reads of a word. -/
def numP (l : List UInt8) : Int := match Lib.atoiAll l with
  | .ok v => v
  | .range => Lib.atoiSat l
  | _ => 0

theorem foldl_ge : ∀ (l : List UInt8) (a : Nat), a ≤ l.foldl decF a
  | [], _ => Nat.le_refl _
  | b :: r, a => by
    have := foldl_ge r (decF a b)
    rw [List.foldl_cons]
    unfold decF at this ⊢
    omega
theorem parse_dec : ∀ (l : List UInt8) (a : Nat), l.all digB = true → l.foldl decF a < 18446744073709551616 → Lib.parseUint10 a l = .ok (l.foldl decF a)
  | [], _, _, _ => rfl
  | b :: r, a, h, hv => by
    have hb : 48 ≤ b.toNat ∧ b.toNat ≤ 57 := by simp [digB] at h; exact h.1
    have hr : r.all digB = true := by simp at h; simpa using h.2
    have h1 := foldl_ge r (decF a b)
    rw [List.foldl_cons] at hv ⊢
    have h2 : decF a b = a * 10 + (b.toNat - 48) := rfl
    rw [Lib.parseUint10, if_pos hb, if_neg (by omega), if_neg (by omega), ← h2, parse_dec r _ hr hv]
theorem numP_itoa (n : Int) (h : InR n) : numP (Lib.itoa n) = n := by
  obtain ⟨h1, h2⟩ := h
  unfold numP
  by_cases hn : n < 0
  · rw [itoa_neg hn]
    obtain ⟨i1, i2, i3, i4, i5, i6⟩ := dec_facts n.natAbs
    have hp : Lib.parseMag (Lib.decDigits n.natAbs) = .ok n.natAbs := by
      rw [Lib.parseMag, if_neg i3, parse_dec _ 0 i2 (by rw [show List.foldl decF 0 _ = decV (Lib.decDigits n.natAbs) from rfl, i1]; omega)]
      rw [show List.foldl decF 0 _ = decV (Lib.decDigits n.natAbs) from rfl, i1]
    have e : Lib.atoiAll (45 :: Lib.decDigits n.natAbs) = .ok n := by
      unfold Lib.atoiAll
      have e45 : (45 : UInt8).toNat = 45 := rfl
      simp only [e45, or_true, if_true, hp, not_true, false_and, if_false, true_and]
      rw [if_neg (by omega)]
      congr 1; omega
    rw [e]
  · rw [itoa_pos hn]
    obtain ⟨i1, i2, i3, i4, i5, i6⟩ := dec_facts n.toNat
    have hp : Lib.parseMag (Lib.decDigits n.toNat) = .ok n.toNat := by
      rw [Lib.parseMag, if_neg i3, parse_dec _ 0 i2 (by rw [show List.foldl decF 0 _ = decV (Lib.decDigits n.toNat) from rfl, i1]; omega)]
      rw [show List.foldl decF 0 _ = decV (Lib.decDigits n.toNat) from rfl, i1]
    have e : Lib.atoiAll (Lib.decDigits n.toNat) = .ok n := by
      cases hd : Lib.decDigits n.toNat with
      | nil => exact absurd hd i3
      | cons c r =>
        rw [hd] at hp i2
        have hc : 48 ≤ c.toNat ∧ c.toNat ≤ 57 := by simp [digB] at i2; exact i2.1
        unfold Lib.atoiAll
        simp only
        rw [if_neg (by omega), hp]
        simp only
        rw [if_neg (by omega), if_neg (by omega), if_neg (by omega)]
        congr 1; omega
    rw [e]

theorem numP_num (s : List UInt8) (h : numB s = true) : numP s = numV s := by
  have h1 := itoa_num s h
  have h2 := numP_itoa _ h1.2
  rwa [h1.1] at h2

end Go.Proofs.YtloanidfkefenaaGreatDoor
