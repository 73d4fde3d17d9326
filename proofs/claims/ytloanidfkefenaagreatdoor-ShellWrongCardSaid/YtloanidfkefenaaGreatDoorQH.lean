/-
  Hexadecimal digits and joined words, in the library's own terms; no program in this text.
-/
import Derived.Test.YtloanidfkefenaaGreatDoorQ2
import Derived.Lib.Join
import Derived.Lib.Bytealg
namespace Go.Proofs.YtloanidfkefenaaGreatDoor
set_option maxRecDepth 100000

def digsL : List UInt8 := [48, 49, 50, 51, 52, 53, 54, 55, 56, 57, 97, 98, 99, 100, 101, 102]
theorem idx_dig_nat : ∀ n : Fin 256, Lib.indexByte digsL (UInt8.ofNat n.val) = digK (UInt8.ofNat n.val) := by decide +kernel
theorem idx_dig (c : UInt8) : Lib.indexByte digsL c = digK c := by
  have h := idx_dig_nat ⟨c.toNat, c.toNat_lt⟩
  simpa using h
theorem digK_ge (c : UInt8) : -1 ≤ digK c := by unfold digK; split <;> (try split) <;> omega

theorem joinL_join (c : UInt8) : ∀ ws : List (List UInt8), joinL c ws = Lib.join ws [c]
  | [] => rfl
  | [x] => by rw [joinL, Lib.join_one]
  | x :: y :: r => by
    have ih := joinL_join c (y :: r)
    rw [Lib.join_cons] at ih
    rw [joinL, ih, Lib.join_cons]
    simp [Lib.joinTail]

theorem joinL_len (c : UInt8) (K : Nat) : ∀ ws : List (List UInt8), (∀ x ∈ ws, x.length ≤ K) → (joinL c ws).length ≤ ws.length * (K + 1)
  | [], _ => by simp [joinL]
  | [x], h => by
    have := h x (by simp)
    rw [joinL]; simp; omega
  | x :: y :: r, h => by
    have h1 := h x (by simp)
    have ih := joinL_len c K (y :: r) (fun z hz => h z (by simp at hz ⊢; exact Or.inr hz))
    rw [joinL, List.length_append, List.length_cons (a := c)]
    have e : (x :: y :: r).length * (K + 1) = (y :: r).length * (K + 1) + (K + 1) := by rw [List.length_cons, Nat.add_mul, Nat.one_mul]
    omega

theorem itoa_len (n : Int) (h : InR n) : (Lib.itoa n).length ≤ 20 := by
  obtain ⟨h1, h2⟩ := h
  by_cases hn : n < 0
  · rw [itoa_neg hn]
    have := dec_len 19 n.natAbs (by omega) (by omega)
    simp; omega
  · rw [itoa_pos hn]
    have := dec_len 19 n.toNat (by omega) (by omega)
    omega
theorem xhex_len (b : List UInt8) : (xhex b).length = 2 * b.length + 1 := by
  unfold xhex; rw [List.length_cons, hexL_len]
theorem unhexG_len : ∀ s : List UInt8, (unhexG s).length ≤ s.length / 2
  | [] => by simp [unhexG]
  | [a] => by simp [unhexG]
  | a :: b :: r => by
    have ih := unhexG_len r
    rw [unhexG]
    split <;> simp <;> omega
theorem unhexP_len (s : List UInt8) : (unhexP s).length ≤ s.length := by
  unfold unhexP
  have := unhexG_len (if s.head? = some 120 then s.tail else s)
  split at this <;> rename_i h
  · rw [if_pos h]; simp at this; omega
  · rw [if_neg h]; omega

/-- What is asked of a command whose line is to be written. -/
structure CmdFit (c : CmdP) : Prop extends CmdOk c where
  ib : ∀ x ∈ c.ins, x.length ≤ 1000000
theorem secW_len (l : List (List UInt8)) (hl : l.length ≤ 1000000) (h : ∀ x ∈ l, x.length ≤ 2000001) : ∀ x ∈ secW l, x.length ≤ 2000001 := by
  intro x hx
  rcases List.mem_cons.1 hx with rfl | hx
  · have := itoa_len (l.length : Int) ⟨by omega, by omega⟩; omega
  · exact h x hx
theorem itoa_small (n : Int) (h : InR n) : (Lib.itoa n).length ≤ 2000001 := by
  have := itoa_len n h; omega
theorem words_len (c : CmdP) (h : CmdFit c) : ∀ w ∈ wordsP c, w.length ≤ 2000001 := by
  intro w hw
  unfold wordsP at hw
  rcases List.mem_append.1 hw with hw | hw
  · obtain ⟨n, hn, rfl⟩ := List.mem_map.1 hw
    simp only [List.mem_cons, List.not_mem_nil, or_false] at hn
    rcases hn with rfl | rfl | rfl | rfl | rfl | rfl | rfl
    · exact itoa_small _ h.kind
    · exact itoa_small _ h.policy
    · exact itoa_small _ h.limit
    · exact itoa_small _ (flag_in _)
    · exact itoa_small _ h.budget
    · exact itoa_small _ h.fan
    · exact itoa_small _ h.room
  rcases List.mem_append.1 hw with hw | hw
  · exact secW_len _ (by simpa using h.lf) (fun x hx => by obtain ⟨n, hn, rfl⟩ := List.mem_map.1 hx; exact itoa_small _ (h.fails n hn)) w hw
  rcases List.mem_append.1 hw with hw | hw
  · exact secW_len _ (by simpa using h.lc) (fun x hx => by obtain ⟨n, hn, rfl⟩ := List.mem_map.1 hx; exact itoa_small _ (h.chunks n hn)) w hw
  · exact secW_len _ (by simpa using h.li) (fun x hx => by
      obtain ⟨n, hn, rfl⟩ := List.mem_map.1 hx
      have := h.ib n hn
      rw [xhex_len]; omega) w hw
theorem words_num (c : CmdP) (h : CmdOk c) : (wordsP c).length ≤ 3000010 := by
  have h1 := h.lf
  have h2 := h.lc
  have h3 := h.li
  unfold wordsP headW secW
  simp
  omega
theorem body_len (c : CmdP) (h : CmdFit c) : (bodyP c).length ≤ 3000010 * 2000002 := by
  have h1 := joinL_len 32 2000001 (wordsP c) (words_len c h)
  have h2 := words_num c h.toCmdOk
  unfold bodyP
  exact Nat.le_trans h1 (Nat.mul_le_mul h2 (Nat.le_refl _))

theorem splitL_small (c : UInt8) : ∀ (l : List UInt8), ∀ x ∈ splitL c l, x.length ≤ l.length
  | [], x, h => by simp [splitL] at h; simp [h]
  | y :: r, x, h => by
    have ih := splitL_small c r
    unfold splitL at h
    split at h
    · rcases List.mem_cons.1 h with rfl | h
      · simp
      · have := ih x h; simp; omega
    · split at h
      · next hs => exact absurd hs (splitL_ne c r)
      · next z zs hs =>
        rw [hs] at ih
        rcases List.mem_cons.1 h with rfl | h
        · have := ih z (by simp); simp; omega
        · have := ih x (by simp [h]); simp; omega
theorem read_fit (s : List UInt8) (h : s.length ≤ 100000) : CmdFit (rdP (splitL 32 s)) := {
  toCmdOk := read_ok _ (by have := splitL_len 32 s; omega)
  ib := fun x hx => by
    obtain ⟨y, hy, rfl⟩ := List.mem_map.1 hx
    have h1 := unhexP_len y
    have h2 : y ∈ splitL 32 s := by
      unfold takeW restW at hy
      exact List.mem_of_mem_drop (i := 7) (List.mem_of_mem_tail (List.mem_of_mem_drop (List.mem_of_mem_tail (List.mem_of_mem_drop (List.mem_of_mem_tail (List.mem_of_mem_take hy))))))
    have h3 := splitL_small 32 s y h2
    omega }

end Go.Proofs.YtloanidfkefenaaGreatDoor
