/-
  What the package-level variables read as, and the library's functions at the words of a line.
-/
import Derived.Test.YtloanidfkefenaaGreatDoorQS
import Derived.Test.YtloanidfkefenaaGreatDoorQ2
import Derived.Test.YtloanidfkefenaaGreatDoorQ4
import Derived.Lib.AppendIntMem
namespace Go.Proofs.YtloanidfkefenaaGreatDoor
open Go.RowKit Go.Shelf
set_option maxRecDepth 100000

structure Glob (w : World) : Prop where
  maxlen : ∃ m, w.cell? ⟨5, 0, none⟩ = some (.int .i64 m)
  pow : Lib.TabIs Tryz.prog w "internal/strconv.uint64pow10" .u64 Lib.pow10Tab
  syn : ∃ tp p, w.var? Tryz.prog "strconv.ErrSyntax" = some #[.iface tp p]
  rng : ∃ tp p, w.var? Tryz.prog "strconv.ErrRange" = some #[.iface tp p]

theorem var_below {w w' : World} {n : String} {cs : Array Value} (hb : Below w.heap.size w w') (h : w.var? Tryz.prog n = some cs) : w'.var? Tryz.prog n = some cs := by
  unfold World.var? at h ⊢
  cases hg : Tryz.prog.globalNamed n with
  | none => rw [hg] at h; cases h
  | some g =>
    rw [hg] at h
    simp only [Option.bind_some] at h ⊢
    rw [hb.block g]
    · exact h
    · cases hh : w.heap[g]? with
      | none => rw [hh] at h; cases h
      | some o => exact (Array.getElem?_eq_some_iff.1 hh).1

theorem Glob.below {w w' : World} (hb : Below w.heap.size w w') (h : Glob w) : Glob w' := {
  maxlen := by obtain ⟨m, hm⟩ := h.maxlen; exact ⟨m, cell_below hb hm⟩
  pow := var_below hb h.pow
  syn := by obtain ⟨a, b, hm⟩ := h.syn; exact ⟨a, b, var_below hb hm⟩
  rng := by obtain ⟨a, b, hm⟩ := h.rng; exact ⟨a, b, var_below hb hm⟩ }

def RS (w : World) (l : List UInt8) (e : Ending) (w' : World) : Prop := e = .returned (.string ⟨l.toArray⟩) ∧ Below w.heap.size w w'
/-- A number, and an error of which nothing is said. -/
def NumPost (w : World) (n : Int) (e : Ending) (w' : World) : Prop := ∃ er, e = .returned (.tuple #[.int .i64 n, er]) ∧ Below w.heap.size w w'

theorem Atoi_any (s : ByteArray) (w : World) (G : Glob w) (hs : s.size ≤ 1000000) : Calls Tryz.prog 118 #[.string s] w (NumPost w (numP s.data.toList)) := by
  cases h : Lib.atoiAll s.data.toList
  · next v =>
    have e1 : numP s.data.toList = v := by rw [numP, h]
    rw [e1]
    refine (Any.strconv_Atoi_ok Tryz.laysAtoi s (by omega) v h w).mono ?_
    rintro e w' ⟨rfl, rfl | ⟨t, rfl⟩⟩
    · exact ⟨_, rfl, Below.refl _ _⟩
    · exact ⟨_, rfl, Lib.bytesWorld_below _ _ _⟩
  · have e1 : numP s.data.toList = 0 := by rw [numP, h]
    rw [e1]
    obtain ⟨tp, p, hv⟩ := G.syn
    refine (Any.strconv_Atoi_syntax_var Tryz.laysAtoi s (by omega) h tp p w hv).mono ?_
    rintro e w' ⟨N, rfl, _, _, hb⟩
    exact ⟨_, rfl, hb⟩
  · have e1 : numP s.data.toList = Lib.atoiSat s.data.toList := by rw [numP, h]
    rw [e1]
    obtain ⟨tp, p, hv⟩ := G.rng
    refine (Any.strconv_Atoi_range_var Tryz.laysAtoi s (by omega) h tp p w hv).mono ?_
    rintro e w' ⟨N, rfl, _, _, hb⟩
    exact ⟨_, rfl, hb⟩

theorem Itoa_any (n : Int) (w : World) (G : Glob w) (hn : InR n) : Calls Tryz.prog 36 #[.int .i64 n] w (RS w (Lib.itoa n)) := by
  refine (Any.strconv_Itoa Tryz.laysItoa n hn.1 hn.2 w G.pow).mono fun e w' ⟨h1, k, os, h2⟩ => ⟨h1, ?_⟩
  rw [h2]; exact Lib.below_grow _ _ (Nat.le_refl _) _ _

/-- The words of a line, as strings. -/
def strs (c : UInt8) (l : List UInt8) : List ByteArray := (splitL c l).map fun x => ⟨x.toArray⟩
theorem splitB_strs (s : ByteArray) (c : UInt8) : Lib.splitB ⟨#[c]⟩ 0 (Lib.countB s ⟨#[c]⟩) s = strs c s.data.toList := by
  have h := Lib.splitB_data ⟨#[c]⟩ 0 (Lib.countB s ⟨#[c]⟩) s
  have h2 := lib_split c s.data.toList.length s.data.toList (Nat.le_refl _)
  have h3 : Lib.splitK (ByteArray.mk #[c]).data.toList 0 (Lib.countB s ⟨#[c]⟩) s.data.toList = splitL c s.data.toList := h2
  rw [h3] at h
  unfold strs
  rw [← h, List.map_map]
  conv => lhs; rw [← List.map_id (Lib.splitB _ _ _ _)]
  exact List.map_congr_left fun x _ => rfl

/-- A slice of strings in new memory. -/
def SlPost (w : World) (l : List ByteArray) (e : Ending) (w' : World) : Prop := ∃ b, e = .returned (.slice (some ⟨b, 0, none⟩) l.length l.length) ∧ elStr.sl w' (.slice (some ⟨b, 0, none⟩) l.length l.length) l ∧ Below w.heap.size w w'
theorem Split_any (s : ByteArray) (c : UInt8) (w : World) (G : Glob w) (hs : s.size ≤ 1000000) :
    Calls Tryz.prog 66 #[.string s, .string ⟨#[c]⟩] w (SlPost w (strs c s.data.toList)) := by
  obtain ⟨m, hm⟩ := G.maxlen
  refine (Any.strings_Split Tryz.laysSplit (by kernel_rfl) s ⟨#[c]⟩ m w (by omega) hm (Nat.le_refl 1)).mono ?_
  rintro e w' ⟨rfl, rfl⟩
  have e1 := splitB_strs s c
  have e2 : Lib.countB s ⟨#[c]⟩ + 1 = (strs c s.data.toList).length := by
    rw [← e1]; exact (Lib.splitB_all ⟨#[c]⟩ (Nat.le_refl 1) 0 _ s rfl).symm
  rw [e1, e2]
  refine ⟨w.heap.size, rfl, ?_, (Below.refl _ _).alloc (Nat.le_refl _) _⟩
  have := splitL_len c s.data.toList
  refine elStr.sl_mk _ _ _ _ _ (Nat.le_refl _) ?_ fun k x hx => ?_
  · have e3 : s.data.toList.length = s.size := by simp
    unfold strs; rw [List.length_map]; omega
  · rw [World.cell?_alloc_at _ _ _ _ rfl]
    simp [hx, elStr]

theorem index_hit (c : UInt8) (p r : List UInt8) (h : c ∉ p) : Lib.index (p ++ c :: r) [c] = (p.length : Nat) := by
  refine Lib.index_first (by simp) (by simp [Lib.occAt]) fun j hj => ?_
  unfold Lib.occAt
  rw [List.drop_append_of_le_length (by omega), List.drop_eq_getElem_cons hj]
  have h1 : (c == p[j]) = false := beq_eq_false_iff_ne.2 fun e => h (e ▸ List.getElem_mem hj)
  show (c == p[j] && _) = false
  rw [h1]; rfl
theorem index_miss (c : UInt8) (p : List UInt8) (h : c ∉ p) : Lib.index p [c] = -1 := by
  refine Lib.index_none fun j hj => ?_
  unfold Lib.occAt
  by_cases hl : j < p.length
  · rw [List.drop_eq_getElem_cons hl]
    have h1 : (c == p[j]) = false := beq_eq_false_iff_ne.2 fun e => h (e ▸ List.getElem_mem hl)
    show (c == p[j] && _) = false
    rw [h1]; rfl
  · rw [List.drop_eq_nil_of_le (by omega)]; rfl
theorem split_at (c : UInt8) : ∀ (l : List UInt8), c ∈ l → ∃ p r, c ∉ p ∧ l = p ++ c :: r
  | x :: r, h => by
    by_cases e : x = c
    · subst e; exact ⟨[], r, by simp, rfl⟩
    · obtain ⟨p, q, h1, h2⟩ := split_at c r (by simp at h; rcases h with h | h; exact absurd h.symm e; exact h)
      exact ⟨x :: p, q, by simp [h1]; exact fun h => e h.symm, by rw [h2]; rfl⟩

/-- Cut at a byte that is there. -/
theorem Cut_hit (s : ByteArray) (c : UInt8) (p r : List UInt8) (w : World) (G : Glob w) (hs : s.size ≤ 1000000) (hp : c ∉ p) (h : s.data.toList = p ++ c :: r) :
    Calls Tryz.prog 33 #[.string s, .string ⟨#[c]⟩] w fun e w' => e = .returned (.tuple #[.string ⟨p.toArray⟩, .string ⟨r.toArray⟩, .bool true]) ∧ Qt w w' := by
  obtain ⟨m, hm⟩ := G.maxlen
  refine (Any.strings_Cut Tryz.laysCut s ⟨#[c]⟩ m w (by omega) hm).mono fun e w' ⟨h1, h2⟩ => ⟨?_, ⟨h2⟩⟩
  have e1 : Lib.cut s.data.toList (ByteArray.mk #[c]).data.toList = (p, r, true) := by
    have := index_hit c p r hp
    show Lib.cut s.data.toList [c] = _
    unfold Lib.cut
    rw [h, this, if_pos (by omega)]
    simp
  rw [h1, e1]
theorem Cut_miss (s : ByteArray) (c : UInt8) (w : World) (G : Glob w) (hs : s.size ≤ 1000000) (hp : c ∉ s.data.toList) :
    Calls Tryz.prog 33 #[.string s, .string ⟨#[c]⟩] w fun e w' => e = .returned (.tuple #[.string ⟨s.data.toList.toArray⟩, .string ⟨#[]⟩, .bool false]) ∧ Qt w w' := by
  obtain ⟨m, hm⟩ := G.maxlen
  refine (Any.strings_Cut Tryz.laysCut s ⟨#[c]⟩ m w (by omega) hm).mono fun e w' ⟨h1, h2⟩ => ⟨?_, ⟨h2⟩⟩
  have e1 : Lib.cut s.data.toList (ByteArray.mk #[c]).data.toList = (s.data.toList, [], false) := by
    have := index_miss c _ hp
    show Lib.cut s.data.toList [c] = _
    unfold Lib.cut
    rw [this, if_neg (by omega)]
  rw [h1, e1]

end Go.Proofs.YtloanidfkefenaaGreatDoor
