/- The words that all walks share: what bytes, strings and rows of structs in memory read as; frames. -/
import Derived.Test.YtloanidfkefenaaGreatDoorProg
import Derived.WalkKit
import Derived.WalkSpells
import Derived.WalkLawsBesides
import Derived.Deep.QuietTactic
import Derived.BigQuiet
import Derived.Lib.Hide
namespace Go.Proofs.YtloanidfkefenaaGreatDoor
open Go.RowKit

/-- The world is the old one, some orders having been drawn. -/
structure Qt (w w' : World) : Prop where mk :: (out : ∃ n, w' = w.drewN n)
theorem Qt.refl (w : World) : Qt w w := ⟨⟨0, rfl⟩⟩
theorem Qt.more {w w' : World} (h : Qt w w') (n : Nat) : Qt w (w'.drewN n) := by
  obtain ⟨m, rfl⟩ := h; exact ⟨⟨m + n, World.drewN_drewN ..⟩⟩
theorem Qt.at (w : World) (n : Nat) : Qt w (w.drewN n) := ⟨⟨n, rfl⟩⟩
theorem Qt.trans {a b c : World} (h : Qt a b) (k : Qt b c) : Qt a c := by
  obtain ⟨n, rfl⟩ := k; exact h.more n
theorem below_drewN {B : Nat} {w W : World} (h : Below B w W) (n : Nat) : Below B w (W.drewN n) := ⟨h.os, h.tape, h.output, h.size, h.block⟩
theorem Qt.below {w w' : World} (h : Qt w w') (B : Nat) : Below B w w' := by
  obtain ⟨n, rfl⟩ := h; exact below_drewN (Below.refl _ _) n

theorem ret_bool {a b : Bool} (h : a = b) : Ending.returned (.bool a) = .returned (.bool b) := by rw [h]
theorem ret_int {k : IntKind} {a b : Int} (h : a = b) : Ending.returned (.int k a) = .returned (.int k b) := by rw [h]
theorem ret_two {a b c d : Value} (h1 : a = c) (h2 : b = d) : Ending.returned (.tuple #[a, b]) = .returned (.tuple #[c, d]) := by rw [h1, h2]
theorem ret_three {a b c d e f : Value} (h1 : a = d) (h2 : b = e) (h3 : c = f) : Ending.returned (.tuple #[a, b, c]) = .returned (.tuple #[d, e, f]) := by rw [h1, h2, h3]
theorem vint {k : IntKind} {a b : Int} (h : a = b) : Value.int k a = .int k b := by rw [h]
theorem vbool {a b : Bool} (h : a = b) : Value.bool a = .bool b := by rw [h]
theorem vstr {a b : ByteArray} (h : a = b) : Value.string a = .string b := by rw [h]
theorem ret_str {a b : ByteArray} (h : a = b) : Ending.returned (.string a) = .returned (.string b) := by rw [h]

theorem drop_cons {α : Type} [Inhabited α] (l : List α) (k : Nat) (h : k < l.length) (d : α) : l.drop k = l.getD k d :: l.drop (k + 1) := by
  rw [List.drop_eq_getElem_cons h]; simp [List.getD, h]
theorem w64_byte (d : Nat) (h : d < 256) : wrap64 (d : Int) = d := by unfold wrap64; omega
/-- A slice of bytes reads as a list. -/
def Bts (w : World) (v : Value) (l : List UInt8) : Prop :=
  ∃ p c, v = .slice p l.length c ∧ l.length ≤ c ∧ c ≤ 9223372036854775807 ∧ (0 < l.length → ∃ b o, p = some ⟨b, o, none⟩ ∧ ∀ i, i < l.length → w.cell? ⟨b, o + i, none⟩ = some (.int .u8 (l.getD i 0).toNat))
theorem Bts.form {w : World} {v : Value} {l : List UInt8} (h : Bts w v l) : ∃ p c, v = .slice p l.length c ∧ l.length ≤ c ∧ c ≤ 9223372036854775807 := by
  obtain ⟨p, c, h1, h2, h3, _⟩ := h; exact ⟨p, c, h1, h2, h3⟩
/-- One byte of it, as a number d, and what the rest is. -/
theorem Bts.at {w : World} {p : Option Addr} {n c : Nat} {l : List UInt8} (h : Bts w (.slice p n c) l) (k : Nat) (hk : k < l.length) :
    ∃ b o d, p = some ⟨b, o, none⟩ ∧ w.cell? ⟨b, o + k, none⟩ = some (.int .u8 (d : Nat)) ∧ d < 256 ∧ wrap64 (d : Int) = d ∧ Hid (∃ x : UInt8, x.toNat = d ∧ l.drop k = x :: l.drop (k + 1)) := by
  obtain ⟨p', c', h1, _, _, h2⟩ := h
  injection h1 with h1
  subst h1
  obtain ⟨b, o, h3, h4⟩ := h2 (by omega)
  exact ⟨b, o, _, h3, h4 k hk, (l.getD k 0).toNat_lt, w64_byte _ (l.getD k 0).toNat_lt, _, rfl, drop_cons l k hk 0⟩

/-- One byte of a string. -/
theorem str_at (s : ByteArray) (k : Nat) (h : k < s.size) : ∃ d : Nat, d < 256 ∧ s[k].toNat = d ∧ wrap64 (d : Int) = d ∧ Hid (∃ x : UInt8, x.toNat = d ∧ s.data.toList.drop k = x :: s.data.toList.drop (k + 1)) := by
  refine ⟨_, s[k].toNat_lt, rfl, w64_byte _ s[k].toNat_lt, s[k], rfl, ?_⟩
  have h' : k < s.data.toList.length := by simpa using h
  rw [List.drop_eq_getElem_cons h']; rfl
theorem str_end (s : ByteArray) (k : Nat) (h : ¬ k < s.size) : Hid (s.data.toList.drop k = []) := List.drop_eq_nil_of_le (by simp; omega)
theorem bts_end (l : List UInt8) (k : Nat) (h : ¬ k < l.length) : Hid (l.drop k = []) := List.drop_eq_nil_of_le (by omega)

/-- A kind of element: how many cells it has, and what they say. -/
structure Ty (α : Type) where
  sz : Nat
  rel : World → α → List Value → Prop
  len : ∀ {w x cs}, rel w x cs → cs.length = sz
  below : ∀ {w w' x cs}, Below w.heap.size w w' → rel w x cs → rel w' x cs

/-- A slice's value reads as a list. -/
def Ty.Sl {α : Type} (T : Ty α) (w : World) (v : Value) (xs : List α) : Prop :=
  ∃ A c, v = .slice A xs.length c ∧ xs.length ≤ c ∧ xs.length ≤ 9223372036854775807 ∧
    (0 < xs.length → ∃ b o, A = some ⟨b, o, none⟩ ∧ ∀ j x, xs[j]? = some x → ∃ cs, T.rel w x cs ∧ ∀ i u, cs[i]? = some u → w.cell? ⟨b, o + (j * T.sz + i), none⟩ = some u)

theorem cell_below {w w1 : World} (h : Below w.heap.size w w1) {a : Addr} {v : Value} (hc : w.cell? a = some v) : w1.cell? a = some v :=
  (h.cell (World.block_lt_of_cell? w a hc)).trans hc

theorem Bts.below {w w' : World} {v : Value} {l : List UInt8} (hb : Below w.heap.size w w') (h : Bts w v l) : Bts w' v l := by
  obtain ⟨p, c, e, h1, h2, h3⟩ := h
  refine ⟨p, c, e, h1, h2, fun hp => ?_⟩
  obtain ⟨b, o, e, h4⟩ := h3 hp
  exact ⟨b, o, e, fun i hi => cell_below hb (h4 i hi)⟩

/-- What comes back: bytes in memory that was not there, or that was handed in; nothing that was there has changed. -/
def RB (w : World) (l : List UInt8) (e : Ending) (w' : World) : Prop := ∃ v, e = .returned v ∧ Bts w' v l ∧ Below w.heap.size w w'
/-- Bytes and a bool. -/
def RBb (w : World) (r : List UInt8 × Bool) (e : Ending) (w' : World) : Prop := ∃ v, e = .returned (.tuple #[v, .bool r.2]) ∧ Bts w' v r.1 ∧ Below w.heap.size w w'
/-- Bytes and an error's number. -/
def RBe (w : World) (r : List UInt8 × Nat) (e : Ending) (w' : World) : Prop := ∃ v, e = .returned (.tuple #[v, .int .i64 r.2]) ∧ Bts w' v r.1 ∧ Below w.heap.size w w'
theorem bts_nil (w : World) : Bts w (.slice none 0 0) [] := ⟨none, 0, rfl, Nat.le_refl _, by omega, fun hp => absurd hp (by simp)⟩

theorem Ty.Sl.below {α : Type} {T : Ty α} {w w' : World} {v : Value} {xs : List α} (hb : Below w.heap.size w w') (h : T.Sl w v xs) : T.Sl w' v xs := by
  obtain ⟨A, c, e, h1, h2, h3⟩ := h
  refine ⟨A, c, e, h1, h2, fun hp => ?_⟩
  obtain ⟨b, o, e, h4⟩ := h3 hp
  refine ⟨b, o, e, fun j x hx => ?_⟩
  obtain ⟨cs, h5, h6⟩ := h4 j x hx
  exact ⟨cs, T.below hb h5, fun i u hu => cell_below hb (h6 i u hu)⟩

/-- One cell, whatever the world is. -/
def Ty.one {α : Type} (enc : α → Value) : Ty α := {
  sz := 1
  rel := fun _ x cs => cs = [enc x]
  len := fun h => by rw [h]; rfl
  below := fun _ h => h }

def tByte : Ty UInt8 := Ty.one fun b => .int .u8 b.toNat
def tInt : Ty Int := Ty.one fun n => .int .i64 n
def tStr : Ty ByteArray := Ty.one fun s => .string s

structure Meta where
  mode : Int
  uid : Int
  gid : Int
  time : Int

structure Node where
  path : ByteArray
  target : ByteArray
  leader : ByteArray
  kind : UInt8
  meta_ : Meta
  body : List UInt8

structure Member where
  path : ByteArray
  target : ByteArray
  kind : UInt8
  meta_ : Meta
  body : List UInt8
def memV (m : Member) (v : Value) : Value := .agg #[.string m.path, .string m.target, .int .u8 m.kind.toNat, .int .i64 m.meta_.mode, .int .i64 m.meta_.uid, .int .i64 m.meta_.gid, .int .i64 m.meta_.time, v]
def nodeV (m : Node) (v : Value) : Value := .agg #[.string m.path, .string m.target, .string m.leader, .int .u8 m.kind.toNat, .int .i64 m.meta_.mode, .int .i64 m.meta_.uid, .int .i64 m.meta_.gid, .int .i64 m.meta_.time, v]
/-- Old cells and old marks read as before. -/
theorem bcell {W w1 : World} (hb : Below W.heap.size W w1) : (∀ b o, b < W.heap.size → w1.cell? ⟨b, o, none⟩ = W.cell? ⟨b, o, none⟩) ∧ (∀ b o, b < W.heap.size → w1.frozen? ⟨b, o, none⟩ = W.frozen? ⟨b, o, none⟩) :=
  ⟨fun b o h => hb.cell (p := ⟨b, o, none⟩) h, fun b o h => hb.frozen (p := ⟨b, o, none⟩) h⟩

def tNode : Ty Node := {
  sz := 9
  rel := fun w x cs => ∃ v, cs = [.string x.path, .string x.target, .string x.leader, .int .u8 x.kind.toNat, .int .i64 x.meta_.mode, .int .i64 x.meta_.uid, .int .i64 x.meta_.gid, .int .i64 x.meta_.time, v] ∧ tByte.Sl w v x.body
  len := by rintro w x cs ⟨v, rfl, _⟩; rfl
  below := by rintro w w' x cs hb ⟨v, rfl, h⟩; exact ⟨v, rfl, h.below hb⟩ }

end Go.Proofs.YtloanidfkefenaaGreatDoor
