/-
  The commands of a text, in plain Lean; no program in this text.
-/
import Derived.Test.YtloanidfkefenaaGreatDoorQ3
namespace Go.Proofs.YtloanidfkefenaaGreatDoor
set_option maxRecDepth 100000

def cmdsT (l : List UInt8) : List CmdP := (splitL 10 l).dropLast.map fun x => rdP (splitL 32 x)
theorem cmdsT_nil : cmdsT [] = [] := rfl
theorem cmdsT_cons (p r : List UInt8) (h : (10 : UInt8) ∉ p) : cmdsT (p ++ 10 :: r) = rdP (splitL 32 p) :: cmdsT r := by
  unfold cmdsT
  rw [splitL_hit 10 r p h]
  cases hs : splitL 10 r with
  | nil => exact absurd hs (splitL_ne 10 r)
  | cons y ys => rfl
theorem parse_miss (n : Nat) (l : List UInt8) (h : (10 : UInt8) ∉ l) (h0 : l ≠ []) : parseT n l = some n := parseT_last n l h h0
theorem cmds_list : (cmdsT [57, 32, 48, 32, 48, 32, 48, 32, 48, 32, 48, 32, 48, 32, 48, 32, 48, 32, 48, 10]).map (fun c => (c.kind, c.ins.length)) = [(9, 0)] := by decide +kernel

/-- How far a text has been read. -/
structure TxS (text t : List UInt8) (n : Nat) (L : List CmdP) : Prop where
  parse : parseT 1 text = parseT n t
  cmds : cmdsT text = L ++ cmdsT t
theorem TxS.start (text : List UInt8) : TxS text text 1 [] := ⟨rfl, rfl⟩
theorem TxS.ok {text p r : List UInt8} {n : Nat} {L : List CmdP} (h : TxS text (p ++ 10 :: r) n L) (hp : (10 : UInt8) ∉ p) (hb : lineB (splitL 32 p) = true) : TxS text r (n + 1) (L ++ [rdP (splitL 32 p)]) :=
  ⟨by rw [h.parse, parseT_ok n p r hp hb], by rw [h.cmds, cmdsT_cons p r hp]; simp⟩
theorem TxS.bad {text p r : List UInt8} {n : Nat} {L : List CmdP} (h : TxS text (p ++ 10 :: r) n L) (hp : (10 : UInt8) ∉ p) (hb : lineB (splitL 32 p) = false) : parseT 1 text = some n := by
  rw [h.parse, parseT_bad n p r hp (by rw [hb]; decide)]
theorem TxS.last {text t : List UInt8} {n : Nat} {L : List CmdP} (h : TxS text t n L) (hp : (10 : UInt8) ∉ t) (h0 : t ≠ []) : parseT 1 text = some n := by
  rw [h.parse, parseT_last n t hp h0]
theorem TxS.done {text : List UInt8} {n : Nat} {L : List CmdP} (h : TxS text [] n L) : parseT 1 text = none ∧ cmdsT text = L := ⟨by rw [h.parse]; rfl, by rw [h.cmds, cmdsT_nil, List.append_nil]⟩

end Go.Proofs.YtloanidfkefenaaGreatDoor
