/-
  Words of a line as strings, in plain Lean; no program in this text.
-/
import Derived.Test.YtloanidfkefenaaGreatDoorQX3
namespace Go.Proofs.YtloanidfkefenaaGreatDoor
open Go.RowKit Go.Shelf
set_option maxRecDepth 100000

theorem strs_map (l : List UInt8) : strs 32 l = (splitL 32 l).map strOf := rfl
theorem hdW_map (ws : List (List UInt8)) : hdW (ws.map strOf) = strOf (ws.headD []) := by cases ws <;> rfl
theorem takeS_map (ws : List (List UInt8)) : takeS (ws.map strOf) = (takeW ws).map strOf := by
  unfold takeS takeW
  rw [hdW_map, List.map_take, List.map_tail]; rfl
theorem restS_map (ws : List (List UInt8)) : restS (ws.map strOf) = (restW ws).map strOf := by
  unfold restS restW
  rw [hdW_map, List.map_drop, List.map_tail]; rfl
theorem map_numS (ws : List (List UInt8)) : (ws.map strOf).map numS = ws.map numP := by
  rw [List.map_map]; exact List.map_congr_left fun x _ => rfl
theorem map_unS (ws : List (List UInt8)) : (ws.map strOf).map unS = ws.map unhexP := by
  rw [List.map_map]; exact List.map_congr_left fun x _ => rfl
/-- The i-th number. -/
def nthN (ws : List ByteArray) (i : Nat) : Int := numS (hdW (ws.drop i))
theorem nthN_map (ws : List (List UInt8)) (i : Nat) : nthN (ws.map strOf) i = numP (ws.getD i []) := by
  unfold nthN numS
  rw [← List.map_drop, hdW_map]
  have : (ws.drop i).headD [] = ws.getD i [] := by
    simp [List.getD, List.headD_eq_head?_getD, List.head?_drop]
  rw [this]; rfl

/-- What the program reads of words. -/
def rdS (ws : List ByteArray) : CmdP := {
  kind := nthN ws 0
  policy := nthN ws 1
  limit := nthN ws 2
  whole := decide (nthN ws 3 = 1)
  budget := nthN ws 4
  fan := nthN ws 5
  room := nthN ws 6
  fails := (takeS (ws.drop 7)).map numS
  chunks := (takeS (restS (ws.drop 7))).map numS
  ins := (takeS (restS (restS (ws.drop 7)))).map unS }
theorem rdS_map (ws : List (List UInt8)) : rdS (ws.map strOf) = rdP ws := by
  unfold rdS rdP
  rw [nthN_map, nthN_map, nthN_map, nthN_map, nthN_map, nthN_map, nthN_map, ← List.map_drop, takeS_map, restS_map, takeS_map, restS_map, takeS_map, map_numS, map_numS, map_unS]

theorem nthN_in (ws : List ByteArray) (i : Nat) : InR (nthN ws i) := numP_in _
theorem strs_ok (s : ByteArray) (h : s.size ≤ 100000) : WsOk (strs 32 s.data.toList) ∧ (strs 32 s.data.toList).length ≤ 100001 := by
  have hl : s.data.toList.length = s.size := by simp
  constructor
  · intro x hx
    rw [strs_map] at hx
    obtain ⟨y, hy, rfl⟩ := List.mem_map.1 hx
    have := splitL_small 32 _ y hy
    show y.length ≤ 1000000
    omega
  · rw [strs_map, List.length_map]
    have := splitL_len 32 s.data.toList
    omega
theorem strOf_inj (a b : List UInt8) : strOf a = strOf b ↔ a = b := by
  constructor
  · intro h
    have := congrArg (fun s => s.data.toList) h
    exact this
  · rintro rfl; rfl
theorem strOf_back (s : ByteArray) : strOf s.data.toList = s := rfl
/-- The program's test of a line. -/
theorem read_test (s : ByteArray) (h : s.size ≤ 100000) : (strOf (bodyP (rdS (strs 32 s.data.toList)) ++ [10]) = s ++ ByteArray.mk #[10]) ↔ lineB (splitL 32 s.data.toList) = true := by
  have hl : s.data.toList.length = s.size := by simp
  have e1 : s ++ ByteArray.mk #[10] = strOf (s.data.toList ++ [10]) := str_append s.data.toList [10]
  rw [e1, strOf_inj, strs_map, rdS_map, List.append_left_inj]
  exact line_law _ (by omega)
theorem rdS_fit (s : ByteArray) (h : s.size ≤ 100000) : CmdFit (rdS (strs 32 s.data.toList)) := by
  have hl : s.data.toList.length = s.size := by simp
  rw [strs_map, rdS_map]
  exact read_fit _ (by omega)

end Go.Proofs.YtloanidfkefenaaGreatDoor
