/- packed (plain): bytes of machines. -/
import Derived.Test.YtajbfhdkghofbaaGreatDoorPut
import Derived.Test.YtajbfhdkghofbaaGreatDoorCheck
namespace Go.Proofs.YtajbfhdkghofbaaGreatDoor
open Go.RowKit

/-! ### bytes of a machine -/
def encA (a : ArcL) : List Int := putL a.inn 2 ++ (putL a.out 2 ++ (putL a.wt 4 ++ putL a.to 1))
def encS (s : StateL) : List Int := putL s.final 4 ++ (putL s.arcs.length 2 ++ s.arcs.flatMap encA)
def encM (m : MachL) : List Int := 84 :: (m.states.length : Int) :: (m.start + 1) :: m.states.flatMap encS

/-- the bytes when q states have been written -/
def encB (m : MachL) (q : Nat) : List Int := [84, (m.states.length : Int), m.start + 1] ++ (m.states.take q).flatMap encS
theorem encB_zero (m : MachL) : encB m 0 = [84, (m.states.length : Int), m.start + 1] := by simp [encB]
theorem encB_all (m : MachL) : encB m m.states.length = encM m := by simp [encB, encM]
/-- the bytes when t arcs of state s have been written, too -/
def encI (m : MachL) (q : Nat) (s : StateL) (t : Nat) : List Int := encB m q ++ (putL s.final 4 ++ (putL s.arcs.length 2 ++ (s.arcs.take t).flatMap encA))
theorem encI_zero (m : MachL) (q : Nat) (s : StateL) : encI m q s 0 = encB m q ++ putL s.final 4 ++ putL s.arcs.length 2 := by simp [encI]
theorem encI_succ (m : MachL) (q : Nat) (s : StateL) (t : Nat) (h : t < s.arcs.length) : encI m q s (t + 1) = encI m q s t ++ putL s.arcs[t].inn 2 ++ putL s.arcs[t].out 2 ++ putL s.arcs[t].wt 4 ++ putL s.arcs[t].to 1 := by
  unfold encI; rw [List.take_succ_eq_append_getElem h]; simp only [List.flatMap_append, List.flatMap_cons, List.flatMap_nil, List.append_nil, List.append_assoc, encA]
theorem encI_all (m : MachL) (q : Nat) (h : q < m.states.length) : encI m q m.states[q] m.states[q].arcs.length = encB m (q + 1) := by
  unfold encI encB; rw [List.take_succ_eq_append_getElem h]; simp only [List.flatMap_append, List.flatMap_cons, List.flatMap_nil, List.append_nil, List.append_assoc, encS, List.take_length]
end Go.Proofs.YtajbfhdkghofbaaGreatDoor
