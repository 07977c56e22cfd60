/- A machine in a variable's box. -/
import Derived.Test.YtikkmoleneioeaaMem
import Derived.Test.YtikkmoleneioeaaSlices
namespace Go.Proofs.Ytikkmoleneioeaa
open Go.RowKit

structure MBox (w : World) (b : Nat) (A : Option Addr) (c : Nat) (m : MachL) : Prop where
  blk : Blk w b #[.int .i64 m.start, .slice A m.states.length c] 28
  at_ : StatesAt w A m.states
section
variable {w w' : World} {b : Nat} {A : Option Addr} {c : Nat} {m : MachL}
theorem MBox.step (h : MBox w b A c m) (hb : Below w.heap.size w w') : MBox w' b A c m := ⟨h.blk.step hb, h.at_.below hb (Nat.le_refl _)⟩
theorem MBox.mach (h : MBox w b A c m) : MachAt w (.agg #[.int .i64 m.start, .slice A m.states.length c]) m := ⟨A, c, rfl, h.at_⟩
theorem MBox.new (h : StatesAt w A m.states) : MBox (w.alloc (.cells #[.int .i64 m.start, .slice A m.states.length c] 28)) w.heap.size A c m :=
  ⟨Blk.new _ _ _, h.below ((Below.refl _ _).alloc (Nat.le_refl _) _) (Nat.le_refl _)⟩
theorem MBox.alloc (h : MBox w b A c m) (o : Obj) : MBox (w.alloc o) b A c m := h.step ((Below.refl _ _).alloc (Nat.le_refl _) o)
end
/-- a machine of the call's own, opened -/
theorem own_open {w : World} {B : Nat} {v : Value} {m : MachL} (h : OwnMach w B v m) : ∃ A c, v = .agg #[.int .i64 m.start, .slice A m.states.length c] ∧ StatesAt w A m.states := h.at_
end Go.Proofs.Ytikkmoleneioeaa
