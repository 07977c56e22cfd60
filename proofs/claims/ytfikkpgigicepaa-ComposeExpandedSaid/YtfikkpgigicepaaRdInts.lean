/- Slices of ints that are read. -/
import Derived.Test.YtfikkpgigicepaaSlices
namespace Go.Proofs.Ytfikkpgigicepaa
open Go.RowKit

/-- the ints of a list as cells -/
abbrev icells (xs : List Int) : List Value := xs.map (Value.int .i64)

theorem rdi_cell {w : World} {A : Option Addr} {n : Nat} {xs : List Int} (h : Rd w A n 1 (icells xs)) (k : Nat) (hk : k < xs.length) : w.cell? ⟨blk A, ofs A + k, none⟩ = some (.int .i64 xs[k]) := by
  have := h.cell k (by simpa using hk)
  simpa using this
theorem rdi_len {w : World} {A : Option Addr} {n : Nat} {xs : List Int} (h : Rd w A n 1 (icells xs)) : n = xs.length := by have := h.len; simp at this; omega

end Go.Proofs.Ytfikkpgigicepaa
