/- An argument that is a slice of ints, opened; word: labels of raw numbers. -/
import Derived.Test.YtajbfhdkghofbaaDoorSlices
import Derived.ProofKit
import Derived.OpenShut
import Derived.LoopTactic
namespace Go.Proofs.YtajbfhdkghofbaaDoor
open Go.ChangeShapes Go.WideShapes Go.ChangeAt Go.RowKit

/-- what a walk is told of a slice of ints that came in -/
structure IntArg (w : World) (A : Option Addr) (n : Nat) (xs : List Int) : Prop where
  len : xs.length = n
  max : n ≤ 9223372036854775807
  rd : Rd w A n 1 (icells xs)
  bd : ∀ x ∈ xs, -9223372036854775808 ≤ x ∧ x ≤ 9223372036854775807

theorem IntArg.below {w w' : World} {A : Option Addr} {n : Nat} {xs : List Int} (h : IntArg w A n xs) (hb : Below w.heap.size w w') : IntArg w' A n xs := ⟨h.len, h.max, h.rd.below hb rfl, h.bd⟩
theorem IntArg.cell {w : World} {A : Option Addr} {n : Nat} {xs : List Int} (h : IntArg w A n xs) (k : Nat) (hk : k < xs.length) : w.cell? ⟨blk A, ofs A + k, none⟩ = some (.int .i64 xs[k]) := by
  have := h.rd.cell k (by simpa using hk)
  simpa using this

set_option maxRecDepth 100000 in
theorem open_ints_arg {H : Type} {enc : TypeId × Value → H} {W : World} {base : Nat} {v : Value} {d : DataW H} {p : List MemPlace}
    (hv : Value.okWide Tryd.prog W .any base 42 v) (h : DataW.Trod enc Tryd.prog W 0 (fun _ => true) true 42 v d p) :
    ∃ A n c xs, v = .slice A n c ∧ IntArg W A n xs := by
  obtain ⟨A, n, c, rfl⟩ := okWide_slice Tryd.underlying42 hv
  obtain ⟨fuel, hf⟩ := h
  rcases open_ints Tryd.underlying42 Tryd.underlying3 (by kernel_rfl) hf with ⟨hcs, _⟩ | ⟨x, l, c', zs, hcs, _, hl, hm, hz, _, hcell, hwz⟩
  · simp [Value.cells] at hcs
    obtain ⟨rfl, rfl, rfl⟩ := hcs
    exact ⟨none, 0, 0, [], rfl, rfl, by omega, Rd.nil _ _ _, fun x hx => by simp at hx⟩
  · simp [Value.cells] at hcs
    obtain ⟨rfl, rfl, rfl⟩ := hcs
    simp at hz
    unfold maxLen at hm
    have key : ∀ i (hi : i < n), ∃ b off, x = ⟨b, off, none⟩ ∧ W.cell? ⟨b, off + i, none⟩ = some (.int .i64 (zs[i]'(by omega))) := by
      intro i hi
      obtain ⟨b, off, spot⟩ := x
      have h0 := hcell 0 (by omega)
      have hspot : spot = none := by simpa [Addr.add] using World.cell?_spot h0
      subst hspot
      refine ⟨b, off, rfl, ?_⟩
      have hi' := hcell i (by omega)
      rw [addr_add] at hi'
      rw [hi']
      simp [List.getD, show i < zs.length by omega]
    refine ⟨some x, n, c, zs.take n, rfl, by simp; omega, by omega, ⟨by simp; omega, fun h0 => ?_, fun j hj => ?_⟩, fun y hy => ?_⟩
    · obtain ⟨b, off, rfl, -⟩ := key 0 h0
      rfl
    · have hj' : j < n := by simp at hj; omega
      obtain ⟨b, off, rfl, hc⟩ := key j hj'
      simp only [blk_some, ofs_some]
      rw [hc]
      simp
    · exact wf_i64 (hwz y (List.mem_of_mem_take hy))

theorem eltInt : Elt Tryd.prog 42 3 (.int .i64 0) 1 8 := ⟨Tryd.underlying42, by kernel_rfl, rfl, by omega⟩

def mkWord (xs : List Int) (most : Nat) : List Int := (xs.take most).map fun x => 1 + pick x 2
theorem mkWord_len (xs : List Int) (most : Nat) : (mkWord xs most).length ≤ most := by unfold mkWord; simp; omega
theorem mkWord_b (xs : List Int) (most : Nat) : ∀ x ∈ mkWord xs most, 1 ≤ x ∧ x ≤ 2 := by
  intro x hx
  unfold mkWord at hx
  obtain ⟨y, -, rfl⟩ := List.mem_map.1 hx
  have := pick_lo y 2 (by omega); have := pick_hi y 2 (by omega)
  omega

end Go.Proofs.YtajbfhdkghofbaaDoor
