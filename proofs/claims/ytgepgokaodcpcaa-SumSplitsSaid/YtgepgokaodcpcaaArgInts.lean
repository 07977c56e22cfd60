/- An argument that is a slice of ints, opened. -/
import Derived.Test.YtgepgokaodcpcaaInts
import Derived.ProofKit
import Derived.OpenShut
namespace Go.Proofs.Ytgepgokaodcpcaa
open Go.ChangeShapes Go.WideShapes Go.ChangeAt Go.RowKit

/-- what a walk is told of a slice of ints that came in -/
def IntsArg (w : World) (A : Option Addr) (n : Nat) (xs : List Int) : Prop :=
  xs.length = n ∧ n ≤ maxLen ∧ (n = 0 ∨ ∃ b off, A = some ⟨b, off, none⟩ ∧ ∀ i, i < n → w.cell? ⟨b, off + i, none⟩ = some (.int .i64 (xs.getD i 0))) ∧
  ∀ i, -9223372036854775808 ≤ xs.getD i 0 ∧ xs.getD i 0 ≤ 9223372036854775807

theorem IntsArg.at_ {w : World} {A : Option Addr} {n c : Nat} {xs : List Int} (h : IntsArg w A n xs) : IntsAt w (.slice A n c) xs := by
  obtain ⟨rfl, _, h, _⟩ := h
  rcases h with h | ⟨b, off, rfl, hc⟩
  · left; refine ⟨List.eq_nil_of_length_eq_zero h, A, c, ?_⟩; rw [h]
  · exact .inr ⟨b, off, c, rfl, hc⟩

set_option maxRecDepth 100000 in
theorem open_ints_arg {H : Type} {enc : TypeId × Value → H} {W : World} {base : Nat} {v : Value} {d : DataW H} {p : List MemPlace}
    (hv : Value.okWide Try.prog W .any base 33 v) (h : DataW.Trod enc Try.prog W 0 (fun _ => true) true 33 v d p) :
    ∃ A n c xs, v = .slice A n c ∧ IntsArg W A n xs := by
  obtain ⟨A, n, c, rfl⟩ := okWide_slice Try.underlying33 hv
  obtain ⟨fuel, hf⟩ := h
  rcases open_ints Try.underlying33 Try.underlying3 (by kernel_rfl) hf with ⟨hcs, _⟩ | ⟨x, l, c', zs, hcs, _, hl, hm, hz, _, hcell, hwz⟩
  · simp [Value.cells] at hcs
    obtain ⟨rfl, rfl, rfl⟩ := hcs
    exact ⟨none, 0, 0, [], rfl, rfl, by simp [maxLen], .inl rfl, fun i => by simp⟩
  · simp [Value.cells] at hcs
    obtain ⟨rfl, rfl, rfl⟩ := hcs
    simp at hz
    have hwf : ∀ i, -9223372036854775808 ≤ zs.getD i 0 ∧ zs.getD i 0 ≤ 9223372036854775807 := by
      intro i
      by_cases hi : i < zs.length
      · exact wf_i64 (hwz _ (by simp [List.getD, hi]))
      · simp [List.getD, Nat.not_lt.1 hi]
    have htake : ∀ i, (zs.take n).getD i 0 = if i < n then zs.getD i 0 else 0 := by
      intro i
      simp only [List.getD, List.getElem?_take]
      split <;> simp
    refine ⟨some x, n, c, zs.take n, rfl, by simp; omega, by omega, ?_, fun i => ?_⟩
    · by_cases hn : n = 0
      · exact .inl hn
      · right
        obtain ⟨b, off, spot⟩ := x
        have h0 := hcell 0 (by omega)
        have hspot : spot = none := by simpa [Addr.add] using World.cell?_spot h0
        subst hspot
        refine ⟨b, off, rfl, fun i hi => ?_⟩
        have hi' := hcell i (by omega)
        rw [htake, if_pos hi]
        rw [← hi']
        congr 1
        unfold Addr.add
        split
        · subst_vars; rfl
        · rfl
    · rw [htake]
      split
      · exact hwf i
      · omega
end Go.Proofs.Ytgepgokaodcpcaa
