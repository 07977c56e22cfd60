/- The walk of WeighInvert. -/
import Derived.Test.YtfikkpgigicepaaCostMade
import Derived.Test.YtfikkpgigicepaaEachPlain
import Derived.Test.YtfikkpgigicepaaMBox
namespace Go.Proofs.Ytfikkpgigicepaa
open Go.RowKit

abbrev swapP (p : Pl) : Pl := (p.1, p.2.2, p.2.1)
theorem inv_rw {m : MachL} {x y : List Int} {p : Pl} {c : Int} (h : RW m x y false p c) : RW (eachM invA m) y x false (swapP p) c := by
  induction h with
  | start h0 => exact RW.start (m := eachM invA m) h0
  | @step p c a q _ ha hn ih =>
    have ha' : invA a ∈ arcsP (eachM invA m) (swapP p) := by rw [arcsP_each]; exact List.mem_map_of_mem ha
    refine RW.step (a := invA a) ih ha' ?_
    unfold nextP at hn ⊢
    simp only [invA, Bool.false_or, Bool.false_eq_true, if_false] at hn ⊢
    split at hn
    · rename_i hh
      cases hn
      rw [if_pos (by rw [Bool.and_comm]; exact hh)]
    · cases hn
theorem inv_tot1 {m : MachL} {x y : List Int} {c : Int} (h : Tot m x y false c) : Tot (eachM invA m) y x false c := by
  obtain ⟨p, d, hr, he, hf, rfl⟩ := h
  refine ⟨swapP p, d, inv_rw hr, ?_, by rw [finalP_each]; exact hf, by rw [finalP_each]; rfl⟩
  unfold endsP at he ⊢
  simp only [Bool.false_or] at he ⊢
  rw [Bool.and_comm]; exact he
theorem inv_tot (m : MachL) (x y : List Int) (c : Int) : Tot (eachM invA m) y x false c ↔ Tot m x y false c := by
  refine ⟨fun h => ?_, inv_tot1⟩
  have h2 := inv_tot1 h
  have e : eachM invA (eachM invA m) = m := by rw [each_each]; exact each_id m
  rw [e] at h2; exact h2

end Go.Proofs.Ytfikkpgigicepaa
