/- Machines with each arc turned: plain facts. -/
import Derived.Test.YtfikkpgigicepaaTurn
import Derived.Test.YtfikkpgigicepaaValid
namespace Go.Proofs.Ytfikkpgigicepaa
open Go.RowKit

theorem invA_invA (a : ArcL) : invA (invA a) = a := rfl
theorem each_each (F G : ArcL → ArcL) (m : MachL) : eachM F (eachM G m) = eachM (fun a => F (G a)) m := by
  simp [eachM, Function.comp_def]
theorem each_id (m : MachL) : eachM (fun a => a) m = m := by
  cases m with
  | mk st ss =>
    simp only [eachM, List.map_id']
theorem inv_valid (n : Int) (a : ArcL) (h : ValidArc n a) : ValidArc n (invA a) := ⟨h.o0, h.o1, h.i0, h.i1, h.w0, h.w1, h.t0, h.t1⟩
theorem read_valid (n : Int) (a : ArcL) (h : ValidArc n a) : ValidArc n (readA a) := ⟨h.i0, h.i1, h.i0, h.i1, h.w0, h.w1, h.t0, h.t1⟩
theorem write_valid (n : Int) (a : ArcL) (h : ValidArc n a) : ValidArc n (writeA a) := ⟨h.o0, h.o1, h.o0, h.o1, h.w0, h.w1, h.t0, h.t1⟩
end Go.Proofs.Ytfikkpgigicepaa
