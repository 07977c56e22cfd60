/- packed.Encode of a machine that is none. -/
import Derived.Test.YtajbfhdkghofbaaDoorCheckAny
import Derived.Test.YtajbfhdkghofbaaDoorEncode
namespace Go.Proofs.YtajbfhdkghofbaaDoor
open Go.RowKit

theorem Encode_no (v : Value) (m : MachL) (w : World) (hm : MachAt w v m) (ha : ∀ s ∈ m.states, s.arcs.length ≤ 4398046511104) (hv : ¬ Valid m) :
    Calls Tryd.prog 15 #[v] w fun e w' => (e = .returned (.tuple #[.slice none 0 0, .int .i64 1]) ∨ e = .returned (.tuple #[.slice none 0 0, .int .i64 2])) ∧ Below w.heap.size w w' := by
  have CH := Lib.hid (fun W (hb : Below w.heap.size w W) => Check_no v m W (hm.below hb) (fun s hs => by have := ha s hs; omega) hv)
  obtain ⟨A, c, rfl, hS⟩ := hm
  clear hS ha hv
  go_enter Tryd.func15, Tryd.ntmps15
  go_wp2_with fail
  refine (CH.out _ (by repeat' (first | exact Below.refl _ _ | assumption | refine Below.drew ?_ | refine Below.alloc ?_ (by first | omega | (simp; done) | (simp; omega)) _ | refine Below.setCell ?_ (by first | omega | (simp; done) | (simp; omega)) _))).mono ?_; rintro e w1 ⟨hno, b1⟩
  have bl : Below w.heap.size w w1 := ((by repeat' (first | exact Below.refl _ _ | assumption | refine Below.drew ?_ | refine Below.alloc ?_ (by first | omega | (simp; done) | (simp; omega)) _ | refine Below.setCell ?_ (by first | omega | (simp; done) | (simp; omega)) _)) : Below w.heap.size w (w.alloc (.cells #[.int .i64 m.start, .slice A m.states.length c] 32))).trans (b1.mono (by simp))
  rcases hno with rfl | rfl
  · go_wp2_with fail
    refine bodyPost_ret (v := .tuple #[.slice none 0 0, .int .i64 1]) (by simp [results, Tryd.results15, go_sem, *]) rfl ⟨.inl rfl, ?_⟩
    exact bl
  · go_wp2_with fail
    refine bodyPost_ret (v := .tuple #[.slice none 0 0, .int .i64 2]) (by simp [results, Tryd.results15, go_sem, *]) rfl ⟨.inr rfl, ?_⟩
    exact bl
end Go.Proofs.YtajbfhdkghofbaaDoor
