/- The walk of ScriptFixed. -/
import Derived.Test.YtajbfhdkghofbaaDoorScriptReadWalk
namespace Go.Proofs.YtajbfhdkghofbaaDoor
open Go.RowKit
theorem scrW_back {W : World} (h : laidMet Tryd.prog Rows.scriptBackRow.laid W) (hs : W.ShapedOpen Tryd.prog) : ScrW W := ⟨formsA_of h.tail, max_of hs⟩
theorem scrW_fixed {W : World} (h : laidMet Tryd.prog Rows.scriptFixedRow.laid W) (hs : W.ShapedOpen Tryd.prog) : ScrW W := ⟨formsA_of h.tail, max_of hs⟩
theorem lines_join (s : List UInt8) : (linesL s).flatMap (fun x => x) = s := by
  have h := linesL_join s
  rw [List.flatten_eq_flatMap] at h
  exact h
def txtS (s : StepL) : List UInt8 := match shownS s with | .inr t => t | .inl _ => []
theorem txtS_of {s : StepL} {t : List UInt8} (h : shownS s = .inr t) : txtS s = t := by unfold txtS; rw [h]
theorem flatMap_eq {α β : Type} (l : List α) (f g : α → List β) (h : ∀ x ∈ l, f x = g x) : l.flatMap f = l.flatMap g := by
  induction l with
  | nil => rfl
  | cons a l ih => rw [List.flatMap_cons, List.flatMap_cons, h a (by simp), ih fun x hx => h x (by simp [hx])]
namespace scriptFixed
set_option maxRecDepth 100000 in
set_option maxHeartbeats 4000000 in
theorem walk {w : World} (ht : ScrW w) (sb : ByteArray) (_hs : sb.size ≤ 9223372036854775807) :
    Calls Tryd.prog 11 #[.string sb] w fun e w' => e = .returned (.bool true) ∧ Below w.heap.size w w' := by
  have RD := Lib.hid (Read_script sb w ht)
  have HTL : Hid (sb.toList = sb.data.toList) := Lib.hid (Lib.toList_data sb)
  have HT := Lib.hid ht
  clear ht
  go_enter Tryd.func11, Tryd.ntmps11
  go_wp2_with fail
  refine RD.out.mono ?_; rintro e w1 ⟨hr, b1⟩
  rcases hr with ⟨hlen, hok, v, rfl, ho⟩ | ⟨-, k, er, he0, hk0, hk, rfl⟩
  · obtain ⟨A, c, rfl, -, -⟩ := own_form ho
    have hS : ∀ x ∈ linesL sb.data.toList, (stepOf x).name.length ≤ 100000 := fun x hx => by have := stepOf_name x; have := linesL_mem (s := sb.data.toList) (x := x) hx; omega
    have SH := Lib.hid (Show_steps txtS A ((linesL sb.data.toList).map stepOf) c w1 (StepsAt.of_own (by simpa using ho)) (by simpa using hok.1) (fun s hs => by
      obtain ⟨x, hx, rfl⟩ := List.mem_map.1 hs
      exact ⟨hS x hx, by rw [txtS_of (hok.2 x hx)]; exact hok.2 x hx⟩) (HT.out.below b1).forms.forms)
    have hT : scriptT txtS ((linesL sb.data.toList).map stepOf) = sb.data.toList := by
      unfold scriptT
      rw [List.flatMap_map]
      refine Eq.trans ?_ (lines_join sb.data.toList)
      exact flatMap_eq _ _ _ fun x hx => txtS_of (hok.2 x hx)
    rw [hT] at SH
    have hml : ((linesL sb.data.toList).map stepOf).length = (linesL sb.data.toList).length := by simp
    rw [hml] at SH
    have e8 : (sb.data.toList == sb.toList) = true := by rw [HTL.out]; exact beq_self_eq_true _
    clear hok hT ho RD hS hml
    generalize (linesL sb.data.toList).length = L at *
    generalize sb.data.toList = sl at *
    go_wp2_with fail
    refine SH.out.mono ?_; rintro e w2 ⟨rfl, b2⟩
    have c2 := b1.trans (b2.mono b1.size)
    go_wp2_with fail
    go_ret
    exact ⟨rfl, c2⟩
  · have h1 : (er == 0) = false := by simpa using he0
    have h2 : (er != 0) = true := by simpa using he0
    have h3 : er ≠ 0 := he0
    go_wp2_with fail
    go_ret
    exact ⟨rfl, b1⟩
end scriptFixed
end Go.Proofs.YtajbfhdkghofbaaDoor
