/- The walk of NamesFixed. -/
import Derived.Test.YtajbfhdkghofbaaDoorNamesRead
namespace Go.Proofs.YtajbfhdkghofbaaDoor
open Go.RowKit
namespace namesFixed
set_option maxRecDepth 100000 in
set_option maxHeartbeats 4000000 in
theorem walk {w : World} (ht : TextW w) (sb : ByteArray) (_hs : sb.size ≤ 9223372036854775807) :
    Calls Tryd.prog 7 #[.string sb] w fun e w' => e = .returned (.bool true) ∧ Below w.heap.size w w' := by
  have RD := Lib.hid (names_read sb w ht)
  have HTL : Hid (sb.toList = sb.data.toList) := Lib.hid (Lib.toList_data sb)
  have HT := Lib.hid ht
  clear ht
  go_enter Tryd.func7, Tryd.ntmps7
  go_wp2_with fail
  refine RD.out.mono ?_; rintro e w1 ⟨hr, b1⟩
  rcases hr with ⟨v, l, hof, hok, hts, rfl, ho⟩ | ⟨-, er, he0, rfl⟩
  · obtain ⟨A, c, rfl, -, -⟩ := own_form ho
    have SH := Lib.hid (names_ok A l c w1 (NamesAt.of_own ho) hok (HT.out.below b1).tab)
    have e8 : (namesT l == sb.toList) = true := by rw [HTL.out, hts]; exact beq_self_eq_true _
    clear hof hok hts ho RD
    go_wp2_with fail
    refine SH.out.mono ?_; rintro e w2 ⟨rfl, b2⟩
    have c2 := b1.trans (b2.mono b1.size)
    go_wp2_with fail
    go_ret
    exact ⟨rfl, c2⟩
  · have h1 : (er == 0) = false := by simpa using he0
    have h2 : (er != 0) = true := by simpa using he0
    have h3 : er ≠ 0 := he0
    go_wp2_with fail
    go_ret
    exact ⟨rfl, b1⟩
end namesFixed
end Go.Proofs.YtajbfhdkghofbaaDoor
