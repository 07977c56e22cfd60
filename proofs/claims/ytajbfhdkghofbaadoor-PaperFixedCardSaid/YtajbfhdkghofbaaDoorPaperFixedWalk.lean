/- The walk of PaperFixed: what is read is shown as it was. -/
import Derived.Test.YtajbfhdkghofbaaDoorPaperTake
namespace Go.Proofs.YtajbfhdkghofbaaDoor
open Go.RowKit
namespace paperFixed
set_option maxRecDepth 100000 in
set_option maxHeartbeats 4000000 in
theorem walk {w : World} (ht : TextW w) (sb : ByteArray) (_hs : sb.size ≤ 9223372036854775807) :
    Calls Tryd.prog 9 #[.string sb] w fun e w' => e = .returned (.bool true) ∧ Below w.heap.size w w' := by
  have RD := Lib.hid (take_any sb w ht)
  have HTL : Hid (sb.toList = sb.data.toList) := Lib.hid (Lib.toList_data sb)
  have HT := Lib.hid ht
  clear ht
  go_enter Tryd.func9, Tryd.ntmps9
  go_wp2_with fail
  refine RD.out.mono ?_; rintro e w1 ⟨hr, b1⟩
  have hz1 := b1.size
  rcases hr with ⟨st, A, n, c, m, -, hv, hts, rfl, ho⟩ | ⟨-, er, he0, rfl⟩
  · have e8 : (machT m == sb.toList) = true := by rw [HTL.out, hts]; exact beq_self_eq_true _
    have b4 : Below w1.heap.size w1 (w1.alloc (.cells #[.int .i64 st, .slice A n c] 32)) := (Below.refl _ _).alloc (Nat.le_refl _) _
    have c4 := b1.trans (b4.mono b1.size)
    have SH := Lib.hid (Show_mach _ m _ (ho.below b4 (Nat.le_refl _)).at_ hv (HT.out.below c4).tab)
    clear hts ho RD b4 hv
    go_wp2_with fail
    refine SH.out.mono ?_; rintro e w2 ⟨rfl, b2⟩
    have c2 := c4.trans (b2.mono c4.size)
    go_wp2_with fail
    go_ret
    exact ⟨rfl, c2⟩
  · have h1 : (er == 0) = false := by simpa using he0
    have h2 : (er != 0) = true := by simpa using he0
    have h3 : er ≠ 0 := he0
    go_wp2_with fail
    go_ret
    exact ⟨rfl, b1.alloc hz1 _⟩
end paperFixed
end Go.Proofs.YtajbfhdkghofbaaDoor
