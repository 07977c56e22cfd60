/- The walk of WeightFixed. -/
import Derived.Test.YtajbfhdkghofbaaDoorWeightText
namespace Go.Proofs.YtajbfhdkghofbaaDoor
open Go.RowKit
namespace weightFixed
set_option maxRecDepth 100000 in
theorem walk {w : World} (ht : TabP w) (s : ByteArray) (hs : s.size ≤ 9223372036854775807) :
    Calls Tryd.prog 4 #[.string s] w fun e w' => e = .returned (.bool true) ∧ Below w.heap.size w w' := by
  have RD := Lib.hid (fun W => Read_any s hs W)
  have SH := Lib.hid (fun n h0 h1 W hb => Show_any n h0 h1 W (ht.below hb))
  have htl : s.toList = s.data.toList := Lib.toList_data s
  have HTL := Lib.hid htl
  clear ht htl
  go_enter Tryd.func4, Tryd.ntmps4
  go_wp2_with fail
  refine (RD.out _).mono ?_; rintro e w2 ⟨v, er, rfl, hR, b2⟩
  by_cases he : er = 0
  · obtain ⟨⟨h3, h5⟩, h4⟩ := hR.good he
    subst he
    have e5 : (showL v == s.toList) = true := by
      rw [HTL.out, h4]; simp
    clear hR h4
    go_wp2_with fail
    refine (SH.out v h3 h5 _ b2).mono ?_; rintro e w3 ⟨rfl, b3⟩
    have b4 := b2.trans (b3.mono b2.size)
    clear RD SH
    go_wp2_with fail
    go_ret
    exact ⟨rfl, b4⟩
  · obtain ⟨rfl, -⟩ := hR.bad he
    have e1 : (er != 0) = true := by simpa using he
    clear hR he
    go_wp2_with fail
    go_ret
    exact ⟨rfl, b2⟩
end weightFixed
end Go.Proofs.YtajbfhdkghofbaaDoor
