/- The walk of WeightBack. -/
import Derived.Test.YtajbfhdkghofbaaDoorWeightText
namespace Go.Proofs.YtajbfhdkghofbaaDoor
open Go.RowKit
namespace weightBack
set_option maxRecDepth 100000 in
theorem walk {w : World} (ht : TabP w) (x : Int) (h1 : -9223372036854775808 ≤ x) (h2 : x ≤ 9223372036854775807) :
    Calls Tryd.prog 3 #[.int .i64 x] w fun e w' => e = .returned (.bool true) ∧ Below w.heap.size w w' := by
  have p0 := pick_lo x 1000000002 (by omega); have p1 := pick_hi x 1000000002 (by omega)
  have PK := Lib.hid (fun W => picked_any x 1000000002 W h1 h2 (by omega) (by omega))
  generalize pick x 1000000002 = n at *
  have SH := Lib.hid (fun W hb => Show_any n p0 (by omega) W (ht.below hb))
  have hsz : (⟨(showL n).toArray⟩ : ByteArray).size ≤ 9223372036854775807 := by
    rw [Lib.size_eq]
    show (showL n).length ≤ _
    unfold showL
    split
    · simp [infB]
    · have := dec_len (u := n.toNat) (k := 9) (by omega); omega
  have RD := Lib.hid (fun W => Read_any ⟨(showL n).toArray⟩ hsz W)
  have HRR : Hid (∀ v er, ReadR (showL n) v er → v = n ∧ er = 0) := Lib.hid (fun v er h => by
    by_cases he : er = 0
    · obtain ⟨h3, h4⟩ := h.good he
      exact ⟨(showL_inj p0 h3.1 h4).symm, he⟩
    · exact absurd rfl ((h.bad he).2 n p0 (by omega)))
  clear hsz ht h1 h2
  go_enter Tryd.func3, Tryd.ntmps3
  go_wp2_with fail
  refine (PK.out _).mono ?_; rintro e w1 ⟨rfl, rfl⟩
  go_wp2_with fail
  refine (SH.out _ (Below.refl _ _)).mono ?_; rintro e w2 ⟨rfl, b2⟩
  go_wp2_with fail
  refine (RD.out _).mono ?_; rintro e w3 ⟨v, er, rfl, hR, b3⟩
  obtain ⟨rfl, rfl⟩ := HRR.out v er hR
  have b4 := b2.trans (b3.mono b2.size)
  clear hR HRR RD SH PK
  go_wp2_with fail
  go_ret
  exact ⟨by simp, b4⟩
end weightBack
end Go.Proofs.YtajbfhdkghofbaaDoor
