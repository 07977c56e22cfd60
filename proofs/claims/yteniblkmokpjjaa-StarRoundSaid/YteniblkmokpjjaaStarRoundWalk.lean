/- The walk of StarRound. -/
import Derived.Test.YteniblkmokpjjaaForward
import Derived.Test.YteniblkmokpjjaaPaths
import Derived.Test.YteniblkmokpjjaaTrim
import Derived.Test.YteniblkmokpjjaaRoundPlain
import Derived.Test.YteniblkmokpjjaaMBox
import Derived.IntWalk
namespace Go.Proofs.Yteniblkmokpjjaa
open Go.RowKit

theorem fwd6 (r : RawL) : FwdSmall (fwdM (mkMach r 6 false)) ∧ (fwdM (mkMach r 6 false)).states.length ≤ 6 := by
  refine ⟨fwdSmall_madeK r 6 (by omega) (by omega), ?_⟩
  have h1 := mkMach_len r 6 false (by omega)
  have h2 : mkN r 6 ≤ 6 ∧ 1 ≤ mkN r 6 := by unfold mkN; omega
  rw [fwdM_len]; omega
namespace starRound
set_option maxRecDepth 100000 in
set_option maxHeartbeats 8000000 in
theorem walk {w : World} (v : Value) (r : RawL) (hr : RawArg w v r) :
    Calls Try.prog 7 #[v] w fun e w' => e = .returned (.bool true) ∧ Below w.heap.size w w' := by
  have HMA := Lib.hid (fun W (hb : Below w.heap.size w W) => forward_any v r 6 W (hr.below hb) (by omega) (by omega))
  obtain ⟨ha, ha6⟩ := fwd6 r
  obtain ⟨-, -, A, c, rfl, -⟩ := hr
  generalize fwdM (mkMach r 6 false) = a at *
  have hna := ha.n1
  have hca := ha.arcs
  have hsv := star_valid ha.v (by omega) (by omega)
  have htv := trim_valid hsv
  have HVA := Lib.hid ha.v; have HVS := Lib.hid hsv; have HVT := Lib.hid htv
  obtain ⟨CA, hCA, hCA1, hCA2⟩ := counts6 ha ha6
  have PA := Lib.hid (fun W u (h : MachAt W u a) => Paths_any u a W h ha.v 0 ha.s0 CA hCA (fun q hq => by have := hCA1 q hq; omega) (by omega) (fun S hS => fwd_not_stuck ha.f hS))
  have HR1 : Hid (tot a CA ≠ 0 → ∃ S, Stuck (trimM (starM a)) S) := Lib.hid (fun h => by
    apply Classical.byContradiction
    intro hn
    refine h (fwd_none ha hCA (fun q k hf hw => hn (round_some ha hsv hf hw)))) 
  have HR2 : Hid (tot a CA = 0 → ∀ S, ¬ Stuck (trimM (starM a)) S) := Lib.hid (fun h => round_none ha hsv (fun q k hf hw => fwd_some ha hCA hf hw h))
  have hsl : ((starM a).states.length : Int) = a.states.length + 1 := by rw [star_len]; simp; omega
  have HS0 : Hid ((starM a).start = 0) := Lib.hid rfl
  have hsf : ∃ (h : 0 < (starM a).states.length), (starM a).states[0].final = 0 := by
    obtain ⟨h, e⟩ := List.getElem?_eq_some_iff.1 (star_get0 a)
    exact ⟨h, by rw [e]⟩
  generalize tot a CA = T at *
  clear ha hsv htv hca hCA hCA1
  generalize hsm : starM a = s at *
  have HSM := Lib.hid hsm; clear hsm
  generalize htm : trimM s = t at *
  have HTM := Lib.hid htm; clear htm
  obtain ⟨hsl0, hsf⟩ := hsf
  go_enter Try.func7, Try.ntmps7
  go_wp2_with fail
  refine (HMA.out _ (by repeat' (first | exact Below.refl _ _ | assumption | refine Below.drew ?_ | refine Below.alloc ?_ (by first | omega | (simp; done) | (simp; omega)) _ | refine Below.setCell ?_ (by first | omega | (simp; done) | (simp; omega)) _))).mono ?_; rintro e w1 ⟨mv, rfl, o1, q1⟩
  obtain ⟨A3, c3, rfl, s1⟩ := own_open o1
  have b1 : Below w.heap.size w w1 := ((by repeat' (first | exact Below.refl _ _ | assumption | refine Below.drew ?_ | refine Below.alloc ?_ (by first | omega | (simp; done) | (simp; omega)) _ | refine Below.setCell ?_ (by first | omega | (simp; done) | (simp; omega)) _)) : Below w.heap.size w _).trans (q1.mono (by simp))
  have X1 := Lib.hid (MBox.new (c := c3) s1)
  have b1a := b1.alloc b1.size (.cells #[.int .i64 a.start, .slice A3 a.states.length c3] 27)
  clear o1 q1 HMA s1
  go_wp2_with fail
  refine (Star_any _ a _ X1.out.mach HVA.out (by rw [HSM.out]; exact HVS.out)).mono ?_; rintro e w2 ⟨mv2, rfl, o2, q2⟩
  rw [HSM.out] at o2
  obtain ⟨A4, c4, rfl, s2⟩ := own_open o2
  have b2 : Below w.heap.size w w2 := b1a.trans (q2.mono b1a.size)
  have Y2 := Lib.hid (MBox.new (c := c4) s2)
  have X2 := Lib.hid ((X1.out.step q2).alloc (.cells #[.int .i64 s.start, .slice A4 s.states.length c4] 27))
  have b2a := b2.alloc b2.size (.cells #[.int .i64 s.start, .slice A4 s.states.length c4] 27)
  clear o2 q2 s2 X1 b1a b1
  go_wp2_with fail
  refine (Trim_any _ s _ Y2.out.mach HVS.out).mono ?_; rintro e w3 ⟨mv3, rfl, o3, q3⟩
  rw [HTM.out] at o3
  obtain ⟨A5, c5, rfl, s3⟩ := own_open o3
  have b3 : Below w.heap.size w w3 := b2a.trans (q3.mono b2a.size)
  have Z3 := Lib.hid (MBox.new (c := c5) s3)
  have X3 := Lib.hid ((X2.out.step q3).alloc (.cells #[.int .i64 t.start, .slice A5 t.states.length c5] 27))
  have Y3 := Lib.hid ((Y2.out.step q3).alloc (.cells #[.int .i64 t.start, .slice A5 t.states.length c5] 27))
  have b3a := b3.alloc b3.size (.cells #[.int .i64 t.start, .slice A5 t.states.length c5] 27)
  have k3 := (X2.out.step q3).blk.cell; have l3 := (X2.out.step q3).blk.lt
  clear o3 q3 s3 X2 Y2 b2 b2a
  go_wp2_with fail
  clear k3 l3
  generalize w3.alloc (.cells #[.int .i64 t.start, .slice A5 t.states.length c5] 27) = w4 at *
  refine (PA.out _ _ X3.out.mach).mono ?_; rintro e w5 ⟨rfl, q5⟩
  have b5 : Below w.heap.size w w5 := b3a.trans (q5.mono b3a.size)
  have X5 := Lib.hid (X3.out.step q5); have Y5 := Lib.hid (Y3.out.step q5); have Z5 := Lib.hid (Z3.out.step q5)
  have k5 := Z5.out.blk.cell; have l5 := Z5.out.blk.lt
  clear q5 X3 Y3 Z3 b3a b3
  go_wp2_with fail
  clear k5 l5
  refine (Order_any _ t _ Z5.out.mach HVT.out).mono ?_; rintro e w6 ⟨hcase, q6⟩
  have b6 : Below w.heap.size w w6 := b5.trans (q6.mono b5.size)
  have X6 := X5.out.step q6; have Y6 := Y5.out.step q6
  have k6 := X6.blk.cell; have l6 := X6.blk.lt; have k7 := Y6.blk.cell; have l7 := Y6.blk.lt
  have rdS := Y6.at_.rdy
  have d0 := Y6.at_.c0 0 hsl0
  rw [hsf] at d0
  rw [HS0.out] at k7
  have lA4 := World.block_lt_of_cell? _ _ d0
  simp only [Nat.zero_mul, Nat.add_zero] at d0
  have hsp : (0 : Int) < (s.states.length : Int) := by omega
  obtain ⟨sv, f, rfl, hf⟩ : ∃ (sv : Value) (f : Int), e = .returned (.tuple #[sv, .int .i64 f]) ∧ ((T = 0 ∧ f = 0) ∨ (T ≠ 0 ∧ f = 6)) := by
    rcases hcase with ⟨sv, out, rfl, ht, -⟩ | ⟨rfl, S, hS⟩
    · refine ⟨sv, 0, rfl, .inl ⟨?_, rfl⟩⟩
      apply Classical.byContradiction
      intro h
      obtain ⟨S, hS⟩ := HR1.out h
      exact ht.not_stuck S hS
    · refine ⟨_, 6, rfl, .inr ⟨fun h => HR2.out h S hS, rfl⟩⟩
  clear hcase q6 X5 Y5 Z5 b5 X6 Y6 HR1 HR2
  rcases hf with ⟨rfl, rfl⟩ | ⟨hT, rfl⟩
  · go_wp2_with fail
    go_ret
    exact ⟨rfl, b6⟩
  · have hT1 : 0 < T := by omega
    go_wp2_with fail
    go_ret
    exact ⟨rfl, b6⟩
end starRound
end Go.Proofs.Yteniblkmokpjjaa
