/- core.Count. -/
import Derived.Test.YtkfhefefhnmljaaCheck
import Derived.Test.YtkfhefefhnmljaaBlk
import Derived.BigGuardPart
namespace Go.Proofs.Ytkfhefefhnmljaa
open Go.RowKit

def finals (ss : List StateL) : Nat := (ss.filter fun s => s.final != 1000000001).length
theorem finals_snoc (ss : List StateL) (k : Nat) (h : k < ss.length) : finals (ss.take (k + 1)) = finals (ss.take k) + if ss[k].final = 1000000001 then 0 else 1 := by
  unfold finals; rw [List.take_succ_eq_append_getElem h, List.filter_append, List.length_append]
  by_cases e : ss[k].final = 1000000001 <;> simp [e]
theorem finals_le (ss : List StateL) : finals ss ≤ ss.length := List.length_filter_le _ _

set_option maxRecDepth 100000 in
set_option maxHeartbeats 4000000 in
theorem Count_any (v : Value) (m : MachL) (w : World) (hm : MachAt w v m) (hv : Valid m) :
    Calls Try.prog 25 #[v] w fun e w' => e = .returned (.tuple #[.agg #[.int .i64 m.states.length, .int .i64 (arcsOf m.states), .int .i64 (finals m.states)], .int .i64 0]) ∧ Below w.heap.size w w' := by
  have CH := Lib.hid (fun W hb => Check_ok v m W (hm.below hb) hv)
  obtain ⟨A, c, rfl, hS⟩ := hm
  have hsz := hv.size
  have har := hv.arcs
  have HS := Lib.hid hS
  have HT := Lib.hid (arcsOf_take m.states)
  have HL := Lib.hid (arcsOf_le m.states)
  have HF := Lib.hid (finals_snoc m.states)
  have rd := hS.rdy
  clear hS hv
  generalize m.states = ss at *
  generalize m.start = st at *
  go_enter Try.func25, Try.ntmps25
  go_wp2_with fail
  refine (CH.out _ (by repeat' (first | exact Below.refl _ _ | assumption | refine Below.drew ?_ | refine Below.alloc ?_ (by first | omega | (simp; done) | (simp; omega)) _ | refine Below.setCell ?_ (by first | omega | (simp; done) | (simp; omega)) _))).mono ?_; rintro e w1 ⟨rfl, bel⟩; obtain ⟨c1, f1⟩ := bcell bel; have z1 := bel.size; simp at z1; (try have y0 : w.heap.size < w1.heap.size := by omega); (try have y1 : w.heap.size + 1 < w1.heap.size := by omega); (try have y2 : w.heap.size + 1 + 1 < w1.heap.size := by omega); (try have y3 : w.heap.size + 1 + 1 + 1 < w1.heap.size := by omega); (try have y4 : w.heap.size + 1 + 1 + 1 + 1 < w1.heap.size := by omega); (try have y5 : w.heap.size + 1 + 1 + 1 + 1 + 1 < w1.heap.size := by omega); (try have y6 : w.heap.size + 1 + 1 + 1 + 1 + 1 + 1 < w1.heap.size := by omega)
  go_wp2_with fail
  have bl : Below w.heap.size w w1 := (by repeat' (first | exact Below.refl _ _ | assumption | refine Below.step ?_ bel | refine Below.drew ?_ | refine Below.alloc ?_ (by first | omega | (simp; done) | (simp; omega)) _ | refine Below.setCell ?_ (by first | omega | (simp; done) | (simp; omega)) _))
  have R0 : Blk w1 (w.heap.size + 1) #[.int .i64 0, .int .i64 0, .int .i64 0] 51 := by
    refine Blk.step ?_ bel; exact Blk.new' (by simp)
  have P0 : Blk (w1.alloc (.cells #[.int .i64 ss.length, .int .i64 0, .int .i64 0] 51)) w1.heap.size #[.int .i64 ss.length, .int .i64 0, .int .i64 0] 51 := Blk.new _ _ _
  have B0 : Below w1.heap.size w1 (w1.alloc (.cells #[.int .i64 ss.length, .int .i64 0, .int .i64 0] 51)) := (Below.refl _ _).alloc (Nat.le_refl _) _
  clear c1 f1 y0 z1 bel CH
  generalize w1.alloc (.cells #[.int .i64 ss.length, .int .i64 0, .int .i64 0] 51) = wl at *
  go_loopw [21] (fun i wr => ∃ k : Nat, k ≤ ss.length ∧ i = .int .i64 k ∧ Blk wr w1.heap.size #[.int .i64 ss.length, .int .i64 (arcsOf (ss.take k)), .int .i64 (finals (ss.take k))] 51 ∧ Below w1.heap.size w1 wr) (fun i _ => ss.length - (intOf i).toNat)
  case atStart => exact ⟨0, by omega, rfl, P0, B0⟩
  case round =>
    obtain ⟨k, hk, rfl, hP, bel⟩ := hrel
    have bw : Below w.heap.size w wr := bl.trans (bel.mono bl.size)
    have lg := hP.lt
    by_cases hlt : k < ss.length
    · have hSr := HS.out.below bw (Nat.le_refl _)
      have d0 := hSr.c0 k hlt
      obtain ⟨A', c', d1, hA'⟩ := hSr.c1 k hlt
      have ht := HT.out k hlt
      have hf := HF.out k hlt
      have hle := HL.out (k + 1)
      have hle2 := HL.out k
      have hfl : finals (ss.take k) ≤ 60 := Nat.le_trans (finals_le _) (by simp; omega)
      have e1 : ((arcsOf (ss.take k) : Int)) + (ss[k].arcs.length : Int) = (arcsOf (ss.take (k + 1)) : Int) := by rw [ht]; simp
      generalize ss[k] = s at *
      generalize arcsOf (ss.take k) = n1 at *
      generalize finals (ss.take k) = n2 at *
      have q1 : n1 + s.arcs.length ≤ 400 := by omega
      have q2 : s.arcs.length ≤ 400 := by omega
      have lA : blk A < wr.heap.size := World.block_lt_of_cell? _ _ d0
      have HE1 := Lib.hid e1; have HFK := Lib.hid hf
      have HP := Lib.hid hP
      have k1 := hP.cell; have k2 := hP.froz
      clear hSr hA' ht hle hle2 e1 hf hP
      by_cases hinf : s.final = 1000000001
      · have HI := Lib.hid hinf
        rw [hinf] at d0
        have EF : Hid ((finals (ss.take (k + 1)) : Int) = n2) := Lib.hid (by rw [HFK.out, if_pos hinf]; simp)
        clear hinf
        go_wp2_with fail
        go_roundw
        case rel => exact ⟨k + 1, by omega, by go_num, by rw [← HE1.out, EF.out]; exact ((HP.out.put 1 _).alloc _).eq (by simp), (bel.setCell (by simp) _).alloc (by simp; exact bel.size) _⟩
        case measure => simp [intOf]; omega
      · have EF : Hid ((finals (ss.take (k + 1)) : Int) = n2 + 1) := Lib.hid (by rw [HFK.out, if_neg hinf]; simp)
        have hinf2 : (s.final != 1000000001) = true := by simpa using hinf
        clear hinf
        go_wp2_with fail
        go_roundw
        case rel => exact ⟨k + 1, by omega, by go_num, by rw [← HE1.out, EF.out]; exact (((HP.out.put 1 _).put 2 _).alloc _).eq (by simp), ((bel.setCell (by simp) _).setCell (by simp) _).alloc (by simp; exact bel.size) _⟩
        case measure => simp [intOf]; omega
    · have hke : ss.take k = ss := List.take_of_length_le (by omega)
      rw [hke] at hP
      have hR := R0.below bel y1
      have k1 := hP.cell; have k2 := hP.froz; have k3 := hR.cell; have k4 := hR.froz
      have sz := bl.size
      clear hP hke bel hR
      go_wp2_with fail
      refine bodyPost_ret (v := .tuple #[.agg #[.int .i64 ss.length, .int .i64 (arcsOf ss), .int .i64 (finals ss)], .int .i64 0]) (by simp [results, Try.results25, go_sem, *]) rfl ⟨rfl, ?_⟩
      iterate 3 (refine Below.setCell ?_ (by first | (simp; done) | (simp; omega)) _)
      exact bw
end Go.Proofs.Ytkfhefefhnmljaa
