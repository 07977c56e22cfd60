/- distance.Least. -/
import Derived.Test.YtikkmoleneioeaaDistLaw
namespace Go.Proofs.Ytikkmoleneioeaa
open Go.RowKit

set_option maxRecDepth 100000 in
set_option maxHeartbeats 4000000 in
theorem inf_any (w : World) : Calls Try.prog 59 #[.int .i64 0] w fun e w' => e = .returned (.int .i64 1000000001) ∧ w = w' := by
  go_enter Try.func59, Try.ntmps59
  go_wp2_with fail
  go_ret; exact ⟨rfl, rfl⟩

set_option maxRecDepth 100000 in
set_option maxHeartbeats 4000000 in
theorem Least_any (v : Value) (m : MachL) (w : World) (hm : MachAt w v m) (hv : Valid m) (hs : ∀ q c, Way (endsFirst m) (endsE m) q c → ∃ c', Way (endsFirst m) (endsE m) q c' ∧ c' ≤ 1000000000) (h0 : 0 ≤ m.start) :
    Calls Try.prog 38 #[v] w fun e w' => ∃ d : Int, e = .returned (.tuple #[.int .i64 d, .int .i64 0]) ∧ IsDist (endsFirst m) (endsE m) m.start.toNat d ∧ Below w.heap.size w w' := by
  have CH := Lib.hid (fun W hb => Ends_any v m W (hm.below hb) hv hs)
  obtain ⟨A, c, rfl, hS⟩ := hm
  have hs1 := hv.s1
  obtain ⟨p, hpq⟩ : ∃ p : Nat, m.start = p := ⟨m.start.toNat, by omega⟩
  have hp2 : m.start.toNat = p := by omega
  have hpn : p < m.states.length := by omega
  rw [hp2]
  have HPQ := Lib.hid hpq
  clear hS hv hs hp2 hpq
  go_enter Try.func38, Try.ntmps38
  go_wp2_with fail
  refine (CH.out _ (by repeat' (first | exact Below.refl _ _ | assumption | refine Below.drew ?_ | refine Below.alloc ?_ (by first | omega | (simp; done) | (simp; omega)) _ | refine Below.setCell ?_ (by first | omega | (simp; done) | (simp; omega)) _))).mono ?_
  rintro e w1 ⟨sv, rfl, ⟨⟨b, d, rfl, hD, -, hdl, hdd⟩⟩, bel⟩
  have M1 : Hid (Blk w1 w.heap.size #[.int .i64 m.start, .slice A m.states.length c] 28) := Lib.hid (Blk.step (Blk.new' (by simp)) bel)
  have b1 : Below w.heap.size w w1 := ((Below.refl _ _).alloc (Nat.le_refl _) _).trans (bel.mono (by simp))
  have k1 := M1.out.cell; have l1 := M1.out.lt
  rw [HPQ.out] at k1
  have kd := hD.cell p
  rw [icellsA_get _ _ (by rw [hdl]; exact hpn)] at kd
  have ld := hD.lt
  have HDD := Lib.hid (hdd p hpn)
  generalize d.getD p 0 = x at *
  have p0 : (0 : Int) ≤ ↑p := by omega
  have p1 : (↑p : Int) < ↑m.states.length := by omega
  clear bel CH hD hdl hdd
  go_wp2_with fail
  go_ret2
  exact ⟨x, rfl, HDD.out, b1⟩
end Go.Proofs.Ytikkmoleneioeaa
