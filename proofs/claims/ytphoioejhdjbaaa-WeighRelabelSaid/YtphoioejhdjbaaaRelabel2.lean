/- turn.Relabel, walked. -/
import Derived.Test.YtphoioejhdjbaaaRelabel
namespace Go.Proofs.Ytphoioejhdjbaaa
open Go.RowKit

set_option maxRecDepth 100000 in
set_option maxHeartbeats 4000000 in
theorem Relabel_any (v : Value) (m : MachL) (A1 A2 : Option Addr) (c1 c2 : Nat) (e1 e2 : List (Int × Int)) (w : World) (hm : MachAt w v m) (hv : Valid m)
    (h1 : Rd w A1 e1.length 2 (e1.flatMap changeCells)) (h2 : Rd w A2 e2.length 2 (e2.flatMap changeCells)) (hn1 : e1.length ≤ 50) (hn2 : e2.length ≤ 50) (hd1 : (e1.map (·.1)).Nodup) (hd2 : (e2.map (·.1)).Nodup)
    (hb1 : ∀ e ∈ e1, 1 ≤ e.1 ∧ e.1 ≤ 1000 ∧ 0 ≤ e.2 ∧ e.2 ≤ 1000) (hb2 : ∀ e ∈ e2, 1 ≤ e.1 ∧ e.1 ≤ 1000 ∧ 0 ≤ e.2 ∧ e.2 ≤ 1000) :
    Calls Try.prog 37 #[v, .slice A1 e1.length c1, .slice A2 e2.length c2] w fun e w' => ∃ mv, e = .returned (.tuple #[mv, .int .i64 0]) ∧ OwnMach w' w.heap.size mv (eachM (relabA e1 e2) m) ∧ Below w.heap.size w w' := by
  have CH := Lib.hid (fun W (hb : Below w.heap.size w W) => Check_ok v m W (hm.below hb) hv)
  have T1 := Lib.hid (fun W (hb : Below w.heap.size w W) => table_any A1 c1 e1 W (h1.below hb rfl) hn1 hd1 hb1)
  have T2 := Lib.hid (fun W (hb : Below w.heap.size w W) => table_any A2 c2 e2 W (h2.below hb rfl) hn2 hd2 hb2)
  have HM := Lib.hid hm; have HV := Lib.hid hv
  obtain ⟨A, c, rfl, hS⟩ := hm
  have HE : Hid (eachM (relabA e1 e2) m = ⟨m.start, (eachM (relabA e1 e2) m).states⟩) := Lib.hid rfl
  clear hS hv h1 h2 hn1 hn2 hd1 hd2 hb1 hb2
  go_enter Try.func37, Try.ntmps37
  go_wp2_with fail
  refine (CH.out _ (by repeat' (first | exact Below.refl _ _ | assumption | refine Below.drew ?_ | refine Below.alloc ?_ (by first | omega | (simp; done) | (simp; omega)) _ | refine Below.setCell ?_ (by first | omega | (simp; done) | (simp; omega)) _))).mono ?_; rintro e w1 ⟨rfl, r1⟩
  have b1 : Below w.heap.size w w1 := ((by repeat' (first | exact Below.refl _ _ | assumption | refine Below.drew ?_ | refine Below.alloc ?_ (by first | omega | (simp; done) | (simp; omega)) _ | refine Below.setCell ?_ (by first | omega | (simp; done) | (simp; omega)) _)) : Below w.heap.size w _).trans (r1.mono (by simp; omega))
  have X1 : Blk w1 w.heap.size #[.int .i64 m.start, .slice A m.states.length c] 27 := Blk.step ((Blk.new _ _ _).alloc _) r1
  have X2 : Blk w1 (w.heap.size + 1) #[.int .i64 0, .slice none 0 0] 27 := Blk.step (Blk.new' (by simp)) r1
  clear r1 CH
  go_wp2_with fail
  refine (T1.out _ b1).mono ?_; rintro e w2 ⟨rfl, hM1, r2⟩
  have b2 := b1.trans (r2.mono b1.size)
  have b2a := b2.alloc b2.size (.cells #[.map (some w1.heap.size)] 98)
  have bx : Below w1.heap.size w1 (w2.alloc (.cells #[.map (some w1.heap.size)] 98)) := r2.alloc r2.size _
  have Y1 := X1.step bx; have Y2 := X2.step bx
  have P1 : Blk (w2.alloc (.cells #[.map (some w1.heap.size)] 98)) w2.heap.size _ _ := Blk.new _ _ _
  have M1 := hM1.alloc (.cells #[.map (some w1.heap.size)] 98)
  have hz1 := b1.size; have hz2 := b2.size; have hx1 := X1.lt; have hx2 := X2.lt
  clear X1 X2 hM1 r2 bx T1 b1 b2
  go_upto_region 5 with fail
  generalize w2.alloc (.cells #[.map (some w1.heap.size)] 98) = w3 at *
  go_wp2_with fail
  refine (T2.out _ b2a).mono ?_; rintro e w4 ⟨rfl, hM2, r4⟩
  have b4 := b2a.trans (r4.mono b2a.size)
  have b4a := b4.alloc b4.size (.cells #[.map (some w3.heap.size)] 98)
  have bx : Below w3.heap.size w3 (w4.alloc (.cells #[.map (some w3.heap.size)] 98)) := r4.alloc r4.size _
  have Z1 := Y1.step bx; have Z2 := Y2.step bx
  have P3 := P1.step bx
  have P4 : Blk (w4.alloc (.cells #[.map (some w3.heap.size)] 98)) w4.heap.size _ _ := Blk.new _ _ _
  have M3 := M1.below bx (Nat.le_refl _)
  have M4 := hM2.alloc (.cells #[.map (some w3.heap.size)] 98)
  clear Y1 Y2 hM2 r4 bx T2 b2a b4 P1 M1
  go_upto_region 8 with fail
  generalize w4.alloc (.cells #[.map (some w3.heap.size)] 98) = w5 at *
  have q1 := Z1.cell; have l1 := Z1.lt; have l2 := Z2.lt
  have CL := Lib.hid (fun a W (hb : Below w5.heap.size w5 W) => relab_any a W w2.heap.size w4.heap.size w1.heap.size w3.heap.size e1 e2 (P3.step hb) (P4.step hb) (M3.below hb (Nat.le_refl _)) (M4.below hb (Nat.le_refl _)))
  have HZ2 := Lib.hid Z2
  clear P3 P4 M3 M4 Z1 Z2
  go_wp2_with fail
  refine (each2_any 56 (relabA e1 e2) w2.heap.size w4.heap.size (fun x W => by simp [go_sem]) _ m w5 CL.out (HM.out.below b4a) HV.out).mono ?_
  rintro e w6 ⟨mv, rfl, hO, r6⟩
  obtain ⟨sv, rfl, vs, hV⟩ := hO
  have HV6 := Lib.hid hV
  obtain ⟨A', c', rfl, -, -⟩ := hV.form
  have Z3 := HZ2.out.step r6
  have k6 := Z3.cell; have f6 := Z3.froz; have l6 := Z3.lt
  have b6 : Below w.heap.size w w6 := b4a.trans (r6.mono b4a.size)
  have hz5 := b4a.size
  clear hV
  go_wp2_with fail
  refine bodyPost_ret (v := .tuple #[.agg #[.int .i64 (eachM (relabA e1 e2) m).start, .slice A' (eachM (relabA e1 e2) m).states.length c'], .int .i64 0]) (by simp [results, Try.results37, go_sem, *]) rfl ⟨_, rfl, ?_, (b6.setCell (by simp) _).setCell (by simp) _⟩
  exact ⟨_, rfl, vs, ((HV6.out.setCell (a := ⟨w.heap.size + 1, 0, none⟩) (by simp; omega) _).setCell (a := ⟨w.heap.size + 1, 1, none⟩) (by simp; omega) _).mono hz5⟩
end Go.Proofs.Ytphoioejhdjbaaa
