/- The walk of PackedOne. -/
import Derived.Test.YtndajklppipckaaDecodeBad
import Derived.Test.YtndajklppipckaaMade
import Derived.Test.YtndajklppipckaaValid
import Derived.StillTailTactics
import Derived.Deep.QuietTactic
import Derived.BigQuiet
namespace Go.Proofs.Ytndajklppipckaa
open Go.RowKit

theorem xor8 (x z : Int) (hx0 : 0 ≤ x) (hx1 : x < 256) (hz0 : 1 ≤ z) (hz1 : z ≤ 255) : 0 ≤ bits .xor .u8 x z ∧ bits .xor .u8 x z < 256 ∧ bits .xor .u8 x z ≠ x := by
  have e : bits .xor .u8 x z = ((BitVec.ofInt 8 x ^^^ BitVec.ofInt 8 z).toNat : Int) := by
    show IntKind.u8.wrap ((BitVec.ofInt 8 x ^^^ BitVec.ofInt 8 z).toNat : Int) = _
    have := (BitVec.ofInt 8 x ^^^ BitVec.ofInt 8 z).isLt
    rw [IntKind.wrap_u8]; omega
  have hl := (BitVec.ofInt 8 x ^^^ BitVec.ofInt 8 z).isLt
  refine ⟨by omega, by omega, fun h => ?_⟩
  rw [e] at h
  have h2 : (BitVec.ofInt 8 x ^^^ BitVec.ofInt 8 z) = BitVec.ofInt 8 x := by
    apply BitVec.eq_of_toNat_eq
    rw [BitVec.toNat_ofInt]
    omega
  have h3 : BitVec.ofInt 8 z = 0#8 := by
    have h4 := congrArg (fun t => BitVec.ofInt 8 x ^^^ t) h2
    simpa [← BitVec.xor_assoc] using h4
  have h5 := congrArg BitVec.toNat h3
  rw [BitVec.toNat_ofInt] at h5
  simp at h5
  omega

namespace packedOne
set_option maxRecDepth 100000 in
set_option maxHeartbeats 8000000 in
theorem walk {w : World} (v : Value) (r : RawL) (hr : RawArg w v r) (p : Int) (hp : (Lit.int .i64 p).wf = true) (s : Int) (hs : (Lit.int .i64 s).wf = true) :
    Calls Try.prog 3 #[v, .int .i64 p, .int .i64 s] w fun e w' => e = .returned (.bool true) ∧ Below w.heap.size w w' := by
  obtain ⟨p1, p2⟩ := wf_i64 hp
  obtain ⟨s1, s2⟩ := wf_i64 hs
  have hm : Valid (mkMach r 8 false) := valid_made r 8 false (by omega) (by omega)
  have HMD := Lib.hid (fun W hb => made_any v r 8 false W (hr.below hb) (by omega) (by omega))
  obtain ⟨hst, hlen, A, c, rfl, hN⟩ := hr
  generalize mkMach r 8 false = m at *
  have HV := Lib.hid hm
  clear hN hst hlen hm hp hs
  go_enter Try.func3, Try.ntmps3
  go_wp2_with fail
  refine (HMD.out _ (by repeat' (first | exact Below.refl _ _ | assumption | refine Below.drew ?_ | refine Below.alloc ?_ (by first | omega | (simp; done) | (simp; omega)) _ | refine Below.setCell ?_ (by first | omega | (simp; done) | (simp; omega)) _))).mono ?_; rintro e w1 ⟨mv, rfl, o1, r1⟩
  have b1 : Below w.heap.size w w1 := ((by repeat' (first | exact Below.refl _ _ | assumption | refine Below.drew ?_ | refine Below.alloc ?_ (by first | omega | (simp; done) | (simp; omega)) _ | refine Below.setCell ?_ (by first | omega | (simp; done) | (simp; omega)) _)) : Below w.heap.size w _).trans (r1.mono (by simp))
  have hma := Lib.hid o1.at_
  clear o1 r1 HMD
  go_wp2_with fail
  refine (Encode_any mv m w1 hma.out HV.out).mono ?_; rintro e w2 ⟨bv, rfl, ⟨body, hi, lo, hB, hbo, h1, h2, h3, h4, h5, h6, hcrc⟩, r2⟩
  have b2 : Below w.heap.size w w2 := b1.trans (r2.mono b1.size)
  have hll : (body ++ [hi, lo]).length = body.length + 2 := by simp
  obtain ⟨g, cap, rfl, hg1, hcap⟩ : ∃ g cap, bv = .slice (some ⟨g, 0, none⟩) (body.length + 2) cap ∧ w1.heap.size ≤ g ∧ body.length + 2 ≤ cap := by
    rcases hB.2 with ⟨_, e⟩ | ⟨g, cap, cur, e, hb, _, hc, _⟩
    · rw [hll] at e; omega
    · rw [hll] at e hc; exact ⟨g, cap, e, hb, hc⟩
  have hz1 := b1.size
  have HB := Lib.hid hB; have HBO := Lib.hid hbo; have HCR := Lib.hid hcrc
  obtain ⟨i, hpi⟩ : ∃ i : Nat, pick p (body.length + 2) = i := ⟨(pick p (body.length + 2)).toNat, by have := pick_lo p (body.length + 2) (by omega); omega⟩
  have hpi2 := pick_hi p (body.length + 2) (by omega)
  rw [hpi] at hpi2
  have hil : i < (body ++ [hi, lo]).length := by omega
  have hbo2 : ∀ c ∈ body ++ [hi, lo], 0 ≤ c ∧ c < 256 := fun c hc => by
    rcases List.mem_append.1 hc with hc | hc
    · exact hbo c hc
    · simp at hc; omega
  have hx := hbo2 _ (List.getElem_mem hil)
  have hBn : w2.ownsRow w1.heap.size 5 1 (.slice (some ⟨g, 0, none⟩) (body.length + 2) cap) (body.length + 2) (ucells (body ++ [hi, lo])) := by have h9 := hB; unfold Bytes at h9; rw [hll] at h9; exact h9
  have k0 := (Rd.of_own hBn).at' (ucells_get _ i hil)
  simp only [blk_some, ofs_some, Nat.zero_add] at k0
  have HTOLD := Lib.hid (fun y (hy0 : 0 ≤ y) (hy1 : y < 256) (hne : y ≠ (body ++ [hi, lo])[i]) => crc_told 0xffff#16 body hi lo hbo hcrc i (by omega) y hy0 hy1 hne)
  have HPI := Lib.hid hpi
  have fz : w2.frozen? ⟨g, i, none⟩ = false := by
    rcases hB.2 with ⟨e, _⟩ | ⟨g', cap', cur', e, _, hg, _⟩
    · simp at e
    · simp at e
      obtain ⟨rfl, -⟩ := e
      simp [World.frozen?, hg]
  generalize hxx : (body ++ [hi, lo])[i] = x at *
  obtain ⟨hx0, hx1⟩ := hx
  have hsp0 := pick_lo s 255 (by omega)
  have hsp1 := pick_hi s 255 (by omega)
  have hx8 := xor8 x (1 + pick s 255) hx0 hx1 (by omega) (by omega)
  have hpk := fun W => picked_any p (body.length + 2) W (by omega) (by omega) (by omega) (by omega)
  have hpk2 := fun W => picked_any s 255 W (by omega) (by omega) (by omega) (by omega)
  rw [hpi] at hpk
  have HPK := Lib.hid hpk; have HPK2 := Lib.hid hpk2; have HBN := Lib.hid hBn; have HX8 := Lib.hid hx8
  have HXX := Lib.hid hxx
  have lg := World.block_lt_of_cell? _ _ k0
  generalize hzz : pick s 255 = z at *
  generalize hk : body.length = k at *
  have hwz : IntKind.i64.wrap (1 + z) = 1 + z := IntWalk.i64_in _ (by omega)
  have hwz2 : IntKind.u8.wrap (1 + z) = 1 + z := IntWalk.u8_in _ (by omega)
  have i0 : (0 : Int) ≤ ↑i := by omega
  have i1 : (↑i : Int) < ↑k + 2 := by omega
  clear hpk hpk2 hBn hB hbo hcrc hbo2 hxx hpi hx8 hzz r2
  go_upto_region 4 with fail
  refine wp_region_still_tail 12 (by kernel_rfl) (by kernel_rfl) ?_
  simp only [List.take_succ_cons, List.take_zero, List.drop_succ_cons, List.drop_zero]
  still_step
  still_step
  still_step
  still_step
  still_call ((HPK.out _).mono fun _ _ h => ⟨h.1, h.2.symm⟩)
  still_step
  still_step
  still_step
  still_call ((HPK2.out _).mono fun _ _ h => ⟨h.1, h.2.symm⟩)
  still_step
  still_step
  still_step
  refine wpStill_nil ?_
  change wpList _ _ _ _ _ w2.drew
  have HRW : Hid (∀ y, (w2.drew.setCell ⟨g, i, none⟩ (.int .u8 y)).ownsRow w1.heap.size 5 1 (.slice (some ⟨g, 0, none⟩) (k + 2) cap) (k + 2) (ucells ((body ++ [hi, lo]).set i y))) := Lib.hid (fun y => by
    have h := (World.ownsRow.stored (World.ownsRow.drew HBN.out) i (.int .u8 y)).1
    have e : (ucells (body ++ [hi, lo])).set i (.int .u8 y) = ucells ((body ++ [hi, lo]).set i y) := by simp [ucells, List.map_set]
    rw [e] at h
    exact h)
  have k0d : w2.drew.cell? ⟨g, i, none⟩ = some (.int .u8 x) := k0
  have fzd : w2.drew.frozen? ⟨g, i, none⟩ = false := fz
  have lgd : g < w2.drew.heap.size := lg
  have b2d : Below w.heap.size w w2.drew := b2.drew
  obtain ⟨y0, y1, y2⟩ := HX8.out
  generalize bits .xor .u8 x (1 + z) = y at *
  have HT := Lib.hid (HTOLD.out y y0 y1 y2)
  clear k0 fz lg b2 HBN HPK HPK2 HX8 HTOLD HB
  generalize w2.drew = wd at *
  go_wp2_with fail
  have hbk : BOk ((body ++ [hi, lo]).set i y) := fun c hc => by
    rcases List.mem_or_eq_of_mem_set hc with hc | hc
    · rcases List.mem_append.1 hc with hc | hc
      · exact HBO.out c hc
      · simp at hc; omega
    · subst hc; exact ⟨y0, y1⟩
  have b5 : Below w.heap.size w (wd.setCell ⟨g, i, none⟩ (.int .u8 y)) := b2d.setCell (by simp; omega) _
  refine (Decode_bad g cap k ((body ++ [hi, lo]).set i y) _ (by rw [List.length_set]; exact hll) (Rd.of_own (HRW.out y)) h5 (by omega) hcap hbk HT.out).mono ?_; rintro e w6 ⟨rfl, r6⟩
  have b6 := b5.trans (r6.mono b5.size)
  clear HRW HT hbk r6 b5
  go_wp2_with fail
  go_ret
  exact ⟨rfl, b6.alloc b6.size _⟩
end packedOne
end Go.Proofs.Ytndajklppipckaa
