/- paper.Read: what it takes, and what not; paper.Show of a machine that is none. -/
import Derived.Test.YtajbfhdkghofbaaGreatDoorPaperReadWalk
import Derived.Test.YtajbfhdkghofbaaGreatDoorShowMach
import Derived.Test.YtajbfhdkghofbaaGreatDoorCheckAny
namespace Go.Proofs.YtajbfhdkghofbaaGreatDoor
open Go.RowKit

set_option maxRecDepth 100000 in
set_option maxHeartbeats 4000000 in
theorem Show_no (v : Value) (m : MachL) (w : World) (hm : MachAt w v m) (ha : ∀ s ∈ m.states, s.arcs.length ≤ 4398046511104) (hv : ¬ Valid m) :
    Calls Tryz.prog 5 #[v] w fun e w' => (∃ er, er ≠ 0 ∧ e = .returned (.tuple #[.string ⟨#[]⟩, .int .i64 er])) ∧ Below w.heap.size w w' := by
  have CH := Lib.hid (fun W (hb : Below w.heap.size w W) => Check_no v m W (hm.below hb) (fun s hs => by have := ha s hs; omega) hv)
  obtain ⟨A, c, rfl, hS⟩ := hm
  clear hS ha hv
  go_enter Tryz.func5, Tryz.ntmps5
  go_wp2_with fail
  refine (CH.out _ (by repeat' (first | exact Below.refl _ _ | assumption | refine Below.drew ?_ | refine Below.alloc ?_ (by first | omega | (simp; done) | (simp; omega)) _ | refine Below.setCell ?_ (by first | omega | (simp; done) | (simp; omega)) _))).mono ?_; rintro e w1 ⟨hno, b1⟩
  have bl : Below w.heap.size w w1 := ((by repeat' (first | exact Below.refl _ _ | assumption | refine Below.drew ?_ | refine Below.alloc ?_ (by first | omega | (simp; done) | (simp; omega)) _ | refine Below.setCell ?_ (by first | omega | (simp; done) | (simp; omega)) _)) : Below w.heap.size w (w.alloc (.cells #[.int .i64 m.start, .slice A m.states.length c] 27))).trans (b1.mono (by simp))
  rcases hno with rfl | rfl
  · go_wp2_with fail
    go_ret2
    exact ⟨⟨1, by omega, rfl⟩, bl⟩
  · go_wp2_with fail
    go_ret2
    exact ⟨⟨2, by omega, rfl⟩, bl⟩
def ShowP (m : MachL) (e : Ending) : Prop := (Valid m ∧ e = .returned (.tuple #[.string ⟨(machT m).toArray⟩, .int .i64 0])) ∨ (¬ Valid m ∧ ∃ er, er ≠ 0 ∧ e = .returned (.tuple #[.string ⟨#[]⟩, .int .i64 er]))
theorem show_any (v : Value) (m : MachL) (w : World) (hm : MachAt w v m) (ha : ∀ s ∈ m.states, s.arcs.length ≤ 4398046511104) (ht : TabP w) : Calls Tryz.prog 5 #[v] w fun e w' => ShowP m e ∧ Below w.heap.size w w' := by
  by_cases hv : Valid m
  · exact (Show_mach v m w hm hv ht).mono fun _ _ h => ⟨.inl ⟨hv, h.1⟩, h.2⟩
  · exact (Show_no v m w hm ha hv).mono fun _ _ h => ⟨.inr ⟨hv, h.1⟩, h.2⟩

/-- what Read answers -/
def TakeP (w : World) (s : List UInt8) (e : Ending) (w' : World) : Prop :=
  (∃ st A n c m, ReadsTo ⟨-1, []⟩ (linesL s) m ∧ Valid m ∧ machT m = s ∧ e = .returned (.tuple #[.agg #[.int .i64 st, .slice A n c], .int .i64 0]) ∧ OwnMach w' w.heap.size (.agg #[.int .i64 st, .slice A n c]) m) ∨
  ((20000 < s.length ∨ ∃ m, ReadsTo ⟨-1, []⟩ (linesL s) m ∧ ¬ (Valid m ∧ machT m = s)) ∧ ∃ er, er ≠ 0 ∧ e = .returned (.tuple #[.agg #[.int .i64 0, .slice none 0 0], .int .i64 er]))

set_option maxRecDepth 100000 in
set_option maxHeartbeats 4000000 in
theorem take_any (sb : ByteArray) (w : World) (ht : TextW w) : Calls Tryz.prog 6 #[.string sb] w fun e w' => TakeP w sb.data.toList e w' ∧ Below w.heap.size w w' := by
  have hsz : sb.size = sb.data.toList.length := Lib.size_eq sb
  by_cases h20 : 20000 < sb.size
  · have i0 : (20000 : Int) < (sb.size : Int) := by omega
    have HR : Hid (20000 < sb.data.toList.length) := Lib.hid (by omega)
    clear hsz ht h20
    go_enter Tryz.func6, Tryz.ntmps6
    go_wp2_with fail
    refine bodyPost_ret (v := .tuple #[.agg #[.int .i64 0, .slice none 0 0], .int .i64 1]) (by simp [results, Tryz.results6, go_sem, *]) rfl ⟨.inr ⟨.inl HR.out, 1, by omega, rfl⟩, (by repeat' (first | exact Below.refl _ _ | assumption | refine Below.drew ?_ | refine Below.alloc ?_ (by first | omega | (simp; done) | (simp; omega)) _ | refine Below.setCell ?_ (by first | omega | (simp; done) | (simp; omega)) _))⟩
  · have i0 : ¬ (20000 : Int) < (sb.size : Int) := by omega
    have RD := Lib.hid (fun W hb => read_any sb (by omega) W (ht.below hb))
    have HTW := Lib.hid ht
    have hbeq : Hid (∀ t : List UInt8, (t == sb.toList) = decide (t = sb.data.toList)) := Lib.hid fun t => by rw [Lib.toList_data]; exact beq_dec _ _
    clear hsz ht h20
    go_enter Tryz.func6, Tryz.ntmps6
    go_wp2_with fail
    refine (RD.out _ (by repeat' (first | exact Below.refl _ _ | assumption | refine Below.drew ?_ | refine Below.alloc ?_ (by first | omega | (simp; done) | (simp; omega)) _ | refine Below.setCell ?_ (by first | omega | (simp; done) | (simp; omega)) _))).mono ?_; rintro e w1 ⟨v, m, rfl, hr, ho, hal, b1⟩
    have M1 : Blk w1 w.heap.size #[.int .i64 0, .slice none 0 0] 27 := Blk.step (Blk.new' rfl) b1
    have c1 : Below w.heap.size w w1 := ((by repeat' (first | exact Below.refl _ _ | assumption | refine Below.drew ?_ | refine Below.alloc ?_ (by first | omega | (simp; done) | (simp; omega)) _ | refine Below.setCell ?_ (by first | omega | (simp; done) | (simp; omega)) _)) : Below w.heap.size w _).trans (b1.mono (by simp))
    have ho1 : OwnMach w1 (w.heap.size + 1) v m := by simpa using ho
    obtain ⟨sv, rfl, hos⟩ := ho1
    obtain ⟨A, c, rfl, -, -⟩ := hos.form
    have HO := Lib.hid (show OwnMach w1 (w.heap.size + 1) (.agg #[.int .i64 m.start, .slice A m.states.length c]) m from ⟨_, rfl, hos⟩)
    have HRD := Lib.hid hr; have HAL := Lib.hid hal
    clear hr ho hal hos b1 RD
    go_upto_region 4 with fail
    have M4 := M1.alloc (.cells #[.int .i64 m.start, .slice A m.states.length c] 27)
    have X4 := Blk.new w1 #[.int .i64 m.start, .slice A m.states.length c] 27
    have b4 : Below w1.heap.size w1 (w1.alloc (.cells #[.int .i64 m.start, .slice A m.states.length c] 27)) := (Below.refl _ _).alloc (Nat.le_refl _) _
    have c4 := c1.trans (b4.mono c1.size)
    have HO4 := Lib.hid (HO.out.below b4 (Nat.le_refl _))
    have lt1 := M1.lt
    generalize w1.alloc (.cells #[.int .i64 m.start, .slice A m.states.length c] 27) = w4 at *
    generalize w1.heap.size = g at *
    have k0 := M4.cell 0; have k1 := M4.cell 1; have kf0 := M4.froz 0; have kf1 := M4.froz 1; have lm := M4.lt
    have x0 := X4.cell 0; have x1 := X4.cell 1; have lx := X4.lt
    have HM4 := Lib.hid M4; have HX4 := Lib.hid X4
    have SH := Lib.hid (show_any _ m w4 HO4.out.at_ (fun s hs => by have := HAL.out s hs; omega) (HTW.out.below c4).tab)
    clear M1 HO M4 X4 b4
    go_wp2_with fail
    refine SH.out.mono ?_; rintro e w5 ⟨hs, b5⟩
    have c5 := c4.trans (b5.mono c4.size)
    have M5 := HM4.out.step b5; have X5 := HX4.out.step b5
    have k0 := M5.cell 0; have k1 := M5.cell 1; have kf0 := M5.froz 0; have kf1 := M5.froz 1; have lm := M5.lt
    have x0 := X5.cell 0; have x1 := X5.cell 1; have lx := X5.lt
    have HO5 := Lib.hid (HO4.out.below b5 (Nat.le_refl _))
    have HM5 := Lib.hid M5
    clear M5 X5 HM4 HX4 HO4 b5 SH
    rcases hs with ⟨hv, rfl⟩ | ⟨hno, er, he0, rfl⟩
    · by_cases hts : machT m = sb.data.toList
      · have e8 : (machT m == sb.toList) = true := by rw [hbeq.out]; simpa using hts
        have HTS := Lib.hid hts; have HV := Lib.hid hv
        clear hts hv
        have HOX : Hid (∀ W, W = (w5.setCell ⟨w.heap.size, 0, none⟩ (.int .i64 m.start)).setCell ⟨w.heap.size, 1, none⟩ (.slice A m.states.length c) → OwnMach W w.heap.size (.agg #[.int .i64 m.start, .slice A m.states.length c]) m) := Lib.hid (by
          rintro W rfl
          obtain ⟨sv2, hsv2, vs2, ho2⟩ := HO5.out
          obtain rfl : sv2 = .slice A m.states.length c := by simpa using hsv2.symm
          exact (show OwnMach _ (w.heap.size + 1) _ m from ⟨_, rfl, vs2, (ho2.setCell (a := ⟨w.heap.size, 0, none⟩) (by show w.heap.size < _; omega) _).setCell (a := ⟨w.heap.size, 1, none⟩) (by show w.heap.size < _; omega) _⟩).mono (by omega))
        go_wp2_with fail
        refine bodyPost_ret (v := .tuple #[.agg #[.int .i64 m.start, .slice A m.states.length c], .int .i64 0]) (by simp [results, Tryz.results6, go_sem, *]) rfl ⟨.inl ⟨m.start, A, m.states.length, c, m, HRD.out, HV.out, HTS.out, rfl, HOX.out _ rfl⟩, (by repeat' (first | exact Below.refl _ _ | assumption | refine Below.drew ?_ | refine Below.alloc ?_ (by first | omega | (simp; done) | (simp; omega)) _ | refine Below.setCell ?_ (by first | omega | (simp; done) | (simp; omega)) _))⟩
      · have e8 : (machT m == sb.toList) = false := by rw [hbeq.out]; simpa using hts
        have HTS := Lib.hid hts
        clear hts hv
        go_wp2_with fail
        refine bodyPost_ret (v := .tuple #[.agg #[.int .i64 0, .slice none 0 0], .int .i64 3]) (by simp [results, Tryz.results6, go_sem, *]) rfl ⟨.inr ⟨.inr ⟨m, HRD.out, fun h => HTS.out h.2⟩, 3, by omega, rfl⟩, (by repeat' (first | exact Below.refl _ _ | assumption | refine Below.drew ?_ | refine Below.alloc ?_ (by first | omega | (simp; done) | (simp; omega)) _ | refine Below.setCell ?_ (by first | omega | (simp; done) | (simp; omega)) _))⟩
    · have h1 : (er == 0) = false := by simpa using he0
      have h2 : (er != 0) = true := by simpa using he0
      have h3 : er ≠ 0 := he0
      have HNO := Lib.hid hno
      clear hno
      go_wp2_with fail
      refine bodyPost_ret (v := .tuple #[.agg #[.int .i64 0, .slice none 0 0], .int .i64 3]) (by simp [results, Tryz.results6, go_sem, *]) rfl ⟨.inr ⟨.inr ⟨m, HRD.out, fun h => HNO.out h.1⟩, 3, by omega, rfl⟩, (by repeat' (first | exact Below.refl _ _ | assumption | refine Below.drew ?_ | refine Below.alloc ?_ (by first | omega | (simp; done) | (simp; omega)) _ | refine Below.setCell ?_ (by first | omega | (simp; done) | (simp; omega)) _))⟩
end Go.Proofs.YtajbfhdkghofbaaGreatDoor
