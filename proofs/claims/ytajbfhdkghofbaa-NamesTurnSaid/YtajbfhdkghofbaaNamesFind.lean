/- names.Find, names.Of. -/
import Derived.Test.YtajbfhdkghofbaaNamesCheck
namespace Go.Proofs.Ytajbfhdkghofbaa
open Go.RowKit

set_option maxRecDepth 100000 in
set_option maxHeartbeats 4000000 in
theorem Find_yes (A : Option Addr) (l : List NameL) (c i : Nat) (w : World) (hT : NamesAt w A l) (hok : NamesOk l) (hi : i < l.length) :
    Calls Try.prog 8 #[.slice A l.length c, strV l[i].text] w fun e w' => e = .returned (.tuple #[.int .i64 l[i].label, .int .i64 0]) ∧ Below w.heap.size w w' := by
  have HC := Lib.hid (NCheck_any A l c w hT)
  have HT := Lib.hid hT; have HOK := Lib.hid hok
  have hn := hok.len
  have rd := hT.rdy
  have HAS := Lib.hid (imapN_some (l.map (·.text)) hok.text l.length (by simp) i hi (by simpa using hi))
  obtain ⟨s, hs⟩ : ∃ s, l[i].text = s := ⟨_, rfl⟩
  obtain ⟨y, hy⟩ : ∃ y, l[i].label = y := ⟨_, rfl⟩
  have e1 : (l.map (·.text))[i]'(by simpa using hi) = s := by simp [hs]
  rw [e1] at HAS
  rw [hs, hy]
  have HY := Lib.hid hy
  clear hT hok hs e1 hy
  go_enter Try.func8, Try.ntmps8
  go_wp2_with fail
  refine HC.out.mono ?_; rintro e w1 ⟨er, rfl, hce, b1⟩
  obtain rfl : er = 0 := hce.1.2 HOK.out
  clear hce HC
  go_wp2_with fail
  have hb : Below w1.heap.size w1 (w1.alloc (.cells (idxC A l.length c 0 0 0 none none) 75)) := (by repeat' (first | exact Below.refl _ _ | assumption | refine Below.drew ?_ | refine Below.alloc ?_ (by first | omega | (simp; done) | (simp; omega)) _ | refine Below.setCell ?_ (by first | omega | (simp; done) | (simp; omega)) _))
  refine (made_idx w (w1.alloc (.cells (idxC A l.length c 0 0 0 none none) 75)) w1.heap.size A l c HT.out (Below.step b1 hb) b1.size (Blk.new _ _ _) (by omega)).mono ?_; rintro e w2 ⟨rfl, bt, bl, hI, hB, -⟩
  have hlk : (Instr.lookup 72 (.map (some bt)) (strV s) true).run Try.prog w2 = .ok (.tuple #[.int .i64 (i : Int), .bool true]) w2 := by
    have h := run_lookup_x hI.tm keyOkStr Try.underlying72 s true (z := .int .i64 0) (by kernel_rfl)
    rw [HAS.out] at h; exact h
  have kx := hI.blk.cell; have lx := hI.blk.lt
  have d1 := (HT.out.below hB (Nat.le_refl _)).c1 i hi
  rw [HY.out] at d1
  have HB := Lib.hid hB
  have i0 : (0 : Int) ≤ (i : Int) := by omega
  have i1 : (i : Int) < (l.length : Int) := by omega
  clear hI hB hb b1
  go_wp2_with fail
  go_ret2
  exact ⟨rfl, HB.out⟩
set_option maxRecDepth 100000 in
set_option maxHeartbeats 4000000 in
theorem Find_no (A : Option Addr) (l : List NameL) (c : Nat) (s : Str) (w : World) (hT : NamesAt w A l) (hok : NamesOk l) (hs : s ∉ l.map (·.text)) :
    Calls Try.prog 8 #[.slice A l.length c, strV s] w fun e w' => e = .returned (.tuple #[.int .i64 0, .int .i64 12]) ∧ Below w.heap.size w w' := by
  have HC := Lib.hid (NCheck_any A l c w hT)
  have HT := Lib.hid hT; have HOK := Lib.hid hok
  have hn := hok.len
  have rd := hT.rdy
  have HAS := Lib.hid (imapN_none (l.map (·.text)) s hs)
  rw [List.length_map] at HAS
  clear hT hok hs
  go_enter Try.func8, Try.ntmps8
  go_wp2_with fail
  refine HC.out.mono ?_; rintro e w1 ⟨er, rfl, hce, b1⟩
  obtain rfl : er = 0 := hce.1.2 HOK.out
  clear hce HC
  go_wp2_with fail
  have hb : Below w1.heap.size w1 (w1.alloc (.cells (idxC A l.length c 0 0 0 none none) 75)) := (by repeat' (first | exact Below.refl _ _ | assumption | refine Below.drew ?_ | refine Below.alloc ?_ (by first | omega | (simp; done) | (simp; omega)) _ | refine Below.setCell ?_ (by first | omega | (simp; done) | (simp; omega)) _))
  refine (made_idx w (w1.alloc (.cells (idxC A l.length c 0 0 0 none none) 75)) w1.heap.size A l c HT.out (Below.step b1 hb) b1.size (Blk.new _ _ _) (by omega)).mono ?_; rintro e w2 ⟨rfl, bt, bl, hI, hB, -⟩
  have hlk : (Instr.lookup 72 (.map (some bt)) (strV s) true).run Try.prog w2 = .ok (.tuple #[.int .i64 0, .bool false]) w2 := by
    have h := run_lookup_x hI.tm keyOkStr Try.underlying72 s true (z := .int .i64 0) (by kernel_rfl)
    rw [HAS.out] at h; exact h
  have kx := hI.blk.cell; have lx := hI.blk.lt
  have HB := Lib.hid hB
  clear hI hB hb b1
  go_wp2_with fail
  go_ret2
  exact ⟨rfl, HB.out⟩
set_option maxRecDepth 100000 in
set_option maxHeartbeats 4000000 in
theorem Of_yes (A : Option Addr) (l : List NameL) (c i : Nat) (w : World) (hT : NamesAt w A l) (hok : NamesOk l) (hi : i < l.length) :
    Calls Try.prog 9 #[.slice A l.length c, .int .i64 l[i].label] w fun e w' => e = .returned (.tuple #[strV l[i].text, .int .i64 0]) ∧ Below w.heap.size w w' := by
  have HC := Lib.hid (NCheck_any A l c w hT)
  have HT := Lib.hid hT; have HOK := Lib.hid hok
  have hn := hok.len
  have rd := hT.rdy
  have HAS := Lib.hid (imapN_some (l.map (·.label)) hok.labs l.length (by simp) i hi (by simpa using hi))
  obtain ⟨s, hs⟩ : ∃ s, l[i].label = s := ⟨_, rfl⟩
  obtain ⟨y, hy⟩ : ∃ y, l[i].text = y := ⟨_, rfl⟩
  have e1 : (l.map (·.label))[i]'(by simpa using hi) = s := by simp [hs]
  rw [e1] at HAS
  rw [hs, hy]
  have HY := Lib.hid hy
  clear hT hok hs e1 hy
  go_enter Try.func9, Try.ntmps9
  go_wp2_with fail
  refine HC.out.mono ?_; rintro e w1 ⟨er, rfl, hce, b1⟩
  obtain rfl : er = 0 := hce.1.2 HOK.out
  clear hce HC
  go_wp2_with fail
  have hb : Below w1.heap.size w1 (w1.alloc (.cells (idxC A l.length c 0 0 0 none none) 75)) := (by repeat' (first | exact Below.refl _ _ | assumption | refine Below.drew ?_ | refine Below.alloc ?_ (by first | omega | (simp; done) | (simp; omega)) _ | refine Below.setCell ?_ (by first | omega | (simp; done) | (simp; omega)) _))
  refine (made_idx w (w1.alloc (.cells (idxC A l.length c 0 0 0 none none) 75)) w1.heap.size A l c HT.out (Below.step b1 hb) b1.size (Blk.new _ _ _) (by omega)).mono ?_; rintro e w2 ⟨rfl, bt, bl, hI, hB, -⟩
  have hlk : (Instr.lookup 73 (.map (some bl)) (.int .i64 s) true).run Try.prog w2 = .ok (.tuple #[.int .i64 (i : Int), .bool true]) w2 := by
    have h := run_lookup_x hI.lm keyOkInt Try.underlying73 s true (z := .int .i64 0) (by kernel_rfl)
    rw [HAS.out] at h; exact h
  have kx := hI.blk.cell; have lx := hI.blk.lt
  have d1 := (HT.out.below hB (Nat.le_refl _)).c0 i hi
  rw [HY.out] at d1
  have HB := Lib.hid hB
  have i0 : (0 : Int) ≤ (i : Int) := by omega
  have i1 : (i : Int) < (l.length : Int) := by omega
  clear hI hB hb b1
  go_wp2_with fail
  go_ret2
  exact ⟨rfl, HB.out⟩
set_option maxRecDepth 100000 in
set_option maxHeartbeats 4000000 in
theorem Of_no (A : Option Addr) (l : List NameL) (c : Nat) (s : Int) (w : World) (hT : NamesAt w A l) (hok : NamesOk l) (hs : s ∉ l.map (·.label)) :
    Calls Try.prog 9 #[.slice A l.length c, .int .i64 s] w fun e w' => e = .returned (.tuple #[strV [], .int .i64 12]) ∧ Below w.heap.size w w' := by
  have HC := Lib.hid (NCheck_any A l c w hT)
  have HT := Lib.hid hT; have HOK := Lib.hid hok
  have hn := hok.len
  have rd := hT.rdy
  have HAS := Lib.hid (imapN_none (l.map (·.label)) s hs)
  rw [List.length_map] at HAS
  clear hT hok hs
  go_enter Try.func9, Try.ntmps9
  go_wp2_with fail
  refine HC.out.mono ?_; rintro e w1 ⟨er, rfl, hce, b1⟩
  obtain rfl : er = 0 := hce.1.2 HOK.out
  clear hce HC
  go_wp2_with fail
  have hb : Below w1.heap.size w1 (w1.alloc (.cells (idxC A l.length c 0 0 0 none none) 75)) := (by repeat' (first | exact Below.refl _ _ | assumption | refine Below.drew ?_ | refine Below.alloc ?_ (by first | omega | (simp; done) | (simp; omega)) _ | refine Below.setCell ?_ (by first | omega | (simp; done) | (simp; omega)) _))
  refine (made_idx w (w1.alloc (.cells (idxC A l.length c 0 0 0 none none) 75)) w1.heap.size A l c HT.out (Below.step b1 hb) b1.size (Blk.new _ _ _) (by omega)).mono ?_; rintro e w2 ⟨rfl, bt, bl, hI, hB, -⟩
  have hlk : (Instr.lookup 73 (.map (some bl)) (.int .i64 s) true).run Try.prog w2 = .ok (.tuple #[.int .i64 0, .bool false]) w2 := by
    have h := run_lookup_x hI.lm keyOkInt Try.underlying73 s true (z := .int .i64 0) (by kernel_rfl)
    rw [HAS.out] at h; exact h
  have kx := hI.blk.cell; have lx := hI.blk.lt
  have HB := Lib.hid hB
  clear hI hB hb b1
  go_wp2_with fail
  go_ret2
  exact ⟨rfl, HB.out⟩
end Go.Proofs.Ytajbfhdkghofbaa
