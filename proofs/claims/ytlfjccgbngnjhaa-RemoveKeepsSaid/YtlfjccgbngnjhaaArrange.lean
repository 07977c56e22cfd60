/- arrange.Sorted, ByOut. -/
import Derived.Test.YtlfjccgbngnjhaaArrWith
import Derived.Test.YtlfjccgbngnjhaaMBox
import Derived.Test.YtlfjccgbngnjhaaSorted
namespace Go.Proofs.Ytlfjccgbngnjhaa
open Go.RowKit

theorem enter_read (x : Array Value) (W : World) : (callFunc 24 x).run Try.prog W = .ok (.enter 24 x) W := by simp [go_sem]
theorem read_key4 : Key4 readKy (·.inn) (·.out) (·.to) (·.wt) := ⟨readKy_ok, fun _ => rfl⟩
theorem by_mk (fid : Nat) (w : World) : Calls Try.prog 23 #[.func (.func fid) #[] #[]] w fun e w' => e = .returned (.func (.func 43) #[] #[.pointer (some ⟨w.heap.size, 0, none⟩)]) ∧ w.alloc (.cells #[.func (.func fid) #[] #[]] 80) = w' := by
  go_enter Try.func23, Try.ntmps23
  go_wp2
  go_ret
  exact ⟨rfl, rfl⟩
theorem box_fn (w : World) (fid : Nat) (t : TypeId) : (w.alloc (.cells #[.func (.func fid) #[] #[]] t)).cell? ⟨w.heap.size, 0, none⟩ = some (.func (.func fid) #[] #[]) := by simp [go_sem]
theorem own_ne_new {w : World} {B : Nat} {v : Value} {l : List ArcL} (h : OwnArcs w B v l) : v.ownBlock ≠ some w.heap.size := fun e => by
  have := (h.lt _ e).2; omega

/-- the closure that sorts a row -/
theorem sort_box (fid : Nat) {k : ArcL → List Int} {K0 K1 K2 K3 : ArcL → Int} (h4 : Key4 k K0 K1 K2 K3) (hE : ∀ (x : Array Value) (W : World), (callFunc fid x).run Try.prog W = .ok (.enter fid x) W) (hK : KeyFn fid K0 K1 K2 K3)
    (v : Value) (l : List ArcL) (B : Nat) (w : World) (ho : OwnArcs w B v l) (hl : l.length ≤ 400) (hB : B ≤ w.heap.size) (t : TypeId) :
    Calls Try.prog 22 #[v, .func (.func 43) #[] #[.pointer (some ⟨w.heap.size, 0, none⟩)]] (w.alloc (.cells #[.func (.func fid) #[] #[]] t)) fun e w' => e = .returned (.tuple #[]) ∧ OwnArcs w' B v (sortK k l) ∧ Below B w w' :=
  (sort_own fid h4 hE hK v l B w.heap.size _ (ho.alloc _) (box_fn w fid t) (own_ne_new ho) (by omega) (by simp; omega)).mono fun _ _ ⟨he, h1, h2⟩ => ⟨he, h1, ((Below.refl _ _).alloc hB _).trans h2⟩

theorem sorted1_any (v : Value) (l : List ArcL) (B : Nat) (w : World) (ho : OwnArcs w B v l) (hl : l.length ≤ 400) (hB : B ≤ w.heap.size) :
    Calls Try.prog 21 #[v] w fun e w' => ∃ v', e = .returned v' ∧ OwnArcs w' B v' (sortK readKy l) ∧ Below B w w' := by
  have HS := Lib.hid (sort_box 24 read_key4 enter_read readKey_fn v l B w ho hl hB 80)
  clear ho hl hB
  go_enter Try.func21, Try.ntmps21
  go_wp2_with (first | (go_at_call 23; refine (by_mk _ _).mono ?_; rintro e w' ⟨rfl, rfl⟩) | (go_at_call 22; refine HS.out.mono ?_; rintro e w' ⟨rfl, ho, hb⟩))
  go_ret
  exact ⟨_, rfl, ho, hb⟩
theorem enter_sorted1 (x : Array Value) (W : World) : (callFunc 21 x).run Try.prog W = .ok (.enter 21 x) W := by simp [go_sem]
set_option maxRecDepth 100000 in
theorem Sorted_any (v : Value) (m : MachL) (w : World) (hm : MachAt w v m) (hv : Valid m) :
    Calls Try.prog 9 #[v] w fun e w' => ∃ mv, e = .returned (.tuple #[mv, .int .i64 0]) ∧ OwnMach w' w.heap.size mv (arrM (sortK readKy) m) ∧ Below w.heap.size w w' := by
  have HE := Lib.hid (fun W hb => with_any _ (sortK readKy) (fun _ => True) enter_sorted1 (fun x l B W ho _ hl hB => sorted1_any x l B W ho hl hB) v m W (hm.below hb) hv (fun _ _ => trivial))
  obtain ⟨A, c, rfl, hS⟩ := hm
  clear hS hv
  go_enter Try.func9, Try.ntmps9
  go_wp2_with fail
  refine (HE.out _ (by repeat' (first | exact Below.refl _ _ | assumption | refine Below.drew ?_ | refine Below.alloc ?_ (by first | omega | (simp; done) | (simp; omega)) _ | refine Below.setCell ?_ (by first | omega | (simp; done) | (simp; omega)) _))).mono ?_
  rintro e w1 ⟨mv, rfl, hO, bel⟩
  obtain ⟨sv, rfl, vs, hV⟩ := hO
  have HV := Lib.hid hV
  obtain ⟨A', c', rfl, -, -⟩ := hV.form
  obtain ⟨c1, f1⟩ := bcell bel; have z1 := bel.size; simp at z1
  have y1 : w.heap.size + 1 < w1.heap.size := by omega
  clear hV
  go_wp2_with fail
  refine bodyPost_ret (v := .tuple #[.agg #[.int .i64 (arrM (sortK readKy) m).start, .slice A' (arrM (sortK readKy) m).states.length c'], .int .i64 0]) (by simp [results, Try.results9, go_sem, *]) rfl ⟨_, rfl, ?_, ?_⟩
  · exact ⟨_, rfl, vs, ((HV.out.setCell (a := ⟨w.heap.size + 1, 0, none⟩) (by simp) _).setCell (a := ⟨w.heap.size + 1, 1, none⟩) (by simp) _).mono (by simp; omega)⟩
  · exact (by repeat' (first | exact Below.refl _ _ | assumption | refine Below.step ?_ bel | refine Below.drew ?_ | refine Below.alloc ?_ (by first | omega | (simp; done) | (simp; omega)) _ | refine Below.setCell ?_ (by first | omega | (simp; done) | (simp; omega)) _))
theorem enter_write (x : Array Value) (W : World) : (callFunc 35 x).run Try.prog W = .ok (.enter 35 x) W := by simp [go_sem]
theorem write_key4 : Key4 writeKy (·.out) (·.inn) (·.to) (·.wt) := ⟨writeKy_ok, fun _ => rfl⟩
theorem byout1_any (v : Value) (l : List ArcL) (B : Nat) (w : World) (ho : OwnArcs w B v l) (hl : l.length ≤ 400) (hB : B ≤ w.heap.size) :
    Calls Try.prog 34 #[v] w fun e w' => ∃ v', e = .returned v' ∧ OwnArcs w' B v' (sortK writeKy l) ∧ Below B w w' := by
  have HS := Lib.hid (sort_box 35 write_key4 enter_write writeKey_fn v l B w ho hl hB 80)
  clear ho hl hB
  go_enter Try.func34, Try.ntmps34
  go_wp2_with (first | (go_at_call 23; refine (by_mk _ _).mono ?_; rintro e w' ⟨rfl, rfl⟩) | (go_at_call 22; refine HS.out.mono ?_; rintro e w' ⟨rfl, ho, hb⟩))
  go_ret
  exact ⟨_, rfl, ho, hb⟩
theorem enter_byout1 (x : Array Value) (W : World) : (callFunc 34 x).run Try.prog W = .ok (.enter 34 x) W := by simp [go_sem]
set_option maxRecDepth 100000 in
theorem ByOut_any (v : Value) (m : MachL) (w : World) (hm : MachAt w v m) (hv : Valid m) :
    Calls Try.prog 16 #[v] w fun e w' => ∃ mv, e = .returned (.tuple #[mv, .int .i64 0]) ∧ OwnMach w' w.heap.size mv (arrM (sortK writeKy) m) ∧ Below w.heap.size w w' := by
  have HE := Lib.hid (fun W hb => with_any _ (sortK writeKy) (fun _ => True) enter_byout1 (fun x l B W ho _ hl hB => byout1_any x l B W ho hl hB) v m W (hm.below hb) hv (fun _ _ => trivial))
  obtain ⟨A, c, rfl, hS⟩ := hm
  clear hS hv
  go_enter Try.func16, Try.ntmps16
  go_wp2_with fail
  refine (HE.out _ (by repeat' (first | exact Below.refl _ _ | assumption | refine Below.drew ?_ | refine Below.alloc ?_ (by first | omega | (simp; done) | (simp; omega)) _ | refine Below.setCell ?_ (by first | omega | (simp; done) | (simp; omega)) _))).mono ?_
  rintro e w1 ⟨mv, rfl, hO, bel⟩
  obtain ⟨sv, rfl, vs, hV⟩ := hO
  have HV := Lib.hid hV
  obtain ⟨A', c', rfl, -, -⟩ := hV.form
  obtain ⟨c1, f1⟩ := bcell bel; have z1 := bel.size; simp at z1
  have y1 : w.heap.size + 1 < w1.heap.size := by omega
  clear hV
  go_wp2_with fail
  refine bodyPost_ret (v := .tuple #[.agg #[.int .i64 (arrM (sortK writeKy) m).start, .slice A' (arrM (sortK writeKy) m).states.length c'], .int .i64 0]) (by simp [results, Try.results16, go_sem, *]) rfl ⟨_, rfl, ?_, ?_⟩
  · exact ⟨_, rfl, vs, ((HV.out.setCell (a := ⟨w.heap.size + 1, 0, none⟩) (by simp) _).setCell (a := ⟨w.heap.size + 1, 1, none⟩) (by simp) _).mono (by simp; omega)⟩
  · exact (by repeat' (first | exact Below.refl _ _ | assumption | refine Below.step ?_ bel | refine Below.drew ?_ | refine Below.alloc ?_ (by first | omega | (simp; done) | (simp; omega)) _ | refine Below.setCell ?_ (by first | omega | (simp; done) | (simp; omega)) _))

/-- arcs in order are told to be so -/
theorem sorted_sortK (l : List ArcL) (h : l.Pairwise fun x y => ordK readKy x y ≤ 0) : AdjFrom l 0 := fun i _ hi => by
  have := List.pairwise_iff_getElem.1 h i (i + 1) (by omega) hi (by omega)
  have h2 := ordK_anti readKy l[i] l[i + 1]
  rw [← ordK_read]; omega
end Go.Proofs.Ytlfjccgbngnjhaa
