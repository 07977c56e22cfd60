/- over, the table's places, and steps. -/
import Derived.Test.YtfikkpgigicepaaKeepPlain
import Derived.Test.YtfikkpgigicepaaIntArg
import Derived.IntWalk
namespace Go.Proofs.Ytfikkpgigicepaa
open Go.RowKit

def overI (l : List Int) (k : Nat) (lab : Int) : Int := match overL l k lab with | none => -1 | some i => i
set_option maxRecDepth 100000 in
theorem over_any (A : Option Addr) (c : Nat) (l : List Int) (k : Nat) (lab : Int) (w : World) (hl : Rd w A l.length 1 (icells l)) (hk : k ≤ l.length) (hn : l.length ≤ 1000) :
    Calls Try.prog 72 #[.slice A l.length c, .int .i64 k, .int .i64 lab] w fun e w' => e = .returned (.int .i64 (overI l k lab)) ∧ w = w' := by
  have rd := hl.rdy
  by_cases h0 : lab = 0
  · subst h0
    have e : overI l k 0 = k := rfl
    rw [e]
    go_enter Try.func72, Try.ntmps72
    go_wp2_with fail
    go_ret
    exact ⟨rfl, rfl⟩
  · have e0 : (lab == 0) = false := by simpa using h0
    by_cases h1 : k < l.length
    · have hc := rdi_cell hl k h1
      have hg := List.getElem?_eq_getElem h1
      have g1 : (k : Int) < (l.length : Int) := by omega
      have lA := World.block_lt_of_cell? _ _ hc
      by_cases h2 : l[k] = lab
      · have e : overI l k lab = (k : Int) + 1 := by unfold overI overL; rw [if_neg h0, hg, h2, if_pos rfl]; rfl
        rw [h2] at hc
        have hwr : IntKind.i64.wrap ((k : Int) + 1) = (k : Int) + 1 := IntWalk.i64_in _ (by omega)
        rw [e]
        clear e h2 hg hl
        go_enter Try.func72, Try.ntmps72
        go_wp2_with fail
        go_ret
        exact ⟨rfl, rfl⟩
      · have e : overI l k lab = -1 := by
          unfold overI overL; rw [if_neg h0, hg, if_neg (fun h => h2 (Option.some.inj h))]
        rw [e]
        have e2 : (l[k] == lab) = false := by simpa using h2
        clear e hg hl
        generalize l[k] = y at *
        go_enter Try.func72, Try.ntmps72
        go_wp2_with fail
        go_ret
        exact ⟨rfl, rfl⟩
    · have e : overI l k lab = -1 := by unfold overI overL; rw [if_neg h0, List.getElem?_eq_none (by omega), if_neg (by simp)]
      rw [e]
      have g1 : ¬ (k : Int) < (l.length : Int) := by omega
      clear e hl
      go_enter Try.func72, Try.ntmps72
      go_wp2_with fail
      go_ret
      exact ⟨rfl, rfl⟩
set_option maxRecDepth 100000 in
theorem at_any (s : SpotL) (n X Z : Nat) (bn bx bz : Nat) (AX AZ : Option Addr) (cX cZ : Nat) (w : World) (hn : w.cell? ⟨bn, 0, none⟩ = some (.int .i64 n)) (hx : w.cell? ⟨bx, 0, none⟩ = some (.slice AX X cX)) (hz : w.cell? ⟨bz, 0, none⟩ = some (.slice AZ Z cZ))
    (h1 : s.a ≤ 100) (h2 : s.b ≤ 100) (h3 : s.i ≤ 100) (h4 : s.j ≤ 100) (h5 : n ≤ 100) (h6 : X ≤ 100) (h7 : Z ≤ 100) :
    Calls Try.prog 41 #[.agg #[.int .i64 s.a, .int .i64 s.b, .int .i64 s.i, .int .i64 s.j], .pointer (some ⟨bn, 0, none⟩), .pointer (some ⟨bx, 0, none⟩), .pointer (some ⟨bz, 0, none⟩)] w fun e w' => e = .returned (.int .i64 (ixS n (X + 1) (Z + 1) s : Nat)) ∧ Below w.heap.size w w' := by
  obtain ⟨p, q, i, j⟩ := s
  simp only at h1 h2 h3 h4
  have l1 := World.block_lt_of_cell? _ _ hn; have l2 := World.block_lt_of_cell? _ _ hx; have l3 := World.block_lt_of_cell? _ _ hz
  obtain ⟨m1, hm1⟩ : ∃ m1, p * n = m1 := ⟨_, rfl⟩
  have b1 : m1 ≤ 100 * 100 := by rw [← hm1]; exact Nat.mul_le_mul h1 h5
  obtain ⟨m2, hm2⟩ : ∃ m2, (m1 + q) * (X + 1) = m2 := ⟨_, rfl⟩
  have b2 : m2 ≤ 10100 * 101 := by rw [← hm2]; exact Nat.mul_le_mul (by omega) (by omega)
  obtain ⟨m3, hm3⟩ : ∃ m3, (m2 + i) * (Z + 1) = m3 := ⟨_, rfl⟩
  have b3 : m3 ≤ 1020200 * 101 := by rw [← hm3]; exact Nat.mul_le_mul (by omega) (by omega)
  have f1 : IntKind.i64.wrap ((p : Int) * (n : Int)) = (m1 : Int) := by rw [← hm1, Int.natCast_mul]; exact IntWalk.i64_in _ (by rw [← Int.natCast_mul, hm1]; omega)
  have f2 : IntKind.i64.wrap (((m1 : Int) + (q : Int)) * ((X : Int) + 1)) = (m2 : Int) := by
    have : ((m1 : Int) + (q : Int)) * ((X : Int) + 1) = (m2 : Int) := by rw [← hm2]; push_cast; rfl
    rw [this]; exact IntWalk.i64_in _ (by omega)
  have f3 : IntKind.i64.wrap (((m2 : Int) + (i : Int)) * ((Z : Int) + 1)) = (m3 : Int) := by
    have : ((m2 : Int) + (i : Int)) * ((Z : Int) + 1) = (m3 : Int) := by rw [← hm3]; push_cast; rfl
    rw [this]; exact IntWalk.i64_in _ (by omega)
  have hr : ixS n (X + 1) (Z + 1) ⟨p, q, i, j⟩ = m3 + j := by unfold ixS; simp only; rw [hm1, hm2, hm3]
  rw [hr]
  clear hr hm1 hm2 hm3
  have g1 : IntKind.i64.wrap ((m1 : Int) + (q : Int)) = (m1 : Int) + q := IntWalk.i64_in _ (by omega)
  have g2 : IntKind.i64.wrap ((m2 : Int) + (i : Int)) = (m2 : Int) + i := IntWalk.i64_in _ (by omega)
  have g3 : IntKind.i64.wrap ((m3 : Int) + (j : Int)) = (m3 : Int) + j := IntWalk.i64_in _ (by omega)
  have g4 : IntKind.i64.wrap ((X : Int) + 1) = (X : Int) + 1 := IntWalk.i64_in _ (by omega)
  have g5 : IntKind.i64.wrap ((Z : Int) + 1) = (Z : Int) + 1 := IntWalk.i64_in _ (by omega)
  go_enter Try.func41, Try.ntmps41
  go_wp2_with fail
  go_ret
  exact ⟨by push_cast; rfl, (by repeat' (first | exact Below.refl _ _ | assumption | refine Below.drew ?_ | refine Below.alloc ?_ (by first | omega | (simp; done) | (simp; omega)) _ | refine Below.setCell ?_ (by first | omega | (simp; done) | (simp; omega)) _))⟩

def strideC (p : SpotL × Int) : List Value := [.int .i64 p.1.a, .int .i64 p.1.b, .int .i64 p.1.i, .int .i64 p.1.j, .int .i64 p.2]
theorem eltStride : Elt Try.prog 93 96 (.agg #[.int .i64 0, .int .i64 0, .int .i64 0, .int .i64 0, .int .i64 0]) 5 40 := ⟨Try.underlying93, by kernel_rfl, rfl, by omega⟩
theorem overI_of {l : List Int} {k : Nat} {lab : Int} (hk : k ≤ l.length) : (overL l k lab = none ∧ overI l k lab = -1) ∨ ∃ i : Nat, overL l k lab = some i ∧ overI l k lab = i ∧ i ≤ l.length := by
  unfold overI
  cases h : overL l k lab with
  | none => exact .inl ⟨rfl, rfl⟩
  | some i => exact .inr ⟨i, rfl, rfl, (over_drop h hk).2⟩
theorem fm_take {α β : Type} (f : α → List β) (l : List α) (k : Nat) (h : k < l.length) : (l.take (k + 1)).flatMap f = (l.take k).flatMap f ++ f l[k] := by
  rw [List.take_succ_eq_append_getElem h, List.flatMap_append]; simp
theorem fm_len {α β : Type} (f : α → List β) (m : Nat) (hf : ∀ a, (f a).length ≤ m) : ∀ l : List α, (l.flatMap f).length ≤ l.length * m := by
  intro l
  induction l with
  | nil => simp
  | cons a l ih => have := hf a; rw [List.flatMap_cons, List.length_append, List.length_cons, Nat.succ_mul]; omega
theorem stepXY_len (x : ArcL) (i : Nat) (s : SpotL) (w : List Int) (y : ArcL) : (stepXY x i s w y).length ≤ 1 := by
  unfold stepXY; split
  · simp
  · split <;> simp
theorem stepY_len (s : SpotL) (w : List Int) (y : ArcL) : (stepY s w y).length ≤ 1 := by
  unfold stepY; split
  · simp
  · split <;> simp
theorem stepX_len (ys : List ArcL) (s : SpotL) (v w : List Int) (x : ArcL) : (stepX ys s v w x).length ≤ ys.length + 1 := by
  unfold stepX; split
  · simp
  · split
    · simp
    · have := fm_len (stepXY x (by assumption) s w) 1 (stepXY_len x _ s w) ys
      omega

/-- what steps keeps: the spot's box at g, a row of strides of its own -/
structure SR (w wr : World) (g : Nat) (s : SpotL) (v : Value) (l : List (SpotL × Int)) : Prop where
  box : Blk wr g #[.int .i64 s.a, .int .i64 s.b, .int .i64 s.i, .int .i64 s.j] 91
  row : wr.ownsRow (g + 1) 96 5 v l.length (l.flatMap strideC)
  bel : Below w.heap.size w wr
  hg : w.heap.size = g
section
variable {w wr w' : World} {g : Nat} {s : SpotL} {v : Value} {l : List (SpotL × Int)}
theorem SR.size (h : SR w wr g s v l) : g + 1 ≤ wr.heap.size := h.box.lt
theorem SR.keep (h : SR w wr g s v l) (hb : Below wr.heap.size wr w') : SR w w' g s v l := ⟨h.box.step hb, own_below h.row hb (Nat.le_refl _), h.bel.trans (hb.mono h.bel.size), h.hg⟩
theorem SR.app (h : SR w wr g s v l) (p : SpotL × Int) {v' : Value} {n : Nat} (hn : n = l.length) (hg : wr.grownBy w' v.ownBlock) (hx : w'.ownsRow (g + 1) 96 5 v' (n + 1) (l.flatMap strideC ++ strideC p)) : SR w w' g s v' (l ++ [p]) := by
  subst hn
  refine ⟨h.box.grown hg (fun e => own_base h.row (Nat.lt_succ_self g) e.symm), by simpa using hx, ?_, h.hg⟩
  exact h.bel.grown hg h.bel.size (fun k hk => by have := h.row.lt k hk; have := h.hg; omega)
end

set_option maxRecDepth 100000 in
set_option maxHeartbeats 8000000 in
theorem steps_any (AX AY AV AW : Option Addr) (cX cY cV cW : Nat) (xs ys : List ArcL) (v u : List Int) (s : SpotL) (w : World) (hx : ArcsAt w AX xs) (hy : ArcsAt w AY ys) (hv : Rd w AV v.length 1 (icells v)) (hu : Rd w AW u.length 1 (icells u))
    (hsi : s.i ≤ v.length) (hsj : s.j ≤ u.length) (hvl : v.length ≤ 100) (hul : u.length ≤ 100) (hxl : xs.length ≤ 100) (hyl : ys.length ≤ 100) (hvx : ∀ e ∈ xs, 0 ≤ e.wt ∧ e.wt ≤ 9 ∧ 0 ≤ e.to) (hvy : ∀ e ∈ ys, 0 ≤ e.wt ∧ e.wt ≤ 9 ∧ 0 ≤ e.to) :
    Calls Try.prog 42 #[.slice AX xs.length cX, .slice AY ys.length cY, .agg #[.int .i64 s.a, .int .i64 s.b, .int .i64 s.i, .int .i64 s.j], .slice AV v.length cV, .slice AW u.length cW] w fun e w' => ∃ A c, e = .returned (.slice A (stepsL xs ys s v u).length c) ∧ w'.ownsRow (w.heap.size + 1) 96 5 (.slice A (stepsL xs ys s v u).length c) (stepsL xs ys s v u).length ((stepsL xs ys s v u).flatMap strideC) ∧ Below w.heap.size w w' := by
  have OV := Lib.hid (fun W (hb : Below w.heap.size w W) lab => over_any AV cV v s.i lab W (hv.below hb rfl) hsi (by omega))
  have OU := Lib.hid (fun W (hb : Below w.heap.size w W) lab => over_any AW cW u s.j lab W (hu.below hb rfl) hsj (by omega))
  have rdX := hx.rdy; have rdY := hy.rdy
  have HX := Lib.hid hx; have HY := Lib.hid hy; have HVX := Lib.hid hvx; have HVY := Lib.hid hvy
  have HSL : Hid (stepsL xs ys s v u = xs.flatMap (stepX ys s v u) ++ ys.flatMap (stepY s u)) := Lib.hid rfl
  clear hx hy hv hu hvx hvy
  go_enter Try.func42, Try.ntmps42
  go_upto_region 1 with fail
  have S0 : SR w (w.alloc (.cells #[.int .i64 s.a, .int .i64 s.b, .int .i64 s.i, .int .i64 s.j] 91)) w.heap.size s (.slice none 0 0) [] := ⟨Blk.new _ _ _, World.ownsRow_nil _ _ _ _, (by repeat' (first | exact Below.refl _ _ | assumption | refine Below.drew ?_ | refine Below.alloc ?_ (by first | omega | (simp; done) | (simp; omega)) _ | refine Below.setCell ?_ (by first | omega | (simp; done) | (simp; omega)) _)), rfl⟩
  have HS0 := Lib.hid S0
  clear S0
  generalize w.alloc (.cells #[.int .i64 s.a, .int .i64 s.b, .int .i64 s.i, .int .i64 s.j] 91) = w1 at *
  go_wp2_with fail
  go_loopw [11, 12] (fun av iv wr => ∃ k : Nat, k ≤ xs.length ∧ iv = .int .i64 k ∧ SR w wr w.heap.size s av ((xs.take k).flatMap (stepX ys s v u))) (fun _ iv _ => xs.length - (intOf iv).toNat)
  case atStart => exact ⟨0, by omega, rfl, by simpa using HS0.out⟩
  case round =>
    obtain ⟨k, hk, rfl, hS⟩ := hrel
    have HS := Lib.hid hS; clear hS
    have hll := fm_len (stepX ys s v u) (ys.length + 1) (stepX_len ys s v u) (xs.take k)
    have hll2 : (xs.take k).length * (ys.length + 1) ≤ 100 * 101 := Nat.mul_le_mul (by simp; omega) (by omega)
    have j0 : (0 : Int) ≤ (k : Int) := by omega
    by_cases hlt : k < xs.length
    · have j1 : (k : Int) < (xs.length : Int) := by omega
      have hsu := fm_take (stepX ys s v u) xs k hlt
      have hCX : ArcCells w (blk AX) (ofs AX + k * 4) xs[k] := arcCells_of HX.out k hlt
      have hvx := HVX.out _ (List.getElem_mem hlt)
      generalize (xs.take k).flatMap (stepX ys s v u) = l0 at *
      generalize xs[k] = x at *
      have HSU := Lib.hid hsu; have HCX := Lib.hid hCX
      clear hsu hCX
      have cx := HCX.out.step HS.out.bel (Nat.le_refl _)
      have x0 := cx.c0; have lx := cx.lt
      have kb := HS.out.box.cell; have lb := HS.out.box.lt
      go_upto_region 5 with fail
      go_quiet ((go_at_call 72; exact Calls.quiet_of_same ((OV.out _ (HS.out.bel.trans ((drewN_below wr _).mono HS.out.bel.size)) _).mono fun _ _ h => ⟨h.1, h.2.symm⟩)))
      have bd := drewN_below wr nq
      replace HS := Lib.hid (HS.out.keep bd)
      clear x0 lx cx kb lb bd
      generalize wr.drewN nq = W1 at *
      have cx := HCX.out.step HS.out.bel (Nat.le_refl _)
      have HCX1 := Lib.hid cx
      have x1 := cx.c1; have x2 := cx.c2; have x3 := cx.c3; have lx := cx.lt
      have kb := HS.out.box.cell; have lb := HS.out.box.lt
      clear cx
      rcases overI_of (lab := x.inn) hsi with ⟨ho, hoi⟩ | ⟨i, ho, hoi, hil⟩
      · have HR := Lib.hid (HSU.out.trans (by rw [show stepX ys s v u x = [] by unfold stepX; rw [ho], List.append_nil]))
        rw [hoi]
        clear ho hoi x1 x2 x3 lx kb lb
        go_wp2_with fail
        go_roundw
        case rel => exact ⟨k + 1, by omega, by go_num, by rw [HR.out]; exact HS.out⟩
        case measure => simp [intOf]; omega
      · rw [hoi]
        have hi0 : ¬ (i : Int) < 0 := by omega
        by_cases h0 : x.out = 0
        · have HR : Hid ((xs.take (k + 1)).flatMap (stepX ys s v u) = l0 ++ [(⟨x.to.toNat, s.b, i, s.j⟩, x.wt)]) := Lib.hid (HSU.out.trans (by unfold stepX; rw [ho]; simp [h0]))
          have e0 : (x.out == 0) = true := by simpa using h0
          obtain ⟨tn, htn⟩ : ∃ tn : Nat, x.to = tn := ⟨x.to.toNat, by omega⟩
          have ht2 : x.to.toNat = tn := by omega
          rw [ht2] at HR
          rw [htn] at x3
          clear h0 ho hoi htn ht2
          go_upto_region 8 with fail
          have c0_ : W1.cell? ⟨blk AX, ofs AX + k * 4 + 3, none⟩ = some (.int .i64 tn) := x3
          have c1_ : W1.cell? ⟨w.heap.size, 1, none⟩ = some (.int .i64 s.b) := by simpa using kb 1
          have c2_ : W1.cell? ⟨w.heap.size, 3, none⟩ = some (.int .i64 s.j) := by simpa using kb 3
          have c3_ : W1.cell? ⟨blk AX, ofs AX + k * 4 + 2, none⟩ = some (.int .i64 x.wt) := x2
          go_cut [11] (fun av wx => SR w wx w.heap.size s av (l0 ++ [(⟨tn, s.b, i, s.j⟩, x.wt)]))
          case first =>
            go_region_held3 (fun w' => w'.cell? ⟨blk AX, ofs AX + k * 4 + 3, none⟩ = some (.int .i64 tn) ∧ w'.cell? ⟨w.heap.size, 1, none⟩ = some (.int .i64 s.b) ∧ w'.cell? ⟨w.heap.size, 3, none⟩ = some (.int .i64 s.j) ∧ w'.cell? ⟨blk AX, ofs AX + k * 4 + 2, none⟩ = some (.int .i64 x.wt)) (first | go_keep | exact ⟨hg1.cell (cell_keep (by repeat' (first | exact Below.refl _ _ | assumption | refine Below.drew ?_ | refine Below.alloc ?_ (by first | omega | (simp; done) | (simp; omega)) _ | refine Below.setCell ?_ (by first | omega | (simp; done) | (simp; omega)) _)) (Nat.le_refl _) c0_) (own_base HS.out.row (b := blk AX) (by have := HCX.out.lt; omega)).symm, hg1.cell (cell_keep (by repeat' (first | exact Below.refl _ _ | assumption | refine Below.drew ?_ | refine Below.alloc ?_ (by first | omega | (simp; done) | (simp; omega)) _ | refine Below.setCell ?_ (by first | omega | (simp; done) | (simp; omega)) _)) (Nat.le_refl _) c1_) (own_base HS.out.row (b := w.heap.size) (Nat.lt_succ_self _)).symm, hg1.cell (cell_keep (by repeat' (first | exact Below.refl _ _ | assumption | refine Below.drew ?_ | refine Below.alloc ?_ (by first | omega | (simp; done) | (simp; omega)) _ | refine Below.setCell ?_ (by first | omega | (simp; done) | (simp; omega)) _)) (Nat.le_refl _) c2_) (own_base HS.out.row (b := w.heap.size) (Nat.lt_succ_self _)).symm, hg1.cell (cell_keep (by repeat' (first | exact Below.refl _ _ | assumption | refine Below.drew ?_ | refine Below.alloc ?_ (by first | omega | (simp; done) | (simp; omega)) _ | refine Below.setCell ?_ (by first | omega | (simp; done) | (simp; omega)) _)) (Nat.le_refl _) c3_) (own_base HS.out.row (b := blk AX) (by have := HCX.out.lt; omega)).symm⟩) (first | (refine step_app1 rfl _ _ rfl eltStride (w.heap.size + 1) _ (l0).length _ rfl (HS.out.row.alloc _) W1.heap.size #[.int .i64 tn, .int .i64 s.b, .int .i64 i, .int .i64 s.j, .int .i64 x.wt] (heap_alloc_new W1 _) rfl rfl (by simp [Value.oneCell']) (by (try simp only [List.length_append]); omega) (by omega) (by have := HS.out.size; simp; omega) ?_; intro g3 cap w3 hown1 hg1 hat hlt3))
            all_goals
              go_wp2_with fail
              go_meet
              case rel => exact (HS.out.keep (w' := (W1.alloc (.cells #[.int .i64 tn, .int .i64 s.b, .int .i64 i, .int .i64 s.j, .int .i64 x.wt] 96)).drew) (by repeat' (first | exact Below.refl _ _ | assumption | refine Below.drew ?_ | refine Below.alloc ?_ (by first | omega | (simp; done) | (simp; omega)) _ | refine Below.setCell ?_ (by first | omega | (simp; done) | (simp; omega)) _))).app ((⟨tn, s.b, i, s.j⟩, x.wt)) rfl hg1 hown1
          case rest =>
            have HS3 := Lib.hid hcut
            clear hcut
            go_wp2_with fail
            go_roundw
            case rel => exact ⟨k + 1, by omega, by go_num, by rw [HR.out]; exact HS3.out⟩
            case measure => simp [intOf]; omega
        · have HR : Hid ((xs.take (k + 1)).flatMap (stepX ys s v u) = l0 ++ ys.flatMap (stepXY x i s u)) := Lib.hid (HSU.out.trans (by unfold stepX; rw [ho]; simp [h0]))
          have e0 : (x.out == 0) = false := by simpa using h0
          clear h0 ho hoi x1 x2 x3 lx kb lb
          have x1 := HCX1.out.c1; have lx := HCX1.out.lt
          go_upto_region 10 with fail
          obtain ⟨wo, rfl⟩ : ∃ wo : World, wo = W1 := ⟨_, rfl⟩
          clear x1 lx
          go_loopw [11, 14] (fun av tv wx => ∃ t : Nat, t ≤ ys.length ∧ tv = .int .i64 t ∧ SR w wx w.heap.size s av (l0 ++ (ys.take t).flatMap (stepXY x i s u))) (fun _ tv _ => ys.length - (intOf tv).toNat)
          case atStart => exact ⟨0, by omega, rfl, by simpa using HS.out⟩
          case round =>
            obtain ⟨t, ht, rfl, hS⟩ := hrel
            have HT := Lib.hid hS; clear hS
            have t0 : (0 : Int) ≤ (t : Int) := by omega
            have htl := fm_len (stepXY x i s u) 1 (stepXY_len x i s u) (ys.take t)
            rw [List.length_take] at htl
            by_cases hlt2 : t < ys.length
            · have t1 : (t : Int) < (ys.length : Int) := by omega
              have hsu := fm_take (stepXY x i s u) ys t hlt2
              have hCY : ArcCells w (blk AY) (ofs AY + t * 4) ys[t] := arcCells_of HY.out t hlt2
              have hvy := HVY.out _ (List.getElem_mem hlt2)
              generalize (ys.take t).flatMap (stepXY x i s u) = l1 at *
              generalize ys[t] = y at *
              have HSU2 := Lib.hid hsu; have HCY := Lib.hid hCY
              clear hsu hCY
              have cy := HCY.out.step HT.out.bel (Nat.le_refl _)
              have y0 := cy.c1; have ly := cy.lt
              have kb := HT.out.box.cell; have lb := HT.out.box.lt
              clear cy
              go_upto_region 12 with fail
              go_quiet ((go_at_call 72; exact Calls.quiet_of_same ((OU.out _ (HT.out.bel.trans ((drewN_below wr _).mono HT.out.bel.size)) _).mono fun _ _ h => ⟨h.1, h.2.symm⟩)))
              have bd := drewN_below wr nq
              replace HT := Lib.hid (HT.out.keep bd)
              clear y0 ly kb lb bd
              generalize wr.drewN nq = W3 at *
              have cy := HCY.out.step HT.out.bel (Nat.le_refl _)
              have y0 := cy.c0; have y2 := cy.c2; have y3 := cy.c3; have ly := cy.lt
              have cx := HCX.out.step HT.out.bel (Nat.le_refl _)
              have x1 := cx.c1; have x2 := cx.c2; have x3 := cx.c3; have lx := cx.lt
              clear cx cy
              rcases overI_of (lab := y.out) hsj with ⟨ho2, hoi2⟩ | ⟨j, ho2, hoi2, hjl⟩
              · have HR2 := Lib.hid (HSU2.out.trans (by rw [show stepXY x i s u y = [] by unfold stepXY; rw [ho2], List.append_nil]))
                rw [hoi2]
                go_upto_region 13 with fail
                go_cut [90] (fun bv wx => bv = .bool false ∧ Below W3.heap.size W3 wx)
                case first =>
                  by_cases h9 : y.inn = x.out
                  · have q1 : (y.inn == x.out) = true := by simpa using h9
                    clear h9
                    go_quiet (fail)
                    go_wp2_with fail
                    go_meet
                    case rel => exact ⟨rfl, drewN_below _ _⟩
                  · have q1 : (y.inn == x.out) = false := by simpa using h9
                    clear h9
                    go_quiet (fail)
                    go_wp2_with fail
                    go_meet
                    case rel => exact ⟨rfl, drewN_below _ _⟩
                case rest =>
                  obtain ⟨rfl, bc⟩ := hcut
                  replace HT := Lib.hid (HT.out.keep bc)
                  clear bc y0 y2 y3 ly x1 x2 x3 lx
                  go_wp2_with fail
                  go_roundw
                  case rel => exact ⟨t + 1, by omega, by go_num, by rw [HR2.out]; exact HT.out⟩
                  case measure => simp [intOf]; omega
              · rw [hoi2]
                have hj0 : (0 : Int) ≤ (j : Int) := by omega
                go_upto_region 13 with fail
                go_cut [90] (fun bv wx => bv = .bool (y.inn == x.out) ∧ Below W3.heap.size W3 wx)
                case first =>
                  by_cases h9 : y.inn = x.out
                  · have q1 : (y.inn == x.out) = true := by simpa using h9
                    have Q1 := Lib.hid q1
                    clear h9
                    go_quiet (fail)
                    go_wp2_with fail
                    go_meet
                    case rel => exact ⟨by rw [Q1.out], drewN_below _ _⟩
                  · have q1 : (y.inn == x.out) = false := by simpa using h9
                    have Q1 := Lib.hid q1
                    clear h9
                    go_quiet (fail)
                    go_wp2_with fail
                    go_meet
                    case rel => exact ⟨by rw [Q1.out], drewN_below _ _⟩
                case rest =>
                  obtain ⟨rfl, bc⟩ := hcut
                  obtain ⟨W4, rfl⟩ : ∃ wx : World, wx = wc := ⟨_, rfl⟩
                  replace HT := Lib.hid (HT.out.keep bc)
                  clear bc y0 y2 y3 ly x1 x2 x3 lx
                  by_cases h9 : y.inn = x.out
                  · have q1 : (y.inn == x.out) = true := by simpa using h9
                    have HR2 : Hid ((ys.take (t + 1)).flatMap (stepXY x i s u) = l1 ++ [(⟨x.to.toNat, y.to.toNat, i, j⟩, x.wt + y.wt)]) := Lib.hid (HSU2.out.trans (by unfold stepXY; rw [ho2]; simp [h9]))
                    rw [q1]
                    have cy := HCY.out.step HT.out.bel (Nat.le_refl _); have cx := HCX.out.step HT.out.bel (Nat.le_refl _)
                    have v2 := cy.c2; have v3 := cy.c3; have ly := cy.lt; have z2 := cx.c2; have z3 := cx.c3; have lx := cx.lt
                    obtain ⟨tx, htx⟩ : ∃ tn : Nat, x.to = tn := ⟨x.to.toNat, by omega⟩
                    have htx2 : x.to.toNat = tx := by omega
                    obtain ⟨ty, hty⟩ : ∃ tn : Nat, y.to = tn := ⟨y.to.toNat, by omega⟩
                    have hty2 : y.to.toNat = ty := by omega
                    have hwr : IntKind.i64.wrap (x.wt + y.wt) = x.wt + y.wt := IntWalk.i64_in _ (by omega)
                    rw [htx2, hty2] at HR2
                    rw [htx] at z3
                    rw [hty] at v3
                    clear h9 ho2 hoi2 htx htx2 hty hty2 cx cy
                    go_upto_region 14 with fail
                    have c0_ : W4.cell? ⟨blk AX, ofs AX + k * 4 + 3, none⟩ = some (.int .i64 tx) := z3
                    have c1_ : W4.cell? ⟨blk AY, ofs AY + t * 4 + 3, none⟩ = some (.int .i64 ty) := v3
                    have c2_ : W4.cell? ⟨blk AX, ofs AX + k * 4 + 2, none⟩ = some (.int .i64 x.wt) := z2
                    have c3_ : W4.cell? ⟨blk AY, ofs AY + t * 4 + 2, none⟩ = some (.int .i64 y.wt) := v2
                    go_region_held3 (fun w' => w'.cell? ⟨blk AX, ofs AX + k * 4 + 3, none⟩ = some (.int .i64 tx) ∧ w'.cell? ⟨blk AY, ofs AY + t * 4 + 3, none⟩ = some (.int .i64 ty) ∧ w'.cell? ⟨blk AX, ofs AX + k * 4 + 2, none⟩ = some (.int .i64 x.wt) ∧ w'.cell? ⟨blk AY, ofs AY + t * 4 + 2, none⟩ = some (.int .i64 y.wt)) (first | go_keep | exact ⟨hg1.cell (cell_keep (by repeat' (first | exact Below.refl _ _ | assumption | refine Below.drew ?_ | refine Below.alloc ?_ (by first | omega | (simp; done) | (simp; omega)) _ | refine Below.setCell ?_ (by first | omega | (simp; done) | (simp; omega)) _)) (Nat.le_refl _) c0_) (own_base HT.out.row (b := blk AX) (by have := HCX.out.lt; omega)).symm, hg1.cell (cell_keep (by repeat' (first | exact Below.refl _ _ | assumption | refine Below.drew ?_ | refine Below.alloc ?_ (by first | omega | (simp; done) | (simp; omega)) _ | refine Below.setCell ?_ (by first | omega | (simp; done) | (simp; omega)) _)) (Nat.le_refl _) c1_) (own_base HT.out.row (b := blk AY) (by have := HCY.out.lt; omega)).symm, hg1.cell (cell_keep (by repeat' (first | exact Below.refl _ _ | assumption | refine Below.drew ?_ | refine Below.alloc ?_ (by first | omega | (simp; done) | (simp; omega)) _ | refine Below.setCell ?_ (by first | omega | (simp; done) | (simp; omega)) _)) (Nat.le_refl _) c2_) (own_base HT.out.row (b := blk AX) (by have := HCX.out.lt; omega)).symm, hg1.cell (cell_keep (by repeat' (first | exact Below.refl _ _ | assumption | refine Below.drew ?_ | refine Below.alloc ?_ (by first | omega | (simp; done) | (simp; omega)) _ | refine Below.setCell ?_ (by first | omega | (simp; done) | (simp; omega)) _)) (Nat.le_refl _) c3_) (own_base HT.out.row (b := blk AY) (by have := HCY.out.lt; omega)).symm⟩) (first | (refine step_app1 rfl _ _ rfl eltStride (w.heap.size + 1) _ (l0 ++ l1).length _ rfl (HT.out.row.alloc _) W4.heap.size #[.int .i64 tx, .int .i64 ty, .int .i64 i, .int .i64 j, .int .i64 (x.wt + y.wt)] (heap_alloc_new W4 _) rfl rfl (by simp [Value.oneCell']) (by (try simp only [List.length_append]); omega) (by omega) (by have := HT.out.size; simp; omega) ?_; intro g3 cap w3 hown1 hg1 hat hlt3))
                    all_goals
                      have HS3 := Lib.hid ((HT.out.keep (w' := (W4.alloc (.cells #[.int .i64 tx, .int .i64 ty, .int .i64 i, .int .i64 j, .int .i64 (x.wt + y.wt)] 96)).drew) (by repeat' (first | exact Below.refl _ _ | assumption | refine Below.drew ?_ | refine Below.alloc ?_ (by first | omega | (simp; done) | (simp; omega)) _ | refine Below.setCell ?_ (by first | omega | (simp; done) | (simp; omega)) _))).app ((⟨tx, ty, i, j⟩, x.wt + y.wt)) rfl hg1 hown1)
                      clear hown1 hg1
                      go_wp2_with fail
                      go_roundw
                      case rel => exact ⟨t + 1, by omega, by go_num, by rw [HR2.out, ← List.append_assoc, ← List.length_append]; exact HS3.out⟩
                      case measure => simp [intOf]; omega
                  · have q1 : (y.inn == x.out) = false := by simpa using h9
                    have HR2 : Hid ((ys.take (t + 1)).flatMap (stepXY x i s u) = l1) := Lib.hid (HSU2.out.trans (by unfold stepXY; rw [ho2]; simp [h9]))
                    rw [q1]
                    clear h9 ho2 hoi2
                    go_wp2_with fail
                    go_roundw
                    case rel => exact ⟨t + 1, by omega, by go_num, by rw [HR2.out]; exact HT.out⟩
                    case measure => simp [intOf]; omega
            · obtain rfl : t = ys.length := by omega
              rw [List.take_length] at HT
              go_wp2_with fail
              go_roundw
              case rel => exact ⟨k + 1, by omega, by go_num, by rw [HR.out]; exact HT.out⟩
              case measure => simp [intOf]; omega
    · obtain rfl : k = xs.length := by omega
      rw [List.take_length] at HS hll hll2
      generalize xs.flatMap (stepX ys s v u) = l0 at *
      go_upto_region 16 with fail
      obtain ⟨wo, rfl⟩ : ∃ wo : World, wo = wr := ⟨_, rfl⟩
      go_loopw [11, 16] (fun av tv wx => ∃ t : Nat, t ≤ ys.length ∧ tv = .int .i64 t ∧ SR w wx w.heap.size s av (l0 ++ (ys.take t).flatMap (stepY s u))) (fun _ tv _ => ys.length - (intOf tv).toNat)
      case atStart => exact ⟨0, by omega, rfl, by simpa using HS.out⟩
      case round =>
        obtain ⟨t, ht, rfl, hS⟩ := hrel
        have HT := Lib.hid hS; clear hS
        have t0 : (0 : Int) ≤ (t : Int) := by omega
        have htl := fm_len (stepY s u) 1 (stepY_len s u) (ys.take t)
        rw [List.length_take] at htl
        by_cases hlt2 : t < ys.length
        · have t1 : (t : Int) < (ys.length : Int) := by omega
          have hsu := fm_take (stepY s u) ys t hlt2
          have hCY : ArcCells w (blk AY) (ofs AY + t * 4) ys[t] := arcCells_of HY.out t hlt2
          have hvy := HVY.out _ (List.getElem_mem hlt2)
          generalize (ys.take t).flatMap (stepY s u) = l1 at *
          generalize ys[t] = y at *
          have HSU2 := Lib.hid hsu; have HCY := Lib.hid hCY
          clear hsu hCY
          have cy := HCY.out.step HT.out.bel (Nat.le_refl _)
          have y0 := cy.c1; have ly := cy.lt
          have kb := HT.out.box.cell; have lb := HT.out.box.lt
          clear cy
          go_upto_region 18 with fail
          go_quiet ((go_at_call 72; exact Calls.quiet_of_same ((OU.out _ (HT.out.bel.trans ((drewN_below wr _).mono HT.out.bel.size)) _).mono fun _ _ h => ⟨h.1, h.2.symm⟩)))
          have bd := drewN_below wr nq
          replace HT := Lib.hid (HT.out.keep bd)
          clear y0 ly kb lb bd
          generalize wr.drewN nq = W3 at *
          have cy := HCY.out.step HT.out.bel (Nat.le_refl _)
          have y0 := cy.c0; have ly := cy.lt
          clear cy
          rcases overI_of (lab := y.out) hsj with ⟨ho2, hoi2⟩ | ⟨j, ho2, hoi2, hjl⟩
          · have HR2 := Lib.hid (HSU2.out.trans (by rw [show stepY s u y = [] by unfold stepY; rw [ho2], List.append_nil]))
            rw [hoi2]
            clear ho2 hoi2
            by_cases h9 : y.inn = 0
            · have q1 : (y.inn == 0) = true := by simpa using h9
              clear h9
              go_wp2_with fail
              go_roundw
              case rel => exact ⟨t + 1, by omega, by go_num, by rw [HR2.out]; exact HT.out⟩
              case measure => simp [intOf]; omega
            · have q1 : (y.inn == 0) = false := by simpa using h9
              clear h9
              go_wp2_with fail
              go_roundw
              case rel => exact ⟨t + 1, by omega, by go_num, by rw [HR2.out]; exact HT.out⟩
              case measure => simp [intOf]; omega
          · rw [hoi2]
            have hj0 : (0 : Int) ≤ (j : Int) := by omega
            by_cases h9 : y.inn = 0
            · have q1 : (y.inn == 0) = true := by simpa using h9
              have HR2 : Hid ((ys.take (t + 1)).flatMap (stepY s u) = l1 ++ [(⟨s.a, y.to.toNat, s.i, j⟩, y.wt)]) := Lib.hid (HSU2.out.trans (by unfold stepY; rw [ho2]; simp [h9]))
              have cy := HCY.out.step HT.out.bel (Nat.le_refl _)
              have v2 := cy.c2; have v3 := cy.c3
              have kb := HT.out.box.cell; have lb := HT.out.box.lt
              obtain ⟨ty, hty⟩ : ∃ tn : Nat, y.to = tn := ⟨y.to.toNat, by omega⟩
              have hty2 : y.to.toNat = ty := by omega
              rw [hty2] at HR2
              rw [hty] at v3
              clear h9 ho2 hoi2 hty hty2 cy
              go_upto_region 20 with fail
              have c0_ : W3.cell? ⟨w.heap.size, 0, none⟩ = some (.int .i64 s.a) := by simpa using kb 0
              have c1_ : W3.cell? ⟨blk AY, ofs AY + t * 4 + 3, none⟩ = some (.int .i64 ty) := v3
              have c2_ : W3.cell? ⟨w.heap.size, 2, none⟩ = some (.int .i64 s.i) := by simpa using kb 2
              have c3_ : W3.cell? ⟨blk AY, ofs AY + t * 4 + 2, none⟩ = some (.int .i64 y.wt) := v2
              go_region_held3 (fun w' => w'.cell? ⟨w.heap.size, 0, none⟩ = some (.int .i64 s.a) ∧ w'.cell? ⟨blk AY, ofs AY + t * 4 + 3, none⟩ = some (.int .i64 ty) ∧ w'.cell? ⟨w.heap.size, 2, none⟩ = some (.int .i64 s.i) ∧ w'.cell? ⟨blk AY, ofs AY + t * 4 + 2, none⟩ = some (.int .i64 y.wt)) (first | go_keep | exact ⟨hg1.cell (cell_keep (by repeat' (first | exact Below.refl _ _ | assumption | refine Below.drew ?_ | refine Below.alloc ?_ (by first | omega | (simp; done) | (simp; omega)) _ | refine Below.setCell ?_ (by first | omega | (simp; done) | (simp; omega)) _)) (Nat.le_refl _) c0_) (own_base HT.out.row (b := w.heap.size) (Nat.lt_succ_self _)).symm, hg1.cell (cell_keep (by repeat' (first | exact Below.refl _ _ | assumption | refine Below.drew ?_ | refine Below.alloc ?_ (by first | omega | (simp; done) | (simp; omega)) _ | refine Below.setCell ?_ (by first | omega | (simp; done) | (simp; omega)) _)) (Nat.le_refl _) c1_) (own_base HT.out.row (b := blk AY) (by have := HCY.out.lt; omega)).symm, hg1.cell (cell_keep (by repeat' (first | exact Below.refl _ _ | assumption | refine Below.drew ?_ | refine Below.alloc ?_ (by first | omega | (simp; done) | (simp; omega)) _ | refine Below.setCell ?_ (by first | omega | (simp; done) | (simp; omega)) _)) (Nat.le_refl _) c2_) (own_base HT.out.row (b := w.heap.size) (Nat.lt_succ_self _)).symm, hg1.cell (cell_keep (by repeat' (first | exact Below.refl _ _ | assumption | refine Below.drew ?_ | refine Below.alloc ?_ (by first | omega | (simp; done) | (simp; omega)) _ | refine Below.setCell ?_ (by first | omega | (simp; done) | (simp; omega)) _)) (Nat.le_refl _) c3_) (own_base HT.out.row (b := blk AY) (by have := HCY.out.lt; omega)).symm⟩) (first | (refine step_app1 rfl _ _ rfl eltStride (w.heap.size + 1) _ (l0 ++ l1).length _ rfl (HT.out.row.alloc _) W3.heap.size #[.int .i64 s.a, .int .i64 ty, .int .i64 s.i, .int .i64 j, .int .i64 y.wt] (heap_alloc_new W3 _) rfl rfl (by simp [Value.oneCell']) (by (try simp only [List.length_append]); omega) (by omega) (by have := HT.out.size; simp; omega) ?_; intro g3 cap w3 hown1 hg1 hat hlt3))
              all_goals
                have HS3 := Lib.hid ((HT.out.keep (w' := (W3.alloc (.cells #[.int .i64 s.a, .int .i64 ty, .int .i64 s.i, .int .i64 j, .int .i64 y.wt] 96)).drew) (by repeat' (first | exact Below.refl _ _ | assumption | refine Below.drew ?_ | refine Below.alloc ?_ (by first | omega | (simp; done) | (simp; omega)) _ | refine Below.setCell ?_ (by first | omega | (simp; done) | (simp; omega)) _))).app ((⟨s.a, ty, s.i, j⟩, y.wt)) rfl hg1 hown1)
                clear hown1 hg1
                go_wp2_with fail
                go_roundw
                case rel => exact ⟨t + 1, by omega, by go_num, by rw [HR2.out, ← List.append_assoc, ← List.length_append]; exact HS3.out⟩
                case measure => simp [intOf]; omega
            · have q1 : (y.inn == 0) = false := by simpa using h9
              have HR2 : Hid ((ys.take (t + 1)).flatMap (stepY s u) = l1) := Lib.hid (HSU2.out.trans (by unfold stepY; rw [ho2]; simp [h9]))
              clear h9 ho2 hoi2
              go_wp2_with fail
              go_roundw
              case rel => exact ⟨t + 1, by omega, by go_num, by rw [HR2.out]; exact HT.out⟩
              case measure => simp [intOf]; omega
        · obtain rfl : t = ys.length := by omega
          rw [List.take_length] at HT
          generalize ys.flatMap (stepY s u) = l1 at *
          generalize l0 ++ l1 = LL at *
          obtain ⟨AL, cL, hf, -, -⟩ := own_form HT.out.row
          subst hf
          have hr := HT.out.row
          have bel := HT.out.bel
          go_wp2_with fail
          go_ret
          rw [HSL.out]
          exact ⟨_, _, rfl, hr, bel⟩
end Go.Proofs.Ytfikkpgigicepaa
