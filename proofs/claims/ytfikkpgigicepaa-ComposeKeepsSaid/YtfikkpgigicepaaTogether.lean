/- together: the table is relaxed till nothing changes. -/
import Derived.Test.YtfikkpgigicepaaKeepSteps
import Derived.Test.YtfikkpgigicepaaFar
namespace Go.Proofs.Ytfikkpgigicepaa
open Go.RowKit

/-- the table's block, above all that was there -/
structure TG (w5 wr : World) (bf : Nat) (far : List Int) : Prop where
  fb : Blk wr bf (icellsA far) 3
  bel : Below bf w5 wr
  hs : w5.heap.size = bf
section
variable {w5 wr w' : World} {bf : Nat} {far : List Int}
theorem TG.lt (h : TG w5 wr bf far) : bf < wr.heap.size := h.fb.lt
theorem TG.keep (h : TG w5 wr bf far) (hb : Below wr.heap.size wr w') : TG w5 w' bf far := ⟨h.fb.step hb, h.bel.trans (hb.mono (Nat.le_of_lt h.lt)), h.hs⟩
theorem TG.set (h : TG w5 wr bf far) (k : Nat) (x : Int) : TG w5 (wr.setCell ⟨bf, k, none⟩ (.int .i64 x)) bf (far.set k x) := ⟨by have := h.fb.put k (.int .i64 x); rw [icellsA_set] at this; exact this, h.bel.setCell (p := ⟨bf, k, none⟩) (Nat.le_refl _) _, h.hs⟩
end
def fillI (N k : Nat) : List Int := List.replicate k INF ++ List.replicate (N - k) 0
theorem fillI_zero (N : Nat) : fillI N 0 = List.replicate N 0 := by simp [fillI]
theorem fillI_all (N : Nat) : fillI N N = List.replicate N INF := by simp [fillI]
theorem fillI_len (N k : Nat) (h : k ≤ N) : (fillI N k).length = N := by simp [fillI]; omega
theorem fillI_set (N k : Nat) (h : k < N) : (fillI N k).set k INF = fillI N (k + 1) := by
  unfold fillI
  rw [show N - k = (N - (k + 1)) + 1 by omega, List.replicate_succ, List.set_append_right _ _ (by simp), List.length_replicate, Nat.sub_self, List.set_cons_zero]
  simp [List.replicate_succ']

/-- how big they are, and what ends cost -/
structure KBig (a b : MachL) (v w : List Int) : Prop where
  na : a.states.length ≤ 4
  nb : b.states.length ≤ 4
  nv : v.length ≤ 4
  nw : w.length ≤ 4
  fa : ∀ q, finQ a q ≠ INF → 0 ≤ finQ a q ∧ finQ a q ≤ 9
  fb : ∀ q, finQ b q ≠ INF → 0 ≤ finQ b q ∧ finQ b q ≤ 9
  aa : ∀ q, (arcsQ a q).length ≤ 4
  ab : ∀ q, (arcsQ b q).length ≤ 4
section
variable {a b : MachL} {v w : List Int}
theorem kN_le (h : KBig a b v w) : kN a b v w ≤ 400 := by
  unfold kN
  have h1 : a.states.length * b.states.length ≤ 4 * 4 := Nat.mul_le_mul h.na h.nb
  have h2 : a.states.length * b.states.length * (v.length + 1) ≤ 4 * 4 * 5 := Nat.mul_le_mul h1 (by have := h.nv; omega)
  exact Nat.mul_le_mul h2 (show w.length + 1 ≤ 5 by have := h.nw; omega)
theorem kIx_q {p : Nat} : kIx b v w ⟨p, b.states.length, 0, 0⟩ = kIx b v w ⟨p + 1, 0, 0, 0⟩ := by
  unfold kIx ixS; simp only [Nat.succ_mul, Nat.add_zero]
theorem kIx_i {p q : Nat} : kIx b v w ⟨p, q, v.length + 1, 0⟩ = kIx b v w ⟨p, q + 1, 0, 0⟩ := by
  unfold kIx ixS; simp only [Nat.add_zero]
  rw [show p * b.states.length + (q + 1) = (p * b.states.length + q) + 1 by omega, Nat.add_mul _ 1, Nat.one_mul]
theorem kIx_j {p q i : Nat} : kIx b v w ⟨p, q, i, w.length + 1⟩ = kIx b v w ⟨p, q, i + 1, 0⟩ := by
  unfold kIx ixS; simp only [Nat.add_zero]
  rw [show (p * b.states.length + q) * (v.length + 1) + (i + 1) = ((p * b.states.length + q) * (v.length + 1) + i) + 1 by omega, Nat.add_mul _ 1, Nat.one_mul]
theorem kIx_s {p q i j : Nat} : kIx b v w ⟨p, q, i, j + 1⟩ = kIx b v w ⟨p, q, i, j⟩ + 1 := rfl
theorem kIx_end : kIx b v w ⟨a.states.length, 0, 0, 0⟩ = kN a b v w := by
  unfold kIx ixS kN; simp
theorem finS_b (h : KBig a b v w) (s : SpotL) : 0 ≤ bothV (finQ a s.a) (finQ b s.b) ∧ bothV (finQ a s.a) (finQ b s.b) ≤ 1000000001 := by
  unfold bothV
  split
  · omega
  · rename_i h1
    have h2 := h.fa s.a (fun e => h1 (.inl e)); have h3 := h.fb s.b (fun e => h1 (.inr e))
    omega
theorem finQ_b (h : KBig a b v w) (q : Nat) : (0 ≤ finQ a q ∧ finQ a q ≤ 1000000001) ∧ (0 ≤ finQ b q ∧ finQ b q ≤ 1000000001) := by
  constructor
  · by_cases e : finQ a q = INF
    · rw [e]; decide
    · have := h.fa q e; omega
  · by_cases e : finQ b q = INF
    · rw [e]; decide
    · have := h.fb q e; omega
end

theorem steps_len {a b : MachL} {v w : List Int} {s : SpotL} (h1 : (arcsQ a s.a).length ≤ 4) (h2 : (arcsQ b s.b).length ≤ 4) : (stepsAt a b v w s).length ≤ 24 := by
  unfold stepsAt stepsL
  rw [List.length_append]
  have g1 := fm_len (stepX (arcsQ b s.b) s v w) ((arcsQ b s.b).length + 1) (stepX_len _ s v w) (arcsQ a s.a)
  have g2 := fm_len (stepY s w) 1 (stepY_len s w) (arcsQ b s.b)
  have g3 : (arcsQ a s.a).length * ((arcsQ b s.b).length + 1) ≤ 4 * 5 := Nat.mul_le_mul h1 (by omega)
  omega
theorem fin_cell {W : World} {A : Option Addr} {m : MachL} (h : StatesAt W A m.states) {q : Nat} (hq : q < m.states.length) : W.cell? ⟨blk A, ofs A + q * 2, none⟩ = some (.int .i64 (finQ m q)) := by
  rw [h.c0 q hq, finQ_of (List.getElem?_eq_getElem hq)]
theorem arc_cell {W : World} {A : Option Addr} {m : MachL} (h : StatesAt W A m.states) {q : Nat} (hq : q < m.states.length) : ∃ A' c, W.cell? ⟨blk A, ofs A + q * 2 + 1, none⟩ = some (.slice A' (arcsQ m q).length c) ∧ ArcsAt W A' (arcsQ m q) := by
  rw [arcsQ_of (List.getElem?_eq_getElem hq)]; exact h.c1 q hq
theorem stride_cell {W : World} {B n c : Nat} {A : Option Addr} {l : List (SpotL × Int)} (h : W.ownsRow B 96 5 (.slice A n c) n (l.flatMap strideC)) {t : Nat} (ht : t < l.length) (j : Nat) (hj : j < 5) : W.cell? ⟨blk A, ofs A + (t * 5 + j), none⟩ = (strideC l[t])[j]? := by
  have r := Rd.of_own h
  have e := flatMap_at strideC 5 (fun _ => rfl) l t ht j hj
  have hs : (strideC l[t])[j]? = some ((strideC l[t])[j]'hj) := List.getElem?_eq_getElem hj
  rw [hs]
  exact r.at' (e.trans hs)
/-- nothing changes any more -/
def TogR (a b : MachL) (v w : List Int) (best : Int) : Prop := ∃ far0 far, KRound a b v w far0 far best false (kN a b v w)
set_option maxRecDepth 100000 in
set_option maxHeartbeats 16000000 in
theorem together_any (a b : MachL) (x z : List Int) (AA AB AX AZ : Option Addr) (ca cb cX cZ : Nat) (w : World) (hk : Kp a b x z) (hg : KBig a b x z) (sA : StatesAt w AA a.states) (sB : StatesAt w AB b.states) (hx : Rd w AX x.length 1 (icells x)) (hz : Rd w AZ z.length 1 (icells z)) :
    Calls Try.prog 21 #[.agg #[.int .i64 a.start, .slice AA a.states.length ca], .agg #[.int .i64 b.start, .slice AB b.states.length cb], .slice AX x.length cX, .slice AZ z.length cZ] w fun e w' => ∃ best, e = .returned (.int .i64 best) ∧ TogR a b x z best ∧ Below w.heap.size w w' := by
  have HK := Lib.hid hk; have HG := Lib.hid hg
  have HSA := Lib.hid sA; have HSB := Lib.hid sB; have HX := Lib.hid hx; have HZ := Lib.hid hz
  have g1 := hg.na; have g2 := hg.nb; have g3 := hg.nv; have g4 := hg.nw
  have gN := kN_le hg
  have rdA := sA.rdy; have rdB := sB.rdy
  obtain ⟨sa, hsa⟩ : ∃ sa : Nat, a.start = sa := ⟨a.start.toNat, by have := hk.a0; omega⟩
  obtain ⟨sb, hsb⟩ : ∃ sb : Nat, b.start = sb := ⟨b.start.toNat, by have := hk.b0; omega⟩
  have hk0 : k0 a b = ⟨sa, sb, 0, 0⟩ := by unfold k0; rw [hsa, hsb]; rfl
  have hkx0 : kIx b x z ⟨sa, sb, 0, 0⟩ < kN a b x z := by rw [← hk0]; exact kIx_lt hk.in0
  have hsa4 : sa ≤ 100 ∧ sb ≤ 100 := by have := hk.in0; rw [hk0] at this; unfold InS at this; simp only at this; omega
  obtain ⟨hsa4, hsb4⟩ := hsa4
  have HK0 := Lib.hid hk0
  rw [hsa, hsb]
  clear hk hg sA sB hx hz hsa hsb hk0
  go_enter Try.func21, Try.ntmps21
  go_upto_region 2 with fail
  have B4 : Hid (Blk (((((w.alloc (.cells #[.int .i64 sa, .slice AA a.states.length ca] 28)).alloc (.cells #[.int .i64 sb, .slice AB b.states.length cb] 28)).alloc (.cells #[.slice AX x.length cX] 25)).alloc (.cells #[.slice AZ z.length cZ] 25)).alloc (.cells #[.int .i64 b.states.length] 3)) w.heap.size #[.int .i64 sa, .slice AA a.states.length ca] 28) := Lib.hid (by repeat' first | exact Blk.new' (by simp; done) | refine Blk.alloc ?_ _)
  have B5 : Hid (Blk (((((w.alloc (.cells #[.int .i64 sa, .slice AA a.states.length ca] 28)).alloc (.cells #[.int .i64 sb, .slice AB b.states.length cb] 28)).alloc (.cells #[.slice AX x.length cX] 25)).alloc (.cells #[.slice AZ z.length cZ] 25)).alloc (.cells #[.int .i64 b.states.length] 3)) (w.heap.size + 1) #[.int .i64 sb, .slice AB b.states.length cb] 28) := Lib.hid (by repeat' first | exact Blk.new' (by simp; done) | refine Blk.alloc ?_ _)
  have B6 : Hid (Blk (((((w.alloc (.cells #[.int .i64 sa, .slice AA a.states.length ca] 28)).alloc (.cells #[.int .i64 sb, .slice AB b.states.length cb] 28)).alloc (.cells #[.slice AX x.length cX] 25)).alloc (.cells #[.slice AZ z.length cZ] 25)).alloc (.cells #[.int .i64 b.states.length] 3)) (w.heap.size + 1 + 1) #[.slice AX x.length cX] 25) := Lib.hid (by repeat' first | exact Blk.new' (by simp; done) | refine Blk.alloc ?_ _)
  have B7 : Hid (Blk (((((w.alloc (.cells #[.int .i64 sa, .slice AA a.states.length ca] 28)).alloc (.cells #[.int .i64 sb, .slice AB b.states.length cb] 28)).alloc (.cells #[.slice AX x.length cX] 25)).alloc (.cells #[.slice AZ z.length cZ] 25)).alloc (.cells #[.int .i64 b.states.length] 3)) (w.heap.size + 1 + 1 + 1) #[.slice AZ z.length cZ] 25) := Lib.hid (by repeat' first | exact Blk.new' (by simp; done) | refine Blk.alloc ?_ _)
  have B9 : Hid (Blk (((((w.alloc (.cells #[.int .i64 sa, .slice AA a.states.length ca] 28)).alloc (.cells #[.int .i64 sb, .slice AB b.states.length cb] 28)).alloc (.cells #[.slice AX x.length cX] 25)).alloc (.cells #[.slice AZ z.length cZ] 25)).alloc (.cells #[.int .i64 b.states.length] 3)) (w.heap.size + 1 + 1 + 1 + 1) #[.int .i64 b.states.length] 3) := Lib.hid (by repeat' first | exact Blk.new' (by simp; done) | refine Blk.alloc ?_ _)
  have b5 : Below w.heap.size w (((((w.alloc (.cells #[.int .i64 sa, .slice AA a.states.length ca] 28)).alloc (.cells #[.int .i64 sb, .slice AB b.states.length cb] 28)).alloc (.cells #[.slice AX x.length cX] 25)).alloc (.cells #[.slice AZ z.length cZ] 25)).alloc (.cells #[.int .i64 b.states.length] 3)) := (by repeat' (first | exact Below.refl _ _ | assumption | refine Below.drew ?_ | refine Below.alloc ?_ (by first | omega | (simp; done) | (simp; omega)) _ | refine Below.setCell ?_ (by first | omega | (simp; done) | (simp; omega)) _))
  have z5 : (((((w.alloc (.cells #[.int .i64 sa, .slice AA a.states.length ca] 28)).alloc (.cells #[.int .i64 sb, .slice AB b.states.length cb] 28)).alloc (.cells #[.slice AX x.length cX] 25)).alloc (.cells #[.slice AZ z.length cZ] 25)).alloc (.cells #[.int .i64 b.states.length] 3)).heap.size = w.heap.size + 1 + 1 + 1 + 1 + 1 := by simp
  generalize (((((w.alloc (.cells #[.int .i64 sa, .slice AA a.states.length ca] 28)).alloc (.cells #[.int .i64 sb, .slice AB b.states.length cb] 28)).alloc (.cells #[.slice AX x.length cX] 25)).alloc (.cells #[.slice AZ z.length cZ] 25)).alloc (.cells #[.int .i64 b.states.length] 3)) = w5 at *
  generalize hp5 : w.heap.size + 1 = p5 at *
  generalize hp6 : p5 + 1 = p6 at *
  generalize hp7 : p6 + 1 = p7 at *
  generalize hp9 : p7 + 1 = p9 at *
  generalize hpf : p9 + 1 = bf at *
  have HP := Lib.hid (show w.heap.size < p5 ∧ p5 < p6 ∧ p6 < p7 ∧ p7 < p9 ∧ p9 < bf by omega)
  clear hp5 hp6 hp7 hp9 hpf
  have k4 := B4.out.cell; have k5 := B5.out.cell; have k6 := B6.out.cell; have k7 := B7.out.cell; have k9 := B9.out.cell
  have l4 := B4.out.lt; have l5 := B5.out.lt; have l6 := B6.out.lt; have l7 := B7.out.lt; have l9 := B9.out.lt
  obtain ⟨m1, hm1⟩ : ∃ m1, a.states.length * b.states.length = m1 := ⟨_, rfl⟩
  have c1 : m1 ≤ 4 * 4 := by rw [← hm1]; exact Nat.mul_le_mul g1 g2
  obtain ⟨m2, hm2⟩ : ∃ m2, m1 * (x.length + 1) = m2 := ⟨_, rfl⟩
  have c2 : m2 ≤ 16 * 5 := by rw [← hm2]; exact Nat.mul_le_mul c1 (by omega)
  have hN : m2 * (z.length + 1) = kN a b x z := by unfold kN; rw [hm1, hm2]
  have f1 : IntKind.i64.wrap ((a.states.length : Int) * (b.states.length : Int)) = (m1 : Int) := by
    have : ((a.states.length : Int) * (b.states.length : Int)) = (m1 : Int) := by rw [← hm1]; push_cast; rfl
    rw [this]; exact IntWalk.i64_in _ (by omega)
  have f2 : IntKind.i64.wrap ((m1 : Int) * ((x.length : Int) + 1)) = (m2 : Int) := by
    have : ((m1 : Int) * ((x.length : Int) + 1)) = (m2 : Int) := by rw [← hm2]; push_cast; rfl
    rw [this]; exact IntWalk.i64_in _ (by omega)
  have f3 : IntKind.i64.wrap ((m2 : Int) * ((z.length : Int) + 1)) = ((kN a b x z : Nat) : Int) := by
    have : ((m2 : Int) * ((z.length : Int) + 1)) = ((kN a b x z : Nat) : Int) := by rw [← hN]; push_cast; rfl
    rw [this]; exact IntWalk.i64_in _ (by omega)
  have f4 : IntKind.i64.wrap ((x.length : Int) + 1) = (x.length : Int) + 1 := IntWalk.i64_in _ (by omega)
  have f5 : IntKind.i64.wrap ((z.length : Int) + 1) = (z.length : Int) + 1 := IntWalk.i64_in _ (by omega)
  clear hm1 hm2 hN c1 c2
  obtain ⟨N, hNN⟩ : ∃ N, kN a b x z = N := ⟨_, rfl⟩
  have HN := Lib.hid hNN
  rw [hNN] at f3 gN hkx0
  have hmk := run_make_elt eltInt w5 N (by omega) (by omega) (by omega)
  simp only [Value.cells, Nat.mul_one, madeInts] at hmk
  rw [← fillI_zero] at hmk
  have T0 : TG w5 (w5.alloc (.cells (icellsA (fillI N 0)) 3)) bf (fillI N 0) := ⟨Blk.new' z5.symm, (Below.refl _ _).alloc (by omega) _, z5⟩
  have HT0 := Lib.hid T0
  clear T0 hNN
  rw [z5] at hmk
  go_upto_region 5 with fail
  clear hmk f1 f2 f3 f4 f5 k4 k5 k6 k7 k9 l4 l5 l6 l7 l9
  generalize w5.alloc (.cells (icellsA (fillI N 0)) 3) = w6 at *
  go_loopw [42] (fun iv wr => ∃ k : Nat, k ≤ N ∧ iv = .int .i64 k ∧ TG w5 wr bf (fillI N k)) (fun iv _ => N - (intOf iv).toNat)
  case atStart => exact ⟨0, by omega, rfl, HT0.out⟩
  case round =>
    obtain ⟨k, hk, rfl, hT⟩ := hrel
    have HT := Lib.hid hT; clear hT
    have lf := HT.out.lt
    have i0 : (0 : Int) ≤ (k : Int) := by omega
    by_cases hlt : k < N
    · have i1 : (k : Int) < (N : Int) := by omega
      have kf := HT.out.fb.cell k
      rw [icellsA_get _ _ (by rw [fillI_len _ _ hk]; exact hlt)] at kf
      have ff := HT.out.fb.froz k
      have HT2 := HT.out.set k INF
      rw [fillI_set _ _ hlt] at HT2
      replace HT2 := Lib.hid HT2
      go_wp2_with fail
      go_roundw
      case rel => exact ⟨k + 1, by omega, by go_num, HT2.out⟩
      case measure => simp [intOf]; omega
    · obtain rfl : k = N := by omega
      rw [fillI_all] at HT
      obtain ⟨N, rfl⟩ : ∃ N : Nat, N = k := ⟨_, rfl⟩
      have HLB : Hid (∀ W, Below bf w5 W → (Blk W w.heap.size #[.int .i64 sa, .slice AA a.states.length ca] 28 ∧ Blk W p5 #[.int .i64 sb, .slice AB b.states.length cb] 28) ∧ Blk W p6 #[.slice AX x.length cX] 25 ∧ Blk W p7 #[.slice AZ z.length cZ] 25 ∧ Blk W p9 #[.int .i64 b.states.length] 3) := Lib.hid (fun W h => by
        have hp := HP.out
        exact ⟨⟨B4.out.below h (by omega), B5.out.below h (by omega)⟩, B6.out.below h (by omega), B7.out.below h (by omega), B9.out.below h (by omega)⟩)
      have HAT : Hid (∀ W, Below bf w5 W → ∀ s : SpotL, s.a ≤ 100 → s.b ≤ 100 → s.i ≤ 100 → s.j ≤ 100 → Calls Try.prog 41 #[.agg #[.int .i64 s.a, .int .i64 s.b, .int .i64 s.i, .int .i64 s.j], .pointer (some ⟨p9, 0, none⟩), .pointer (some ⟨p6, 0, none⟩), .pointer (some ⟨p7, 0, none⟩)] W fun e w' => e = .returned (.int .i64 (kIx b x z s : Nat)) ∧ Below W.heap.size W w') := Lib.hid (fun W h s h1 h2 h3 h4 => by
        obtain ⟨-, b6, b7, b9⟩ := HLB.out W h
        exact at_any s b.states.length x.length z.length p9 p6 p7 AX AZ cX cZ W (by simpa using b9.cell 0) (by simpa using b6.cell 0) (by simpa using b7.cell 0) h1 h2 h3 h4 (by omega) (by omega) (by omega))
      have HLW : Hid (∀ W, Below bf w5 W → Below w.heap.size w W) := Lib.hid (fun W h => by
        have hp := HP.out
        exact b5.trans (h.mono (by omega)))
      clear B4 B5 B6 B7 B9 i0 hlt hk HT0 b5
      obtain ⟨wa, rfl⟩ : ∃ wa : World, wa = wr := ⟨_, rfl⟩
      have hl := HLB.out _ HT.out.bel
      have K4 := hl.1.1.cell; have K5 := hl.1.2.cell; have L4 := hl.1.1.lt; have L5 := hl.1.2.lt
      clear hl lf
      go_upto_region 9 with fail
      go_wp2_with fail
      refine (HAT.out _ HT.out.bel ⟨sa, sb, 0, 0⟩ hsa4 hsb4 (by simp) (by simp)).mono ?_; rintro e w7 ⟨rfl, q7⟩
      replace HT := Lib.hid (HT.out.keep q7)
      have HTB := Lib.hid (KTab.start HK.out)
      rw [HK0.out, HN.out] at HTB
      generalize kIx b x z ⟨sa, sb, 0, 0⟩ = k0x at *
      have kf := HT.out.fb.cell k0x
      rw [icellsA_get _ _ (by simpa using hkx0)] at kf
      have ff := HT.out.fb.froz k0x
      have lf := HT.out.lt
      have i0 : (0 : Int) ≤ (k0x : Int) := by omega
      have i1 : (k0x : Int) < (N : Int) := by omega
      have HT8 := Lib.hid (HT.out.set k0x 0)
      clear K4 K5 L4 L5 q7 HT
      go_upto_region 12 with fail
      clear kf ff lf i0 i1
      generalize (List.replicate N INF).set k0x 0 = far0 at *
      generalize w7.setCell ⟨bf, k0x, none⟩ (.int .i64 0) = w8 at *
      clear hkx0
      go_loopg [13, 14] ((far0.map Int.toNat).sum + 1) (fun g bv av wr => ∃ (far : List Int) (best : Int) (ag : Bool), bv = .int .i64 best ∧ av = .bool ag ∧ TG w5 wr bf far ∧ KTab a b x z far best ∧ (far.map Int.toNat).sum + (if ag = true then 1 else 0) ≤ g ∧ (ag = false → ∃ far0, KRound a b x z far0 far best false N))
      case atStart => exact ⟨far0, _, true, rfl, rfl, HT8.out, HTB.out, by simp, fun h => by cases h⟩
      case round =>
        obtain ⟨far, best, ag, rfl, rfl, hT, hK, hgl, hE⟩ := hrel
        cases ag with
        | false =>
          obtain ⟨farz, hE⟩ := hE rfl
          have HE := Lib.hid hE
          have hlw := HLW.out _ hT.bel
          clear hE hT hK
          go_wp2_with fail
          go_ret
          exact ⟨_, rfl, ⟨_, _, by rw [HN.out]; exact HE.out⟩, hlw⟩
        | true =>
          have HG1 : Hid ((far.map Int.toNat).sum + 1 ≤ gk) := Lib.hid (by simpa using hgl)
          have HTa := Lib.hid hT
          have HR0 : Hid (KRound a b x z far far best false 0) := Lib.hid ⟨hK, fun _ => ⟨rfl, fun s _ h => absurd h (Nat.not_lt_zero _)⟩, fun h => by cases h⟩
          clear hE hT hK hgl
          go_upto_region 15 with fail
          obtain ⟨wb, rfl⟩ : ∃ wa : World, wa = wr := ⟨_, rfl⟩
          generalize hfa : far = farA at *
          have HFA := Lib.hid hfa; clear hfa
          go_loopw [13, 14, 15] (fun bv av pv wr => ∃ (far : List Int) (best : Int) (ag : Bool) (p : Nat), bv = .int .i64 best ∧ av = .bool ag ∧ pv = .int .i64 p ∧ p ≤ a.states.length ∧ TG w5 wr bf far ∧ KRound a b x z farA far best ag (kIx b x z ⟨p, 0, 0, 0⟩)) (fun _ _ pv _ => a.states.length - (intOf pv).toNat)
          case atStart => exact ⟨_, _, _, 0, rfl, rfl, rfl, by omega, HTa.out, by have := HR0.out; simpa [kIx, ixS] using this⟩
          case round =>
            obtain ⟨far, best, ag, p, rfl, rfl, rfl, hp, hT, hR⟩ := hrel
            have HT := Lib.hid hT; have HR := Lib.hid hR
            clear hT hR
            have hl := HLB.out _ HT.out.bel
            have K4 := hl.1.1.cell; have L4 := hl.1.1.lt
            clear hl
            by_cases hpl : p < a.states.length
            · have p1 : (p : Int) < (a.states.length : Int) := by omega
              go_upto_region 18 with fail
              clear K4 L4
              obtain ⟨wp, rfl⟩ : ∃ wa : World, wa = wr := ⟨_, rfl⟩
              go_loopw [13, 14, 16] (fun bv av pv wr => ∃ (far : List Int) (best : Int) (ag : Bool) (q : Nat), bv = .int .i64 best ∧ av = .bool ag ∧ pv = .int .i64 q ∧ q ≤ b.states.length ∧ TG w5 wr bf far ∧ KRound a b x z farA far best ag (kIx b x z ⟨p, q, 0, 0⟩)) (fun _ _ pv _ => b.states.length - (intOf pv).toNat)
              case atStart => exact ⟨_, _, _, 0, rfl, rfl, rfl, by omega, HT.out, HR.out⟩
              case round =>
                clear HT HR
                obtain ⟨far, best, ag, q, rfl, rfl, rfl, hq, hT, hR⟩ := hrel
                have HT := Lib.hid hT; have HR := Lib.hid hR
                clear hT hR
                have hl := HLB.out _ HT.out.bel
                have K9 := hl.2.2.2.cell; have L9 := hl.2.2.2.lt
                clear hl
                by_cases hql : q < b.states.length
                · have q1 : (q : Int) < (b.states.length : Int) := by omega
                  go_upto_region 21 with fail
                  clear K9 L9
                  obtain ⟨wq, rfl⟩ : ∃ wa : World, wa = wr := ⟨_, rfl⟩
                  go_loopw [13, 14, 17] (fun bv av pv wr => ∃ (far : List Int) (best : Int) (ag : Bool) (i : Nat), bv = .int .i64 best ∧ av = .bool ag ∧ pv = .int .i64 i ∧ i ≤ x.length + 1 ∧ TG w5 wr bf far ∧ KRound a b x z farA far best ag (kIx b x z ⟨p, q, i, 0⟩)) (fun _ _ pv _ => x.length + 1 - (intOf pv).toNat)
                  case atStart => exact ⟨_, _, _, 0, rfl, rfl, rfl, by omega, HT.out, HR.out⟩
                  case round =>
                    clear HT HR
                    obtain ⟨far, best, ag, i, rfl, rfl, rfl, hi, hT, hR⟩ := hrel
                    have HT := Lib.hid hT; have HR := Lib.hid hR
                    clear hT hR
                    have hl := HLB.out _ HT.out.bel
                    have K6 := hl.2.1.cell; have L6 := hl.2.1.lt
                    clear hl
                    by_cases hil : i < x.length + 1
                    · have e1 : (i : Int) ≤ (x.length : Int) := by omega
                      go_upto_region 24 with fail
                      clear K6 L6
                      obtain ⟨wi, rfl⟩ : ∃ wa : World, wa = wr := ⟨_, rfl⟩
                      go_loopw [13, 14, 18] (fun bv av pv wr => ∃ (far : List Int) (best : Int) (ag : Bool) (j : Nat), bv = .int .i64 best ∧ av = .bool ag ∧ pv = .int .i64 j ∧ j ≤ z.length + 1 ∧ TG w5 wr bf far ∧ KRound a b x z farA far best ag (kIx b x z ⟨p, q, i, j⟩)) (fun _ _ pv _ => z.length + 1 - (intOf pv).toNat)
                      case atStart => exact ⟨_, _, _, 0, rfl, rfl, rfl, by omega, HT.out, HR.out⟩
                      case round =>
                        clear HT HR
                        obtain ⟨far, best, ag, j, rfl, rfl, rfl, hj, hT, hR⟩ := hrel
                        have HT := Lib.hid hT; have HR := Lib.hid hR
                        clear hT hR
                        have hl := HLB.out _ HT.out.bel
                        have K7 := hl.2.2.1.cell; have L7 := hl.2.2.1.lt
                        clear hl
                        by_cases hjl : j < z.length + 1
                        · have e2 : (j : Int) ≤ (z.length : Int) := by omega
                          go_upto_region 26 with fail
                          clear K7 L7
                          go_wp2_with fail
                          refine (HAT.out _ HT.out.bel ⟨p, q, i, j⟩ (show p ≤ 100 by omega) (show q ≤ 100 by omega) (show i ≤ 100 by omega) (show j ≤ 100 by omega)).mono ?_; rintro e w9 ⟨rfl, q9⟩
                          replace HT := Lib.hid (HT.out.keep q9)
                          clear q9
                          have hs : InS a b x z ⟨p, q, i, j⟩ := ⟨hpl, hql, hil, hjl⟩
                          have hix : kIx b x z ⟨p, q, i, j⟩ < N := by have := kIx_lt hs; rw [HN.out] at this; exact this
                          have hfl : far.length = N := by have := HR.out.tab.len; rw [HN.out] at this; exact this
                          have HS := Lib.hid hs
                          have kf := HT.out.fb.cell (kIx b x z ⟨p, q, i, j⟩)
                          rw [icellsA_get _ _ (by rw [hfl]; exact hix)] at kf
                          have hfe : far.getD (kIx b x z ⟨p, q, i, j⟩) 0 = farF b x z far ⟨p, q, i, j⟩ := by
                            unfold farF
                            rw [List.getD_eq_getElem?_getD, List.getD_eq_getElem?_getD, List.getElem?_eq_getElem (by rw [hfl]; exact hix)]; rfl
                          rw [hfe] at kf
                          have hcb := farF_b HR.out.tab ⟨p, q, i, j⟩
                          have lf := HT.out.lt
                          have i0 : (0 : Int) ≤ ((kIx b x z ⟨p, q, i, j⟩ : Nat) : Int) := by omega
                          have i1 : ((kIx b x z ⟨p, q, i, j⟩ : Nat) : Int) < (N : Int) := by omega
                          generalize hcc : farF b x z far ⟨p, q, i, j⟩ = c at *
                          have HC := Lib.hid hcc
                          have HFL := Lib.hid hfl
                          clear hcc hs hfe hfl
                          by_cases hci : c = INF
                          · have e3 : (c == 1000000001) = true := by simpa using hci
                            have HR2 := Lib.hid (HR.out.skip HS.out (HC.out.trans hci))
                            rw [← kIx_s] at HR2
                            clear hci
                            go_wp2_with fail
                            go_roundw
                            case rel => exact ⟨_, _, _, j + 1, rfl, rfl, by go_num, by omega, HT.out, HR2.out⟩
                            case measure => simp [intOf]; omega
                          · have e3 : (c == 1000000001) = false := by simpa using hci
                            have HCI : Hid (c ≠ INF) := Lib.hid hci
                            clear hci
                            go_upto_region 28 with fail
                            clear kf i0 i1 lf
                            have hl := HLB.out _ HT.out.bel
                            have K6 := hl.2.1.cell; have L6 := hl.2.1.lt; have K7 := hl.2.2.1.cell; have L7 := hl.2.2.1.lt
                            clear hl
                            go_cut [104] (fun bv wx => bv = .bool (decide (i = x.length ∧ j = z.length)) ∧ wx = w9)
                            case first =>
                              by_cases h1 : i = x.length
                              · have d1 : ((i : Int) == (x.length : Int)) = true := by simp; omega
                                by_cases h2 : j = z.length
                                · have d2 : ((j : Int) == (z.length : Int)) = true := by simp; omega
                                  have HD : Hid (decide (i = x.length ∧ j = z.length) = true) := Lib.hid (by simp [h1, h2])
                                  clear h1 h2
                                  go_wp2_with fail
                                  go_meet
                                  case rel => exact ⟨by rw [HD.out], rfl⟩
                                · have d2 : ((j : Int) == (z.length : Int)) = false := by simp; omega
                                  have HD : Hid (decide (i = x.length ∧ j = z.length) = false) := Lib.hid (by simp [h2])
                                  clear h1 h2
                                  go_wp2_with fail
                                  go_meet
                                  case rel => exact ⟨by rw [HD.out], rfl⟩
                              · have d1 : ((i : Int) == (x.length : Int)) = false := by simp; omega
                                have HD : Hid (decide (i = x.length ∧ j = z.length) = false) := Lib.hid (by simp [h1])
                                clear h1
                                go_wp2_with fail
                                go_meet
                                case rel => exact ⟨by rw [HD.out], rfl⟩
                            case rest =>
                              obtain ⟨rfl, rfl⟩ := hcut
                              obtain ⟨w9, rfl⟩ : ∃ wx : World, wx = wc := ⟨_, rfl⟩
                              clear K6 L6 K7 L7
                              obtain ⟨best', hbb⟩ : ∃ best', best' = if i = x.length ∧ j = z.length then min best (bothV c (finS a b ⟨p, q, i, j⟩)) else best := ⟨_, rfl⟩
                              have HST := Lib.hid (HR.out.begin HK.out HS.out (by rw [HC.out]; exact HCI.out) best' (by rw [HC.out]; exact hbb))
                              rw [HC.out] at HST
                              have HBB := Lib.hid hbb
                              clear hbb
                              go_upto_if 104 with fail
                              go_cut [13] (fun bv wx => bv = .int .i64 best' ∧ Below w9.heap.size w9 wx)
                              case first =>
                                have sAw := HSA.out.below (HLW.out _ HT.out.bel) (Nat.le_refl _); have sBw := HSB.out.below (HLW.out _ HT.out.bel) (Nat.le_refl _)
                                have d1 := fin_cell sAw hpl; have d2 := fin_cell sBw hql
                                have ld1 := World.block_lt_of_cell? _ _ d1; have ld2 := World.block_lt_of_cell? _ _ d2
                                have hfa := (finQ_b HG.out p).1; have hfb := (finQ_b HG.out q).2; have hfs := finS_b HG.out ⟨p, q, i, j⟩
                                have hl := HLB.out _ HT.out.bel
                                have K4 := hl.1.1.cell; have L4 := hl.1.1.lt; have K5 := hl.1.2.cell; have L5 := hl.1.2.lt
                                have p0 : (0 : Int) ≤ (p : Int) := by omega
                                have q0 : (0 : Int) ≤ (q : Int) := by omega
                                clear hl sAw sBw
                                by_cases hd : i = x.length ∧ j = z.length
                                · have HBT : Hid (best' = min best (bothV c (bothV (finQ a p) (finQ b q)))) := Lib.hid (by rw [HBB.out, if_pos hd]; rfl)
                                  have hdt : decide (i = x.length ∧ j = z.length) = true := by simp [hd]
                                  simp only at hfs
                                  generalize finQ a p = fa at *
                                  generalize finQ b q = fb at *
                                  rw [hdt]
                                  clear hd hdt
                                  go_upto_region 29 with fail
                                  go_quiet ((go_at_call 22; exact Calls.quiet_of_same ((both2_any _ _ _ (by first | assumption | omega) (by first | assumption | omega)).mono fun _ _ h => ⟨h.1, h.2.symm⟩)))
                                  go_wp2_with fail
                                  all_goals
                                    go_meet
                                    case rel => exact ⟨by rw [HBT.out]; exact congrArg (Value.int .i64) (by omega), drewN_below _ _⟩
                                · have HBT : Hid (best' = best) := Lib.hid (by rw [HBB.out, if_neg hd])
                                  have hdt : decide (i = x.length ∧ j = z.length) = false := by simp [hd]
                                  rw [hdt]
                                  clear hd hdt
                                  go_wp2_with fail
                                  go_meet
                                  case rel => exact ⟨by rw [HBT.out], Below.refl _ _⟩
                              case rest =>
                                obtain ⟨rfl, bc⟩ := hcut
                                replace HT := Lib.hid (HT.out.keep bc)
                                clear bc HBB HR
                                obtain ⟨wc, rfl⟩ : ∃ wx : World, wx = wc := ⟨_, rfl⟩
                                have sAw := HSA.out.below (HLW.out _ HT.out.bel) (Nat.le_refl _); have sBw := HSB.out.below (HLW.out _ HT.out.bel) (Nat.le_refl _)
                                obtain ⟨A1, c1, d1, hA1⟩ := arc_cell sAw hpl
                                obtain ⟨A2, c2, d2, hA2⟩ := arc_cell sBw hql
                                have hla := HG.out.aa p; have hlb := HG.out.ab q
                                have hll := steps_len (v := x) (w := z) (s := ⟨p, q, i, j⟩) hla hlb
                                have hl := HLB.out _ HT.out.bel
                                have K4 := hl.1.1.cell 1; have K5 := hl.1.2.cell 1; have K6 := hl.2.1.cell 0; have K7 := hl.2.2.1.cell 0
                                simp only [List.getElem?_toArray, List.getElem?_cons_zero, List.getElem?_cons_succ] at K4 K5 K6 K7
                                have hxw := HX.out.below (HLW.out _ HT.out.bel) rfl; have hzw := HZ.out.below (HLW.out _ HT.out.bel) rfl
                                have HVA := Lib.hid (fun (e : ArcL) (he : e ∈ arcsQ a p) => (⟨(to_lt2 HK.out.va he).2.w0, HK.out.wa p e he, (to_lt2 HK.out.va he).2.t0⟩ : 0 ≤ e.wt ∧ e.wt ≤ 9 ∧ 0 ≤ e.to))
                                have HVB := Lib.hid (fun (e : ArcL) (he : e ∈ arcsQ b q) => (⟨(to_lt2 HK.out.vb he).2.w0, HK.out.wb q e he, (to_lt2 HK.out.vb he).2.t0⟩ : 0 ≤ e.wt ∧ e.wt ≤ 9 ∧ 0 ≤ e.to))
                                have STP := Lib.hid (fun W (hb : Below wc.heap.size wc W) => steps_any A1 A2 AX AZ c1 c2 cX cZ (arcsQ a p) (arcsQ b q) x z ⟨p, q, i, j⟩ W (hA1.below hb (Nat.le_refl _)) (hA2.below hb (Nat.le_refl _)) (hxw.below hb rfl) (hzw.below hb rfl) (by simp only; omega) (by simp only; omega) (by omega) (by omega) (by omega) (by omega) HVA.out HVB.out)
                                rw [show stepsL (arcsQ a p) (arcsQ b q) ⟨p, q, i, j⟩ x z = stepsAt a b x z ⟨p, q, i, j⟩ from rfl] at STP
                                have p0 : (0 : Int) ≤ (p : Int) := by omega
                                have q0 : (0 : Int) ≤ (q : Int) := by omega
                                clear hl sAw sBw hA1 hA2 hxw hzw hla hlb HVA HVB
                                generalize (arcsQ a p).length = na1 at *
                                generalize (arcsQ b q).length = nb1 at *
                                have KS : ∀ W, Below wc.heap.size wc W → W.cell? ⟨w.heap.size, 1, none⟩ = some (.slice AA a.states.length ca) ∧ W.cell? ⟨blk AA, ofs AA + p * 2 + 1, none⟩ = some (.slice A1 na1 c1) ∧ W.cell? ⟨p5, 1, none⟩ = some (.slice AB b.states.length cb) ∧ W.cell? ⟨blk AB, ofs AB + q * 2 + 1, none⟩ = some (.slice A2 nb1 c2) ∧ W.cell? ⟨p6, 0, none⟩ = some (.slice AX x.length cX) ∧ W.cell? ⟨p7, 0, none⟩ = some (.slice AZ z.length cZ) ∧ Below wc.heap.size wc W := fun W hb => ⟨cellB hb K4, cellB hb d1, cellB hb K5, cellB hb d2, cellB hb K6, cellB hb K7, hb⟩
                                go_upto_region 30 with fail
                                go_cut [20] (fun lv wx => ∃ A cL, lv = .slice A (stepsAt a b x z ⟨p, q, i, j⟩).length cL ∧ wx.ownsRow (bf + 1) 96 5 (.slice A (stepsAt a b x z ⟨p, q, i, j⟩).length cL) (stepsAt a b x z ⟨p, q, i, j⟩).length ((stepsAt a b x z ⟨p, q, i, j⟩).flatMap strideC) ∧ Below wc.heap.size wc wx)
                                case first =>
                                  have lbf := HT.out.lt
                                  go_region_held3 (fun w' => w'.cell? ⟨w.heap.size, 1, none⟩ = some (.slice AA a.states.length ca) ∧ w'.cell? ⟨blk AA, ofs AA + p * 2 + 1, none⟩ = some (.slice A1 na1 c1) ∧ w'.cell? ⟨p5, 1, none⟩ = some (.slice AB b.states.length cb) ∧ w'.cell? ⟨blk AB, ofs AB + q * 2 + 1, none⟩ = some (.slice A2 nb1 c2) ∧ w'.cell? ⟨p6, 0, none⟩ = some (.slice AX x.length cX) ∧ w'.cell? ⟨p7, 0, none⟩ = some (.slice AZ z.length cZ) ∧ Below wc.heap.size wc w') (first | (exact KS _ (Below.refl _ _).drew) | (refine KS _ ?_; (try go_split_ands); first | exact Below.step (a := wc) (by assumption) bn | assumption)) (first | (go_at_call 42; go_split_ands; refine (STP.out _ (by assumption)).mono ?_; rintro e wn ⟨A9, c9, rfl, ho9, bn⟩))
                                  all_goals
                                    go_wp2_with fail
                                    go_meet
                                    case rel => exact ⟨A9, c9, rfl, own_mono ho9 (Nat.le_trans lbf (Nat.le_succ _)), by go_split_ands; assumption⟩
                                case rest =>
                                  obtain ⟨AL, cL, rfl, hrow, bc⟩ := hcut
                                  replace HT := Lib.hid (HT.out.keep bc)
                                  clear bc KS d1 d2 K4 K5 K6 K7 STP
                                  obtain ⟨wl, rfl⟩ : ∃ wx : World, wx = wc := ⟨_, rfl⟩
                                  have HROW := Lib.hid hrow
                                  clear hrow
                                  have rdL := (Rd.of_own HROW.out).rdy
                                  have HSTEP : Hid (∀ p' ∈ stepsAt a b x z ⟨p, q, i, j⟩, InS a b x z p'.1 ∧ 0 ≤ p'.2 ∧ p'.2 ≤ 18) := Lib.hid (fun p' hp' => HK.out.step HS.out hp')
                                  have HPS : Hid (∀ far best ag t p', KStep a b x z farA far best ag ⟨p, q, i, j⟩ c t → (stepsAt a b x z ⟨p, q, i, j⟩)[t]? = some p' → ¬ c + p'.2 < farF b x z far p'.1 → KStep a b x z farA far best ag ⟨p, q, i, j⟩ c (t + 1)) := Lib.hid (fun far best ag t p' h1 h2 h3 => h1.pass h2 h3)
                                  have HTU : Hid (∀ far best ag t p', KStep a b x z farA far best ag ⟨p, q, i, j⟩ c t → (stepsAt a b x z ⟨p, q, i, j⟩)[t]? = some p' → c + p'.2 < farF b x z far p'.1 → KStep a b x z farA (far.set (kIx b x z p'.1) (c + p'.2)) best true ⟨p, q, i, j⟩ c (t + 1)) := Lib.hid (fun far best ag t p' h1 h2 h3 => h1.turn HK.out h2 h3)
                                  have HSH : Hid (∀ far best ag t, KStep a b x z farA far best ag ⟨p, q, i, j⟩ c t → (stepsAt a b x z ⟨p, q, i, j⟩).length ≤ t → KRound a b x z farA far best ag (kIx b x z ⟨p, q, i, j⟩ + 1)) := Lib.hid (fun far best ag t h1 h2 => h1.shut HS.out h2)
                                  generalize stepsAt a b x z ⟨p, q, i, j⟩ = l at *
                                  go_upto_region 32 with fail
                                  go_loopw [14, 21] (fun av tv wr => ∃ (far : List Int) (ag : Bool) (t : Nat), av = .bool ag ∧ tv = .int .i64 t ∧ t ≤ l.length ∧ TG w5 wr bf far ∧ KStep a b x z farA far best' ag ⟨p, q, i, j⟩ c t ∧ wr.ownsRow (bf + 1) 96 5 (.slice AL l.length cL) l.length (l.flatMap strideC)) (fun _ tv _ => l.length - (intOf tv).toNat)
                                  case atStart => exact ⟨_, _, 0, rfl, rfl, by omega, HT.out, HST.out, HROW.out⟩
                                  case round =>
                                    clear HT HST HROW
                                    obtain ⟨far, ag, t, rfl, rfl, ht, hT, hST, hrow⟩ := hrel
                                    have HT := Lib.hid hT; have HST := Lib.hid hST; have HROW := Lib.hid hrow
                                    clear hT hST hrow
                                    have t0 : (0 : Int) ≤ (t : Int) := by omega
                                    by_cases htl : t < l.length
                                    · have t1 : (t : Int) < (l.length : Int) := by omega
                                      have y0 := stride_cell HROW.out htl 0 (by omega); have y1 := stride_cell HROW.out htl 1 (by omega); have y2 := stride_cell HROW.out htl 2 (by omega); have y3 := stride_cell HROW.out htl 3 (by omega); have y4 := stride_cell HROW.out htl 4 (by omega)
                                      have hst := HSTEP.out _ (List.getElem_mem htl)
                                      have hgt := List.getElem?_eq_getElem htl
                                      generalize l[t] = p' at *
                                      obtain ⟨s', k'⟩ := p'
                                      simp only at hst
                                      obtain ⟨his, hk0, hk18⟩ := hst
                                      have hix' : kIx b x z s' < N := by have := kIx_lt his; rw [HN.out] at this; exact this
                                      have hfl : far.length = N := by have := HST.out.tab.len; rw [HN.out] at this; exact this
                                      have hcb' := farF_b HST.out.tab s'
                                      have kf := HT.out.fb.cell (kIx b x z s')
                                      rw [icellsA_get _ _ (by rw [hfl]; exact hix')] at kf
                                      have hfe : far.getD (kIx b x z s') 0 = farF b x z far s' := by
                                        unfold farF
                                        rw [List.getD_eq_getElem?_getD, List.getD_eq_getElem?_getD, List.getElem?_eq_getElem (by rw [hfl]; exact hix')]; rfl
                                      rw [hfe] at kf
                                      have hs1 : s'.a ≤ 100 ∧ s'.b ≤ 100 ∧ s'.i ≤ 100 ∧ s'.j ≤ 100 := by obtain ⟨z1, z2, z3, z4⟩ := his; omega
                                      simp only [strideC, List.getElem?_cons_zero, List.getElem?_cons_succ, Nat.add_zero, ← Nat.add_assoc] at y0 y1 y2 y3 y4
                                      have HIS := Lib.hid his; have HGT := Lib.hid hgt
                                      have HATS := Lib.hid (fun W h => HAT.out W h s' hs1.1 hs1.2.1 hs1.2.2.1 hs1.2.2.2)
                                      have HPS2 := Lib.hid (HPS.out far best' ag t (s', k') HST.out hgt)
                                      have HTU2 := Lib.hid (HTU.out far best' ag t (s', k') HST.out hgt)
                                      have hwr : IntKind.i64.wrap (c + k') = c + k' := IntWalk.i64_in _ (by have : INF = 1000000001 := rfl; omega)
                                      have i0 : (0 : Int) ≤ ((kIx b x z s' : Nat) : Int) := by omega
                                      have i1 : ((kIx b x z s' : Nat) : Int) < (N : Int) := by omega
                                      have lY := World.block_lt_of_cell? _ _ y0
                                      have lf := HT.out.lt
                                      have hbL : ∀ o u, wr.cell? ⟨blk AL, o, none⟩ = some u → blk AL ≠ bf := fun o u h e => by
                                        have h1 := Rd.of_own HROW.out
                                        obtain ⟨A0, c0, hf, -, -⟩ := own_form HROW.out
                                        rcases (HROW.out).2 with ⟨h2, -⟩ | ⟨g, cap, cur, h2, hbg, -⟩
                                        · have h3 := congrArg (fun v => match v with | Value.slice _ n _ => n | _ => 0) h2
                                          simp only at h3
                                          omega
                                        · injection h2 with h3 h4 h5
                                          subst h3
                                          simp only [blk_some] at e
                                          omega
                                      have hbne := hbL _ _ y0
                                      clear hbL hgt his hfe hs1
                                      simp only at HPS2 HTU2
                                      generalize farF b x z far s' = f' at *
                                      generalize kIx b x z s' = ix at *
                                      obtain ⟨sa', sb', si', sj'⟩ := s'
                                      simp only at HATS y0 y1 y2 y3 y4
                                      have KS : ∀ W, Below wr.heap.size wr W → W.cell? ⟨blk AL, ofs AL + t * 5, none⟩ = some (.int .i64 sa') ∧ W.cell? ⟨blk AL, ofs AL + t * 5 + 1, none⟩ = some (.int .i64 sb') ∧ W.cell? ⟨blk AL, ofs AL + t * 5 + 2, none⟩ = some (.int .i64 si') ∧ W.cell? ⟨blk AL, ofs AL + t * 5 + 3, none⟩ = some (.int .i64 sj') ∧ W.cell? ⟨blk AL, ofs AL + t * 5 + 4, none⟩ = some (.int .i64 k') ∧ W.cell? ⟨bf, ix, none⟩ = some (.int .i64 f') ∧ Below wr.heap.size wr W := fun W hb => ⟨cellB hb y0, cellB hb y1, cellB hb y2, cellB hb y3, cellB hb y4, cellB hb kf, hb⟩
                                      have HTbel := Lib.hid HT.out.bel
                                      have HMO := Lib.hid (fun W (h : Below wr.heap.size wr W) => HT.out.bel.trans (h.mono (Nat.le_of_lt HT.out.lt)))
                                      go_upto_region 34 with fail
                                      go_cut [165] (fun bv wx => bv = .bool (decide (c + k' < f')) ∧ Below wr.heap.size wr wx)
                                      case first =>
                                        go_region_held3 (fun w' => w'.cell? ⟨blk AL, ofs AL + t * 5, none⟩ = some (.int .i64 sa') ∧ w'.cell? ⟨blk AL, ofs AL + t * 5 + 1, none⟩ = some (.int .i64 sb') ∧ w'.cell? ⟨blk AL, ofs AL + t * 5 + 2, none⟩ = some (.int .i64 si') ∧ w'.cell? ⟨blk AL, ofs AL + t * 5 + 3, none⟩ = some (.int .i64 sj') ∧ w'.cell? ⟨blk AL, ofs AL + t * 5 + 4, none⟩ = some (.int .i64 k') ∧ w'.cell? ⟨bf, ix, none⟩ = some (.int .i64 f') ∧ Below wr.heap.size wr w') (first | (exact KS _ (Below.refl _ _).drew) | (refine KS _ ?_; (try go_split_ands); first | exact Below.step (a := wr) (by assumption) bn | assumption)) (first | (go_at_call 41; go_split_ands; refine (HATS.out _ (HMO.out _ (by assumption))).mono ?_; rintro e wn ⟨rfl, bn⟩))
                                        all_goals
                                          go_wp2_with fail
                                          go_meet
                                          case rel => exact ⟨rfl, by go_split_ands; assumption⟩
                                      case rest =>
                                        obtain ⟨rfl, bc⟩ := hcut
                                        obtain ⟨wc, rfl⟩ : ∃ wx : World, wx = wc := ⟨_, rfl⟩
                                        replace HT := Lib.hid (HT.out.keep bc)
                                        replace HROW := Lib.hid (own_below HROW.out bc (Nat.le_refl _))
                                        have hy := KS wc bc
                                        clear KS HMO HTbel y0 y1 y2 y3 y4 kf lf lY bc
                                        by_cases hlt : c + k' < f'
                                        · have hdt : decide (c + k' < f') = true := by simpa using hlt
                                          have HK2 := Lib.hid (HTU2.out (by omega))
                                          rw [hdt]
                                          clear hlt hdt HPS2 HTU2
                                          obtain ⟨y0, y1, y2, y3, y4, kf, -⟩ := hy
                                          have ff := HT.out.fb.froz ix
                                          have lf := HT.out.lt
                                          have lY := World.block_lt_of_cell? _ _ y0
                                          have HMO := Lib.hid (fun W (h : Below wc.heap.size wc W) => HT.out.bel.trans (h.mono (Nat.le_of_lt HT.out.lt)))
                                          have KS : ∀ W, Below wc.heap.size wc W → W.cell? ⟨blk AL, ofs AL + t * 5, none⟩ = some (.int .i64 sa') ∧ W.cell? ⟨blk AL, ofs AL + t * 5 + 1, none⟩ = some (.int .i64 sb') ∧ W.cell? ⟨blk AL, ofs AL + t * 5 + 2, none⟩ = some (.int .i64 si') ∧ W.cell? ⟨blk AL, ofs AL + t * 5 + 3, none⟩ = some (.int .i64 sj') ∧ W.cell? ⟨blk AL, ofs AL + t * 5 + 4, none⟩ = some (.int .i64 k') ∧ W.cell? ⟨bf, ix, none⟩ = some (.int .i64 f') ∧ Below wc.heap.size wc W := fun W hb => ⟨cellB hb y0, cellB hb y1, cellB hb y2, cellB hb y3, cellB hb y4, cellB hb kf, hb⟩
                                          go_upto_region 35 with fail
                                          refine wp_region_noPanic ?_
                                          refine wp_region_last_drew (fun w' => w'.cell? ⟨blk AL, ofs AL + t * 5, none⟩ = some (.int .i64 sa') ∧ w'.cell? ⟨blk AL, ofs AL + t * 5 + 1, none⟩ = some (.int .i64 sb') ∧ w'.cell? ⟨blk AL, ofs AL + t * 5 + 2, none⟩ = some (.int .i64 si') ∧ w'.cell? ⟨blk AL, ofs AL + t * 5 + 3, none⟩ = some (.int .i64 sj') ∧ w'.cell? ⟨blk AL, ofs AL + t * 5 + 4, none⟩ = some (.int .i64 k') ∧ w'.cell? ⟨bf, ix, none⟩ = some (.int .i64 f') ∧ Below wc.heap.size wc w') (by kernel_rfl) (by simp only [List.back?_toArray, List.getLast?_cons_cons, List.getLast?_singleton]; rfl) (by simp only [List.pop_toArray, List.dropLast_cons_cons, List.dropLast_singleton]; rfl) (by kernel_rfl) (KS _ (Below.refl _ _).drew) (fun hHeld => ?_)
                                          refine wpAnyH_take (i := 0) (v := ?v0) (by simp only [List.getElem?_toArray, List.getElem?_cons_zero]; rfl) (by kernel_rfl) (by kernel_rfl) (by kernel_rfl) (fun _ _ _ h => h) (Or.inl ⟨by rfl, ?h0⟩) hHeld ?r0
                                          case h0 => intro w hSw; (try dsimp only at hSw); go_simp; with_reducible rfl
                                          simp only [Act.put, List.setIfInBounds_toArray, List.set_cons_zero, List.set_cons_succ]
                                          refine wpAnyH_take (i := 1) (v := ?v1) (by simp only [List.getElem?_toArray, List.getElem?_cons_succ, List.getElem?_cons_zero]; rfl) (by kernel_rfl) (by kernel_rfl) (by kernel_rfl) (fun _ _ _ h => h) (Or.inl ⟨by rfl, ?h1⟩) hHeld ?r1
                                          case h1 => intro w hSw; (try dsimp only at hSw); go_simp; with_reducible rfl
                                          simp only [Act.put, List.setIfInBounds_toArray, List.set_cons_zero, List.set_cons_succ]
                                          refine wpAnyH_take (i := 2) (v := ?v2) (by simp only [List.getElem?_toArray, List.getElem?_cons_succ, List.getElem?_cons_zero]; rfl) (by kernel_rfl) (by kernel_rfl) (by kernel_rfl) (fun _ _ _ h => h) (Or.inl ⟨by rfl, ?h2⟩) hHeld ?r2
                                          case h2 => intro w hSw; (try dsimp only at hSw); go_simp; with_reducible rfl
                                          simp only [Act.put, List.setIfInBounds_toArray, List.set_cons_zero, List.set_cons_succ]
                                          refine wpAnyH_take (i := 3) (v := ?v3) (by simp only [List.getElem?_toArray, List.getElem?_cons_succ, List.getElem?_cons_zero]; rfl) (by kernel_rfl) (by kernel_rfl) (by kernel_rfl) (fun _ _ _ h => h) (Or.inl ⟨by rfl, ?h3⟩) hHeld ?r3
                                          case h3 => intro w hSw; (try dsimp only at hSw); go_simp; with_reducible rfl
                                          simp only [Act.put, List.setIfInBounds_toArray, List.set_cons_zero, List.set_cons_succ]
                                          refine wpAnyH_take (i := 4) (v := ?v4) (by simp only [List.getElem?_toArray, List.getElem?_cons_succ, List.getElem?_cons_zero]; rfl) (by kernel_rfl) (by kernel_rfl) (by kernel_rfl) (fun _ _ _ h => h) (Or.inl ⟨by rfl, ?h4⟩) hHeld ?r4
                                          case h4 => intro w hSw; (try dsimp only at hSw); go_simp; with_reducible rfl
                                          simp only [Act.put, List.setIfInBounds_toArray, List.set_cons_zero, List.set_cons_succ]
                                          refine wpAnyH_take (i := 5) (v := ?v5) (by simp only [List.getElem?_toArray, List.getElem?_cons_succ, List.getElem?_cons_zero]; rfl) (by kernel_rfl) (by kernel_rfl) (by kernel_rfl) (fun _ _ _ h => h) (Or.inl ⟨by rfl, ?h5⟩) hHeld ?r5
                                          case h5 => intro w hSw; (try dsimp only at hSw); go_simp; with_reducible rfl
                                          simp only [Act.put, List.setIfInBounds_toArray, List.set_cons_zero, List.set_cons_succ]
                                          refine wpAnyH_take (i := 6) (v := ?v6) (by simp only [List.getElem?_toArray, List.getElem?_cons_succ, List.getElem?_cons_zero]; rfl) (by kernel_rfl) (by kernel_rfl) (by kernel_rfl) (fun _ _ _ h => h) (Or.inl ⟨by rfl, ?h6⟩) hHeld ?r6
                                          case h6 => intro w hSw; (try dsimp only at hSw); go_simp; with_reducible rfl
                                          simp only [Act.put, List.setIfInBounds_toArray, List.set_cons_zero, List.set_cons_succ]
                                          refine wpAnyH_take (i := 8) (v := ?v8) (by simp only [List.getElem?_toArray, List.getElem?_cons_succ, List.getElem?_cons_zero]; rfl) (by kernel_rfl) (by kernel_rfl) (by kernel_rfl) (fun _ _ _ h => h) (Or.inl ⟨by rfl, ?h8⟩) hHeld ?r8
                                          case h8 => intro w hSw; (try dsimp only at hSw); go_simp; with_reducible rfl
                                          simp only [Act.put, List.setIfInBounds_toArray, List.set_cons_zero, List.set_cons_succ]
                                          refine wpAnyH_take (i := 9) (v := ?v9) (by simp only [List.getElem?_toArray, List.getElem?_cons_succ, List.getElem?_cons_zero]; rfl) (by kernel_rfl) (by kernel_rfl) (by kernel_rfl) (fun _ _ _ h => h) (Or.inl ⟨by rfl, ?h9⟩) hHeld ?r9
                                          case h9 => intro w hSw; (try dsimp only at hSw); go_simp; with_reducible rfl
                                          simp only [Act.put, List.setIfInBounds_toArray, List.set_cons_zero, List.set_cons_succ]
                                          refine wpAnyH_take (i := 10) (v := ?v10) (by simp only [List.getElem?_toArray, List.getElem?_cons_succ, List.getElem?_cons_zero]; rfl) (by kernel_rfl) (by kernel_rfl) (by kernel_rfl) (fun _ _ _ h => h) (Or.inl ⟨by rfl, ?h10⟩) hHeld ?r10
                                          case h10 => intro w hSw; (try dsimp only at hSw); go_simp; with_reducible rfl
                                          simp only [Act.put, List.setIfInBounds_toArray, List.set_cons_zero, List.set_cons_succ]
                                          refine wpAnyH_take (i := 11) (v := ?v11) (by simp only [List.getElem?_toArray, List.getElem?_cons_succ, List.getElem?_cons_zero]; rfl) (by kernel_rfl) (by kernel_rfl) (by kernel_rfl) (fun _ _ _ h => h) (Or.inl ⟨by rfl, ?h11⟩) hHeld ?r11
                                          case h11 => intro w hSw; (try dsimp only at hSw); go_simp; with_reducible rfl
                                          simp only [Act.put, List.setIfInBounds_toArray, List.set_cons_zero, List.set_cons_succ]
                                          refine wpAnyH_take (i := 12) (v := ?v12) (by simp only [List.getElem?_toArray, List.getElem?_cons_succ, List.getElem?_cons_zero]; rfl) (by kernel_rfl) (by kernel_rfl) (by kernel_rfl) (fun _ _ _ h => h) (Or.inl ⟨by rfl, ?h12⟩) hHeld ?r12
                                          case h12 => intro w hSw; (try dsimp only at hSw); go_simp; with_reducible rfl
                                          simp only [Act.put, List.setIfInBounds_toArray, List.set_cons_zero, List.set_cons_succ]
                                          refine wpAnyH_take (i := 13) (v := ?v13) (by simp only [List.getElem?_toArray, List.getElem?_cons_succ, List.getElem?_cons_zero]; rfl) (by kernel_rfl) (by kernel_rfl) (by kernel_rfl) (fun _ _ _ h => h) (Or.inl ⟨by rfl, ?h13⟩) hHeld ?r13
                                          case h13 => intro w hSw; (try dsimp only at hSw); go_simp; with_reducible rfl
                                          simp only [Act.put, List.setIfInBounds_toArray, List.set_cons_zero, List.set_cons_succ]
                                          refine wpAnyH_take (i := 14) (v := ?v14) (by simp only [List.getElem?_toArray, List.getElem?_cons_succ, List.getElem?_cons_zero]; rfl) (by kernel_rfl) (by kernel_rfl) (by kernel_rfl) (fun _ _ _ h => h) (Or.inl ⟨by rfl, ?h14⟩) hHeld ?r14
                                          case h14 => intro w hSw; (try dsimp only at hSw); go_simp; with_reducible rfl
                                          simp only [Act.put, List.setIfInBounds_toArray, List.set_cons_zero, List.set_cons_succ]
                                          refine wpAnyH_ready (rs := [7]) (by kernel_rfl) (by simp) (AllReadyH.cons (by simp only [List.getElem?_toArray, List.getElem?_cons_succ, List.getElem?_cons_zero]; rfl) (fun K hK => ?s9) AllReadyH.nil)
                                          go_simp
                                          obtain ⟨-, -, -, -, -, -, hb0⟩ := hHeld
                                          refine (HATS.out _ (HMO.out _ hb0)).mono ?_; rintro e wn ⟨rfl, bn⟩
                                          go_wp2_with fail
                                          have hb1 := Below.step (a := wc) hb0 bn
                                          refine hK.out _ _ (KS _ hb1) (fun hHeld => ?_)
                                          clear hK K
                                          (try simp only [Act.put, List.setIfInBounds_toArray, List.set_cons_zero, List.set_cons_succ])
                                          refine wpAnyH_take (i := 15) (v := ?v15) (by simp only [List.getElem?_toArray, List.getElem?_cons_succ, List.getElem?_cons_zero]; rfl) (by kernel_rfl) (by kernel_rfl) (by kernel_rfl) (fun _ _ _ h => h) (Or.inl ⟨by rfl, ?h15⟩) hHeld ?r15
                                          case h15 => intro w hSw; (try dsimp only at hSw); go_simp; with_reducible rfl
                                          simp only [Act.put, List.setIfInBounds_toArray, List.set_cons_zero, List.set_cons_succ]
                                          refine wpAnyH_done (by kernel_rfl) ?_ _
                                          show Oper.wp _ _ _ _ _ _
                                          have HTn := Lib.hid ((HT.out.keep hb1).set ix (c + k'))
                                          have HRn := Lib.hid (own_setCell (own_below HROW.out hb1 (Nat.le_refl _)) (a := ⟨bf, ix, none⟩) (own_base HROW.out (Nat.lt_succ_self bf)) (.int .i64 (c + k')))
                                          have fn := (HT.out.keep hb1).fb.froz ix
                                          have kn := (KS _ hb1).2.2.2.2.2.1
                                          have ln := (HT.out.keep hb1).lt
                                          clear KS HMO hb0 hb1 bn ff lf lY y0 y1 y2 y3 y4 kf hHeld
                                          go_simp
                                          refine NoPanic.normal ?_
                                          generalize wn.setCell ⟨bf, ix, none⟩ (.int .i64 (c + k')) = wz at *
                                          clear fn kn ln
                                          go_wp2_with fail
                                          go_roundw
                                          case rel => exact ⟨_, _, t + 1, rfl, by go_num, by omega, HTn.out, HK2.out, HRn.out⟩
                                          case measure => simp [intOf]; omega
                                        · have hdt : decide (c + k' < f') = false := by simpa using hlt
                                          have HK2 := Lib.hid (HPS2.out (by omega))
                                          rw [hdt]
                                          clear hlt hdt HPS2 HTU2 hy
                                          go_wp2_with fail
                                          go_roundw
                                          case rel => exact ⟨_, _, t + 1, rfl, by go_num, by omega, HT.out, HK2.out, HROW.out⟩
                                          case measure => simp [intOf]; omega
                                    · obtain rfl : t = l.length := by omega
                                      have HRN := Lib.hid (HSH.out _ _ _ _ HST.out (Nat.le_refl _))
                                      rw [← kIx_s] at HRN
                                      go_wp2_with fail
                                      go_roundw
                                      case rel => exact ⟨_, _, _, j + 1, rfl, rfl, by go_num, by omega, HT.out, HRN.out⟩
                                      case measure => simp [intOf]; omega
                        · have e2 : ¬ (j : Int) ≤ (z.length : Int) := by omega
                          obtain rfl : j = z.length + 1 := by omega
                          rw [kIx_j] at HR
                          have e3 : ¬ ((z.length : Int) + 1 ≤ (z.length : Int)) := by omega
                          go_wp2_with fail
                          go_roundw
                          case rel => exact ⟨_, _, _, i + 1, rfl, rfl, by go_num, by omega, HT.out, HR.out⟩
                          case measure => simp [intOf]; omega
                    · obtain rfl : i = x.length + 1 := by omega
                      rw [kIx_i] at HR
                      have e3 : ¬ ((x.length : Int) + 1 ≤ (x.length : Int)) := by omega
                      go_wp2_with fail
                      go_roundw
                      case rel => exact ⟨_, _, _, q + 1, rfl, rfl, by go_num, by omega, HT.out, HR.out⟩
                      case measure => simp [intOf]; omega
                · obtain rfl : q = b.states.length := by omega
                  rw [kIx_q] at HR
                  go_wp2_with fail
                  go_roundw
                  case rel => exact ⟨_, _, _, p + 1, rfl, rfl, by go_num, by omega, HT.out, HR.out⟩
                  case measure => simp [intOf]; omega
            · obtain rfl : p = a.states.length := by omega
              rw [kIx_end, HN.out] at HR
              have hg2 : (far.map Int.toNat).sum + (if ag = true then 1 else 0) < gk := by
                have h1 := HG1.out
                cases ag with
                | true => have := HR.out.less rfl; simp; omega
                | false => have := (HR.out.still rfl).1; rw [this]; simp; omega
              have HG2 := Lib.hid hg2
              clear hg2
              go_wp2_with fail
              go_roundg ((far.map Int.toNat).sum + (if ag = true then 1 else 0))
              case measure => exact HG2.out
              case rel => exact ⟨far, best, ag, rfl, rfl, HT.out, HR.out.tab, Nat.le_refl _, fun h => ⟨farA, by subst h; exact HR.out⟩⟩
end Go.Proofs.Ytfikkpgigicepaa
