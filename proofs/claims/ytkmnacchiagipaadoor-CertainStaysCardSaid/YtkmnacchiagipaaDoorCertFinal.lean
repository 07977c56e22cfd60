/- certain: what ending in a set costs. -/
import Derived.Test.YtkmnacchiagipaaDoorCertMem
import Derived.LoopTactic
import Derived.IntWalk
namespace Go.Proofs.YtkmnacchiagipaaDoor
open Go.RowKit

def FinJ (m : MachL) (T : SetL) (b : Int) : Prop := (b = -1 ∧ ∀ p ∈ T, finQ m p.1 = INF) ∨
  (0 ≤ b ∧ (∃ p ∈ T, finQ m p.1 ≠ INF ∧ p.2 + finQ m p.1 = b) ∧ ∀ p ∈ T, finQ m p.1 ≠ INF → b ≤ p.2 + finQ m p.1)
theorem FinJ.start (m : MachL) : FinJ m [] (-1) := .inl ⟨rfl, by simp⟩
theorem FinJ.skip {m : MachL} {T : SetL} {b : Int} (h : FinJ m T b) {p : Nat × Int} (hp : finQ m p.1 = INF) : FinJ m (T ++ [p]) b := by
  rcases h with ⟨h1, h2⟩ | ⟨h1, ⟨q, hq, h2, h3⟩, h4⟩
  · refine .inl ⟨h1, fun q hq => ?_⟩
    rcases List.mem_append.1 hq with hq | hq
    · exact h2 q hq
    · simp only [List.mem_singleton] at hq; subst hq; exact hp
  · refine .inr ⟨h1, ⟨q, List.mem_append_left _ hq, h2, h3⟩, fun r hr hf => ?_⟩
    rcases List.mem_append.1 hr with hr | hr
    · exact h4 r hr hf
    · simp only [List.mem_singleton] at hr; subst hr; exact absurd hp hf
theorem FinJ.keep {m : MachL} {T : SetL} {b : Int} (h : FinJ m T b) {p : Nat × Int} (hb : ¬ b < 0) (hp : ¬ p.2 + finQ m p.1 < b) : FinJ m (T ++ [p]) b := by
  rcases h with ⟨h1, h2⟩ | ⟨h1, ⟨q, hq, h2, h3⟩, h4⟩
  · omega
  · refine .inr ⟨h1, ⟨q, List.mem_append_left _ hq, h2, h3⟩, fun r hr hf => ?_⟩
    rcases List.mem_append.1 hr with hr | hr
    · exact h4 r hr hf
    · simp only [List.mem_singleton] at hr; subst hr; omega
theorem FinJ.set {m : MachL} {T : SetL} {b : Int} (h : FinJ m T b) {p : Nat × Int} (hf : finQ m p.1 ≠ INF) (h0 : 0 ≤ p.2 + finQ m p.1) (hb : b < 0 ∨ p.2 + finQ m p.1 < b) : FinJ m (T ++ [p]) (p.2 + finQ m p.1) := by
  refine .inr ⟨h0, ⟨p, by simp, hf, rfl⟩, fun r hr hfr => ?_⟩
  rcases List.mem_append.1 hr with hr | hr
  · rcases h with ⟨h1, h2⟩ | ⟨h1, -, h4⟩
    · exact absurd (h2 r hr) hfr
    · have := h4 r hr hfr; omega
  · simp only [List.mem_singleton] at hr; subst hr; omega
theorem FinJ.fin {m : MachL} {S : SetL} {b : Int} (h : FinJ m S b) (hb : b ≤ 1000000000) : FinS m S (if b < 0 then INF else b) := by
  have e : INF = 1000000001 := rfl
  rcases h with ⟨h1, h2⟩ | ⟨h1, h2, h3⟩
  · rw [if_pos (by omega)]; exact .inl ⟨rfl, h2⟩
  · rw [if_neg (by omega)]; exact .inr ⟨by omega, h2, h3⟩
/-- what is asked of a set that is read beside a machine -/
structure SetOk (m : MachL) (S : SetL) : Prop where
  len : S.length ≤ 60
  p : ∀ p ∈ S, p.1 < m.states.length ∧ 0 ≤ p.2 ∧ p.2 ≤ 900000000
theorem FinJ.bound {m : MachL} {S : SetL} {b : Int} (h : FinJ m S b) (hS : SetOk m S) {WW : Int} (hw : WtC m WW) (hW : WW ≤ 10000000) : b ≤ 910000000 := by
  rcases h with ⟨h1, -⟩ | ⟨-, ⟨p, hp, h2, h3⟩, -⟩
  · omega
  · have := hS.p p hp; have := hw.f _ h2; omega
set_option maxRecDepth 100000 in
set_option maxHeartbeats 4000000 in
theorem final_any (A : Option Addr) (c : Nat) (S : SetL) (B : Option Addr) (cb : Nat) (m : MachL) (WW : Int) (w : World) (hS : SetAt w A S) (hm : StatesAt w B m.states) (hw : WtC m WW) (hW : WW ≤ 10000000) (hok : SetOk m S) :
    Calls Tryd.prog 54 #[.slice A S.length c, .agg #[.int .i64 m.start, .slice B m.states.length cb]] w fun e w' => ∃ b, e = .returned (.int .i64 b) ∧ FinJ m S b ∧ Below w.heap.size w w' := by
  have HS := Lib.hid hS; have HM := Lib.hid hm; have HW := Lib.hid hw; have HOK := Lib.hid hok
  have hn := hok.len
  have rA := hS.rdy; have rB := hm.rdy
  generalize hst : m.start = st at *
  clear hS hm hw hok hst
  go_enter Tryd.func54, Tryd.ntmps54
  go_wp2_with fail
  have M0 := Lib.hid (Blk.new w #[.int .i64 st, .slice B m.states.length cb] 41)
  have b0 : Below w.heap.size w (w.alloc (.cells #[.int .i64 st, .slice B m.states.length cb] 41)) := (Below.refl _ _).alloc (Nat.le_refl _) _
  generalize w.alloc (.cells #[.int .i64 st, .slice B m.states.length cb] 41) = w1 at *
  go_loopw [5, 11] (fun bv iv wr => ∃ (i : Nat) (b : Int), i ≤ S.length ∧ iv = .int .i64 i ∧ bv = .int .i64 b ∧ FinJ m (S.take i) b ∧ Blk wr w.heap.size #[.int .i64 st, .slice B m.states.length cb] 41 ∧ Below w.heap.size w wr) (fun _ iv _ => S.length - (intOf iv).toNat)
  case atStart => exact ⟨0, -1, by omega, rfl, rfl, FinJ.start m, M0.out, b0⟩
  case round =>
    obtain ⟨i, b, hi, rfl, rfl, hF, hM, bel⟩ := hrel
    obtain ⟨wo, rfl⟩ : ∃ wo : World, wo = wr := ⟨_, rfl⟩
    have HF := Lib.hid hF; have HB := Lib.hid hM; have HL := Lib.hid bel
    have i0 : (0 : Int) ≤ (i : Int) := by omega
    clear hF hM bel M0 b0
    by_cases hlt : i < S.length
    · have i1 : (i : Int) < (S.length : Int) := by omega
      have hSr := HS.out.below HL.out (Nat.le_refl _)
      have d0 := hSr.c0 i hlt; have d1 := hSr.c1 i hlt
      have hpo := HOK.out.p _ (List.getElem_mem hlt)
      have HT : Hid (S.take (i + 1) = S.take i ++ [S[i]]) := Lib.hid (by rw [List.take_succ_eq_append_getElem hlt])
      generalize S[i] = p at *
      obtain ⟨q, l⟩ := p
      simp only at d0 d1 hpo
      obtain ⟨hq, hl0, hl1⟩ := hpo
      have hMr := HM.out.below HL.out (Nat.le_refl _)
      have e0 := hMr.c0 q hq
      have hfe : finQ m q = (m.states[q]).final := finQ_eq (List.getElem?_eq_getElem hq)
      rw [← hfe] at e0
      have hfq := HW.out.f q
      have hlA := World.block_lt_of_cell? _ _ d0; have hlB := World.block_lt_of_cell? _ _ e0
      obtain ⟨f, hf⟩ : ∃ f, finQ m q = f := ⟨_, rfl⟩
      have HFE := Lib.hid hf
      rw [hf] at e0 hfq
      have hbb : b ≤ 910000000 := HF.out.bound (WW := WW) ⟨by have := HOK.out.len; rw [List.length_take]; omega, fun p hp => HOK.out.p p (List.mem_of_mem_take hp)⟩ HW.out hW
      have hbn : -1 ≤ b := by rcases HF.out with h | h <;> omega
      have q0 : (0 : Int) ≤ (q : Int) := by omega
      have q1 : (q : Int) < (m.states.length : Int) := by omega
      have kb := HB.out.cell; have kl := HB.out.lt
      have HB2 := Lib.hid (HB.out.alloc (.cells #[.int .i64 (q : Int), .int .i64 l] 130))
      have HL2 := Lib.hid (HL.out.alloc HL.out.size (.cells #[.int .i64 (q : Int), .int .i64 l] 130))
      clear hSr hMr hfe hf
      have e1 : INF = 1000000001 := rfl
      by_cases z1 : f = 1000000001
      · have g1 : (f == 1000000001) = true := by simpa using z1
        have g2 : (f != 1000000001) = false := by simpa using z1
        have HN := Lib.hid (HF.out.skip (p := (q, l)) (by rw [HFE.out, z1]))
        rw [← HT.out] at HN
        clear z1 hfq
        go_wp2_with fail
        go_roundw
        case rel => exact ⟨i + 1, b, by omega, by go_num, rfl, HN.out, HB2.out, HL2.out⟩
        case measure => simp [intOf]; omega
      · have g1 : (f == 1000000001) = false := by simpa using z1
        have g2 : (f != 1000000001) = true := by simpa using z1
        have hf2 := hfq (by rw [e1]; exact z1)
        obtain ⟨f0, f1⟩ := hf2
        by_cases z2 : b < 0 ∨ l + f < b
        · have HN := Lib.hid (HF.out.set (p := (q, l)) (by rw [HFE.out, e1]; exact z1) (by rw [HFE.out]; simp only; omega) (by rw [HFE.out]; exact z2))
          rw [← HT.out, HFE.out] at HN
          simp only at HN
          by_cases z3 : b < 0
          · clear z1 z2 hfq
            go_wp2_with fail
            go_roundw
            case rel => exact ⟨i + 1, _, by omega, by go_num, rfl, HN.out, HB2.out, HL2.out⟩
            case measure => simp [intOf]; omega
          · have z4 : l + f < b := by omega
            clear z1 z2 hfq
            go_wp2_with fail
            go_roundw
            case rel => exact ⟨i + 1, _, by omega, by go_num, rfl, HN.out, HB2.out, HL2.out⟩
            case measure => simp [intOf]; omega
        · have z3 : ¬ b < 0 := by omega
          have z4 : ¬ l + f < b := by omega
          have HN := Lib.hid (HF.out.keep (p := (q, l)) z3 (by rw [HFE.out]; exact z4))
          rw [← HT.out] at HN
          clear z1 z2 hfq
          go_wp2_with fail
          go_roundw
          case rel => exact ⟨i + 1, b, by omega, by go_num, rfl, HN.out, HB2.out, HL2.out⟩
          case measure => simp [intOf]; omega
    · obtain rfl : i = S.length := by omega
      rw [List.take_length] at HF
      go_wp2_with fail
      go_ret
      exact ⟨b, rfl, HF.out, HL.out⟩
end Go.Proofs.YtkmnacchiagipaaDoor
