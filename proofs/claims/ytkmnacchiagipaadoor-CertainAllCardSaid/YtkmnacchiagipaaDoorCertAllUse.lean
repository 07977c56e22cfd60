/- CertainAll (plain): the machine, its counts, and the cheapest paths. -/
import Derived.Test.YtkmnacchiagipaaDoorCertAllPl
import Derived.Test.YtkmnacchiagipaaDoorCertUse
import Derived.Test.YtkmnacchiagipaaDoorDist
namespace Go.Proofs.YtkmnacchiagipaaDoor
open Go.RowKit

theorem capM_mem {m : MachL} {s : StateL} (hs : s ∈ (capM m).states) : ∃ s0 ∈ m.states, s.final = s0.final ∧ s.arcs = s0.arcs.map capA := by
  obtain ⟨s0, h0, rfl⟩ := List.mem_map.1 hs
  exact ⟨s0, h0, rfl, rfl⟩
theorem capM_len (m : MachL) : (capM m).states.length = m.states.length := by simp [capM]
theorem capM_small {m : MachL} (h : FwdSmall m) : FwdSmall (capM m) := by
  have hl := capM_len m
  refine ⟨⟨by rw [hl]; exact h.v.size, ?_, h.v.s0, by rw [hl]; exact h.v.s1, fun s hs => ?_⟩, ?_, by rw [hl]; exact h.n1, by rw [hl]; exact h.n8, h.s0, fun s hs => ?_⟩
  · have e : arcsOf (capM m).states = arcsOf m.states := by
      unfold arcsOf capM
      rw [List.map_map]
      congr 1
      exact List.map_congr_left fun s _ => by simp
    rw [e]; exact h.v.arcs
  · obtain ⟨s0, h0, e1, e2⟩ := capM_mem hs
    rw [e1, e2, hl]
    have h1 := h.v.st s0 h0
    refine ⟨h1.1, fun a ha => ?_⟩
    obtain ⟨b, hb, rfl⟩ := List.mem_map.1 ha
    have h2 := h1.2 b hb
    have h3 := h2.i1
    exact ⟨by simp only [capA]; omega, by simp only [capA]; omega, h2.o0, h2.o1, h2.w0, h2.w1, h2.t0, h2.t1⟩
  · intro q hq a ha
    rw [hl] at hq
    simp only [capM, List.getElem_map] at ha
    obtain ⟨b, hb, rfl⟩ := List.mem_map.1 ha
    exact h.f q hq b hb
  · obtain ⟨s0, h0, -, e2⟩ := capM_mem hs
    rw [e2, List.length_map]
    exact h.a4 s0 h0
theorem capM_full (m : MachL) : (bitsOf (capM m).states).full = true ∧ ∀ p, ∀ a ∈ arcsQ (capM m) p, fullA a = true := by
  have key : ∀ b : ArcL, fullA (capA b) = true := fun b => by
    unfold fullA capA
    have : ¬ (max b.inn 1 = 0) := by omega
    simp [this]
  constructor
  · simp only [bitsOf, bitsT_eq]
    rw [List.all_eq_true]
    intro s hs
    obtain ⟨s0, -, -, e2⟩ := capM_mem hs
    rw [e2, List.all_eq_true]
    intro a ha
    obtain ⟨b, -, rfl⟩ := List.mem_map.1 ha
    exact key b
  · intro p a ha
    obtain ⟨s, hs, hm⟩ := arcsQ_mem ha
    obtain ⟨s0, -, -, e2⟩ := capM_mem (List.mem_of_getElem? hs)
    rw [e2] at hm
    obtain ⟨b, -, rfl⟩ := List.mem_map.1 hm
    exact key b
theorem capM_wt {m : MachL} {W : Int} (h : WtU m W) : WtU (capM m) W := by
  refine ⟨fun s hs e he => ?_, fun s hs hf => ?_, h.p⟩
  · obtain ⟨s0, h0, -, e2⟩ := capM_mem hs
    rw [e2] at he
    obtain ⟨b, hb, rfl⟩ := List.mem_map.1 he
    exact h.w s0 h0 b hb
  · obtain ⟨s0, h0, e1, -⟩ := capM_mem hs
    rw [e1] at hf ⊢
    exact h.f s0 h0 hf
theorem fwdM_wt {m : MachL} {W : Int} (h : WtU m W) : WtU (fwdM m) W := by
  have key : ∀ s ∈ (fwdM m).states, ∃ s0 ∈ m.states, s.final = s0.final ∧ ∀ e ∈ s.arcs, ∃ b ∈ s0.arcs, e.wt = b.wt := fun s hs => by
    obtain ⟨q, hq, rfl⟩ := List.getElem_of_mem hs
    rw [fwdM_len] at hq
    simp only [fwdM, List.getElem_mapIdx, fwdS]
    refine ⟨m.states[q], List.getElem_mem hq, rfl, fun e he => ?_⟩
    unfold fwdArcs at he
    split at he
    · obtain ⟨b, hb, rfl⟩ := List.mem_map.1 he
      exact ⟨b, hb, rfl⟩
    · simp at he
  refine ⟨fun s hs e he => ?_, fun s hs hf => ?_, h.p⟩
  · obtain ⟨s0, h0, -, h2⟩ := key s hs
    obtain ⟨b, hb, e1⟩ := h2 e he
    rw [e1]; exact h.w s0 h0 b hb
  · obtain ⟨s0, h0, e1, -⟩ := key s hs
    rw [e1] at hf ⊢
    exact h.f s0 h0 hf
theorem fwdG_of {m : MachL} (h : FwdSmall m) (h4 : m.states.length ≤ 4) : FwdG m := by
  have key : ∀ q, ∀ a ∈ arcsQ m q, (q : Int) < a.to ∧ a.to < m.states.length := fun q a ha => by
    obtain ⟨s, hs, hm⟩ := arcsQ_mem ha
    obtain ⟨hq, rfl⟩ := List.getElem?_eq_some_iff.1 hs
    exact ⟨h.f q hq a hm, ((h.v.st _ (List.getElem_mem hq)).2 a hm).t1⟩
  refine ⟨h4, fun q a ha => by have := key q a ha; omega, fun q a ha => by have := key q a ha; omega, fun q => ?_, h.s0⟩
  unfold arcsQ
  cases hs : m.states[q]? with
  | none => simp
  | some s => exact h.a4 s (List.mem_of_getElem? hs)
section
variable {m x : MachL} {WW : Int}
theorem CertFull.fwd (hf : FwdG m) (h : CertFull m WW) : False := by
  obtain ⟨Ss, xs, cur, S, ks, hI, hC, hbig⟩ := h
  have := never_full hf hI hC
  omega
theorem muI_three (hf : FwdG m) {Ss : List SetL} (h : CertI m WW Ss x.states []) (hl : x.states.length = Ss.length) (q : Nat) (hq : q < x.states.length) : muI Ss q ≤ 3 := by
  have h1 : Ss[q]? = some (Ss[q]'(by omega)) := List.getElem?_eq_getElem (by omega)
  obtain ⟨l, h2⟩ := muS_mem (h.left q _ h1).1
  have h3 := ((h.left q _ h1).2 _ h2).1
  have := hf.n4
  have e : muI Ss q = muS (Ss[q]'(by omega)) := by unfold muI; rw [h1]; rfl
  simp only at h3
  omega
/-- counts in a machine of few arcs whose states have ranks up to 3 -/
theorem counts_le {y : MachL} (hv : Valid y) (ρ : Nat → Nat) (hρ : ∀ q, q < y.states.length → ρ q ≤ 3) (hr : ∀ p q, q ∈ tos y p → ρ p < ρ q) {M : Nat → Nat} (hM : Counts y 0 M) : ∀ q, q < y.states.length → M q ≤ 64160401 := by
  have hsum : ∀ q, nsum y.states.length (fun p => ad y p q) ≤ 400 := fun q => by
    refine Nat.le_trans (nsum_le (g := fun p => (arcsQ y p).length) fun p _ => ?_) ?_
    · unfold ad
      rw [tos_arcsQ]
      exact Nat.le_trans List.count_le_length (by simp)
    · have e : nsum y.states.length (fun p => (arcsQ y p).length) = arcsOf y.states := by
        unfold nsum arcsOf
        congr 1
        refine List.ext_getElem (by simp) fun i h1 h2 => ?_
        have h3 : i < y.states.length := by simpa using h1
        simp [arcsQ, h3]
      rw [e]; exact hv.arcs
  have step : ∀ (C k : Nat), (∀ p, p < y.states.length → ρ p < k → M p ≤ C) → ∀ q, q < y.states.length → ρ q < k + 1 → M q ≤ 1 + 400 * C := fun C k h q hq hk => by
    rw [hM.eq q hq]
    have h1 : nsum y.states.length (fun p => M p * ad y p q) ≤ nsum y.states.length (fun p => C * ad y p q) := nsum_le fun p hp => by
      by_cases hz : ad y p q = 0
      · rw [hz]; simp
      · have := hr p q (ad_mem hz)
        exact Nat.mul_le_mul_right _ (h p hp (by omega))
    rw [nsum_mul] at h1
    have h2 := Nat.mul_le_mul_left C (hsum q)
    have h3 : (if q = 0 then 1 else 0) ≤ 1 := by split <;> omega
    rw [Nat.mul_comm 400]
    omega
  have s0 : ∀ q, q < y.states.length → ρ q < 1 → M q ≤ 1 + 400 * 0 := step 0 0 fun p _ hp => by omega
  have s1 := step _ 1 s0
  have s2 := step _ 2 s1
  have s3 := step _ 3 s2
  intro q hq
  have := s3 q hq (by have := hρ q hq; omega)
  omega
/-- all that the law asks of the two machines -/
structure AllR (m x : MachL) (n k : Nat) (Mx : Nat → Nat) : Prop where
  c : Counts x 0 Mx
  le : ∀ q, q < x.states.length → Mx q ≤ 1000000000
  t : tot x Mx = k
  kn : k ≤ n
  k1 : k ≤ 1000000000
  pos : (0 < k) ↔ (0 < n)
  ns : ∀ S, ¬ Stuck x S
theorem all_counts (hs : FwdSmall m) (h4 : m.states.length ≤ 4) (hw : WtC m WW) (h : CertOk m WW x) (hv : Valid x) {M : Nat → Nat} (hC : Counts m 0 M) (hT : tot m M ≤ 625000) : ∃ Mx k, AllR m x (tot m M) k Mx := by
  have hf := fwdG_of hs h4
  obtain ⟨hst, Ss, hI, hl⟩ := h
  have hn : 0 < x.states.length := by have := hv.s1; rw [hst] at this; omega
  have hρ := muI_three hf hI hl
  have hr : ∀ p q, q ∈ tos x p → muI Ss p < muI Ss q := fun p q hq => (made_rank hf hI p q hq).1
  have h0 : muI Ss 0 = 0 := by unfold muI; rw [hI.first, hf.st]; rfl
  obtain ⟨Mx, hMx⟩ := rank_counts (muI Ss) 4 (fun q hq => by have := hρ q hq; omega) hr hn h0
  obtain ⟨Bx, hBx⟩ := rank_behind (muI Ss) 4 (fun q hq => by have := hρ q hq; omega) hr
  obtain ⟨Bm, hBm, -⟩ := fwd_behind hs
  have e1 := tot_behind (by have := hs.n1; omega) hC hBm
  have e2 := tot_behind hn hMx hBx
  have e3 := behind_le hf hI hl hBm hBx _ 0 _ (Nat.lt_succ_self _) hI.first
  rw [hf.st] at e3
  simp only [List.map_cons, List.map_nil, List.sum_cons, List.sum_nil] at e3
  have e3' : Bx 0 ≤ Bm 0 := by simpa using e3
  refine ⟨Mx, tot x Mx, ⟨hMx, fun q hq => by have := counts_le hv (muI Ss) hρ hr hMx q hq; omega, rfl, by omega, by omega, ⟨fun g => by omega, fun g => ?_⟩, rank_stuck (muI Ss) fun p q _ hq => hr p q hq⟩⟩
  obtain ⟨u, v, c, ha⟩ := (show BH m Bm from hBm).pos hf 5 0 (by omega) (by have := hs.n1; omega) (by omega)
  obtain ⟨d, -, hd⟩ := hI.back hl hw ha 0 [(m.start.toNat, 0)] 0 hI.first (by rw [hf.st]; simp)
  have := (show BH x Bx from hBx).pos_of (made_tgt hI hl) hd
  omega
theorem way_accC {m : MachL} (hv : Valid m) {q : Nat} {c : Int} (h : Way (endsFirst m) (endsE m) q c) : ∃ u v, AccW m q u v c := by
  induction h with
  | @start q hq hw =>
    have hq' : q < m.states.length := by simpa [endsFirst] using hq
    refine ⟨[], [], ?_⟩
    have e : (endsFirst m)[q] = m.states[q].final := by simp [endsFirst, gE]
    rw [e] at hw ⊢
    exact AccW.fin (List.getElem?_eq_getElem hq') hw
  | @step p q c' w h he ih =>
    obtain ⟨u, v, ih⟩ := ih
    obtain ⟨p', hp, a, ha, e⟩ := (Ends_mem hv _ _).1 he
    unfold fE at e
    injection e with e1 e2
    injection e2 with e2 e3
    subst e1; subst e2; subst e3
    have g := AccW.arc (List.getElem?_eq_getElem hp) ha ih
    rw [Int.add_comm] at g
    exact ⟨_, _, g⟩
theorem acc_wayC {m : MachL} (hv : Valid m) {q : Nat} {u v : List Int} {c : Int} (h : AccW m q u v c) : Way (endsFirst m) (endsE m) q c := by
  induction h with
  | @fin q s hs hf =>
    obtain ⟨hl, rfl⟩ := List.getElem?_eq_some_iff.1 hs
    exact ends_start hl hf
  | @arc q s a x y c hs ha _ ih =>
    obtain ⟨hl, rfl⟩ := List.getElem?_eq_some_iff.1 hs
    have := ends_step hv (hp := hl) ha ih
    rw [Int.add_comm] at this
    exact this
theorem wtU_small {m : MachL} {W : Int} (h : WtU m W) (hle : W ≤ 1000000) : Small m := fun s hs => by
  refine ⟨?_, fun a ha => by have := h.w s hs a ha; omega⟩
  by_cases hf : s.final = INF
  · exact .inl hf
  · right; have := h.f s hs hf; omega
theorem least_eq (hv : Valid m) (hw : WtC m WW) (hs0 : m.start = 0) (h : CertOk m WW x) (hvx : Valid x) {D D' : Int} (h1 : IsDist (endsFirst m) (endsE m) 0 D) (h2 : IsDist (endsFirst x) (endsE x) 0 D') : D = D' := by
  obtain ⟨hst, Ss, hI, hl⟩ := h
  have k1 : ∀ c, Way (endsFirst x) (endsE x) 0 c → Way (endsFirst m) (endsE m) 0 c := fun c hc => by
    obtain ⟨u, v, ha⟩ := way_accC hvx hc
    obtain ⟨p, hp, c', hc', e⟩ := hI.of ha _ hI.first
    rw [hs0] at hp
    simp only [List.mem_singleton] at hp
    subst hp
    simp only [Int.zero_add] at e
    subst e
    exact acc_wayC hv hc'
  have k2 : ∀ c, Way (endsFirst m) (endsE m) 0 c → ∃ d, d ≤ c ∧ Way (endsFirst x) (endsE x) 0 d := fun c hc => by
    obtain ⟨u, v, ha⟩ := way_accC hv hc
    obtain ⟨d, hd, hx⟩ := hI.back hl hw ha 0 _ 0 hI.first (by rw [hs0]; simp)
    exact ⟨d, by omega, acc_wayC hvx hx⟩
  rcases h1 with ⟨e1, g1⟩ | ⟨-, -, g3, g4⟩
  · rcases h2 with ⟨e2, -⟩ | ⟨-, -, g5, -⟩
    · rw [e1, e2]
    · exact absurd (k1 _ g5) (g1 _)
  · obtain ⟨d, hd, hx⟩ := k2 _ g3
    rcases h2 with ⟨-, g5⟩ | ⟨-, -, g5, g6⟩
    · exact absurd hx (g5 _)
    · have := g6 _ hx; have := g4 _ (k1 _ g5); omega
end
end Go.Proofs.YtkmnacchiagipaaDoor
