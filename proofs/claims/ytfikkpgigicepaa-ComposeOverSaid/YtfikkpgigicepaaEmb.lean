/- A machine that holds a copy of another one (plain); Union's costs. -/
import Derived.Test.YtfikkpgigicepaaAcc
import Derived.Test.YtfikkpgigicepaaCostMade
import Derived.Test.YtfikkpgigicepaaEmbGet
namespace Go.Proofs.Ytfikkpgigicepaa

theorem emb_to {m M : MachL} {d : Nat} (h : Emb m M d) (hv : Valid m) {k : Nat} {x y : List Int} {c : Int} (ha : AccW M k x y c) : ∀ q, k = d + q → q < m.states.length → AccW m q x y c := by
  induction ha with
  | @fin k s hs hf =>
    intro q hk hq
    subst hk
    have := h q _ (List.getElem?_eq_getElem hq)
    rw [hs] at this
    injection this with this
    subst this
    exact AccW.fin (s := m.states[q]) (List.getElem?_eq_getElem hq) hf
  | @arc k s a x y c hs ha _ ih =>
    intro q hk hq
    subst hk
    have := h q _ (List.getElem?_eq_getElem hq)
    rw [hs] at this
    injection this with this
    subst this
    obtain ⟨a0, ha0, rfl⟩ := List.mem_map.1 ha
    have hva := (hv.st _ (List.getElem_mem hq)).2 a0 ha0
    have t0 := hva.t0; have t1 := hva.t1
    exact AccW.arc (a := a0) (List.getElem?_eq_getElem hq) ha0 (ih a0.to.toNat (by simp only [movA]; omega) (by omega))
theorem emb_of {m M : MachL} {d : Nat} (h : Emb m M d) (hv : Valid m) {q : Nat} {x y : List Int} {c : Int} (ha : AccW m q x y c) : AccW M (d + q) x y c := by
  induction ha with
  | @fin q s hs hf => exact AccW.fin (s := movS d s) (h q s hs) hf
  | @arc q s a x y c hs ha _ ih =>
    have hva := (hv.st _ (List.mem_of_getElem? hs)).2 a ha
    have t0 := hva.t0
    have e : (movA d a).to.toNat = d + a.to.toNat := by simp only [movA]; omega
    exact AccW.arc (a := movA d a) (h q s hs) (List.mem_map_of_mem ha) (by rw [e]; exact ih)

section
variable {a b : MachL}
theorem union_little {n k AA : Nat} (ha : Little a n AA) (hb : Little b k AA) (h2 : 2 ≤ AA) : Little (unionM a b) (1 + n + k) AA := by
  refine ⟨by rw [union_len]; have := ha.len; have := hb.len; omega, fun s hs e he => ?_, fun s hs hne => ?_, fun s hs => ?_⟩ <;> rcases union_mem a b hs with rfl | ⟨s0, h0, rfl⟩ | ⟨s0, h0, rfl⟩
  · rcases List.mem_append.1 he with he | he <;> (obtain ⟨_, rfl⟩ := hop_mem he; simp)
  · obtain ⟨a0, h1, rfl⟩ := List.mem_map.1 he; exact ha.wt s0 h0 a0 h1
  · obtain ⟨a0, h1, rfl⟩ := List.mem_map.1 he; exact hb.wt s0 h0 a0 h1
  · exact absurd rfl hne
  · exact ha.fin s0 h0 hne
  · exact hb.fin s0 h0 hne
  · have h1 : ∀ m d, (hopL m d).length ≤ 1 := fun m d => by unfold hopL; split <;> simp
    have := h1 a 1; have := h1 b (1 + a.states.length)
    simp only [List.length_append]; omega
  · simpa [movS] using ha.arcs s0 h0
  · simpa [movS] using hb.arcs s0 h0
theorem union_tot (ha : Valid a) (hb : Valid b) (x y : List Int) (c : Int) : Tot (unionM a b) x y false c ↔ Tot a x y false c ∨ Tot b x y false c := by
  rw [tot_accW, tot_accW, tot_accW]
  have s1 := ha.s1; have s2 := hb.s1
  constructor
  · rintro ⟨_, h⟩
    have h' : AccW (unionM a b) 0 x y c := h
    cases h' with
    | fin hs hf => rw [union_get0] at hs; cases hs; exact absurd rfl hf
    | @arc _ s e x' y' c' hs he hacc =>
      rw [union_get0] at hs; cases hs
      rcases List.mem_append.1 he with he | he
      · obtain ⟨h0, rfl⟩ := hop_mem he
        left
        refine ⟨h0, ?_⟩
        have e1 : (a.start + ((1 : Nat) : Int)).toNat = 1 + a.start.toNat := by omega
        simp only at hacc
        rw [e1] at hacc
        have := emb_to (union_emb1 a b) ha hacc a.start.toNat rfl (by omega)
        simpa [pre] using this
      · obtain ⟨h0, rfl⟩ := hop_mem he
        right
        refine ⟨h0, ?_⟩
        have e1 : (b.start + ((1 + a.states.length : Nat) : Int)).toNat = 1 + a.states.length + b.start.toNat := by omega
        simp only at hacc
        rw [e1] at hacc
        have := emb_to (union_emb2 a b) hb hacc b.start.toNat rfl (by omega)
        simpa [pre] using this
  · rintro (⟨h0, h⟩ | ⟨h0, h⟩)
    · refine ⟨by simp [unionM], ?_⟩
      have h1 := emb_of (union_emb1 a b) ha h
      have e1 : (a.start + ((1 : Nat) : Int)).toNat = 1 + a.start.toNat := by omega
      have := AccW.arc (a := ⟨0, 0, 0, a.start + ((1 : Nat) : Int)⟩) (union_get0 a b) (List.mem_append_left _ (by unfold hopL; rw [if_pos h0]; simp)) (by simp only; rw [e1]; exact h1)
      show AccW (unionM a b) 0 x y c
      simpa [pre] using this
    · refine ⟨by simp [unionM], ?_⟩
      have h1 := emb_of (union_emb2 a b) hb h
      have e1 : (b.start + ((1 + a.states.length : Nat) : Int)).toNat = 1 + a.states.length + b.start.toNat := by omega
      have := AccW.arc (a := ⟨0, 0, 0, b.start + ((1 + a.states.length : Nat) : Int)⟩) (union_get0 a b) (List.mem_append_right _ (by unfold hopL; rw [if_pos h0]; simp)) (by simp only; rw [e1]; exact h1)
      show AccW (unionM a b) 0 x y c
      simpa [pre] using this
end
theorem Best.or {T1 T2 T : Int → Prop} {r1 r2 r : Int} (h1 : Best T1 r1) (h2 : Best T2 r2) (h : Best T r) (e : ∀ c, T c ↔ T1 c ∨ T2 c) : r = min r1 r2 := by
  have hi : INF = 1000000001 := rfl
  refine h.eq ?_
  rcases h1 with ⟨a1, a2⟩ | ⟨a1, a2, a3⟩
  · rcases h2 with ⟨b1, b2⟩ | ⟨b1, b2, b3⟩
    · left
      exact ⟨by omega, fun c hc => by rcases (e c).1 hc with h | h; exact a2 c h; exact b2 c h⟩
    · right
      have : min r1 r2 = r2 := by omega
      rw [this]
      exact ⟨(e _).2 (.inr b1), fun c hc => by rcases (e c).1 hc with h | h; exact absurd h (a2 c); exact b2 c h, b3⟩
  · rcases h2 with ⟨b1, b2⟩ | ⟨b1, b2, b3⟩
    · right
      have : min r1 r2 = r1 := by omega
      rw [this]
      exact ⟨(e _).2 (.inl a1), fun c hc => by rcases (e c).1 hc with h | h; exact a2 c h; exact absurd h (b2 c), a3⟩
    · right
      rcases Int.le_total r1 r2 with hh | hh
      · have : min r1 r2 = r1 := by omega
        rw [this]
        exact ⟨(e _).2 (.inl a1), fun c hc => by rcases (e c).1 hc with h | h; exact a2 c h; have := b2 c h; omega, a3⟩
      · have : min r1 r2 = r2 := by omega
        rw [this]
        exact ⟨(e _).2 (.inr b1), fun c hc => by rcases (e c).1 hc with h | h; have := a2 c h; omega; exact b2 c h, b3⟩
end Go.Proofs.Ytfikkpgigicepaa
