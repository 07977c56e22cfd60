/- A machine that holds a copy of another one (plain); Union's costs. -/
import Derived.Test.YtphoioejhdjbaaaAccW
import Derived.Test.YtphoioejhdjbaaaCostMade
import Derived.Test.YtphoioejhdjbaaaUnion
namespace Go.Proofs.Ytphoioejhdjbaaa

/-- M holds m's states from d on, their arcs moved -/
def Emb (m M : MachL) (d : Nat) : Prop := ∀ q s, m.states[q]? = some s → M.states[d + q]? = some (movS d s)
theorem emb_to {m M : MachL} {d : Nat} (h : Emb m M d) (hv : Valid m) {k : Nat} {x y : List Int} {c : Int} (ha : AccW M k x y c) : ∀ q, k = d + q → q < m.states.length → AccW m q x y c := by
  induction ha with
  | @fin k s hs hf =>
    intro q hk hq
    subst hk
    have := h q _ (List.getElem?_eq_getElem hq)
    rw [hs] at this
    injection this with this
    subst this
    exact AccW.fin (s := m.states[q]) (List.getElem?_eq_getElem hq) hf
  | @arc k s a x y c hs ha _ ih =>
    intro q hk hq
    subst hk
    have := h q _ (List.getElem?_eq_getElem hq)
    rw [hs] at this
    injection this with this
    subst this
    obtain ⟨a0, ha0, rfl⟩ := List.mem_map.1 ha
    have hva := (hv.st _ (List.getElem_mem hq)).2 a0 ha0
    have t0 := hva.t0; have t1 := hva.t1
    exact AccW.arc (a := a0) (List.getElem?_eq_getElem hq) ha0 (ih a0.to.toNat (by simp only [movA]; omega) (by omega))
theorem emb_of {m M : MachL} {d : Nat} (h : Emb m M d) (hv : Valid m) {q : Nat} {x y : List Int} {c : Int} (ha : AccW m q x y c) : AccW M (d + q) x y c := by
  induction ha with
  | @fin q s hs hf => exact AccW.fin (s := movS d s) (h q s hs) hf
  | @arc q s a x y c hs ha _ ih =>
    have hva := (hv.st _ (List.mem_of_getElem? hs)).2 a ha
    have t0 := hva.t0
    have e : (movA d a).to.toNat = d + a.to.toNat := by simp only [movA]; omega
    exact AccW.arc (a := movA d a) (h q s hs) (List.mem_map_of_mem ha) (by rw [e]; exact ih)

def hopL (m : MachL) (d : Nat) : List ArcL := if 0 ≤ m.start then [⟨0, 0, 0, m.start + d⟩] else []
theorem unionStep_get (ss : List StateL) (m : MachL) (h : 0 < ss.length) (i : Nat) : (unionStep ss m)[i]? = if i = 0 then (ss[0]?).map (fun s => ⟨s.final, s.arcs ++ hopL m ss.length⟩) else if i < ss.length then ss[i]? else (m.states[i - ss.length]?).map (movS ss.length) := by
  have base : ∀ i, (ss ++ m.states.map (movS ss.length))[i]? = if i < ss.length then ss[i]? else (m.states[i - ss.length]?).map (movS ss.length) := by
    intro i
    rw [List.getElem?_append]
    split <;> simp
  unfold unionStep hopL
  by_cases hs : 0 ≤ m.start
  · rw [if_pos hs, if_pos hs, addS_eq _ _ (by simp; omega)]
    by_cases hi : i = 0
    · subst hi
      rw [if_pos rfl, List.getElem?_set_self (by simp; omega)]
      rw [List.getElem?_eq_getElem h]
      simp [h]
    · rw [if_neg hi, List.getElem?_set_ne (fun e => hi e.symm), base]
  · rw [if_neg hs, if_neg hs, base]
    by_cases hi : i = 0
    · subst hi
      rw [if_pos h, if_pos rfl, List.getElem?_eq_getElem h]; simp
    · rw [if_neg hi]

section
variable {a b : MachL}
theorem union_len (a b : MachL) : (unionM a b).states.length = 1 + a.states.length + b.states.length := by simp [unionM, unionS, unionStep_len]
theorem union_get0 (a b : MachL) : (unionM a b).states[0]? = some ⟨1000000001, hopL a 1 ++ hopL b (1 + a.states.length)⟩ := by
  show (unionStep (unionStep [⟨1000000001, []⟩] a) b)[0]? = _
  rw [unionStep_get _ _ (by simp [unionStep_len]; omega), if_pos rfl, unionStep_get _ _ (by simp), if_pos rfl, unionStep_len]
  simp
theorem union_get1 (a b : MachL) (q : Nat) (hq : q < a.states.length) : (unionM a b).states[1 + q]? = (a.states[q]?).map (movS 1) := by
  show (unionStep (unionStep [⟨1000000001, []⟩] a) b)[1 + q]? = _
  rw [unionStep_get _ _ (by simp [unionStep_len]; omega), if_neg (by omega), if_pos (by simp [unionStep_len]; omega), unionStep_get _ _ (by simp), if_neg (by omega), if_neg (by simp)]
  simp
theorem union_get2 (a b : MachL) (q : Nat) : (unionM a b).states[1 + a.states.length + q]? = (b.states[q]?).map (movS ((1 + a.states.length : Nat) : Int)) := by
  show (unionStep (unionStep [⟨1000000001, []⟩] a) b)[1 + a.states.length + q]? = _
  rw [unionStep_get _ _ (by simp [unionStep_len]; omega), if_neg (by omega), if_neg (by simp [unionStep_len])]
  rw [unionStep_len]
  simp
theorem union_emb1 (a b : MachL) : Emb a (unionM a b) 1 := fun q s hs => by
  rw [union_get1 a b q (List.getElem?_eq_some_iff.1 hs).1, hs]; rfl
theorem union_emb2 (a b : MachL) : Emb b (unionM a b) (1 + a.states.length) := fun q s hs => by
  rw [union_get2 a b q, hs]; rfl
theorem hop_mem {m : MachL} {d : Nat} {e : ArcL} (h : e ∈ hopL m d) : 0 ≤ m.start ∧ e = ⟨0, 0, 0, m.start + d⟩ := by
  unfold hopL at h
  split at h
  · rename_i h0; simp at h; exact ⟨h0, h⟩
  · cases h
theorem union_mem (a b : MachL) {s : StateL} (h : s ∈ (unionM a b).states) : s = ⟨1000000001, hopL a 1 ++ hopL b (1 + a.states.length)⟩ ∨ (∃ s0 ∈ a.states, s = movS 1 s0) ∨ ∃ s0 ∈ b.states, s = movS ((1 + a.states.length : Nat) : Int) s0 := by
  obtain ⟨i, hi, rfl⟩ := List.getElem_of_mem h
  have hg := List.getElem?_eq_getElem hi
  rw [union_len] at hi
  by_cases h0 : i = 0
  · subst h0
    rw [union_get0] at hg
    exact .inl (Option.some.inj hg).symm
  · by_cases h1 : i < 1 + a.states.length
    · obtain ⟨q, rfl⟩ : ∃ q, i = 1 + q := ⟨i - 1, by omega⟩
      have hq : q < a.states.length := by omega
      rw [union_get1 a b q hq, List.getElem?_eq_getElem hq] at hg
      exact .inr (.inl ⟨_, List.getElem_mem hq, (Option.some.inj hg).symm⟩)
    · obtain ⟨q, rfl⟩ : ∃ q, i = 1 + a.states.length + q := ⟨i - (1 + a.states.length), by omega⟩
      have hq : q < b.states.length := by omega
      rw [union_get2 a b q, List.getElem?_eq_getElem hq] at hg
      exact .inr (.inr ⟨_, List.getElem_mem hq, (Option.some.inj hg).symm⟩)
theorem mov_valid {d n k : Nat} {s : StateL} (hn : d + n ≤ k) (h : ValidFinal s.final ∧ ∀ a ∈ s.arcs, ValidArc n a) : ValidFinal (movS d s).final ∧ ∀ a ∈ (movS d s).arcs, ValidArc k a := by
  refine ⟨h.1, fun a ha => ?_⟩
  obtain ⟨a0, h0, rfl⟩ := List.mem_map.1 ha
  have v := h.2 a0 h0
  exact ⟨v.i0, v.i1, v.o0, v.o1, v.w0, v.w1, by have := v.t0; simp only [movA]; omega, by have := v.t1; simp only [movA]; omega⟩
theorem arcsOf_append (l l' : List StateL) : arcsOf (l ++ l') = arcsOf l + arcsOf l' := by simp [arcsOf]
theorem arcsOf_mov (l : List StateL) (d : Int) : arcsOf (l.map (movS d)) = arcsOf l := by
  unfold arcsOf
  rw [List.map_map]
  congr 1
  apply List.map_congr_left
  intro s _
  simp [movS]
theorem arcsOf_addS (ss : List StateL) (x : Nat × ArcL) (h : x.1 < ss.length) : arcsOf (addS ss x) = arcsOf ss + 1 := by
  have := addSs_arcs [x] ss (by simpa using h)
  simpa [addSs] using this
theorem unionStep_arcs (ss : List StateL) (m : MachL) (h : 0 < ss.length) : arcsOf (unionStep ss m) ≤ arcsOf ss + arcsOf m.states + 1 := by
  unfold unionStep
  split
  · rw [arcsOf_addS _ _ (by simp; omega), arcsOf_append, arcsOf_mov]; omega
  · rw [arcsOf_append, arcsOf_mov]; omega
theorem union_valid (ha : Valid a) (hb : Valid b) (hn : 1 + a.states.length + b.states.length ≤ 60) (hc : arcsOf a.states + arcsOf b.states + 2 ≤ 400) : Valid (unionM a b) := by
  refine ⟨by rw [union_len]; exact hn, ?_, by simp [unionM], by rw [union_len]; simp [unionM]; omega, fun s hs => ?_⟩
  · show arcsOf (unionStep (unionStep [⟨1000000001, []⟩] a) b) ≤ 400
    have h1 := unionStep_arcs (unionStep [⟨1000000001, []⟩] a) b (by simp [unionStep_len]; omega)
    have h2 := unionStep_arcs [⟨1000000001, []⟩] a (by simp)
    have h3 : arcsOf [(⟨1000000001, []⟩ : StateL)] = 0 := rfl
    omega
  · rw [union_len]
    rcases union_mem a b hs with rfl | ⟨s0, h0, rfl⟩ | ⟨s0, h0, rfl⟩
    · refine ⟨.inr rfl, fun e he => ?_⟩
      have s1 := ha.s1; have s2 := hb.s1
      rcases List.mem_append.1 he with he | he
      · obtain ⟨h0, rfl⟩ := hop_mem he
        exact ⟨by simp, by simp, by simp, by simp, by simp, by simp, by simp only; omega, by simp only; omega⟩
      · obtain ⟨h0, rfl⟩ := hop_mem he
        exact ⟨by simp, by simp, by simp, by simp, by simp, by simp, by simp only; omega, by simp only; omega⟩
    · exact mov_valid (d := 1) (by omega) (ha.st s0 h0)
    · exact mov_valid (by omega) (hb.st s0 h0)
theorem union_little {n k AA : Nat} (ha : Little a n AA) (hb : Little b k AA) (h2 : 2 ≤ AA) : Little (unionM a b) (1 + n + k) AA := by
  refine ⟨by rw [union_len]; have := ha.len; have := hb.len; omega, fun s hs e he => ?_, fun s hs hne => ?_, fun s hs => ?_⟩ <;> rcases union_mem a b hs with rfl | ⟨s0, h0, rfl⟩ | ⟨s0, h0, rfl⟩
  · rcases List.mem_append.1 he with he | he <;> (obtain ⟨_, rfl⟩ := hop_mem he; simp)
  · obtain ⟨a0, h1, rfl⟩ := List.mem_map.1 he; exact ha.wt s0 h0 a0 h1
  · obtain ⟨a0, h1, rfl⟩ := List.mem_map.1 he; exact hb.wt s0 h0 a0 h1
  · exact absurd rfl hne
  · exact ha.fin s0 h0 hne
  · exact hb.fin s0 h0 hne
  · have h1 : ∀ m d, (hopL m d).length ≤ 1 := fun m d => by unfold hopL; split <;> simp
    have := h1 a 1; have := h1 b (1 + a.states.length)
    simp only [List.length_append]; omega
  · simpa [movS] using ha.arcs s0 h0
  · simpa [movS] using hb.arcs s0 h0
theorem union_tot (ha : Valid a) (hb : Valid b) (x y : List Int) (c : Int) : Tot (unionM a b) x y false c ↔ Tot a x y false c ∨ Tot b x y false c := by
  rw [tot_accW, tot_accW, tot_accW]
  have s1 := ha.s1; have s2 := hb.s1
  constructor
  · rintro ⟨_, h⟩
    have h' : AccW (unionM a b) 0 x y c := h
    cases h' with
    | fin hs hf => rw [union_get0] at hs; cases hs; exact absurd rfl hf
    | @arc _ s e x' y' c' hs he hacc =>
      rw [union_get0] at hs; cases hs
      rcases List.mem_append.1 he with he | he
      · obtain ⟨h0, rfl⟩ := hop_mem he
        left
        refine ⟨h0, ?_⟩
        have e1 : (a.start + ((1 : Nat) : Int)).toNat = 1 + a.start.toNat := by omega
        simp only at hacc
        rw [e1] at hacc
        have := emb_to (union_emb1 a b) ha hacc a.start.toNat rfl (by omega)
        simpa [pre] using this
      · obtain ⟨h0, rfl⟩ := hop_mem he
        right
        refine ⟨h0, ?_⟩
        have e1 : (b.start + ((1 + a.states.length : Nat) : Int)).toNat = 1 + a.states.length + b.start.toNat := by omega
        simp only at hacc
        rw [e1] at hacc
        have := emb_to (union_emb2 a b) hb hacc b.start.toNat rfl (by omega)
        simpa [pre] using this
  · rintro (⟨h0, h⟩ | ⟨h0, h⟩)
    · refine ⟨by simp [unionM], ?_⟩
      have h1 := emb_of (union_emb1 a b) ha h
      have e1 : (a.start + ((1 : Nat) : Int)).toNat = 1 + a.start.toNat := by omega
      have := AccW.arc (a := ⟨0, 0, 0, a.start + ((1 : Nat) : Int)⟩) (union_get0 a b) (List.mem_append_left _ (by unfold hopL; rw [if_pos h0]; simp)) (by simp only; rw [e1]; exact h1)
      show AccW (unionM a b) 0 x y c
      simpa [pre] using this
    · refine ⟨by simp [unionM], ?_⟩
      have h1 := emb_of (union_emb2 a b) hb h
      have e1 : (b.start + ((1 + a.states.length : Nat) : Int)).toNat = 1 + a.states.length + b.start.toNat := by omega
      have := AccW.arc (a := ⟨0, 0, 0, b.start + ((1 + a.states.length : Nat) : Int)⟩) (union_get0 a b) (List.mem_append_right _ (by unfold hopL; rw [if_pos h0]; simp)) (by simp only; rw [e1]; exact h1)
      show AccW (unionM a b) 0 x y c
      simpa [pre] using this
end
theorem Best.or {T1 T2 T : Int → Prop} {r1 r2 r : Int} (h1 : Best T1 r1) (h2 : Best T2 r2) (h : Best T r) (e : ∀ c, T c ↔ T1 c ∨ T2 c) : r = min r1 r2 := by
  have hi : INF = 1000000001 := rfl
  refine h.eq ?_
  rcases h1 with ⟨a1, a2⟩ | ⟨a1, a2, a3⟩
  · rcases h2 with ⟨b1, b2⟩ | ⟨b1, b2, b3⟩
    · left
      exact ⟨by omega, fun c hc => by rcases (e c).1 hc with h | h; exact a2 c h; exact b2 c h⟩
    · right
      have : min r1 r2 = r2 := by omega
      rw [this]
      exact ⟨(e _).2 (.inr b1), fun c hc => by rcases (e c).1 hc with h | h; exact absurd h (a2 c); exact b2 c h, b3⟩
  · rcases h2 with ⟨b1, b2⟩ | ⟨b1, b2, b3⟩
    · right
      have : min r1 r2 = r1 := by omega
      rw [this]
      exact ⟨(e _).2 (.inl a1), fun c hc => by rcases (e c).1 hc with h | h; exact a2 c h; exact absurd h (b2 c), a3⟩
    · right
      rcases Int.le_total r1 r2 with hh | hh
      · have : min r1 r2 = r1 := by omega
        rw [this]
        exact ⟨(e _).2 (.inl a1), fun c hc => by rcases (e c).1 hc with h | h; exact a2 c h; have := b2 c h; omega, a3⟩
      · have : min r1 r2 = r2 := by omega
        rw [this]
        exact ⟨(e _).2 (.inr b1), fun c hc => by rcases (e c).1 hc with h | h; have := a2 c h; omega; exact b2 c h, b3⟩
end Go.Proofs.Ytphoioejhdjbaaa
