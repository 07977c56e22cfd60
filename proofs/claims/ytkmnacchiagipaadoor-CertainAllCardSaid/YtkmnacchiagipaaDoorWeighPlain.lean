/- weigh.least (plain): the cheapest way of two words through a machine. -/
import Derived.Test.YtkmnacchiagipaaDoorWeighBase
import Derived.Test.YtkmnacchiagipaaDoorCheck
import Derived.Test.YtkmnacchiagipaaDoorMaps
import Derived.Test.YtkmnacchiagipaaDoorWQueue
namespace Go.Proofs.YtkmnacchiagipaaDoor
open Go.RowKit

abbrev Pl := Nat × Nat × Nat
abbrev ItemL.at' (x : ItemL) : Pl := (x.st, x.rd, x.wr)
abbrev INF : Int := 1000000001
def stepAt (p : Nat) (lab : Int) : Nat := if lab = 0 then p else p + 1
def stepOk (xs : List Int) (p : Nat) (lab : Int) : Bool := if lab = 0 then true else hitB xs p lab
def arcsP (m : MachL) (p : Pl) : List ArcL := ((m.states[p.1]?).map (·.arcs)).getD []
def finalP (m : MachL) (p : Pl) : Int := ((m.states[p.1]?).map (·.final)).getD INF
/-- where an arc leads from a place -/
def nextP (x y : List Int) (any : Bool) (p : Pl) (a : ArcL) : Option Pl :=
  if (stepOk x p.2.1 a.inn && (any || stepOk y p.2.2 a.out)) = true then some (a.to.toNat, stepAt p.2.1 a.inn, if any = true then p.2.2 else stepAt p.2.2 a.out) else none
def endsP (x y : List Int) (any : Bool) (p : Pl) : Bool := p.2.1 == x.length && (any || p.2.2 == y.length)

/-- what ways to a place cost -/
inductive RW (m : MachL) (x y : List Int) (any : Bool) : Pl → Int → Prop
  | start : 0 ≤ m.start → RW m x y any (m.start.toNat, 0, 0) 0
  | step {p : Pl} {c : Int} {a : ArcL} {q : Pl} : RW m x y any p c → a ∈ arcsP m p → nextP x y any p a = some q → RW m x y any q (c + a.wt)
/-- what whole ways cost -/
def Tot (m : MachL) (x y : List Int) (any : Bool) (c : Int) : Prop := ∃ p d, RW m x y any p d ∧ endsP x y any p = true ∧ finalP m p ≠ INF ∧ c = d + finalP m p
/-- v, e: what is answered where T are the costs -/
def LeastOf (T : Int → Prop) (v e : Int) : Prop := (v = INF ∧ e = 0 ∧ ∀ c, ¬ T c) ∨ ∃ b, T b ∧ (∀ c, T c → b ≤ c) ∧ ((b ≤ 1000000000 ∧ v = b ∧ e = 0) ∨ (1000000000 < b ∧ v = 0 ∧ e = 4))
theorem LeastOf.eq {T : Int → Prop} {v e v' e' : Int} (h : LeastOf T v e) (h' : LeastOf T v' e') : v = v' ∧ e = e' := by
  rcases h with ⟨h1, h2, h3⟩ | ⟨b, h1, h2, h3⟩
  · rcases h' with ⟨k1, k2, k3⟩ | ⟨b', k1, k2, k3⟩
    · exact ⟨h1.trans k1.symm, h2.trans k2.symm⟩
    · exact absurd k1 (h3 _)
  · rcases h' with ⟨k1, k2, k3⟩ | ⟨b', k1, k2, k3⟩
    · exact absurd h1 (k3 _)
    · have h4 := h2 _ k1; have h5 := k2 _ h1
      have : b = b' := by omega
      subst this
      omega

theorem stepAt_le {xs : List Int} {p : Nat} {lab : Int} (h : stepOk xs p lab = true) (hp : p ≤ xs.length) : stepAt p lab ≤ xs.length := by
  unfold stepOk at h; unfold stepAt
  split
  · exact hp
  · rename_i hl
    rw [if_neg hl] at h
    simp only [hitB, decide_eq_true_eq] at h
    exact (List.getElem?_eq_some_iff.1 h).1
theorem arcsP_mem {m : MachL} {p : Pl} {a : ArcL} (h : a ∈ arcsP m p) : ∃ s, m.states[p.1]? = some s ∧ s ∈ m.states ∧ a ∈ s.arcs := by
  unfold arcsP at h
  cases hs : m.states[p.1]? with
  | none => rw [hs] at h; simp at h
  | some s => rw [hs] at h; exact ⟨s, rfl, List.mem_of_getElem? hs, h⟩
/-- a place is one of the machine's and the words' -/
def Rng (n lx ly : Nat) (p : Pl) : Prop := p.1 < n ∧ p.2.1 ≤ lx ∧ p.2.2 ≤ ly
theorem nextP_rng {m : MachL} (hv : Valid m) {x y : List Int} {any : Bool} {p q : Pl} {a : ArcL} (hp : Rng m.states.length x.length y.length p) (ha : a ∈ arcsP m p) (hn : nextP x y any p a = some q) : Rng m.states.length x.length y.length q := by
  obtain ⟨s, -, hs, has⟩ := arcsP_mem ha
  have h2 := (hv.st s hs).2 a has
  have h3 := h2.t0; have h4 := h2.t1
  unfold nextP at hn
  split at hn
  · rename_i h
    cases hn
    simp only [Bool.and_eq_true, Bool.or_eq_true] at h
    refine ⟨by simp only; omega, stepAt_le h.1 hp.2.1, ?_⟩
    split
    · exact hp.2.2
    · rename_i hany
      rcases h.2 with h | h
      · exact absurd h hany
      · exact stepAt_le h hp.2.2
  · cases hn
theorem RW.rng {m : MachL} (hv : Valid m) {x y : List Int} {any : Bool} {p : Pl} {c : Int} (h : RW m x y any p c) : Rng m.states.length x.length y.length p := by
  induction h with
  | start h0 => exact ⟨by have := hv.s1; simp only; omega, Nat.zero_le _, Nat.zero_le _⟩
  | step _ ha hn ih => exact nextP_rng hv ih ha hn
theorem RW.nonneg {m : MachL} (hv : Valid m) {x y : List Int} {any : Bool} {p : Pl} {c : Int} (h : RW m x y any p c) : 0 ≤ c := by
  induction h with
  | start h0 => exact Int.le_refl _
  | step _ ha hn ih =>
    obtain ⟨s, -, hs, has⟩ := arcsP_mem ha
    have := ((hv.st s hs).2 _ has).w0
    omega

/-- a place is done, or waits, for no more than c -/
def Cov (D : List (Pl × Int)) (l : List ItemL) (q : Pl) (c : Int) : Prop := (∃ d, (q, d) ∈ D ∧ d ≤ c) ∨ ∃ it ∈ l, it.at' = q ∧ it.cost ≤ c
/-- what holds while arcs of place p0 are still to be looked at -/
structure WInv (m : MachL) (x y : List Int) (any : Bool) (W : Int) (D : List (Pl × Int)) (l : List ItemL) (best : Int) (p0 : Pl) (pend : List ArcL) : Prop where
  nd : (D.map (·.1)).Nodup
  doneR : ∀ p d, (p, d) ∈ D → RW m x y any p d
  itemR : ∀ it ∈ l, RW m x y any it.at' it.cost
  start : 0 ≤ m.start → Cov D l (m.start.toNat, 0, 0) 0
  closed : ∀ p d, (p, d) ∈ D → ∀ a ∈ arcsP m p, ∀ q, nextP x y any p a = some q → Cov D l q (d + a.wt) ∨ (p = p0 ∧ a ∈ pend)
  order : ∀ it ∈ l, ∀ p d, (p, d) ∈ D → d ≤ it.cost
  bst : (best = -1 ∧ ∀ p d, (p, d) ∈ D → endsP x y any p = true → finalP m p = INF) ∨ ((∃ p d, (p, d) ∈ D ∧ endsP x y any p = true ∧ finalP m p ≠ INF ∧ best = d + finalP m p) ∧ ∀ p d, (p, d) ∈ D → endsP x y any p = true → finalP m p ≠ INF → best ≤ d + finalP m p)
  itemB : ∀ it ∈ l, it.cost ≤ D.length * W
  doneB : ∀ p d, (p, d) ∈ D → d ≤ D.length * W

section
variable {m : MachL} {x y : List Int} {any : Bool} {W : Int} {D : List (Pl × Int)} {l l' : List ItemL} {best : Int} {p0 : Pl} {pend : List ArcL}
theorem Cov.mono {q : Pl} {c c' : Int} (h : Cov D l q c) (hc : c ≤ c') : Cov D l q c' :=
  h.imp (fun ⟨d, h1, h2⟩ => ⟨d, h1, by omega⟩) (fun ⟨it, h1, h2, h3⟩ => ⟨it, h1, h2, by omega⟩)
theorem WInv.perm (h : WInv m x y any W D l best p0 pend) (hp : l'.Perm l) : WInv m x y any W D l' best p0 pend :=
  have hc : ∀ q c, Cov D l q c → Cov D l' q c := fun _ _ h => h.imp id (fun ⟨it, h1, h2⟩ => ⟨it, hp.mem_iff.2 h1, h2⟩)
  ⟨h.nd, h.doneR, fun it hi => h.itemR it (hp.mem_iff.1 hi), fun h0 => hc _ _ (h.start h0), fun p d hd a ha q hq => (h.closed p d hd a ha q hq).imp (hc _ _) id,
    fun it hi => h.order it (hp.mem_iff.1 hi), h.bst, fun it hi => h.itemB it (hp.mem_iff.1 hi), h.doneB⟩
/-- what is taken from the heap had been done -/
theorem WInv.seen {it : ItemL} (h : WInv m x y any W D (it :: l) best p0 pend) {d : Int} (hd : (it.at', d) ∈ D) : WInv m x y any W D l best p0 pend :=
  have hc : ∀ q c, Cov D (it :: l) q c → Cov D l q c := fun q c hh => by
    rcases hh with hh | ⟨i, h1, h2, h3⟩
    · exact .inl hh
    · rcases List.mem_cons.1 h1 with rfl | h1
      · subst h2
        exact .inl ⟨d, hd, by have := h.order i (by simp) _ _ hd; omega⟩
      · exact .inr ⟨i, h1, h2, h3⟩
  ⟨h.nd, h.doneR, fun it hi => h.itemR it (List.mem_cons_of_mem _ hi), fun h0 => hc _ _ (h.start h0), fun p d hd a ha q hq => (h.closed p d hd a ha q hq).imp (hc _ _) id,
    fun it hi => h.order it (List.mem_cons_of_mem _ hi), h.bst, fun it hi => h.itemB it (List.mem_cons_of_mem _ hi), h.doneB⟩
/-- the best after a place is done -/
def best' (m : MachL) (x y : List Int) (any : Bool) (best : Int) (p : Pl) (c : Int) : Int := if endsP x y any p = true ∧ finalP m p ≠ INF ∧ (best < 0 ∨ c + finalP m p < best) then c + finalP m p else best
/-- it had not -/
theorem WInv.new (hv : Valid m) {it : ItemL} (hW : 0 ≤ W) (h : WInv m x y any W D (it :: l) best p0 []) (hmin : ∀ j ∈ l, it.cost ≤ j.cost) (hd : it.at' ∉ D.map (·.1)) :
    WInv m x y any W (D ++ [(it.at', it.cost)]) l (best' m x y any best it.at' it.cost) it.at' (arcsP m it.at') := by
  have hlen : (((D ++ [(it.at', it.cost)]).length : Nat) : Int) * W = D.length * W + W := by
    rw [List.length_append]; simp; rw [Int.add_mul]; omega
  have hc : ∀ q c, Cov D (it :: l) q c → Cov (D ++ [(it.at', it.cost)]) l q c := fun q c hh => by
    rcases hh with ⟨d, h1, h2⟩ | ⟨i, h1, h2, h3⟩
    · exact .inl ⟨d, List.mem_append_left _ h1, h2⟩
    · rcases List.mem_cons.1 h1 with rfl | h1
      · subst h2
        exact .inl ⟨_, by simp, h3⟩
      · exact .inr ⟨i, h1, h2, h3⟩
  have hR := h.itemR it (by simp)
  have hitb := h.itemB it (by simp)
  refine ⟨?_, fun p d hm => ?_, fun j hj => h.itemR j (List.mem_cons_of_mem _ hj), fun h0 => hc _ _ (h.start h0), fun p d hm a ha q hq => ?_, fun j hj p d hm => ?_, ?_, fun j hj => ?_, fun p d hm => ?_⟩
  · rw [List.map_append]
    refine List.nodup_append.2 ⟨h.nd, by simp, fun a ha b hb e => ?_⟩
    simp at hb; subst hb; subst e; exact hd ha
  · rcases List.mem_append.1 hm with hm | hm
    · exact h.doneR p d hm
    · simp at hm; obtain ⟨rfl, rfl⟩ := hm; exact hR
  · rcases List.mem_append.1 hm with hm | hm
    · rcases h.closed p d hm a ha q hq with h1 | ⟨_, h1⟩
      · exact .inl (hc _ _ h1)
      · cases h1
    · simp at hm; obtain ⟨rfl, rfl⟩ := hm; exact .inr ⟨rfl, ha⟩
  · rcases List.mem_append.1 hm with hm | hm
    · exact h.order j (List.mem_cons_of_mem _ hj) p d hm
    · simp at hm; obtain ⟨rfl, rfl⟩ := hm; exact hmin j hj
  · unfold best'
    have hf0 : finalP m it.at' ≠ INF → 0 ≤ finalP m it.at' := fun hne => by
      unfold finalP at *
      cases hs : m.states[it.at'.1]? with
      | none => rw [hs] at hne; exact absurd rfl hne
      | some s =>
        rw [hs] at hne
        have := (hv.st s (List.mem_of_getElem? hs)).1
        unfold ValidFinal at this
        simp only [Option.map_some, Option.getD_some] at hne ⊢
        omega
    have hc0 := hR.nonneg hv
    split
    · rename_i hh
      obtain ⟨he, hf, hb⟩ := hh
      right
      refine ⟨⟨_, _, by simp, he, hf, rfl⟩, fun p d hm hpe hpf => ?_⟩
      rcases List.mem_append.1 hm with hm | hm
      · rcases h.bst with ⟨h1, h2⟩ | ⟨⟨p1, d1, h1, h2, h3, h4⟩, h5⟩
        · exact absurd (h2 p d hm hpe) hpf
        · have h6 := h5 p d hm hpe hpf
          rcases hb with hb | hb
          · exfalso
            have := (h.doneR p1 d1 h1).nonneg hv
            have hf1 : 0 ≤ finalP m p1 := by
              unfold finalP at *
              cases hs : m.states[p1.1]? with
              | none => rw [hs] at h3; exact absurd rfl h3
              | some s =>
                rw [hs] at h3
                have := (hv.st s (List.mem_of_getElem? hs)).1
                unfold ValidFinal at this
                simp only [Option.map_some, Option.getD_some] at h3 ⊢
                omega
            omega
          · omega
      · simp at hm; obtain ⟨rfl, rfl⟩ := hm; exact Int.le_refl _
    · rename_i hh
      rcases h.bst with ⟨h1, h2⟩ | ⟨⟨p1, d1, h1, h2, h3, h4⟩, h5⟩
      · left
        refine ⟨h1, fun p d hm hpe => ?_⟩
        rcases List.mem_append.1 hm with hm | hm
        · exact h2 p d hm hpe
        · simp at hm; obtain ⟨rfl, rfl⟩ := hm
          apply Classical.byContradiction
          intro hne
          exact hh ⟨hpe, hne, .inl (by omega)⟩
      · right
        refine ⟨⟨p1, d1, List.mem_append_left _ h1, h2, h3, h4⟩, fun p d hm hpe hpf => ?_⟩
        rcases List.mem_append.1 hm with hm | hm
        · exact h5 p d hm hpe hpf
        · simp at hm; obtain ⟨rfl, rfl⟩ := hm
          apply Classical.byContradiction
          intro hne
          exact hh ⟨hpe, hpf, .inr (by omega)⟩
  · have := h.itemB j (List.mem_cons_of_mem _ hj)
    rw [hlen]; omega
  · rw [hlen]
    rcases List.mem_append.1 hm with hm | hm
    · have := h.doneB p d hm; omega
    · simp at hm; obtain ⟨rfl, rfl⟩ := hm; omega
/-- an arc that leads on -/
theorem WInv.push {a : ArcL} {d0 : Int} {q : Pl} (h : WInv m x y any W D l best p0 (a :: pend)) (ha : a ∈ arcsP m p0) (hp0 : (p0, d0) ∈ D) (hmax : ∀ p d, (p, d) ∈ D → d ≤ d0) (h1 : d0 + W ≤ D.length * W) (hw0 : 0 ≤ a.wt) (hwW : a.wt ≤ W) (hq : nextP x y any p0 a = some q) (it : ItemL) (hit : it.at' = q) (hic : it.cost = d0 + a.wt) :
    WInv m x y any W D (l ++ [it]) best p0 pend := by
  have hc : ∀ q c, Cov D l q c → Cov D (l ++ [it]) q c := fun q c h => h.imp id (fun ⟨i, h1, h2⟩ => ⟨i, List.mem_append_left _ h1, h2⟩)
  have hR : RW m x y any it.at' it.cost := by rw [hit, hic]; exact (h.doneR _ _ hp0).step ha hq
  refine ⟨h.nd, h.doneR, fun j hj => ?_, fun h0 => hc _ _ (h.start h0), fun p d hm b hb r hr => ?_, fun j hj p d hm => ?_, h.bst, fun j hj => ?_, h.doneB⟩
  · rcases List.mem_append.1 hj with hj | hj
    · exact h.itemR j hj
    · simp at hj; subst hj; exact hR
  · rcases h.closed p d hm b hb r hr with h2 | ⟨h2, h3⟩
    · exact .inl (hc _ _ h2)
    · rcases List.mem_cons.1 h3 with rfl | h3
      · left
        subst h2
        rw [hq] at hr; cases hr
        have hdd : d = d0 := by
          have := h.nd
          have key : ∀ (D : List (Pl × Int)), (D.map (·.1)).Nodup → (p, d) ∈ D → (p, d0) ∈ D → d = d0 := by
            intro D
            induction D with
            | nil => intro _ h; cases h
            | cons e D ih =>
              intro hn h1 h2
              simp only [List.map_cons, List.nodup_cons] at hn
              rcases List.mem_cons.1 h1 with h1 | h1
              · rcases List.mem_cons.1 h2 with h2 | h2
                · rw [← h1] at h2; cases h2; rfl
                · exact absurd (List.mem_map_of_mem (f := (·.1)) h2) (by rw [← h1] at hn; exact hn.1)
              · rcases List.mem_cons.1 h2 with h2 | h2
                · exact absurd (List.mem_map_of_mem (f := (·.1)) h1) (by rw [← h2] at hn; exact hn.1)
                · exact ih hn.2 h1 h2
          exact key D h.nd hm hp0
        exact .inr ⟨it, by simp, hit, by rw [hic, hdd]; exact Int.le_refl _⟩
      · exact .inr ⟨h2, h3⟩
  · rcases List.mem_append.1 hj with hj | hj
    · exact h.order j hj p d hm
    · simp at hj; subst hj; have := hmax p d hm; omega
  · rcases List.mem_append.1 hj with hj | hj
    · exact h.itemB j hj
    · simp at hj; subst hj; omega
/-- one that leads nowhere -/
theorem WInv.skip {a : ArcL} (h : WInv m x y any W D l best p0 (a :: pend)) (hq : nextP x y any p0 a = none) : WInv m x y any W D l best p0 pend :=
  ⟨h.nd, h.doneR, h.itemR, h.start, fun p d hm b hb r hr => by
    rcases h.closed p d hm b hb r hr with h2 | ⟨h2, h3⟩
    · exact .inl h2
    · rcases List.mem_cons.1 h3 with rfl | h3
      · subst h2; rw [hq] at hr; cases hr
      · exact .inr ⟨h2, h3⟩, h.order, h.bst, h.itemB, h.doneB⟩
theorem WInv.done (h : WInv m x y any W D [] best p0 []) : (best = -1 ∧ ∀ c, ¬ Tot m x y any c) ∨ (Tot m x y any best ∧ ∀ c, Tot m x y any c → best ≤ c) := by
  have all : ∀ p c, RW m x y any p c → ∃ d, (p, d) ∈ D ∧ d ≤ c := by
    intro p c hr
    induction hr with
    | start h0 =>
      rcases h.start h0 with hh | ⟨_, hh, _⟩
      · exact hh
      · cases hh
    | step _ ha hn ih =>
      obtain ⟨d, h1, h2⟩ := ih
      rcases h.closed _ d h1 _ ha _ hn with (⟨d', h3, h4⟩ | ⟨_, hh, _⟩) | ⟨_, hh⟩
      · exact ⟨d', h3, by omega⟩
      · cases hh
      · cases hh
  rcases h.bst with ⟨h1, h2⟩ | ⟨⟨p1, d1, h1, h2, h3, h4⟩, h5⟩
  · left
    refine ⟨h1, ?_⟩
    rintro c ⟨p, d, hr, he, hf, rfl⟩
    obtain ⟨d', h3, _⟩ := all p d hr
    exact hf (h2 p d' h3 he)
  · right
    refine ⟨⟨p1, d1, h.doneR _ _ h1, h2, h3, h4⟩, ?_⟩
    rintro c ⟨p, d, hr, he, hf, rfl⟩
    obtain ⟨d', h6, h7⟩ := all p d hr
    have := h5 p d' h6 he hf
    omega
theorem WInv.init (h0 : 0 ≤ m.start) (p0 : Pl) : WInv m x y any W [] [⟨m.start.toNat, 0, 0, 0⟩] (-1) p0 [] :=
  { nd := by simp
    doneR := fun p d hh => (by cases hh)
    itemR := fun it hi => (by simp at hi; subst hi; exact .start h0)
    start := fun _ => .inr ⟨_, List.mem_singleton.2 rfl, rfl, Int.le_refl _⟩
    closed := fun p d hh => (by cases hh)
    order := fun it _ p d hh => (by cases hh)
    bst := .inl ⟨rfl, fun p d hh => (by cases hh)⟩
    itemB := fun it hi => (by simp at hi; subst hi; simp)
    doneB := fun p d hh => (by cases hh) }
end

theorem nodup_lt (n : Nat) : ∀ (l : List Nat), l.Nodup → (∀ x ∈ l, x < n) → l.length ≤ n := by
  induction n with
  | zero =>
    intro l _ h
    cases l with
    | nil => simp
    | cons a l => exact absurd (h a (by simp)) (by omega)
  | succ n ih =>
    intro l hd h
    by_cases hn : n ∈ l
    · have h1 := List.length_erase_of_mem hn
      have h2 := ih (l.erase n) (hd.erase n) (fun x hx => by
        have h3 := (hd.mem_erase_iff).1 hx
        have := h x h3.2
        have := h3.1
        omega)
      have := List.length_pos_of_mem hn
      omega
    · have := ih l hd (fun x hx => by
        have := h x hx
        have : x ≠ n := fun e => hn (e ▸ hx)
        omega)
      omega
def plN (lx ly : Nat) (p : Pl) : Nat := (p.1 * (lx + 1) + p.2.1) * (ly + 1) + p.2.2
theorem plN_inj {lx ly n : Nat} {p q : Pl} (hp : Rng n lx ly p) (hq : Rng n lx ly q) (h : plN lx ly p = plN lx ly q) : p = q := by
  obtain ⟨a, b, c⟩ := p; obtain ⟨a', b', c'⟩ := q
  obtain ⟨_, hb, hc⟩ := hp; obtain ⟨_, hb', hc'⟩ := hq
  unfold plN at h
  simp only at *
  have key : ∀ (u v i j k : Nat), i < k → j < k → u * k + i = v * k + j → u = v ∧ i = j := by
    intro u v i j k hi hj e
    have h1 : (u * k + i) / k = u := by rw [Nat.mul_comm, Nat.mul_add_div (by omega), Nat.div_eq_of_lt hi]; rfl
    have h2 : (v * k + j) / k = v := by rw [Nat.mul_comm, Nat.mul_add_div (by omega), Nat.div_eq_of_lt hj]; rfl
    rw [e, h2] at h1
    subst h1
    exact ⟨rfl, by omega⟩
  obtain ⟨e1, rfl⟩ := key _ _ _ _ _ (show c < ly + 1 by omega) (show c' < ly + 1 by omega) h
  obtain ⟨rfl, rfl⟩ := key _ _ _ _ _ (show b < lx + 1 by omega) (show b' < lx + 1 by omega) e1
  rfl
theorem plN_lt {lx ly n : Nat} {p : Pl} (hp : Rng n lx ly p) : plN lx ly p < n * (lx + 1) * (ly + 1) := by
  obtain ⟨h1, h2, h3⟩ := hp
  unfold plN
  have a1 : p.1 * (lx + 1) + p.2.1 + 1 ≤ n * (lx + 1) := by
    have : (p.1 + 1) * (lx + 1) ≤ n * (lx + 1) := Nat.mul_le_mul_right _ h1
    rw [Nat.add_mul] at this; omega
  have a2 : (p.1 * (lx + 1) + p.2.1 + 1) * (ly + 1) ≤ n * (lx + 1) * (ly + 1) := Nat.mul_le_mul_right _ a1
  rw [Nat.add_mul] at a2; omega
theorem places_le {lx ly n : Nat} (D : List (Pl × Int)) (hn : (D.map (·.1)).Nodup) (hr : ∀ p d, (p, d) ∈ D → Rng n lx ly p) : D.length ≤ n * (lx + 1) * (ly + 1) := by
  have h := nodup_lt (n * (lx + 1) * (ly + 1)) ((D.map (·.1)).map (plN lx ly)) ?_ ?_
  · simpa using h
  · rw [List.nodup_iff_pairwise_ne, List.pairwise_map]
    refine List.Pairwise.imp_of_mem ?_ (List.nodup_iff_pairwise_ne.1 hn)
    intro a b ha hb hne e
    obtain ⟨⟨a, d⟩, ha', rfl⟩ := List.mem_map.1 ha
    obtain ⟨⟨b, d'⟩, hb', rfl⟩ := List.mem_map.1 hb
    exact hne (plN_inj (hr _ _ ha') (hr _ _ hb') e)
  · intro k hk
    obtain ⟨p, hp, rfl⟩ := List.mem_map.1 hk
    obtain ⟨⟨p, d⟩, hp', rfl⟩ := List.mem_map.1 hp
    exact plN_lt (hr _ _ hp')
end Go.Proofs.YtkmnacchiagipaaDoor
