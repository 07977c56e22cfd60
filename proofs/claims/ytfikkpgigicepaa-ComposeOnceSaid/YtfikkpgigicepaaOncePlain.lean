/- compose.Compose of two ways (plain): a composed way is the only one. -/
/- A composed machine of two ways: from each state at most one arc leads on to an end, and none from an end (plain). -/
/- A chain of arcs as a machine: its one way (plain). -/
/- A machine that is one line: one way leads to each state, and one way is whole (plain). -/
/- What is left of two composed ways is one line, or nothing (plain). -/
/- Two chains composed and trimmed: one path when what the one writes is what the other reads, else nothing (plain). -/
import Derived.Test.YtfikkpgigicepaaComposePlain
import Derived.Test.YtfikkpgigicepaaPathsPlain
import Derived.Test.YtfikkpgigicepaaFwSmall
import Derived.Test.YtfikkpgigicepaaCompLaw
import Derived.Test.YtfikkpgigicepaaTrimLaw
namespace Go.Proofs.Ytfikkpgigicepaa

/-- a machine that is one way: at most one arc a state, none where it may end -/
def OneWay (m : MachL) : Prop := ∀ q, arcsQ m q = [] ∨ ((∃ e, arcsQ m q = [e]) ∧ finQ m q = INF)
/-- a way along hops, by their numbers -/
def HP (a b : MachL) : TriL → List Nat → Prop
  | t, [] => finT a b t ≠ INF
  | t, k :: l => ∃ h, (hopsX a b t)[k]? = some h ∧ HP a b h.goes l
section
variable {a b : MachL}
theorem hp_of {t : TriL} {x z : List Int} {c : Int} (h : AccT a b t x z c) : ∃ l, HP a b t l := by
  induction h with
  | @fin t hf => exact ⟨[], hf⟩
  | @hop t h x z c hm _ ih =>
    obtain ⟨l, hl⟩ := ih
    obtain ⟨k, hk, hke⟩ := List.getElem_of_mem hm
    exact ⟨k :: l, h, by rw [List.getElem?_eq_getElem hk, hke], hl⟩
theorem of_hp : ∀ {l : List Nat} {t : TriL}, HP a b t l → ∃ x z c, AccT a b t x z c := by
  intro l
  induction l with
  | nil => intro t h; exact ⟨_, _, _, .fin h⟩
  | cons k l ih =>
    rintro t ⟨h, hk, hl⟩
    obtain ⟨x, z, c, g⟩ := ih hl
    exact ⟨_, _, _, .hop (List.mem_of_getElem? hk) g⟩
theorem hp_dead1 (hb : OneWay b) : ∀ {l : List Nat} {p q : Nat} {e2 : ArcL}, HP a b ⟨p, q, 1⟩ l → arcsQ b q = [e2] → e2.inn = 0 → False := by
  intro l
  induction l with
  | nil =>
    intro p q e2 h he h0
    rcases hb q with h1 | ⟨-, h1⟩
    · rw [he] at h1; cases h1
    · exact (timesI_ne h).2.1 h1
  | cons k l ih =>
    rintro p q e2 ⟨h, hk, hl⟩ he h0
    rcases hops_mem.1 (List.mem_of_getElem? hk) with ⟨x, hx, y, hy, hm, rfl⟩ | ⟨x, hx, h1, h2, rfl⟩ | ⟨y, hy, h1, h2, rfl⟩
    · have hy2 : y ∈ arcsQ b q := hy
      rw [he] at hy2
      obtain rfl := List.mem_singleton.1 hy2
      unfold meet at hm
      simp at hm
      rw [h0] at hm
      exact hm.2 hm.1
    · exact ih (p := x.to.toNat) (q := q) (e2 := e2) hl he h0
    · exact h2 rfl
theorem hp_dead2 (ha : OneWay a) : ∀ {l : List Nat} {p q : Nat} {e1 : ArcL}, HP a b ⟨p, q, 2⟩ l → arcsQ a p = [e1] → e1.out = 0 → False := by
  intro l
  induction l with
  | nil =>
    intro p q e1 h he h0
    rcases ha p with h1 | ⟨-, h1⟩
    · rw [he] at h1; cases h1
    · exact (timesI_ne h).1 h1
  | cons k l ih =>
    rintro p q e1 ⟨h, hk, hl⟩ he h0
    rcases hops_mem.1 (List.mem_of_getElem? hk) with ⟨x, hx, y, hy, hm, rfl⟩ | ⟨x, hx, h1, h2, rfl⟩ | ⟨y, hy, h1, h2, rfl⟩
    · have hx2 : x ∈ arcsQ a p := hx
      rw [he] at hx2
      obtain rfl := List.mem_singleton.1 hx2
      unfold meet at hm
      simp at hm
      exact hm.2 h0
    · exact h2 rfl
    · exact ih (p := p) (q := y.to.toNat) (e1 := e1) hl he h0
theorem hopsX_nil {t : TriL} (h1 : arcsQ a t.a = []) (h2 : arcsQ b t.b = []) : hopsX a b t = [] := by
  unfold hopsX hopsR
  rw [h1, h2]
  rfl
/-- where two hops are, one leads nowhere -/
theorem hop_one (ha : OneWay a) (hb : OneWay b) {t : TriL} {k1 k2 : Nat} {g1 g2 : HopL} {l1 l2 : List Nat} (e1 : (hopsX a b t)[k1]? = some g1) (e2 : (hopsX a b t)[k2]? = some g2) (d1 : HP a b g1.goes l1) (d2 : HP a b g2.goes l2) : k1 = k2 := by
  obtain ⟨p, q, f⟩ := t
  have one : ∀ {l : List HopL} {i j : Nat} {x y : HopL}, l.length ≤ 1 → l[i]? = some x → l[j]? = some y → i = j := fun h hi hj => by
    have := (List.getElem?_eq_some_iff.1 hi).1
    have := (List.getElem?_eq_some_iff.1 hj).1
    omega
  rcases ha p with hp | ⟨⟨x, hp⟩, -⟩
  · rcases hb q with hq | ⟨⟨y, hq⟩, -⟩
    · rw [hopsX_nil hp hq] at e1
      cases e1
    · refine one ?_ e1 e2
      unfold hopsX hopsR
      simp only [hp, hq, List.flatMap_nil, List.nil_append, List.length_map]
      exact Nat.le_trans (List.length_filter_le _ _) (Nat.le_refl 1)
  · rcases hb q with hq | ⟨⟨y, hq⟩, -⟩
    · refine one ?_ e1 e2
      unfold hopsX hopsR hopsL
      simp only [hp, hq, List.filter_nil, List.map_nil, List.nil_append, List.append_nil, List.flatMap_cons, List.flatMap_nil]
      split <;> simp
    · have hX : hopsX a b ⟨p, q, f⟩ = (if meet f x y then [hopB x y] else []) ++ ((if x.out = 0 ∧ f ≠ 2 then [hopLt ⟨p, q, f⟩ x] else []) ++ (if y.inn = 0 ∧ f ≠ 1 then [hopR ⟨p, q, f⟩ y] else [])) := by
        unfold hopsX hopsR hopsL
        simp only [hp, hq, List.flatMap_cons, List.flatMap_nil, List.append_nil, List.append_assoc]
        congr 1
        · cases hm : meet f x y <;> simp [hm]
        · congr 1
          by_cases h1 : y.inn = 0 <;> by_cases h2 : f = 1 <;> simp [h1, h2]
      have dl : ∀ l, x.out = 0 → y.inn = 0 → ¬ HP a b (hopLt ⟨p, q, f⟩ x).goes l := fun l _ h0 h => hp_dead1 hb h hq h0
      have dr : ∀ l, x.out = 0 → y.inn = 0 → ¬ HP a b (hopR ⟨p, q, f⟩ y).goes l := fun l h0 _ h => hp_dead2 ha h hp h0
      by_cases hx : x.out = 0
      · by_cases hy : y.inn = 0
        · -- only the first may go on
          have z : ∀ {k : Nat} {g : HopL} {l : List Nat}, (hopsX a b ⟨p, q, f⟩)[k]? = some g → HP a b g.goes l → k = 0 := by
            intro k g l e d
            apply Classical.byContradiction
            intro hk
            have hB : g = hopLt ⟨p, q, f⟩ x ∨ g = hopR ⟨p, q, f⟩ y := by
              rw [hX] at e
              obtain ⟨k, rfl⟩ : ∃ j, k = j + 1 := ⟨k - 1, by omega⟩
              have em : g ∈ ((if x.out = 0 ∧ f ≠ 2 then [hopLt ⟨p, q, f⟩ x] else []) ++ (if y.inn = 0 ∧ f ≠ 1 then [hopR ⟨p, q, f⟩ y] else [])) := by
                split at e
                · exact List.mem_of_getElem? (by simpa using e)
                · exact List.mem_of_getElem? (by simpa using e)
              rcases List.mem_append.1 em with h | h
              · split at h
                · exact .inl (List.mem_singleton.1 h)
                · cases h
              · split at h
                · exact .inr (List.mem_singleton.1 h)
                · cases h
            rcases hB with rfl | rfl
            · exact dl _ hx hy d
            · exact dr _ hx hy d
          rw [z e1 d1, z e2 d2]
        · refine one ?_ e1 e2
          rw [hX]
          have hm : meet f x y = false := by
            unfold meet
            rw [hx]
            have : ((0 : Int) == y.inn) = false := by simpa using fun e => hy e.symm
            rw [this]
            rfl
          rw [hm, if_neg (c := y.inn = 0 ∧ f ≠ 1) (fun h => hy h.1)]
          simp only [Bool.false_eq_true, if_false, List.nil_append, List.append_nil]
          split <;> simp
      · refine one ?_ e1 e2
        rw [hX, if_neg (c := x.out = 0 ∧ f ≠ 2) (fun h => hx h.1)]
        by_cases hy : y.inn = 0
        · have hm : meet f x y = false := by
            unfold meet
            have : (x.out == y.inn) = false := by rw [hy]; simpa using hx
            rw [this]
            rfl
          rw [hm]
          simp only [Bool.false_eq_true, if_false, List.nil_append]
          split <;> simp
        · rw [if_neg (c := y.inn = 0 ∧ f ≠ 1) (fun h => hy h.1)]
          simp only [List.append_nil]
          split <;> simp
/-- the way along hops is the only one -/
theorem hp_one (ha : OneWay a) (hb : OneWay b) : ∀ {l1 l2 : List Nat} {t : TriL}, HP a b t l1 → HP a b t l2 → l1 = l2 := by
  have nos : ∀ {k : Nat} {l : List Nat} {t : TriL}, HP a b t [] → ¬ HP a b t (k :: l) := by
    rintro k l t h ⟨g, hk, -⟩
    obtain ⟨f1, f2, -⟩ := timesI_ne h
    rcases ha t.a with h1 | ⟨-, h1⟩
    · rcases hb t.b with h2 | ⟨-, h2⟩
      · rw [hopsX_nil h1 h2] at hk; cases hk
      · exact f2 h2
    · exact f1 h1
  intro l1
  induction l1 with
  | nil =>
    intro l2 t h1 h2
    cases l2 with
    | nil => rfl
    | cons k l => exact absurd h2 (nos h1)
  | cons k l ih =>
    intro l2 t h1 h2
    cases l2 with
    | nil => exact absurd h1 (nos h2)
    | cons k2 l2 =>
      obtain ⟨g1, e1, d1⟩ := h1
      obtain ⟨g2, e2, d2⟩ := h2
      obtain rfl := hop_one ha hb e1 e2 d1 d2
      rw [e1] at e2
      obtain rfl := Option.some.inj e2
      rw [ih d1 d2]
end
end Go.Proofs.Ytfikkpgigicepaa

namespace Go.Proofs.Ytfikkpgigicepaa
section
variable {a b c : MachL} {T : List TriL}
theorem acc_hp (h : ComposeOk a b c T) {i : Nat} {t : TriL} (ht : T[i]? = some t) {x z : List Int} {d : Int} (hA : AccW c i x z d) : ∃ l, HP a b t l := hp_of (h.of hA t ht)
theorem arc_hop (h : ComposeOk a b c T) {i k : Nat} {t : TriL} {s : StateL} {e : ArcL} (ht : T[i]? = some t) (hs : c.states[i]? = some s) (he : s.arcs[k]? = some e) : ∃ g, (hopsX a b t)[k]? = some g ∧ T[e.to.toNat]? = some g.goes := by
  obtain ⟨g1, g2⟩ := h.arcs i t s ht hs
  have hk : k < (hopsX a b t).length := by
    rw [← g1]
    exact (List.getElem?_eq_some_iff.1 he).1
  have hh := List.getElem?_eq_getElem hk
  exact ⟨_, hh, (g2 k _ e hh he).2.2.2.2⟩
/-- two arcs that both lead on are one -/
theorem arc_one (h : ComposeOk a b c T) (ha : OneWay a) (hb : OneWay b) {i k1 k2 : Nat} {t : TriL} {s : StateL} {e1 e2 : ArcL} (ht : T[i]? = some t) (hs : c.states[i]? = some s) (h1 : s.arcs[k1]? = some e1) (h2 : s.arcs[k2]? = some e2)
    {x1 z1 x2 z2 : List Int} {d1 d2 : Int} (A1 : AccW c e1.to.toNat x1 z1 d1) (A2 : AccW c e2.to.toNat x2 z2 d2) : k1 = k2 := by
  obtain ⟨g1, f1, t1⟩ := arc_hop h ht hs h1
  obtain ⟨g2, f2, t2⟩ := arc_hop h ht hs h2
  obtain ⟨l1, q1⟩ := acc_hp h t1 A1
  obtain ⟨l2, q2⟩ := acc_hp h t2 A2
  exact hop_one ha hb f1 f2 q1 q2
/-- an end has no arcs -/
theorem end_none (h : ComposeOk a b c T) (ha : OneWay a) (hb : OneWay b) {i : Nat} {t : TriL} {s : StateL} (ht : T[i]? = some t) (hs : c.states[i]? = some s) (hf : s.final ≠ INF) : s.arcs = [] := by
  rw [h.fin i t s ht hs] at hf
  obtain ⟨f1, f2, -⟩ := timesI_ne hf
  have hX : hopsX a b t = [] := by
    rcases ha t.a with h1 | ⟨-, h1⟩
    · rcases hb t.b with h2 | ⟨-, h2⟩
      · exact hopsX_nil h1 h2
      · exact absurd h2 f2
    · exact absurd h1 f1
  have := (h.arcs i t s ht hs).1
  rw [hX] at this
  exact List.eq_nil_of_length_eq_zero this
/-- a whole way is there when a word lies between -/
theorem once_ex (h : ComposeOk a b c T) (hE : EndOk a b) : (∃ x z d, AccW c 0 x z d) ↔ ∃ x y z c1 c2, AccW a a.start.toNat x y c1 ∧ AccW b b.start.toNat y z c2 := by
  constructor
  · rintro ⟨x, z, d, g⟩
    obtain ⟨y, c1, c2, g1, g2, -⟩ := accT_parts (h.of g _ h.first)
    exact ⟨x, y, z, c1, c2, g1, g2⟩
  · rintro ⟨x, y, z, c1, c2, g1, g2⟩
    exact ⟨x, z, _, h.into ((accT_iff hE _ _ x z _).2 ⟨y, c1, c2, g1, g2, rfl⟩) _ h.first⟩
end
end Go.Proofs.Ytfikkpgigicepaa

namespace Go.Proofs.Ytfikkpgigicepaa
def chainM (L : List ArcL) : MachL := ⟨0, L.map (fun e => ⟨1000000001, [e]⟩) ++ [⟨0, []⟩]⟩
def Steps (L : List ArcL) : Prop := ∀ (i : Nat) (e : ArcL), L[i]? = some e → e.to.toNat = i + 1
section
variable {L : List ArcL}
theorem chain_at {i : Nat} {e : ArcL} (h : L[i]? = some e) : (chainM L).states[i]? = some ⟨1000000001, [e]⟩ := by
  have hi := (List.getElem?_eq_some_iff.1 h).1
  unfold chainM
  rw [List.getElem?_append_left (by simpa using hi), List.getElem?_map, h]
  rfl
theorem chain_end : (chainM L).states[L.length]? = some ⟨0, []⟩ := by
  unfold chainM
  rw [List.getElem?_append_right (by simp)]
  simp
theorem chain_out {i : Nat} (h : L.length < i) : (chainM L).states[i]? = none := by
  refine List.getElem?_eq_none ?_
  simp only [chainM, List.length_append, List.length_map, List.length_cons, List.length_nil]
  omega
theorem chain_oneWay : OneWay (chainM L) := by
  intro q
  rcases Nat.lt_trichotomy q L.length with h | rfl | h
  · have e := chain_at (List.getElem?_eq_getElem h)
    exact .inr ⟨⟨_, by unfold arcsQ; rw [e]; rfl⟩, by unfold finQ; rw [e]; rfl⟩
  · exact .inl (by unfold arcsQ; rw [chain_end]; rfl)
  · exact .inl (by unfold arcsQ; rw [chain_out h]; rfl)
/-- what the one way reads and writes -/
theorem chain_acc (hL : Steps L) {i : Nat} {x y : List Int} {c : Int} (h : AccW (chainM L) i x y c) : x = inW (L.drop i) ∧ y = outW (L.drop i) := by
  induction h with
  | @fin q s hs hf =>
    rcases Nat.lt_or_ge q L.length with h | h
    · rw [chain_at (List.getElem?_eq_getElem h)] at hs
      obtain rfl := Option.some.inj hs
      exact absurd rfl hf
    · rw [List.drop_eq_nil_of_le h]
      exact ⟨rfl, rfl⟩
  | @arc q s e x y c hs he _ ih =>
    rcases Nat.lt_trichotomy q L.length with h | rfl | h
    · have hq := List.getElem?_eq_getElem h
      rw [chain_at hq] at hs
      obtain rfl := Option.some.inj hs
      obtain rfl := List.mem_singleton.1 he
      rw [hL q _ hq] at ih
      rw [List.drop_eq_getElem_cons h, inW_cons, outW_cons, ← ih.1, ← ih.2]
      exact ⟨rfl, rfl⟩
    · rw [chain_end] at hs
      obtain rfl := Option.some.inj hs
      cases he
    · rw [chain_out h] at hs
      cases hs
/-- .. and it is there -/
theorem chain_way (hL : Steps L) : ∀ (d i : Nat), i + d = L.length → ∃ c, AccW (chainM L) i (inW (L.drop i)) (outW (L.drop i)) c := by
  intro d
  induction d with
  | zero =>
    intro i hi
    obtain rfl : i = L.length := by omega
    rw [List.drop_length]
    exact ⟨_, .fin chain_end (by show (0 : Int) ≠ 1000000001; omega)⟩
  | succ d ih =>
    intro i hi
    have h : i < L.length := by omega
    have hq := List.getElem?_eq_getElem h
    obtain ⟨c, hc⟩ := ih (i + 1) (by omega)
    rw [← hL i _ hq] at hc
    have g := AccW.arc (chain_at hq) (List.mem_singleton.2 rfl) hc
    rw [hL i _ hq] at g
    rw [List.drop_eq_getElem_cons h, inW_cons, outW_cons]
    exact ⟨_, g⟩
end
/-- a word between two chains: what the one writes is what the other reads -/
theorem chain_between {L K : List ArcL} (hL : Steps L) (hK : Steps K) : (∃ x y z c1 c2, AccW (chainM L) (chainM L).start.toNat x y c1 ∧ AccW (chainM K) (chainM K).start.toNat y z c2) ↔ outW L = inW K := by
  constructor
  · rintro ⟨x, y, z, c1, c2, h1, h2⟩
    have e1 := (chain_acc hL h1).2
    have e2 := (chain_acc hK h2).1
    have : outW (L.drop 0) = inW (K.drop 0) := e1.symm.trans e2
    simpa using this
  · intro e
    obtain ⟨c1, h1⟩ := chain_way hL L.length 0 (by omega)
    obtain ⟨c2, h2⟩ := chain_way hK K.length 0 (by omega)
    rw [List.drop_zero] at h1 h2
    rw [← e] at h2
    exact ⟨_, _, _, c1, c2, h1, h2⟩
end Go.Proofs.Ytfikkpgigicepaa

namespace Go.Proofs.Ytfikkpgigicepaa
theorem nsum_ones {n : Nat} {g : Nat → Nat} (h1 : ∀ q, q < n → 1 ≤ g q) (h2 : nsum n g ≤ n) : ∀ q, q < n → g q = 1 := by
  intro q hq
  have e : nsum n g = nsum n (fun q => (g q - 1) + 1) := nsum_congr fun q hq => by have := h1 q hq; omega
  rw [nsum_add, nsum_const, Nat.mul_one] at e
  have := nsum_eq_zero (f := fun q => g q - 1) (n := n) (by omega) q hq
  have := h1 q hq
  omega
/-- at most one arc a state, none at an end -/
structure LineM (t : MachL) : Prop where
  v : Valid t
  s0 : t.start = 0
  pos : 0 < t.states.length
  one : ∀ s ∈ t.states, s.arcs.length + (if (s.final != 1000000001) = true then 1 else 0) ≤ 1
  ra : ∀ q, q < t.states.length → RA t q
  end_ : ∃ q, finB t q = true
section
variable {t : MachL}
theorem finB_lt {q : Nat} (h : finB t q = true) : q < t.states.length := by
  unfold finB at h
  rcases Nat.lt_or_ge q t.states.length with h' | h'
  · exact h'
  · rw [List.getElem?_eq_none h'] at h; simp at h
theorem line_out (h : LineM t) (p : Nat) (hp : p < t.states.length) : (tos t p).length + (if finB t p = true then 1 else 0) ≤ 1 := by
  unfold tos finB
  rw [List.getElem?_eq_getElem hp]
  simpa using h.one _ (List.getElem_mem hp)
theorem line_in (h : LineM t) : (∀ q, q < t.states.length → nsum t.states.length (fun p => ad t p q) + (if q = 0 then 1 else 0) = 1) ∧ nsum t.states.length (fun p => if finB t p = true then 1 else 0) = 1 := by
  have hc := nsum_comm t.states.length t.states.length (fun p q => ad t p q)
  have h1 : nsum t.states.length (fun p => nsum t.states.length (fun q => ad t p q)) + nsum t.states.length (fun p => if finB t p = true then 1 else 0) ≤ t.states.length := by
    rw [← nsum_add]
    have : nsum t.states.length (fun p => nsum t.states.length (fun q => ad t p q) + (if finB t p = true then 1 else 0)) ≤ nsum t.states.length (fun _ => 1) := nsum_le fun p hp => by
      have h2 := line_out h p hp
      have h3 := nsum_count t.states.length (tos t p)
      have h4 : nsum t.states.length (fun q => ad t p q) ≤ (tos t p).length := h3
      omega
    rw [nsum_const] at this
    omega
  obtain ⟨qf, hf⟩ := h.end_
  have h2 : 1 ≤ nsum t.states.length (fun p => if finB t p = true then 1 else 0) := by
    have := nsum_ge (finB_lt hf) (fun p => if finB t p = true then 1 else 0)
    simpa [hf] using this
  have h3 : ∀ q, q < t.states.length → 1 ≤ nsum t.states.length (fun p => ad t p q) + (if q = 0 then 1 else 0) := by
    intro q hq
    cases h.ra q hq with
    | start hs =>
      unfold startOf at hs
      rw [h.s0] at hs
      have e : q = 0 := by simpa using hs
      rw [if_pos e]; omega
    | @step p _ hr hs =>
      have hp := RA_lt h.v hr
      have h4 := nsum_ge hp (fun p => ad t p q)
      have h5 : 1 ≤ ad t p q := by
        unfold ad tos
        obtain ⟨h6, a, ha, e⟩ := ahead_mem.1 hs
        rw [List.getElem?_eq_getElem h6]
        exact List.count_pos_iff.2 (List.mem_map.2 ⟨a, ha, e⟩)
      have h6 : ad t p q ≤ nsum t.states.length (fun p => ad t p q) := h4
      omega
  have h4 := nsum_at h.pos (fun _ => 1)
  have h5 : nsum t.states.length (fun q => nsum t.states.length (fun p => ad t p q) + (if q = 0 then 1 else 0)) ≤ t.states.length := by
    rw [nsum_add, h4, ← hc]
    omega
  refine ⟨nsum_ones h3 h5, ?_⟩
  have h6 : nsum t.states.length (fun _ => 1) ≤ nsum t.states.length (fun q => nsum t.states.length (fun p => ad t p q) + (if q = 0 then 1 else 0)) := nsum_le h3
  rw [nsum_const, nsum_add, h4, ← hc] at h6
  omega
theorem line_counts (h : LineM t) : Counts t 0 (fun _ => 1) ∧ tot t (fun _ => 1) = 1 := by
  obtain ⟨h1, h2⟩ := line_in h
  refine ⟨⟨rfl, fun q hq => ?_⟩, h2⟩
  have := h1 q hq
  simp only [Nat.one_mul]
  omega
/-- nothing stands still: there is no round -/
theorem line_stuck (h : LineM t) (S : Nat → Prop) : ¬ Stuck t S := by
  rintro ⟨⟨q0, hq0⟩, hS⟩
  obtain ⟨h1, -⟩ := line_in h
  have key : ∀ q, RA t q → ¬ S q := by
    intro q hr
    induction hr with
    | @start q hs =>
      intro hq
      unfold startOf at hs
      rw [h.s0] at hs
      have e : q = 0 := by simpa using hs
      obtain ⟨hlt, p, hp, hm⟩ := hS q hq
      have h2 := h1 q hlt
      rw [if_pos e] at h2
      have h3 := nsum_ge (hS p hp).1 (fun p => ad t p q)
      have h4 : 1 ≤ ad t p q := List.count_pos_iff.2 hm
      have h5 : ad t p q ≤ nsum t.states.length (fun p => ad t p q) := h3
      omega
    | @step p q hr hs ih =>
      intro hq
      obtain ⟨hlt, p2, hp2, hm⟩ := hS q hq
      have h2 := h1 q hlt
      have hpl := RA_lt h.v hr
      have h5 : 1 ≤ ad t p q := by
        unfold ad tos
        obtain ⟨h6, a, ha, e⟩ := ahead_mem.1 hs
        rw [List.getElem?_eq_getElem h6]
        exact List.count_pos_iff.2 (List.mem_map.2 ⟨a, ha, e⟩)
      have h6 : 1 ≤ ad t p2 q := List.count_pos_iff.2 hm
      have hne : p ≠ p2 := fun e => ih (e ▸ hp2)
      have h7 : nsum t.states.length (fun r => (if r = p then 1 else 0) + (if r = p2 then 1 else 0)) ≤ nsum t.states.length (fun r => ad t r q) := nsum_le fun r _ => by
        by_cases e1 : r = p
        · subst e1
          rw [if_pos rfl, if_neg hne]; exact h5
        · rw [if_neg e1]
          by_cases e2 : r = p2
          · subst e2
            rw [if_pos rfl]; omega
          · rw [if_neg e2]; exact Nat.zero_le _
      rw [nsum_add, nsum_at hpl (fun _ => 1), nsum_at (hS p2 hp2).1 (fun _ => 1)] at h7
      omega
  exact key q0 (h.ra q0 (hS q0 hq0).1) hq0
end
end Go.Proofs.Ytfikkpgigicepaa

namespace Go.Proofs.Ytfikkpgigicepaa
theorem filter_one {α : Type} (P : α → Bool) : ∀ (l : List α), (∀ (i j : Nat) (x y : α), l[i]? = some x → l[j]? = some y → P x = true → P y = true → i = j) → (l.filter P).length ≤ 1 := by
  intro l
  induction l with
  | nil => intro _; simp
  | cons z l ih =>
    intro h
    have h' := ih (fun i j x y hi hj hx hy => by have := h (i + 1) (j + 1) x y (by simpa using hi) (by simpa using hj) hx hy; omega)
    by_cases hz : P z = true
    · have : l.filter P = [] := by
        refine List.filter_eq_nil_iff.2 fun x hx hp => ?_
        obtain ⟨k, hk, e⟩ := List.getElem_of_mem hx
        have := h 0 (k + 1) z x rfl (by simp [hk, e]) hz hp
        omega
      simp [hz, this]
    · simp only [List.filter_cons, hz]
      simpa using h'
section
variable {a b c : MachL} {T : List TriL}
theorem trim_state {m : MachL} {s' : StateL} (h : s' ∈ (trimM m).states) : ∃ q s, m.states[q]? = some s ∧ (keepOf m).getD q false = true ∧ s' = trimState (keepOf m) s := by
  obtain ⟨i, hi, rfl⟩ := List.getElem_of_mem h
  obtain ⟨q, h1, h2, h3⟩ := trim_from (keepOf_len m) i m.states.length (Nat.le_refl _) hi
  have e := trim_at (keepOf_len m) h2 h1
  rw [h3] at e
  obtain ⟨hlt, e2⟩ := List.getElem?_eq_some_iff.1 e
  exact ⟨q, _, List.getElem?_eq_getElem h1, h2, e2⟩
theorem acc_end {m : MachL} {q : Nat} {x z : List Int} {d : Int} (hA : AccW m q x z d) : ∃ (q : Nat) (s : StateL), m.states[q]? = some s ∧ s.final ≠ INF := by
  induction hA with
  | @fin q s hs hf => exact ⟨q, s, hs, hf⟩
  | arc _ _ _ ih => exact ih
theorem RB_acc {m : MachL} (hv : Valid m) {q : Nat} (h : RB m q) : ∃ x z d, AccW m q x z d := by
  induction h with
  | @start q hq =>
    obtain ⟨hq', hf⟩ := (mem_endsOf _ _).1 hq
    exact ⟨_, _, _, AccW.fin (List.getElem?_eq_getElem hq') hf⟩
  | @step q p _ hp ih =>
    obtain ⟨x, z, d, hA⟩ := ih
    obtain ⟨hl, a, ha, rfl⟩ := (mem_backOf _ (to_lt hv) _ _).1 hp
    exact ⟨_, _, _, AccW.arc (List.getElem?_eq_getElem hl) ha hA⟩
theorem acc_RB {m : MachL} (hv : Valid m) {q : Nat} {x z : List Int} {d : Int} (hA : AccW m q x z d) : RB m q := by
  induction hA with
  | @fin q s hs hf =>
    obtain ⟨hl, rfl⟩ := List.getElem?_eq_some_iff.1 hs
    exact Reach.start ((mem_endsOf _ _).2 ⟨hl, hf⟩)
  | @arc q s a x y c hs ha _ ih =>
    obtain ⟨hl, rfl⟩ := List.getElem?_eq_some_iff.1 hs
    exact RB_pre hv ih (ahead_mem.2 ⟨hl, a, ha, rfl⟩)
theorem once_line (h : ComposeOk a b c T) (ha : OneWay a) (hb : OneWay b) (hv : Valid c) (hn : 0 < (trimM c).states.length) : LineM (trimM c) := by
  have hall := fun i hi => trim_all hv (i := i) hi
  have hvt := trim_valid hv
  refine ⟨hvt, ?_, hn, ?_, fun q hq => (hall q hq).1, ?_⟩
  · have h1 : ¬ (trimM c).start < 0 := fun h9 => by have := (trim_start hv).1 h9; omega
    have h2 : (trimM c).start = if 0 ≤ c.start then num (keepOf c) c.start.toNat else -1 := rfl
    rw [h.start, if_pos (Int.le_refl 0)] at h2
    by_cases hk : (keepOf c).getD (0 : Int).toNat false = true
    · rw [num_kept hk] at h2
      rw [h2]; rfl
    · rw [num_lost hk] at h2
      omega
  · intro s' hs'
    obtain ⟨q, s, hs, -, rfl⟩ := trim_state hs'
    have hq : q < T.length := by rw [h.len]; exact (List.getElem?_eq_some_iff.1 hs).1
    have ht := List.getElem?_eq_getElem hq
    show (trimArcs (keepOf c) s.arcs).length + (if (s.final != 1000000001) = true then 1 else 0) ≤ 1
    by_cases hf : s.final = 1000000001
    · have : (s.final != 1000000001) = false := by simp [hf]
      rw [this]
      unfold trimArcs
      rw [List.length_map]
      refine filter_one _ _ fun i j x y hi hj hx hy => ?_
      obtain ⟨_, _, _, A1⟩ := RB_acc hv ((keep_iff hv).1 hx).2
      obtain ⟨_, _, _, A2⟩ := RB_acc hv ((keep_iff hv).1 hy).2
      exact arc_one h ha hb ht hs hi hj A1 A2
    · have e := end_none h ha hb ht hs hf
      rw [e]
      simp [trimArcs, hf]
  · obtain ⟨q, s, hs⟩ : ∃ (q : Nat) (s : StateL), (trimM c).states[q]? = some s ∧ s.final ≠ INF := by
      obtain ⟨x, z, d, hA⟩ := RB_acc hvt (hall 0 hn).2
      exact acc_end hA
    refine ⟨q, ?_⟩
    unfold finB
    rw [hs.1]
    simpa using hs.2
/-- something is left when there is a whole way -/
theorem trim_pos {m : MachL} (hv : Valid m) (h0 : m.start = 0) (hn : 0 < m.states.length) : 0 < (trimM m).states.length ↔ ∃ x z d, AccW m 0 x z d := by
  have hra : RA m 0 := Reach.start (by unfold startOf; rw [h0]; simp)
  constructor
  · intro h
    have h1 : ¬ (trimM m).start < 0 := fun h9 => by have := (trim_start hv).1 h9; omega
    have h2 : (trimM m).start = if 0 ≤ m.start then num (keepOf m) m.start.toNat else -1 := rfl
    rw [h0, if_pos (Int.le_refl 0)] at h2
    by_cases hk : (keepOf m).getD (0 : Int).toNat false = true
    · exact RB_acc hv ((keep_iff hv).1 hk).2
    · rw [num_lost hk] at h2
      omega
  · rintro ⟨x, z, d, hA⟩
    have hk := (keep_iff hv).2 ⟨hra, acc_RB hv hA⟩
    have := idx_lt (keepOf_len m) hk hn
    exact Nat.lt_of_le_of_lt (Nat.zero_le _) this
end
end Go.Proofs.Ytfikkpgigicepaa

namespace Go.Proofs.Ytfikkpgigicepaa
theorem chain_fin {L : List ArcL} {q : Nat} (h : finQ (chainM L) q ≠ INF) : finQ (chainM L) q = 0 := by
  rcases Nat.lt_trichotomy q L.length with h1 | rfl | h1
  · exact absurd (by unfold finQ; rw [chain_at (List.getElem?_eq_getElem h1)]; rfl) h
  · unfold finQ; rw [chain_end]; rfl
  · exact absurd (by unfold finQ; rw [chain_out h1]; rfl) h
theorem chain_endOk (L K : List ArcL) : EndOk (chainM L) (chainM K) := fun p q h1 h2 => by
  rw [chain_fin h1, chain_fin h2]
  show (0 : Int) + 0 ≠ 1000000001
  omega
theorem once_law {L K : List ArcL} {c : MachL} {T : List TriL} (hL : Steps L) (hK : Steps K) (h : ComposeOk (chainM L) (chainM K) c T) (hv : Valid c) :
    (0 < (trimM c).states.length ↔ outW L = inW K) ∧ (0 < (trimM c).states.length → LineM (trimM c)) := by
  refine ⟨?_, fun hn => once_line h chain_oneWay chain_oneWay hv hn⟩
  rw [trim_pos hv h.start (comp_pos h), once_ex h (chain_endOk L K), chain_between hL hK]
end Go.Proofs.Ytfikkpgigicepaa
