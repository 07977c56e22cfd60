/- certain.Make (plain): sets of states with what they cost more than the least; what a pair of labels leads to; what is made costs the same. -/
/- certain.Make of what it has made (plain): the same machine. -/
import Derived.Test.YtkmnacchiagipaaDoorComposePlain
import Derived.Test.YtkmnacchiagipaaDoorCheck
namespace Go.Proofs.YtkmnacchiagipaaDoor
open Go.RowKit

abbrev SetL := List (Nat × Int)
theorem finQ_eq {m : MachL} {q : Nat} {s : StateL} (h : m.states[q]? = some s) : finQ m q = s.final := by unfold finQ; rw [h]; rfl
theorem arcsQ_eq {m : MachL} {q : Nat} {s : StateL} (h : m.states[q]? = some s) : arcsQ m q = s.arcs := by unfold arcsQ; rw [h]; rfl
/-- a state that a pair of labels leads to from a set, and a cost -/
def Cand (m : MachL) (S : SetL) (i o : Int) (q : Nat) (c : Int) : Prop := ∃ p ∈ S, ∃ a ∈ arcsQ m p.1, a.inn = i ∧ a.out = o ∧ a.to.toNat = q ∧ p.2 + a.wt = c
def MinC (m : MachL) (S : SetL) (i o : Int) (q : Nat) (c : Int) : Prop := Cand m S i o q c ∧ ∀ d, Cand m S i o q d → c ≤ d
/-- in order, each state at most once -/
def SortedS (S : SetL) : Prop := S.Pairwise (fun a b => a.1 < b.1)
/-- what a pair of labels leads to, and costs -/
structure NextS (m : MachL) (S : SetL) (i o w : Int) (T : SetL) : Prop where
  srt : SortedS T
  mem : ∀ q l, (q, l) ∈ T ↔ MinC m S i o q (l + w)
  zero : ∃ q, (q, 0) ∈ T
  nn : ∀ p ∈ T, 0 ≤ p.2
def FinS (m : MachL) (S : SetL) (f : Int) : Prop := (f = INF ∧ ∀ p ∈ S, finQ m p.1 = INF) ∨
  (f ≠ INF ∧ (∃ p ∈ S, finQ m p.1 ≠ INF ∧ p.2 + finQ m p.1 = f) ∧ ∀ p ∈ S, finQ m p.1 ≠ INF → f ≤ p.2 + finQ m p.1)
theorem SortedS.ext : ∀ {S T : SetL}, SortedS S → SortedS T → (∀ x, x ∈ S ↔ x ∈ T) → S = T
  | [], [], _, _, _ => rfl
  | [], b :: T, _, _, h => by have := (h b).2 (by simp); simp at this
  | a :: S, [], _, _, h => by have := (h a).1 (by simp); simp at this
  | a :: S, b :: T, hs, ht, h => by
    obtain ⟨h1, h2⟩ := List.pairwise_cons.1 hs
    obtain ⟨k1, k2⟩ := List.pairwise_cons.1 ht
    have e : a = b := by
      have g1 := (h a).1 (by simp)
      have g2 := (h b).2 (by simp)
      rcases List.mem_cons.1 g1 with g1 | g1
      · exact g1
      · rcases List.mem_cons.1 g2 with g2 | g2
        · exact g2.symm
        · have := k1 a g1; have := h1 b g2; omega
    subst e
    rw [SortedS.ext h2 k2 fun x => ?_]
    constructor
    · intro hx
      rcases List.mem_cons.1 ((h x).1 (by simp [hx])) with g | g
      · subst g; have := h1 x hx; omega
      · exact g
    · intro hx
      rcases List.mem_cons.1 ((h x).2 (by simp [hx])) with g | g
      · subst g; have := k1 x hx; omega
      · exact g
theorem NextS.le {m : MachL} {S : SetL} {i o w w' : Int} {T T' : SetL} (h : NextS m S i o w T) (h' : NextS m S i o w' T') : w' ≤ w := by
  obtain ⟨q, hq⟩ := h.zero
  have h1 := (h.mem q 0).1 hq
  have h2 : (q, w - w') ∈ T' := (h'.mem q (w - w')).2 (by rw [show w - w' + w' = 0 + w by omega]; exact h1)
  have := h'.nn _ h2
  simp only at this
  omega
theorem NextS.eq {m : MachL} {S : SetL} {i o w w' : Int} {T T' : SetL} (h : NextS m S i o w T) (h' : NextS m S i o w' T') : w = w' ∧ T = T' := by
  have e : w = w' := Int.le_antisymm (h'.le h) (h.le h')
  subst e
  refine ⟨rfl, h.srt.ext h'.srt fun x => ?_⟩
  obtain ⟨q, l⟩ := x
  rw [h.mem, h'.mem]
/-- what is left is not more than what was left and an arc's weight -/
theorem NextS.bound {m : MachL} {S : SetL} {i o w : Int} {T : SetL} (h : NextS m S i o w T) {L WW : Int} (hS : ∀ p ∈ S, 0 ≤ p.2 ∧ p.2 ≤ L) (hw : ∀ q, ∀ a ∈ arcsQ m q, 0 ≤ a.wt ∧ a.wt ≤ WW) :
    (0 ≤ w ∧ w ≤ L + WW) ∧ ∀ p ∈ T, 0 ≤ p.2 ∧ p.2 ≤ L + WW := by
  have key : ∀ q c, Cand m S i o q c → 0 ≤ c ∧ c ≤ L + WW := by
    rintro q c ⟨p, hp, a, ha, -, -, -, rfl⟩
    have := hS p hp; have := hw _ a ha
    omega
  obtain ⟨q, hq⟩ := h.zero
  have h1 := key _ _ ((h.mem q 0).1 hq).1
  refine ⟨by omega, fun p hp => ⟨h.nn p hp, ?_⟩⟩
  obtain ⟨q, l⟩ := p
  have := key _ _ ((h.mem q l).1 hp).1
  simp only
  omega
theorem NextS.state {m : MachL} {S : SetL} {i o w : Int} {T : SetL} (h : NextS m S i o w T) {p : Nat × Int} (hp : p ∈ T) : ∃ r ∈ S, ∃ a ∈ arcsQ m r.1, a.inn = i ∧ a.out = o ∧ a.to.toNat = p.1 := by
  obtain ⟨q, l⟩ := p
  obtain ⟨⟨r, hr, a, ha, h1, h2, h3, -⟩, -⟩ := (h.mem q l).1 hp
  exact ⟨r, hr, a, ha, h1, h2, h3⟩
/-- the least of all states' costs: a candidate gives a part -/
theorem NextS.cand {m : MachL} {S : SetL} {i o w : Int} {T : SetL} (h : NextS m S i o w T) {q : Nat} {c : Int} (hm : MinC m S i o q c) : (q, c - w) ∈ T := (h.mem q (c - w)).2 (by rw [show c - w + w = c by omega]; exact hm)
theorem cand_min {m : MachL} {S : SetL} {i o : Int} {q : Nat} {c : Int} (hS : ∀ p ∈ S, 0 ≤ p.2) (hw : ∀ q, ∀ a ∈ arcsQ m q, 0 ≤ a.wt) (h : Cand m S i o q c) : ∃ d, d ≤ c ∧ MinC m S i o q d := by
  have key : ∀ n : Nat, ∀ c, Cand m S i o q c → c.toNat = n → ∃ d, d ≤ c ∧ MinC m S i o q d := by
    intro n
    induction n using Nat.strongRecOn with
    | ind n ih =>
      intro c hc hn
      by_cases hm : ∃ d, Cand m S i o q d ∧ d < c
      · obtain ⟨d, hd, hlt⟩ := hm
        have h0 : 0 ≤ d := by
          obtain ⟨p, hp, a, ha, -, -, -, rfl⟩ := hd
          have := hS p hp; have := hw _ a ha; omega
        obtain ⟨e, he, hm⟩ := ih d.toNat (by omega) d hd rfl
        exact ⟨e, by omega, hm⟩
      · exact ⟨c, Int.le_refl _, hc, fun d hd => by
          by_cases hlt : d < c
          · exact absurd ⟨d, hd, hlt⟩ hm
          · omega⟩
  exact key _ c h rfl

/-- labels in order -/
def keyLt (a b : Int × Int) : Prop := a.1 < b.1 ∨ (a.1 = b.1 ∧ a.2 < b.2)
def kOf (a : ArcL) : Int × Int := (a.inn, a.out)
/-- the pairs of labels that lead on from a set -/
structure KeysS (m : MachL) (S : SetL) (ks : List (Int × Int)) : Prop where
  ord : ks.Pairwise keyLt
  mem : ∀ k, k ∈ ks ↔ ∃ q c, Cand m S k.1 k.2 q c
theorem KeysS.eq {m : MachL} {S : SetL} {ks ks' : List (Int × Int)} (h : KeysS m S ks) (h' : KeysS m S ks') : ks = ks' := by
  have key : ∀ {l l' : List (Int × Int)}, l.Pairwise keyLt → l'.Pairwise keyLt → (∀ x, x ∈ l ↔ x ∈ l') → l = l' := by
    intro l
    induction l with
    | nil =>
      intro l' _ _ h
      cases l' with
      | nil => rfl
      | cons b T => have := (h b).2 (by simp); simp at this
    | cons a S ih =>
      intro l' hs ht h
      cases l' with
      | nil => have := (h a).1 (by simp); simp at this
      | cons b T =>
        obtain ⟨h1, h2⟩ := List.pairwise_cons.1 hs
        obtain ⟨k1, k2⟩ := List.pairwise_cons.1 ht
        have e : a = b := by
          rcases List.mem_cons.1 ((h a).1 (by simp)) with g1 | g1
          · exact g1
          · rcases List.mem_cons.1 ((h b).2 (by simp)) with g2 | g2
            · exact g2.symm
            · have g3 := k1 a g1; have g4 := h1 b g2
              unfold keyLt at g3 g4; omega
        subst e
        rw [ih h2 k2 fun x => ?_]
        constructor
        · intro hx
          rcases List.mem_cons.1 ((h x).1 (by simp [hx])) with g | g
          · subst g; have := h1 x hx; unfold keyLt at this; omega
          · exact g
        · intro hx
          rcases List.mem_cons.1 ((h x).2 (by simp [hx])) with g | g
          · subst g; have := k1 x hx; unfold keyLt at this; omega
          · exact g
  exact key h.ord h'.ord fun x => by rw [h.mem, h'.mem]
/-- an arc, and the set that it leads to -/
def ArcN (m : MachL) (Ss : List SetL) (S : SetL) (a : ArcL) : Prop := 0 ≤ a.to ∧ ∃ T, Ss[a.to.toNat]? = some T ∧ NextS m S a.inn a.out a.wt T
structure ArcsS (m : MachL) (Ss : List SetL) (S : SetL) (al : List ArcL) : Prop where
  keys : KeysS m S (al.map kOf)
  nx : ∀ a ∈ al, ArcN m Ss S a
theorem ArcN.mono {m : MachL} {Ss : List SetL} {S : SetL} {a : ArcL} (h : ArcN m Ss S a) (T : SetL) : ArcN m (Ss ++ [T]) S a := by
  obtain ⟨h0, T', h1, h2⟩ := h
  have := (List.getElem?_eq_some_iff.1 h1).1
  exact ⟨h0, T', by rw [List.getElem?_append_left this]; exact h1, h2⟩
/-- states get their numbers in the order in which arcs lead to them -/
def runT : Nat → List ArcL → Option Nat
  | t, [] => some t
  | t, a :: l => if a.to.toNat < t then runT t l else if a.to.toNat = t then runT (t + 1) l else none
theorem runT_snoc (a : ArcL) : ∀ (l : List ArcL) (t : Nat), runT t (l ++ [a]) = (runT t l).bind fun s => runT s [a]
  | [], t => rfl
  | b :: l, t => by
    simp only [List.cons_append, runT]
    split
    · exact runT_snoc a l t
    · split
      · exact runT_snoc a l (t + 1)
      · rfl
theorem runT_append (l' : List ArcL) : ∀ (l : List ArcL) (t : Nat), runT t (l ++ l') = (runT t l).bind fun s => runT s l'
  | [], t => rfl
  | b :: l, t => by
    simp only [List.cons_append, runT]
    split
    · exact runT_append l' l t
    · split
      · exact runT_append l' l (t + 1)
      · rfl
theorem runT_le : ∀ (l : List ArcL) (t t' : Nat), runT t l = some t' → t ≤ t'
  | [], t, t', h => by simp [runT] at h; omega
  | a :: l, t, t', h => by
    simp only [runT] at h
    split at h
    · exact runT_le l t t' h
    · split at h
      · have := runT_le l _ _ h; omega
      · cases h
def flatA (xs : List StateL) : List ArcL := xs.flatMap (·.arcs)
theorem flatA_snoc (xs : List StateL) (s : StateL) : flatA (xs ++ [s]) = flatA xs ++ s.arcs := by simp [flatA]
theorem flatA_len (xs : List StateL) : (flatA xs).length = arcsOf xs := by
  unfold flatA arcsOf
  rw [List.length_flatMap]
/-- how far making a machine certain has come: sets in the order in which they were met; states that are done; arcs of the state under way -/
structure CertI (m : MachL) (WW : Int) (Ss : List SetL) (xs : List StateL) (cur : List ArcL) : Prop where
  first : Ss[0]? = some [(m.start.toNat, 0)]
  nd : Ss.Nodup
  le : xs.length ≤ Ss.length
  st : ∀ (i : Nat) (s : StateL), xs[i]? = some s → ∃ S, Ss[i]? = some S ∧ FinS m S s.final ∧ ArcsS m Ss S s.arcs
  srt : ∀ S ∈ Ss, SortedS S
  canon : runT 1 (flatA xs ++ cur) = some Ss.length
  cover : ∀ i, i < xs.length → ∃ t, runT 1 (flatA (xs.take i)) = some t ∧ i < t
  left : ∀ (j : Nat) (S : SetL), Ss[j]? = some S → S ≠ [] ∧ ∀ p ∈ S, p.1 < m.states.length ∧ 0 ≤ p.2 ∧ p.2 ≤ WW * j
  wts : ∀ a ∈ flatA xs ++ cur, 0 ≤ a.wt ∧ a.wt ≤ WW * Ss.length
/-- the state under way -/
structure CurI (m : MachL) (Ss : List SetL) (xs : List StateL) (S : SetL) (ks : List (Int × Int)) (cur : List ArcL) : Prop where
  at_ : Ss[xs.length]? = some S
  keys : KeysS m S ks
  done : cur.map kOf = ks.take cur.length
  le : cur.length ≤ ks.length
  nx : ∀ a ∈ cur, ArcN m Ss S a
  beg : ∃ t, runT 1 (flatA xs) = some t ∧ xs.length < t
/-- the machine's weights -/
structure WtC (m : MachL) (WW : Int) : Prop where
  w : ∀ q, ∀ a ∈ arcsQ m q, 0 ≤ a.wt ∧ a.wt ≤ WW
  f : ∀ q, finQ m q ≠ INF → 0 ≤ finQ m q ∧ finQ m q ≤ WW
  tgt : ∀ q, ∀ a ∈ arcsQ m q, 0 ≤ a.to ∧ a.to.toNat < m.states.length
  p : 0 ≤ WW
section
variable {m : MachL} {WW : Int} {Ss : List SetL} {xs : List StateL} {cur : List ArcL} {S : SetL} {ks : List (Int × Int)}
theorem CertI.begin (h0 : 0 ≤ m.start) (h1 : m.start < m.states.length) : CertI m WW [[(m.start.toNat, 0)]] [] [] := by
  refine ⟨rfl, by simp, by simp, by simp, ?_, rfl, by simp, ?_, by simp [flatA]⟩
  · intro S hS
    simp only [List.mem_singleton] at hS
    subst hS
    simp [SortedS]
  · intro j S hj
    cases j with
    | zero =>
      simp only [List.getElem?_cons_zero, Option.some.injEq] at hj
      subst hj
      refine ⟨by simp, fun p hp => ?_⟩
      simp only [List.mem_singleton] at hp
      subst hp
      simp only
      omega
    | succ j => simp at hj
theorem CurI.begin (h : CertI m WW Ss xs []) (hlt : xs.length < Ss.length) (hS : Ss[xs.length]? = some S) (hk : KeysS m S ks) : CurI m Ss xs S ks [] := ⟨hS, hk, by simp, by simp, by simp, _, by have := h.canon; rwa [List.append_nil] at this, hlt⟩
theorem ww_mono (hp : 0 ≤ WW) {i j : Nat} (h : i ≤ j) : WW * i ≤ WW * j := Int.mul_le_mul_of_nonneg_left (by omega) hp
theorem CertI.nextB (h : CertI m WW Ss xs cur) (hc : CurI m Ss xs S ks cur) (hw : WtC m WW) {i o w : Int} {T : SetL} (hn : NextS m S i o w T) :
    (0 ≤ w ∧ w ≤ WW * Ss.length) ∧ T ≠ [] ∧ ∀ p ∈ T, p.1 < m.states.length ∧ 0 ≤ p.2 ∧ p.2 ≤ WW * Ss.length := by
  have hx := (List.getElem?_eq_some_iff.1 hc.at_).1
  have hb := hn.bound (L := WW * xs.length) (WW := WW) (fun p hp => ((h.left _ _ hc.at_).2 p hp).2) hw.w
  have e : WW * (xs.length : Int) + WW = WW * ((xs.length + 1 : Nat) : Int) := by rw [show ((xs.length + 1 : Nat) : Int) = (xs.length : Int) + 1 by omega, Int.mul_add, Int.mul_one]
  have hm := ww_mono hw.p (show xs.length + 1 ≤ Ss.length by omega)
  rw [e] at hb
  refine ⟨⟨hb.1.1, by omega⟩, fun e => ?_, fun p hp => ?_⟩
  · obtain ⟨q, hq⟩ := hn.zero
    rw [e] at hq; simp at hq
  · have := hb.2 p hp
    obtain ⟨r, -, a, ha, -, -, h3⟩ := hn.state hp
    have := (hw.tgt _ a ha).2
    rw [h3] at this
    exact ⟨this, by omega, by omega⟩
/-- an arc to a set that is there -/
theorem CertI.arcOld (h : CertI m WW Ss xs cur) (hc : CurI m Ss xs S ks cur) (hw : WtC m WW) {i o w : Int} {T : SetL} (hn : NextS m S i o w T) (hk : ks[cur.length]? = some (i, o)) {j : Nat} (hj : Ss[j]? = some T) :
    CertI m WW Ss xs (cur ++ [⟨i, o, w, (j : Int)⟩]) ∧ CurI m Ss xs S ks (cur ++ [⟨i, o, w, (j : Int)⟩]) := by
  have hb := h.nextB hc hw hn
  have hjl := (List.getElem?_eq_some_iff.1 hj).1
  have hkl := (List.getElem?_eq_some_iff.1 hk).1
  refine ⟨⟨h.first, h.nd, h.le, h.st, h.srt, ?_, h.cover, h.left, ?_⟩, hc.at_, hc.keys, ?_, by simp; omega, ?_, hc.beg⟩
  · rw [← List.append_assoc, runT_snoc, h.canon]
    simp only [Option.bind_some, runT, Int.toNat_natCast, if_pos hjl]
  · intro a ha
    rw [← List.append_assoc] at ha
    rcases List.mem_append.1 ha with ha | ha
    · exact h.wts a ha
    · simp only [List.mem_singleton] at ha
      subst ha; exact hb.1
  · rw [List.map_append, hc.done, List.length_append, List.length_singleton, List.take_add_one, hk]
    rfl
  · intro a ha
    rcases List.mem_append.1 ha with ha | ha
    · exact hc.nx a ha
    · simp only [List.mem_singleton] at ha
      subst ha
      exact ⟨by simp only; omega, T, by simpa using hj, hn⟩
/-- an arc to a new set -/
theorem CertI.arcNew (h : CertI m WW Ss xs cur) (hc : CurI m Ss xs S ks cur) (hw : WtC m WW) {i o w : Int} {T : SetL} (hn : NextS m S i o w T) (hk : ks[cur.length]? = some (i, o)) (hT : T ∉ Ss) :
    CertI m WW (Ss ++ [T]) xs (cur ++ [⟨i, o, w, (Ss.length : Int)⟩]) ∧ CurI m (Ss ++ [T]) xs S ks (cur ++ [⟨i, o, w, (Ss.length : Int)⟩]) := by
  have hb := h.nextB hc hw hn
  have hkl := (List.getElem?_eq_some_iff.1 hk).1
  have hpos : 0 < Ss.length := (List.getElem?_eq_some_iff.1 h.first).1
  have hxl := (List.getElem?_eq_some_iff.1 hc.at_).1
  have hle := h.le
  have hmm := ww_mono hw.p (show Ss.length ≤ Ss.length + 1 by omega)
  refine ⟨⟨?_, ?_, by simp; omega, ?_, ?_, ?_, h.cover, ?_, ?_⟩, ?_, hc.keys, ?_, by simp; omega, ?_, hc.beg⟩
  · rw [List.getElem?_append_left hpos]; exact h.first
  · rw [List.nodup_append]
    exact ⟨h.nd, by simp, fun a ha b hb' => by simp only [List.mem_singleton] at hb'; subst hb'; exact fun e => hT (e ▸ ha)⟩
  · intro i' s hs
    obtain ⟨S', h1, h2, h3⟩ := h.st i' s hs
    have := (List.getElem?_eq_some_iff.1 h1).1
    exact ⟨S', by rw [List.getElem?_append_left this]; exact h1, h2, h3.keys, fun a ha => (h3.nx a ha).mono T⟩
  · intro S' hS'
    rcases List.mem_append.1 hS' with g | g
    · exact h.srt S' g
    · simp only [List.mem_singleton] at g; subst g; exact hn.srt
  · rw [← List.append_assoc, runT_snoc, h.canon]
    simp only [Option.bind_some, runT, Int.toNat_natCast, Nat.lt_irrefl, if_false, if_true, List.length_append, List.length_singleton]
  · intro j S' hj
    by_cases hlt : j < Ss.length
    · rw [List.getElem?_append_left hlt] at hj
      exact h.left j S' hj
    · have hjl := (List.getElem?_eq_some_iff.1 hj).1
      simp only [List.length_append, List.length_singleton] at hjl
      obtain rfl : j = Ss.length := by omega
      rw [List.getElem?_append_right (Nat.le_refl _)] at hj
      simp only [Nat.sub_self, List.getElem?_cons_zero, Option.some.injEq] at hj
      subst hj
      exact hb.2
  · intro a ha
    rw [← List.append_assoc] at ha
    rw [List.length_append, List.length_singleton]
    rcases List.mem_append.1 ha with ha | ha
    · have := h.wts a ha; exact ⟨this.1, by omega⟩
    · simp only [List.mem_singleton] at ha
      subst ha
      exact ⟨hb.1.1, by simp only; omega⟩
  · rw [List.getElem?_append_left hxl]; exact hc.at_
  · rw [List.map_append, hc.done, List.length_append, List.length_singleton, List.take_add_one, hk]
    rfl
  · intro a ha
    rcases List.mem_append.1 ha with ha | ha
    · exact (hc.nx a ha).mono T
    · simp only [List.mem_singleton] at ha
      subst ha
      exact ⟨by simp only; omega, T, by simp, hn⟩
/-- a state is done -/
theorem CertI.state (h : CertI m WW Ss xs cur) (hc : CurI m Ss xs S ks cur) (hd : cur.length = ks.length) {f : Int} (hf : FinS m S f) : CertI m WW Ss (xs ++ [⟨f, cur⟩]) [] := by
  have hxl := (List.getElem?_eq_some_iff.1 hc.at_).1
  have e : cur.map kOf = ks := by rw [hc.done, hd, List.take_length]
  refine ⟨h.first, h.nd, by simp; omega, ?_, h.srt, ?_, ?_, h.left, ?_⟩
  · intro i s hs
    by_cases hlt : i < xs.length
    · rw [List.getElem?_append_left hlt] at hs
      exact h.st i s hs
    · have hil := (List.getElem?_eq_some_iff.1 hs).1
      simp only [List.length_append, List.length_singleton] at hil
      obtain rfl : i = xs.length := by omega
      rw [List.getElem?_append_right (Nat.le_refl _)] at hs
      simp only [Nat.sub_self, List.getElem?_cons_zero, Option.some.injEq] at hs
      subst hs
      exact ⟨S, hc.at_, hf, by simp only; rw [e]; exact hc.keys, hc.nx⟩
  · rw [flatA_snoc, List.append_nil]; exact h.canon
  · intro i hi
    simp only [List.length_append, List.length_singleton] at hi
    by_cases hlt : i < xs.length
    · rw [List.take_append_of_le_length (by omega)]
      exact h.cover i hlt
    · obtain rfl : i = xs.length := by omega
      rw [List.take_left']
      · exact hc.beg
      · rfl
  · intro a ha
    rw [flatA_snoc, List.append_nil] at ha
    exact h.wts a ha
end
/-- what is made of a machine -/
def CertOk (m : MachL) (WW : Int) (x : MachL) : Prop := x.start = 0 ∧ ∃ Ss, CertI m WW Ss x.states [] ∧ x.states.length = Ss.length
section
variable {m x : MachL} {WW : Int} {Ss : List SetL}
theorem CertI.of (h : CertI m WW Ss x.states []) {i : Nat} {u v : List Int} {c : Int} (ha : AccW x i u v c) : ∀ S, Ss[i]? = some S → ∃ p ∈ S, ∃ c', AccW m p.1 u v c' ∧ p.2 + c' = c := by
  induction ha with
  | @fin q s hs hf =>
    intro S hS
    obtain ⟨S', h1, h2, -⟩ := h.st q s hs
    obtain rfl : S' = S := by rw [h1] at hS; exact Option.some.inj hS
    rcases h2 with ⟨h2, -⟩ | ⟨-, ⟨p, hp, h3, h4⟩, -⟩
    · exact absurd h2 hf
    · obtain ⟨s', h5, h6⟩ := finQ_ne h3
      refine ⟨p, hp, _, AccW.fin h5 (by rw [h6]; exact h3), by rw [h6]; exact h4⟩
  | @arc q s a u v c hs ha _ ih =>
    intro S hS
    obtain ⟨S', h1, -, h2⟩ := h.st q s hs
    obtain rfl : S' = S := by rw [h1] at hS; exact Option.some.inj hS
    obtain ⟨h0, T, hT, hn⟩ := h2.nx a ha
    obtain ⟨p, hp, c', hc, e⟩ := ih T hT
    obtain ⟨q', l⟩ := p
    obtain ⟨⟨r, hr, b, hb, g1, g2, g3, g4⟩, -⟩ := (hn.mem q' l).1 hp
    obtain ⟨s', k1, k2⟩ := arcsQ_mem hb
    simp only at hc e
    rw [← g3] at hc
    have := AccW.arc k1 k2 hc
    rw [g1, g2] at this
    exact ⟨r, hr, _, this, by omega⟩
theorem CertI.back (h : CertI m WW Ss x.states []) (hl : x.states.length = Ss.length) (hw : WtC m WW) {q : Nat} {u v : List Int} {c' : Int} (ha : AccW m q u v c') : ∀ i S l, Ss[i]? = some S → (q, l) ∈ S → ∃ c, c ≤ l + c' ∧ AccW x i u v c := by
  induction ha with
  | @fin q s hs hf =>
    intro i S l hS hq
    have hi : i < x.states.length := by rw [hl]; exact (List.getElem?_eq_some_iff.1 hS).1
    obtain ⟨S', h1, h2, -⟩ := h.st i _ (List.getElem?_eq_getElem hi)
    obtain rfl : S' = S := by rw [h1] at hS; exact Option.some.inj hS
    have e := finQ_eq hs
    rcases h2 with ⟨-, h2⟩ | ⟨h3, -, h4⟩
    · exact absurd (by rw [← e]; exact h2 _ hq) hf
    · have := h4 _ hq (by rw [e]; exact hf)
      simp only at this
      rw [e] at this
      exact ⟨_, this, AccW.fin (List.getElem?_eq_getElem hi) h3⟩
  | @arc q s a u v c' hs ha _ ih =>
    intro i S l hS hq
    have hi : i < x.states.length := by rw [hl]; exact (List.getElem?_eq_some_iff.1 hS).1
    obtain ⟨S', h1, -, h2⟩ := h.st i _ (List.getElem?_eq_getElem hi)
    obtain rfl : S' = S := by rw [h1] at hS; exact Option.some.inj hS
    have hca : Cand m S' a.inn a.out a.to.toNat (l + a.wt) := ⟨_, hq, a, by rw [arcsQ_eq hs]; exact ha, rfl, rfl, rfl, rfl⟩
    obtain ⟨d, hd, hm⟩ := cand_min (fun p hp => ((h.left i S' hS).2 p hp).2.1) (fun q a ha => (hw.w q a ha).1) hca
    have hk := (h2.keys.mem (a.inn, a.out)).2 ⟨_, _, hca⟩
    obtain ⟨b, hb, e⟩ := List.mem_map.1 hk
    obtain ⟨h0, T, hT, hn⟩ := h2.nx b hb
    unfold kOf at e
    injection e with e1 e2
    rw [e1, e2] at hn
    have hin := hn.cand hm
    obtain ⟨c, hc, hx⟩ := ih _ T _ hT hin
    have := AccW.arc (List.getElem?_eq_getElem hi) hb hx
    rw [e1, e2] at this
    exact ⟨_, by omega, this⟩
theorem CertOk.tot_of (h : CertOk m WW x) (h0 : 0 ≤ m.start) {u v : List Int} {c : Int} (ht : Tot x u v false c) : Tot m u v false c := by
  obtain ⟨hs, Ss, hI, hl⟩ := h
  have h1 := (tot_accW.1 ht).2
  rw [hs] at h1
  obtain ⟨p, hp, c', hc, e⟩ := hI.of h1 _ hI.first
  simp only [List.mem_singleton] at hp
  subst hp
  simp only [Int.zero_add] at e hc
  subst e
  exact tot_accW.2 ⟨h0, hc⟩
theorem CertOk.tot_back (h : CertOk m WW x) (hw : WtC m WW) {u v : List Int} {c : Int} (ht : Tot m u v false c) : ∃ d, d ≤ c ∧ Tot x u v false d := by
  obtain ⟨hs, Ss, hI, hl⟩ := h
  obtain ⟨d, hd, hx⟩ := hI.back hl hw (tot_accW.1 ht).2 0 _ 0 hI.first (by simp)
  exact ⟨d, by omega, tot_accW.2 ⟨by omega, by rw [hs]; exact hx⟩⟩
end
end Go.Proofs.YtkmnacchiagipaaDoor

namespace Go.Proofs.YtkmnacchiagipaaDoor
open Go.RowKit

theorem nd_inj {Ts : List SetL} (nd : Ts.Nodup) {i j : Nat} {T : SetL} (e : Ts[i]? = Ts[j]?) (hi : Ts[i]? = some T) : i = j := by
  have h1 := (List.getElem?_eq_some_iff.1 hi).1
  exact (List.getElem?_inj h1 nd).1 e
theorem num_step {Ts : List SetL} (nd : Ts.Nodup) : ∀ (al bs : List ArcL) (t t1 t2 : Nat), al.length = bs.length → (∀ (r : Nat) (a b : ArcL), al[r]? = some a → bs[r]? = some b → Ts[b.to.toNat]? = some [(a.to.toNat, 0)]) →
    runT t al = some t1 → runT t bs = some t2 → (∀ j, j < t → Ts[j]? = some [(j, 0)]) → t1 = t2 ∧ (∀ j, j < t1 → Ts[j]? = some [(j, 0)]) ∧ ∀ (r : Nat) (a b : ArcL), al[r]? = some a → bs[r]? = some b → b.to.toNat = a.to.toNat
  | [], [], t, t1, t2, _, _, h1, h2, h3 => by
    simp only [runT, Option.some.injEq] at h1 h2
    subst h1; subst h2
    exact ⟨rfl, h3, by simp⟩
  | [], b :: bs, t, t1, t2, hl, _, _, _, _ => by simp at hl
  | a :: al, [], t, t1, t2, hl, _, _, _, _ => by simp at hl
  | a :: al, b :: bs, t, t1, t2, hl, hT, h1, h2, h3 => by
    have h0 := hT 0 a b rfl rfl
    have hl' : al.length = bs.length := by simpa using hl
    have hT' : ∀ (r : Nat) (a b : ArcL), al[r]? = some a → bs[r]? = some b → Ts[b.to.toNat]? = some [(a.to.toNat, 0)] := fun r a' b' ha hb => hT (r + 1) a' b' (by simpa using ha) (by simpa using hb)
    simp only [runT] at h1 h2
    have fin : ∀ (e : b.to.toNat = a.to.toNat) (t' : Nat), runT t' al = some t1 → runT t' bs = some t2 → (∀ j, j < t' → Ts[j]? = some [(j, 0)]) → t1 = t2 ∧ (∀ j, j < t1 → Ts[j]? = some [(j, 0)]) ∧ ∀ (r : Nat) (a_1 b_1 : ArcL), (a :: al)[r]? = some a_1 → (b :: bs)[r]? = some b_1 → b_1.to.toNat = a_1.to.toNat := by
      intro e t' k1 k2 k3
      obtain ⟨g1, g2, g3⟩ := num_step nd al bs t' t1 t2 hl' hT' k1 k2 k3
      refine ⟨g1, g2, fun r a' b' ha hb => ?_⟩
      cases r with
      | zero =>
        simp only [List.getElem?_cons_zero, Option.some.injEq] at ha hb
        subst ha; subst hb; exact e
      | succ r => exact g3 r a' b' (by simpa using ha) (by simpa using hb)
    by_cases hb : b.to.toNat < t
    · rw [if_pos hb] at h2
      have e := h3 _ hb
      rw [h0] at e
      have e2 : a.to.toNat = b.to.toNat := by
        have := Option.some.inj e
        injection this with g _
        exact congrArg Prod.fst g
      rw [if_pos (by omega)] at h1
      exact fin e2.symm t h1 h2 h3
    · rw [if_neg hb] at h2
      by_cases hb2 : b.to.toNat = t
      · rw [if_pos hb2] at h2
        by_cases ha : a.to.toNat < t
        · exfalso
          have e := h3 _ ha
          have := nd_inj nd (h0.trans e.symm) h0
          omega
        · rw [if_neg ha] at h1
          by_cases ha2 : a.to.toNat = t
          · rw [if_pos ha2] at h1
            refine fin (by omega) (t + 1) h1 h2 fun j hj => ?_
            by_cases hjt : j < t
            · exact h3 j hjt
            · obtain rfl : j = t := by omega
              rw [hb2, ha2] at h0
              exact h0
          · rw [if_neg ha2] at h1; cases h1
      · rw [if_neg hb2] at h2; cases h2
section
variable {m x : MachL} {WW WW' : Int} {Ss Ts : List SetL} {ys : List StateL} {cur : List ArcL} {S : SetL} {ks : List (Int × Int)}
theorem keys_one (h : CertI m WW Ss x.states []) {i : Nat} (hi : i < x.states.length) : KeysS x [(i, 0)] ((x.states[i]).arcs.map kOf) := by
  obtain ⟨S, -, -, h3⟩ := h.st i _ (List.getElem?_eq_getElem hi)
  refine ⟨h3.keys.ord, fun k => ?_⟩
  constructor
  · intro hk
    obtain ⟨a, ha, rfl⟩ := List.mem_map.1 hk
    exact ⟨_, _, (i, 0), by simp, a, by rw [arcsQ_eq (List.getElem?_eq_getElem hi)]; exact ha, rfl, rfl, rfl, rfl⟩
  · rintro ⟨q, c, p, hp, a, ha, h1, h2, -, -⟩
    simp only [List.mem_singleton] at hp
    subst hp
    rw [arcsQ_eq (List.getElem?_eq_getElem hi)] at ha
    exact List.mem_map.2 ⟨a, ha, by unfold kOf; rw [h1, h2]⟩
/-- labels in order: an arc is known by them -/
theorem key_uniq : ∀ {al : List ArcL}, (al.map kOf).Pairwise keyLt → ∀ {a b : ArcL}, a ∈ al → b ∈ al → kOf a = kOf b → a = b
  | [], _, a, b, ha, _, _ => by cases ha
  | c :: al, h, a, b, ha, hb, e => by
    simp only [List.map_cons, List.pairwise_cons] at h
    rcases List.mem_cons.1 ha with ha | ha <;> rcases List.mem_cons.1 hb with hb | hb
    · rw [ha, hb]
    · have := h.1 (kOf b) (List.mem_map.2 ⟨b, hb, rfl⟩)
      rw [← e, ha] at this; unfold keyLt at this; omega
    · have := h.1 (kOf a) (List.mem_map.2 ⟨a, ha, rfl⟩)
      rw [e, hb] at this; unfold keyLt at this; omega
    · exact key_uniq h.2 ha hb e
theorem next_one (h : CertI m WW Ss x.states []) {i : Nat} (hi : i < x.states.length) {a : ArcL} (ha : a ∈ (x.states[i]).arcs) : NextS x [(i, 0)] a.inn a.out a.wt [(a.to.toNat, 0)] := by
  obtain ⟨S, -, -, h3⟩ := h.st i _ (List.getElem?_eq_getElem hi)
  have hca : ∀ q c, Cand x [(i, 0)] a.inn a.out q c ↔ q = a.to.toNat ∧ c = a.wt := by
    intro q c
    constructor
    · rintro ⟨p, hp, b, hb, h1, h2, h4, h5⟩
      simp only [List.mem_singleton] at hp
      subst hp
      rw [arcsQ_eq (List.getElem?_eq_getElem hi)] at hb
      obtain rfl := key_uniq h3.keys.ord hb ha (by unfold kOf; rw [h1, h2])
      simp only at h5
      exact ⟨h4.symm, by omega⟩
    · rintro ⟨rfl, rfl⟩
      exact ⟨(i, 0), by simp, a, by rw [arcsQ_eq (List.getElem?_eq_getElem hi)]; exact ha, rfl, rfl, rfl, by simp⟩
  refine ⟨by simp [SortedS], fun q l => ?_, ⟨_, by simp; rfl⟩, by simp⟩
  unfold MinC
  simp only [List.mem_singleton, Prod.mk.injEq, hca]
  constructor
  · rintro ⟨rfl, rfl⟩
    exact ⟨⟨rfl, by omega⟩, fun d hd => by omega⟩
  · rintro ⟨⟨rfl, h⟩, -⟩
    exact ⟨rfl, by omega⟩
theorem fin_one {i : Nat} (hi : i < x.states.length) {f : Int} (h : FinS x [(i, 0)] f) : f = (x.states[i]).final := by
  have e := finQ_eq (List.getElem?_eq_getElem hi)
  rcases h with ⟨h1, h2⟩ | ⟨h1, ⟨p, hp, h3, h4⟩, -⟩
  · have := h2 (i, 0) (by simp)
    simp only at this
    rw [h1, ← this, e]
  · simp only [List.mem_singleton] at hp
    subst hp
    simp only at h4
    rw [← h4, e]; omega
/-- the arcs of a state, and what is made of them -/
theorem arcs_one (h : CertI m WW Ss x.states []) (ht : Ts.Nodup) {i : Nat} (hi : i < x.states.length) {cur : List ArcL} (hk : cur.map kOf = (((x.states[i]).arcs.map kOf)).take cur.length) (hn : ∀ a ∈ cur, ArcN x Ts [(i, 0)] a)
    {t t1 t2 : Nat} (h1 : runT t ((x.states[i]).arcs.take cur.length) = some t1) (h2 : runT t cur = some t2) (h3 : ∀ j, j < t → Ts[j]? = some [(j, 0)]) (h0 : ∀ a ∈ (x.states[i]).arcs, 0 ≤ a.to) :
    t1 = t2 ∧ (∀ j, j < t1 → Ts[j]? = some [(j, 0)]) ∧ cur = (x.states[i]).arcs.take cur.length := by
  have hl : ((x.states[i]).arcs.take cur.length).length = cur.length := by
    have := congrArg List.length hk
    simp only [List.length_map, List.length_take] at this ⊢
    omega
  have hkey : ∀ (r : Nat) (a b : ArcL), ((x.states[i]).arcs.take cur.length)[r]? = some a → cur[r]? = some b → kOf b = kOf a ∧ a ∈ (x.states[i]).arcs ∧ b ∈ cur := by
    intro r a b ha hb
    have e := congrArg (·[r]?) hk
    simp only [List.getElem?_map, hb, Option.map_some] at e
    rw [← List.map_take, List.getElem?_map, ha] at e
    simp only [Option.map_some, Option.some.injEq] at e
    exact ⟨e, List.mem_of_mem_take (List.mem_of_getElem? ha), List.mem_of_getElem? hb⟩
  have hnx : ∀ (r : Nat) (a b : ArcL), ((x.states[i]).arcs.take cur.length)[r]? = some a → cur[r]? = some b → b.wt = a.wt ∧ 0 ≤ b.to ∧ Ts[b.to.toNat]? = some [(a.to.toNat, 0)] := by
    intro r a b ha hb
    obtain ⟨e, hm, hm2⟩ := hkey r a b ha hb
    obtain ⟨hb0, T, hT, hnb⟩ := hn b hm2
    unfold kOf at e
    injection e with e1 e2
    rw [e1, e2] at hnb
    obtain ⟨g1, g2⟩ := hnb.eq (next_one h hi hm)
    exact ⟨g1, hb0, by rw [hT, g2]⟩
  obtain ⟨g1, g2, g3⟩ := num_step ht _ _ t t1 t2 hl (fun r a b ha hb => (hnx r a b ha hb).2.2) h1 h2 h3
  refine ⟨g1, g2, List.ext_getElem? fun r => ?_⟩
  by_cases hr : r < cur.length
  · have hb : cur[r]? = some cur[r] := List.getElem?_eq_getElem hr
    have ha : ((x.states[i]).arcs.take cur.length)[r]? = some ((x.states[i]).arcs.take cur.length)[r] := List.getElem?_eq_getElem (by omega)
    rw [hb, ha]
    obtain ⟨e, hm, -⟩ := hkey r _ _ ha hb
    obtain ⟨e3, hb0, -⟩ := hnx r _ _ ha hb
    have e4 := g3 r _ _ ha hb
    have ha0 := h0 _ hm
    generalize ((x.states[i]).arcs.take cur.length)[r] = a at *
    generalize cur[r] = b at *
    unfold kOf at e
    injection e with e1 e2
    cases a; cases b
    simp only at e1 e2 e3 e4 hb0 ha0
    have e5 : ∀ {p q : Int}, 0 ≤ p → 0 ≤ q → p.toNat = q.toNat → p = q := fun h1 h2 h3 => by omega
    rw [e1, e2, e3, e5 hb0 ha0 e4]
  · rw [List.getElem?_eq_none (by omega), List.getElem?_eq_none (by omega)]
theorem runT_prefix {l l' : List ArcL} {t t' : Nat} (h : runT t (l ++ l') = some t') : ∃ s, runT t l = some s ∧ runT s l' = some t' ∧ s ≤ t' := by
  rw [runT_append] at h
  cases hs : runT t l with
  | none => rw [hs] at h; cases h
  | some s =>
    rw [hs] at h
    exact ⟨s, rfl, h, runT_le _ _ _ h⟩
theorem flat_split (xs : List StateL) {i : Nat} (hi : i < xs.length) : flatA xs = flatA (xs.take i) ++ ((xs[i]).arcs ++ flatA (xs.drop (i + 1))) := by
  have e : xs = xs.take i ++ (xs[i] :: xs.drop (i + 1)) := by rw [← List.drop_eq_getElem_cons hi, List.take_append_drop]
  calc flatA xs = flatA (xs.take i ++ (xs[i] :: xs.drop (i + 1))) := congrArg flatA e
    _ = _ := by simp only [flatA, List.flatMap_append, List.flatMap_cons]
theorem flat_take (xs : List StateL) {i : Nat} (hi : i < xs.length) : flatA (xs.take (i + 1)) = flatA (xs.take i) ++ (xs[i]).arcs := by
  rw [List.take_succ_eq_append_getElem hi, flatA_snoc]
/-- what is made, al far al it has come -/
theorem stays_stage (h : CertI m WW Ss x.states []) (hl : x.states.length = Ss.length) (h0 : x.start = 0) (hy : CertI x WW' Ts ys cur) (hc : cur = [] ∨ CurI x Ts ys S ks cur) :
    (∀ j, j < Ts.length → Ts[j]? = some [(j, 0)]) ∧ ys = x.states.take ys.length ∧ Ts.length ≤ x.states.length ∧ (flatA ys ++ cur).length ≤ arcsOf x.states := by
  have hcan := h.canon
  rw [List.append_nil] at hcan
  have hto : ∀ i (hi : i < x.states.length), ∀ a ∈ (x.states[i]).arcs, 0 ≤ a.to := fun i hi a ha => by
    obtain ⟨S, -, -, h3⟩ := h.st i _ (List.getElem?_eq_getElem hi)
    exact (h3.nx a ha).1
  have pre : ∀ i t, runT 1 (flatA (x.states.take i)) = some t → t ≤ x.states.length := by
    intro i t ht
    by_cases hi : i < x.states.length
    · rw [flat_split _ hi] at hcan
      obtain ⟨s, k1, -, k3⟩ := runT_prefix hcan
      rw [k1] at ht
      have := Option.some.inj ht
      omega
    · rw [List.take_of_length_le (by omega), hcan] at ht
      have := Option.some.inj ht
      omega
  have key : ∀ i, i ≤ ys.length → ys.take i = x.states.take i ∧ ∃ t, runT 1 (flatA (x.states.take i)) = some t ∧ ∀ j, j < t → Ts[j]? = some [(j, 0)] := by
    intro i
    induction i with
    | zero =>
      intro _
      refine ⟨by simp, 1, rfl, fun j hj => ?_⟩
      obtain rfl : j = 0 := by omega
      have := hy.first
      rw [h0] at this
      exact this
    | succ i ih =>
      intro hi
      obtain ⟨e, t, ht, hT⟩ := ih (by omega)
      obtain ⟨t', ht', hit⟩ := hy.cover i (by omega)
      rw [e, ht] at ht'
      obtain rfl := Option.some.inj ht'
      have hix : i < x.states.length := by have := pre i t ht; omega
      obtain ⟨S', g1, g2, g3⟩ := hy.st i _ (List.getElem?_eq_getElem (show i < ys.length by omega))
      rw [hT i hit] at g1
      obtain rfl := Option.some.inj g1
      have hk := g3.keys.eq (keys_one h hix)
      have hlen : (ys[i]).arcs.length = (x.states[i]).arcs.length := by simpa using congrArg List.length hk
      have hrx := hcan
      rw [flat_split _ hix] at hrx
      obtain ⟨s, k1, k2, -⟩ := runT_prefix hrx
      rw [ht] at k1
      obtain rfl := Option.some.inj k1
      obtain ⟨s2, k3, -, -⟩ := runT_prefix k2
      have hry : ∃ z, runT t (ys[i]).arcs = some z := by
        have h5 := hy.canon
        rw [flat_split ys (show i < ys.length by omega), List.append_assoc, e] at h5
        obtain ⟨s', k4, k5, -⟩ := runT_prefix h5
        rw [ht] at k4
        obtain rfl := Option.some.inj k4
        rw [List.append_assoc] at k5
        obtain ⟨s3, k6, -, -⟩ := runT_prefix k5
        exact ⟨s3, k6⟩
      obtain ⟨z, hz⟩ := hry
      obtain ⟨q1, q2, q3⟩ := arcs_one h hy.nd hix (cur := (ys[i]).arcs) (by rw [hk, hlen, List.take_of_length_le (by simp)]) g3.nx (by rw [hlen, List.take_length]; exact k3) hz hT (hto i hix)
      rw [hlen, List.take_length] at q3
      have q4 := fin_one hix g2
      have eS : ys[i] = x.states[i] := by
        generalize ys[i] = a at *
        generalize x.states[i] = b at *
        cases a; cases b
        simp only at q3 q4
        rw [q3, q4]
      refine ⟨?_, s2, ?_, q2⟩
      · rw [List.take_succ_eq_append_getElem (show i < ys.length by omega), List.take_succ_eq_append_getElem hix, e, eS]
      · rw [flat_take _ hix, runT_append, ht]
        exact k3
  obtain ⟨e, t, ht, hT⟩ := key ys.length (Nat.le_refl _)
  rw [List.take_length] at e
  have hcy := hy.canon
  rcases hc with rfl | hc
  · rw [List.append_nil] at hcy ⊢
    rw [e, ht] at hcy
    obtain rfl := Option.some.inj hcy
    refine ⟨hT, e, pre _ _ ht, ?_⟩
    rw [e, flatA_len]
    unfold arcsOf
    rw [List.map_take]
    have h5 := List.sum_append (l₁ := (x.states.map (fun s => s.arcs.length)).take ys.length) (l₂ := (x.states.map (fun s => s.arcs.length)).drop ys.length)
    rw [List.take_append_drop] at h5
    omega
  · obtain ⟨t', ht', hit⟩ := hc.beg
    rw [e, ht] at ht'
    obtain rfl := Option.some.inj ht'
    have hix : ys.length < x.states.length := by have := pre _ t ht; omega
    have hat := hc.at_
    rw [hT _ hit] at hat
    obtain rfl := Option.some.inj hat
    have hk := hc.keys.eq (keys_one h hix)
    have hrx := hcan
    rw [flat_split _ hix] at hrx
    obtain ⟨s, k1, k2, -⟩ := runT_prefix hrx
    rw [ht] at k1
    obtain rfl := Option.some.inj k1
    have hrx2 := k2
    rw [← List.take_append_drop cur.length (x.states[ys.length]).arcs, List.append_assoc] at k2
    obtain ⟨s2, k3, -, hs2⟩ := runT_prefix k2
    rw [e] at hcy
    obtain ⟨s4, k4, k5, -⟩ := runT_prefix hcy
    rw [ht] at k4
    obtain rfl := Option.some.inj k4
    obtain ⟨q1, q2, q3⟩ := arcs_one h hy.nd hix (cur := cur) (by rw [← hk]; exact hc.done) hc.nx k3 k5 hT (hto _ hix)
    subst q1
    refine ⟨q2, e, by omega, ?_⟩
    have h7 := congrArg List.length (flat_split x.states hix)
    rw [flatA_len] at h7
    simp only [List.length_append] at h7 ⊢
    have h8 := congrArg List.length q3
    rw [List.length_take] at h8
    have h9 : (flatA ys).length = (flatA (x.states.take ys.length)).length := by rw [← e]
    omega
theorem stays_done (h : CertI m WW Ss x.states []) (hl : x.states.length = Ss.length) (h0 : x.start = 0) {y : MachL} (hy : CertOk x WW' y) : y = x := by
  obtain ⟨hy0, Ts, hI, hyl⟩ := hy
  obtain ⟨h1, h2, h3, -⟩ := stays_stage (S := []) (ks := []) h hl h0 hI (.inl rfl)
  have h4 : y.states.length = x.states.length := by
    by_cases hlt : y.states.length < x.states.length
    · exfalso
      obtain ⟨t, ht, hit⟩ := h.cover _ hlt
      have h5 := hI.canon
      rw [List.append_nil, h2, ht] at h5
      have := Option.some.inj h5
      omega
    · omega
  rw [h4, List.take_length] at h2
  cases x; cases y
  simp only at h0 hy0 h2
  rw [h0, hy0, h2]
end
end Go.Proofs.YtkmnacchiagipaaDoor
