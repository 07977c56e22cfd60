/- Machines whose arcs are put to states one by one: plain, and in memory. -/
import Derived.Test.YtfikkpgigicepaaBuild
import Derived.Test.YtfikkpgigicepaaBlk
import Derived.Test.YtfikkpgigicepaaCheck
import Derived.Test.YtfikkpgigicepaaGrid
import Derived.Test.YtfikkpgigicepaaMemSet
namespace Go.Proofs.Ytfikkpgigicepaa
open Go.RowKit

/-! ### plain -/
abbrev emptyS : StateL := ⟨1000000001, []⟩
def addS (ss : List StateL) (x : Nat × ArcL) : List StateL := match ss[x.1]? with
  | some s => ss.set x.1 ⟨s.final, s.arcs ++ [x.2]⟩
  | none => ss
def addSs (ss : List StateL) (l : List (Nat × ArcL)) : List StateL := l.foldl addS ss
theorem addSs_snoc (ss : List StateL) (l : List (Nat × ArcL)) (x : Nat × ArcL) : addSs ss (l ++ [x]) = addS (addSs ss l) x := by unfold addSs; rw [List.foldl_append]; rfl
theorem addS_eq (ss : List StateL) (x : Nat × ArcL) (h : x.1 < ss.length) : addS ss x = ss.set x.1 ⟨ss[x.1].final, ss[x.1].arcs ++ [x.2]⟩ := by unfold addS; rw [List.getElem?_eq_getElem h]
theorem addS_len (ss : List StateL) (x : Nat × ArcL) : (addS ss x).length = ss.length := by unfold addS; split <;> simp
theorem addSs_len (l : List (Nat × ArcL)) : ∀ ss : List StateL, (addSs ss l).length = ss.length := by
  induction l with
  | nil => intro ss; rfl
  | cons x l ih => intro ss; exact (ih _).trans (addS_len _ _)
theorem addS_get (ss : List StateL) (x : Nat × ArcL) (hx : x.1 < ss.length) (q : Nat) (hq : q < ss.length) : (addS ss x)[q]'(by rw [addS_len]; exact hq) = if x.1 = q then ⟨ss[q].final, ss[q].arcs ++ [x.2]⟩ else ss[q] := by
  have e := addS_eq ss x hx
  simp only [e]
  by_cases h : x.1 = q
  · subst h; simp
  · rw [if_neg h, List.getElem_set_ne h]
theorem addSs_get (l : List (Nat × ArcL)) : ∀ (ss : List StateL), (∀ x ∈ l, x.1 < ss.length) → ∀ (q : Nat) (hq : q < ss.length), (addSs ss l)[q]'(by rw [addSs_len]; exact hq) = ⟨ss[q].final, ss[q].arcs ++ (l.filter (fun x => x.1 = q)).map (·.2)⟩ := by
  induction l with
  | nil => intro ss _ q hq; simp [addSs]
  | cons x l ih =>
    intro ss hl q hq
    have hx := hl x (by simp)
    have h1 := ih (addS ss x) (fun y hy => by rw [addS_len]; exact hl y (by simp [hy])) q (by rw [addS_len]; exact hq)
    have h2 := addS_get ss x hx q hq
    refine (show (addSs ss (x :: l))[q]'(by rw [addSs_len]; exact hq) = (addSs (addS ss x) l)[q]'(by rw [addSs_len, addS_len]; exact hq) from rfl).trans (h1.trans ?_)
    rw [h2]
    by_cases e : x.1 = q
    · rw [if_pos e]; simp [e]
    · rw [if_neg e]; simp [e]
theorem addSs_arcs (l : List (Nat × ArcL)) : ∀ (ss : List StateL), (∀ x ∈ l, x.1 < ss.length) → arcsOf (addSs ss l) = arcsOf ss + l.length := by
  induction l with
  | nil => intro ss _; simp [addSs]
  | cons x l ih =>
    intro ss hl
    have hx := hl x (by simp)
    have h1 := ih (addS ss x) (fun y hy => by rw [addS_len]; exact hl y (by simp [hy]))
    show arcsOf (addSs (addS ss x) l) = _
    rw [h1]
    have h2 : arcsOf (addS ss x) = arcsOf ss + 1 := by
      rw [addS_eq _ _ hx]
      unfold arcsOf
      rw [List.map_set]
      have key : ∀ (l : List Nat) (i : Nat) (hi : i < l.length), (l.set i (l[i] + 1)).sum = l.sum + 1 := by
        intro l
        induction l with
        | nil => intro i hi; simp at hi
        | cons a l ih =>
          intro i hi
          cases i with
          | zero => simp; omega
          | succ i => simp only [List.set_cons_succ, List.sum_cons, List.getElem_cons_succ]; rw [ih i (by simpa using hi)]; omega
      have := key (ss.map fun s => s.arcs.length) x.1 (by simpa using hx)
      simpa using this
    rw [h2, List.length_cons]; omega

/-! ### in memory -/
theorem own_blk_ne {w : World} {base n size : Nat} {e t : TypeId} {v : Value} {xs : List Value} {g : Nat} {cs : Array Value} (h : w.ownsRow base e size v n xs) (hg : Blk w g cs t) (hne : e ≠ t) : v.ownBlock ≠ some g := by
  rcases h.2 with ⟨rfl, _⟩ | ⟨g', cap, cur, rfl, _, hh, _⟩
  · simp [Value.ownBlock]
  · intro he
    simp only [Value.ownBlock, Option.some.injEq] at he
    subst he
    unfold Blk at hg
    rw [hh] at hg
    injection hg with hg
    injection hg with _ ht
    exact hne ht

/-- states at g that grow, none of whose rows of arcs is another one's -/
structure StG (w : World) (B g n : Nat) (vs : List Value) (ss : List StateL) : Prop where
  st : OwnStV w B (.slice (some ⟨g, 0, none⟩) n n) vs ss
  apart : ∀ i j (hi : i < vs.length) (hj : j < vs.length), i ≠ j → Apart vs[i] vs[j]
section
variable {w w' : World} {B g n : Nat} {vs : List Value} {ss : List StateL}
theorem StG.keep (h : StG w B g n vs ss) (hb : Below w.heap.size w w') : StG w' B g n vs ss := ⟨h.st.below hb (Nat.le_refl _), h.apart⟩
theorem StG.len (h : StG w B g n vs ss) : n = ss.length := by obtain ⟨A', c', hv, -, -⟩ := h.st.form; simp at hv; exact hv.2.1
theorem StG.arcs_ne (h : StG w B g n vs ss) {q : Nat} (hq : q < ss.length) : (vs[q]'(by rw [h.st.len]; exact hq)).ownBlock ≠ some g := by
  rcases own_ne (h.st.arcs q hq (by rw [h.st.len]; exact hq)) h.st.row (by decide) with e | e
  · rw [e]; simp
  · simpa [Value.ownBlock] using e
theorem StG.cell (h : StG w B g n vs ss) {q : Nat} (hq : q < ss.length) : w.cell? ⟨g, q * 2 + 1, none⟩ = some (vs[q]'(by rw [h.st.len]; exact hq)) ∧ w.cell? ⟨g, q * 2, none⟩ = some (.int .i64 ss[q].final) := by
  have hqv : q < vs.length := by rw [h.st.len]; exact hq
  have hn := h.len
  subst hn
  have r := Rd.of_own h.st.row
  have hz : ((ss.map (·.final)).zip vs).length = ss.length := by simp [h.st.len]
  have key : ∀ (j : Nat) (hj : j < 2), w.cell? ⟨g, q * 2 + j, none⟩ = (stCells (ss[q].final, vs[q]))[j]? := by
    intro j hj
    have e := flatMap_at stCells 2 (fun _ => rfl) ((ss.map (·.final)).zip vs) q (by omega) j hj
    simp only [List.getElem_zip, List.getElem_map] at e
    have hs : (stCells (ss[q].final, vs[q]))[j]? = some ((stCells (ss[q].final, vs[q]))[j]'hj) := List.getElem?_eq_getElem hj
    rw [hs] at e ⊢
    have := r.at' e
    simpa [blk_some, ofs_some] using this
  exact ⟨key 1 (by omega), key 0 (by omega)⟩
theorem StG.froz (h : StG w B g n vs ss) (o : Nat) (h0 : 0 < n) : w.frozen? ⟨g, o, none⟩ = false := by
  rcases h.st.row.2 with ⟨_, e⟩ | ⟨g', cap, cur, hv, _, hh, _⟩
  · have := h.len; omega
  · simp at hv; obtain ⟨rfl, -⟩ := hv
    simp [World.frozen?, hh]
theorem StG.lt (h : StG w B g n vs ss) (h0 : 0 < n) : B ≤ g ∧ g < w.heap.size := by
  rcases h.st.row.2 with ⟨_, e⟩ | ⟨g', cap, cur, hv, hb, hh, _⟩
  · have := h.len; omega
  · simp at hv; obtain ⟨rfl, -⟩ := hv
    exact ⟨hb, (Array.getElem?_eq_some_iff.1 hh).1⟩
/-- an arc is put to a state -/
theorem StG.add (h : StG w B g n vs ss) (q : Nat) (hq : q < ss.length) (a : ArcL) {v' : Value} {k : Nat} (hk : k = ss[q].arcs.length + 1) (hg : w.grownBy w' (vs[q]'(by rw [h.st.len]; exact hq)).ownBlock)
    (hx : w'.ownsRow B 44 4 v' k (arcsCells ss[q].arcs ++ arcCells a)) (hat : ∀ b, v'.ownBlock = some b → (vs[q]'(by rw [h.st.len]; exact hq)).ownBlock = some b ∨ w.heap.size ≤ b) :
    StG (w'.setCell ⟨g, q * 2 + 1, none⟩ v') B g n (vs.set q v') (addS ss (q, a)) := by
  have hqv : q < vs.length := by rw [h.st.len]; exact hq
  have hn := h.len
  have hgl := (h.lt (by omega)).2
  have hvg : v'.ownBlock ≠ some g := fun e => by
    rcases hat g e with h1 | h1
    · exact h.arcs_ne hq h1
    · omega
  have lt_i : ∀ i (hi : i < vs.length) b, vs[i].ownBlock = some b → b < w.heap.size := fun i hi b hb => ((h.st.arcs i (by rw [← h.st.len]; exact hi) hi).lt b hb).2
  have ap : ∀ i (hi : i < vs.length), i ≠ q → Apart v' vs[i] := fun i hi hne k hk hk2 => by
    rcases hat k hk with h1 | h1
    · exact h.apart q i hqv hi (fun e => hne e.symm) k h1 hk2
    · have := lt_i i hi k hk2; omega
  have kept : ∀ i (hi : i < ss.length) (hi' : i < vs.length), i ≠ q → OwnArcs w' B vs[i] ss[i].arcs := fun i hi hi' hne =>
    (h.st.arcs i hi hi').grown hg (by
      cases hb : (vs[i]).ownBlock with
      | none => exact .inl rfl
      | some k => exact .inr (fun e2 => h.apart i q hi' hqv hne k hb e2.symm))
  have hrow : w'.ownsRow B 40 2 (.slice (some ⟨g, 0, none⟩) n n) ss.length (statesCells ((ss.map (·.final)).zip vs)) :=
    World.ownsRow.kept h.st.row hg (.inr (by simp only [Value.ownBlock]; exact (h.arcs_ne hq).symm))
  have hz : q < ((ss.map (·.final)).zip vs).length := by simp [h.st.len]; exact hq
  have hadd := addS_eq ss (q, a) hq
  simp only at hadd
  refine ⟨⟨by rw [addS_len]; simp [h.st.len], ?_, fun i hi hi' => ?_⟩, fun i j hi hj hij => ?_⟩
  · subst hn
    have hr := (hrow.stored (q * 2 + 1) v').1
    rw [statesCells_set1 _ _ hz, zip_set_snd] at hr
    rw [addS_len, hadd, final_set _ _ hq]
    exact hr
  · rw [addS_len] at hi
    have hg2 := addS_get ss (q, a) hq i hi
    rw [hg2]
    by_cases e : q = i
    · subst e
      rw [if_pos rfl]
      simp only [List.getElem_set_self]
      subst hk
      have : OwnArcs w' B v' (ss[q].arcs ++ [a]) := by unfold OwnArcs; rw [arcsCells_snoc, List.length_append]; exact hx
      exact this.setCell (by simpa using hvg) _
    · rw [if_neg e, List.getElem_set_ne e]
      exact (kept i hi (by simpa using hi') (fun e' => e e'.symm)).setCell (by simpa using h.arcs_ne hi) _
  · by_cases e1 : q = i
    · subst e1
      simp only [List.getElem_set_self]
      rw [List.getElem_set_ne hij]
      exact ap j (by simpa using hj) (fun e => hij e.symm)
    · rw [List.getElem_set_ne e1]
      by_cases e2 : q = j
      · subst e2
        simp only [List.getElem_set_self]
        exact (ap i (by simpa using hi) (fun e => hij e)).symm
      · rw [List.getElem_set_ne e2]
        exact h.apart i j (by simpa using hi) (by simpa using hj) hij
theorem StG.setFinal (h : StG w B g n vs ss) (q : Nat) (hq : q < ss.length) (f : Int) : StG (w.setCell ⟨g, q * 2, none⟩ (.int .i64 f)) B g n vs (ss.set q ⟨f, ss[q].arcs⟩) := ⟨h.st.setFinal q hq f, h.apart⟩
end
end Go.Proofs.Ytfikkpgigicepaa
