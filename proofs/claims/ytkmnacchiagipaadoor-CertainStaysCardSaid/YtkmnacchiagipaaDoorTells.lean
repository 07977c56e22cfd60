/- What the bits of a machine are when an arc is added (plain). -/
import Derived.Test.YtkmnacchiagipaaDoorBits
import Derived.Test.YtkmnacchiagipaaDoorValid
namespace Go.Proofs.YtkmnacchiagipaaDoor
open Go.RowKit

theorem bitsT_fold (ss : List StateL) : ∀ b : BitsL, ss.foldl bitsS b = ⟨b.acc && ss.all (fun s => s.arcs.all accA), b.full && ss.all (fun s => s.arcs.all fullA), b.cert && ss.all (fun s => nodupB (labsOf s.arcs)), b.sorted && ss.all (fun s => sortedL s.arcs), b.plain && ss.all (fun s => (s.final == 0 || s.final == 1000000001) && s.arcs.all plainA)⟩ := by
  induction ss with
  | nil => intro b; simp
  | cons s ss ih => intro b; simp only [List.foldl_cons, ih, bitsS, List.all_cons, Bool.and_assoc]
theorem bitsT_eq (ss : List StateL) : bitsT ss = ⟨ss.all (fun s => s.arcs.all accA), ss.all (fun s => s.arcs.all fullA), ss.all (fun s => nodupB (labsOf s.arcs)), ss.all (fun s => sortedL s.arcs), ss.all (fun s => (s.final == 0 || s.final == 1000000001) && s.arcs.all plainA)⟩ := by
  unfold bitsT; rw [bitsT_fold]; simp only [Bool.true_and]

theorem all_set {α : Type} (l : List α) (p : α → Bool) (q : Nat) (hq : q < l.length) (x : α) (h : p x = p l[q]) : (l.set q x).all p = l.all p := by
  rw [Bool.eq_iff_iff, List.all_eq_true, List.all_eq_true]
  constructor
  · intro H y hy
    obtain ⟨i, hi, rfl⟩ := List.getElem_of_mem hy
    by_cases e : q = i
    · subst e; rw [← h]; exact H x (List.mem_set hq x)
    · have := H ((l.set q x)[i]'(by simpa using hi)) (List.getElem_mem _)
      rwa [List.getElem_set_ne e] at this
  · intro H y hy
    rcases List.mem_or_eq_of_mem_set hy with hm | rfl
    · exact H y hm
    · rw [h]; exact H _ (List.getElem_mem _)
theorem all_set_false {α : Type} (l : List α) (p : α → Bool) (q : Nat) (hq : q < l.length) (x : α) (h : p x = false) : (l.set q x).all p = false := by
  rw [Bool.eq_false_iff]; intro H
  rw [List.all_eq_true] at H
  have := H x (List.mem_set hq x)
  rw [h] at this; cases this

theorem set_acc (ss : List StateL) (q : Nat) (hq : q < ss.length) (l : List ArcL) (h : l.all accA = ss[q].arcs.all accA) : (bitsOf (ss.set q ⟨ss[q].final, l⟩)).acc = (bitsOf ss).acc := by
  simp only [bitsOf, bitsT_eq]; exact all_set _ (fun s : StateL => s.arcs.all accA) q hq _ h
theorem set_full (ss : List StateL) (q : Nat) (hq : q < ss.length) (l : List ArcL) (h : l.all fullA = ss[q].arcs.all fullA) : (bitsOf (ss.set q ⟨ss[q].final, l⟩)).full = (bitsOf ss).full := by
  simp only [bitsOf, bitsT_eq]; exact all_set _ (fun s : StateL => s.arcs.all fullA) q hq _ h
theorem set_plain (ss : List StateL) (q : Nat) (hq : q < ss.length) (l : List ArcL) (h : l.all plainA = ss[q].arcs.all plainA) : (bitsOf (ss.set q ⟨ss[q].final, l⟩)).plain = (bitsOf ss).plain := by
  simp only [bitsOf, bitsT_eq]; exact all_set _ (fun s : StateL => (s.final == 0 || s.final == 1000000001) && s.arcs.all plainA) q hq _ (by simp only [h])
theorem set_empty (ss : List StateL) (q : Nat) (hq : q < ss.length) (l : List ArcL) (h : l.all fullA = false) : (bitsOf (ss.set q ⟨ss[q].final, l⟩)).full = false ∧ (bitsOf (ss.set q ⟨ss[q].final, l⟩)).cert = false := by
  have e := all_set_false ss (fun s : StateL => s.arcs.all fullA) q hq ⟨ss[q].final, l⟩ h
  simp only [bitsOf, bitsT_eq, e, Bool.and_false, and_self]
theorem set_twin (ss : List StateL) (q : Nat) (hq : q < ss.length) (l : List ArcL) (h : ¬ (labsOf l).Nodup) : (bitsOf (ss.set q ⟨ss[q].final, l⟩)).cert = false := by
  have e := all_set_false ss (fun s : StateL => nodupB (labsOf s.arcs)) q hq ⟨ss[q].final, l⟩ (by simp [nodupB, h])
  simp only [bitsOf, bitsT_eq, e, Bool.false_and]
theorem all_snoc_mem {α : Type} (l : List α) (p : α → Bool) (x : α) (h : x ∈ l) : (l ++ [x]).all p = l.all p := by
  rw [List.all_append]
  cases e : l.all p
  · simp
  · simp; exact List.all_eq_true.1 e x h
theorem twin_nodup (l : List ArcL) (x : ArcL) (h : x ∈ l) : ¬ (labsOf (l ++ [x])).Nodup := by
  intro H
  simp only [labsOf, List.map_append, List.map_cons, List.map_nil, List.nodup_append] at H
  exact H.2.2 _ (List.mem_map.2 ⟨x, h, rfl⟩) _ (by simp) rfl

theorem arcsOf_set (ss : List StateL) (q : Nat) (hq : q < ss.length) (x : ArcL) : arcsOf (ss.set q ⟨ss[q].final, ss[q].arcs ++ [x]⟩) = arcsOf ss + 1 := by
  induction ss generalizing q with
  | nil => simp at hq
  | cons s ss ih =>
    cases q with
    | zero => simp [arcsOf]; omega
    | succ q =>
      have := ih q (by simpa using hq)
      simp only [arcsOf, List.set_cons_succ, List.map_cons, List.sum_cons, List.getElem_cons_succ] at this ⊢
      omega
theorem valid_set {m : MachL} (h : Valid m) (ha : arcsOf m.states ≤ 24) (q : Nat) (hq : q < m.states.length) (x : ArcL) (hx : ValidArc m.states.length x) : Valid ⟨m.start, m.states.set q ⟨m.states[q].final, m.states[q].arcs ++ [x]⟩⟩ := by
  refine ⟨by simpa using h.size, by simp only [arcsOf_set _ q hq]; omega, h.s0, by simpa using h.s1, fun s hs => ?_⟩
  simp only [List.length_set]
  rcases List.mem_or_eq_of_mem_set hs with hm | rfl
  · exact h.st s hm
  · refine ⟨(h.st _ (List.getElem_mem hq)).1, fun a ha => ?_⟩
    rcases List.mem_append.1 ha with ha | ha
    · exact (h.st _ (List.getElem_mem hq)).2 a ha
    · simp at ha; subst ha; exact hx
theorem made_arcs (r : RawL) (k : Int) (full : Bool) (k1 : 1 ≤ k) : arcsOf (mkMach r k full).states ≤ 4 * k.toNat := by
  have := sum_le4 _ (mk_arcs_small r k full)
  have hl := mkMach_len r k full k1
  have : (mkMach r k full).states.length ≤ k.toNat := by
    have : mkN r k ≤ k := by unfold mkN; omega
    omega
  omega
theorem made_full (r : RawL) (k : Int) : (bitsOf (mkMach r k true).states).full = true := by
  simp only [bitsOf, bitsT_eq]
  rw [List.all_eq_true]; intro s hs
  unfold mkMach mkStates at hs
  obtain ⟨i, -, rfl⟩ := List.mem_map.1 hs
  rw [List.all_eq_true]; intro a ha
  cases h : r.nodes[i]? with
  | none => rw [h] at ha; simp [mkState] at ha
  | some x =>
    rw [h] at ha
    simp only [mkState, mkArcs] at ha
    obtain ⟨e, -, rfl⟩ := List.mem_map.1 ha
    simp only [fullA, mkArc]
    by_cases h0 : pick e.inn 3 = 0 ∧ pick e.out 3 = 0
    · simp [h0]
    · simp only [true_and, if_neg h0]
      simp; omega
end Go.Proofs.YtkmnacchiagipaaDoor
