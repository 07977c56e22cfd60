/- A queue: a slice of one-cell elements of the call's own that loses its first element and grows at its end. -/
/- What a flood reaches (plain). -/
/- reach.flood: a closure that meets a state. -/
/- reach.flood: the loops. -/
import Derived.Test.YtkmnacchiagipaaDoorSlices
import Derived.Test.YtkmnacchiagipaaDoorMem
import Derived.ArgAppend
import Derived.RegionTactic
import Derived.WalkKit
import Derived.WalkSmall
import Derived.LoopTactic
import Derived.Deep.LoopGhost
import Derived.Deep.DeepCutAuto
import Derived.Deep.CutBlock
namespace Go.Proofs.YtkmnacchiagipaaDoor
open Go.RowKit

def OwnsQ (w : World) (base : Nat) (e : TypeId) (v : Value) (n : Nat) (xs : List Value) : Prop :=
  xs.length = n ∧ ((v = .slice none 0 0 ∧ n = 0) ∨
    ∃ g o cap cur, v = .slice (some ⟨g, o, none⟩) n cap ∧ base ≤ g ∧ w.heap[g]? = some (.cells cur e (0, 0)) ∧ n ≤ cap ∧ cap ≤ maxLen ∧ o + cap ≤ cur.size ∧ (cur.toList.drop o).take n = xs)

section
variable {w w' : World} {base : Nat} {e : TypeId} {v : Value} {n : Nat} {xs : List Value}
theorem OwnsQ.nil (w : World) (base : Nat) (e : TypeId) : OwnsQ w base e (.slice none 0 0) 0 [] := ⟨rfl, .inl ⟨rfl, rfl⟩⟩
theorem OwnsQ.of_row (h : w.ownsRow base e 1 v n xs) : OwnsQ w base e v n xs := by
  refine ⟨by simpa using h.1, ?_⟩
  rcases h.2 with h | ⟨g, cap, cur, rfl, hb, hg, hn, hm, hs, ht⟩
  · exact .inl h
  · exact .inr ⟨g, 0, cap, cur, rfl, hb, hg, hn, hm, by omega, by simpa using ht⟩
theorem OwnsQ.lt (h : OwnsQ w base e v n xs) : ∀ k, v.ownBlock = some k → base ≤ k ∧ k < w.heap.size := by
  intro k hk
  rcases h.2 with ⟨rfl, _⟩ | ⟨g, o, cap, cur, rfl, hb, hg, _⟩
  · simp [Value.ownBlock] at hk
  · simp [Value.ownBlock] at hk; subst hk
    exact ⟨hb, (Array.getElem?_eq_some_iff.1 hg).1⟩
theorem OwnsQ.kept (h : OwnsQ w base e v n xs) (hk : ∀ k, v.ownBlock = some k → w'.heap[k]? = w.heap[k]?) : OwnsQ w' base e v n xs := by
  refine ⟨h.1, h.2.imp id ?_⟩
  rintro ⟨g, o, cap, cur, rfl, hb, hg, r⟩
  exact ⟨g, o, cap, cur, rfl, hb, by rw [hk g rfl]; exact hg, r⟩
theorem OwnsQ.keep (h : OwnsQ w base e v n xs) (hb : Below w.heap.size w w') : OwnsQ w' base e v n xs := h.kept fun k hk => hb.block k (h.lt k hk).2
theorem OwnsQ.far (h : OwnsQ w base e v n xs) {a : Addr} (ha : v.ownBlock ≠ some a.block) (u : Value) : OwnsQ (w.setCell a u) base e v n xs :=
  h.kept fun k hk => Below.heap_setCell _ _ _ _ (fun e => ha (by rw [hk, e]))
theorem OwnsQ.ne (h : OwnsQ w base e v n xs) {b : Nat} (hb : b < base) : v.ownBlock ≠ some b := fun e => by have := (h.lt b e).1; omega
theorem OwnsQ.form (h : OwnsQ w base e v n xs) : ∃ A c, v = .slice A n c ∧ n ≤ c ∧ c ≤ maxLen ∧ Rd w A n 1 xs := by
  rcases h.2 with ⟨rfl, rfl⟩ | ⟨g, o, cap, cur, rfl, hb, hg, hn, hm, hs, ht⟩
  · have : xs = [] := List.eq_nil_of_length_eq_zero h.1
    subst this
    exact ⟨none, 0, rfl, Nat.le_refl _, by simp [maxLen], Rd.nil _ _ _⟩
  · refine ⟨_, _, rfl, hn, hm, by simp [h.1], rdy_some _ _ _, fun j hj => ?_⟩
    subst ht
    simp only [blk_some, ofs_some]
    rw [cell_of_row w g (o + j) cur e (0, 0) hg]
    simp at hj ⊢
/-- where a queue that is not empty begins -/
theorem OwnsQ.addr (h : OwnsQ w base e v (n + 1) xs) : ∃ g o c, v = .slice (some ⟨g, o, none⟩) (n + 1) c ∧ n + 1 ≤ c ∧ c ≤ maxLen ∧ base ≤ g ∧ g < w.heap.size := by
  rcases h.2 with ⟨_, h0⟩ | ⟨g, o, cap, cur, rfl, hb, hg, hn, hm, hs, ht⟩
  · omega
  · exact ⟨g, o, cap, rfl, hn, hm, hb, (Array.getElem?_eq_some_iff.1 hg).1⟩
/-- the first element leaves -/
theorem OwnsQ.pop {g o c : Nat} {x : Value} (h : OwnsQ w base e (.slice (some ⟨g, o, none⟩) (n + 1) c) (n + 1) (x :: xs)) : OwnsQ w base e (.slice (if c = 1 then some ⟨g, o, none⟩ else some ⟨g, o + 1, none⟩) n (c - 1)) n xs := by
  have hl := h.1
  simp at hl
  rcases h.2 with ⟨_, h0⟩ | ⟨g', o', cap, cur, hv, hb, hg, hn, hm, hs, ht⟩
  · omega
  · simp at hv
    obtain ⟨⟨rfl, rfl⟩, rfl⟩ := hv
    refine ⟨hl, .inr ?_⟩
    by_cases hc : c = 1
    · subst hc
      obtain rfl : n = 0 := by omega
      have : xs = [] := List.eq_nil_of_length_eq_zero hl
      subst this
      exact ⟨g, o, 0, cur, by simp, hb, hg, by omega, by omega, by omega, by simp⟩
    · refine ⟨g, o + 1, c - 1, cur, by simp [hc], hb, hg, by omega, by omega, by omega, ?_⟩
      apply List.ext_getElem?
      intro j
      have := congrArg (fun l => l[j + 1]?) ht
      simp only [List.getElem?_cons_succ] at this
      rw [← this]
      simp only [List.getElem?_take, List.getElem?_drop]
      rw [show o + 1 + j = o + (j + 1) by omega]
      simp
theorem queue_grownBy {row : Option Nat} (hg : w.grownBy w' row) (h : OwnsQ w base e v n xs) (hne : v.ownBlock = none ∨ v.ownBlock ≠ row) : OwnsQ w' base e v n xs :=
  h.kept fun k hk => hg.block k (h.lt k hk).2 (fun e => by
    rcases hne with h1 | h1
    · rw [hk] at h1; cases h1
    · exact h1 (by rw [hk, e]))
end

section
variable {P : Program} {w : World} {ops : Array Oper} {rest : List Oper} {o : Oper} {a : Act} {Q : Exit → Act → World → Prop} {K : Act → World → Prop} {t e : TypeId} {z : Value} {bytes : Nat}

theorem run_queue1 (w : World) (E : Elt P t e z 1 bytes) (ty : TypeId) (base : Nat) (v : Value) (n : Nat) (xs : List Value) (hown : OwnsQ w base e v n xs) (ad : Addr) (u : Value) (hu : w.cell? ad = some u) (h1 : u.oneCell' = true)
    (hn : n + 1 ≤ 1000000) (hbytes : bytes ≤ 1000) (hb : base ≤ w.heap.size) :
    ∃ v' w', (Builtin.append_ #[t, t] ty #[v, .slice (some ad) 1 1]).run P w = .ok v' w' ∧ OwnsQ w' base e v' (n + 1) (xs ++ [u]) ∧ w.grownBy w' v.ownBlock ∧ (∀ k, v'.ownBlock = some k → v.ownBlock = some k ∨ w.heap.size ≤ k) := by
  obtain ⟨i, hi, hz0, hz1, hz2⟩ := info_parts E.info
  have hbb : (n + 1) * bytes ≤ 1000000 * 1000 := Nat.mul_le_mul hn hbytes
  have hnews : ∀ j u', [u][j]? = some u' → w.cell? (ad.add j) = some u' := by
    intro j u' hj
    cases j with
    | zero => simp at hj; subst hj; simpa [Addr.add] using hu
    | succ j => simp at hj
  have hall : ∀ u' ∈ [u], u'.oneCell' = true := by simpa using h1
  rcases hown.2 with ⟨rfl, rfl⟩ | ⟨g, o, cap, cur, rfl, hbg, hg, hnc, hcm, hs, ht⟩
  · have hxs : xs = [] := List.eq_nil_of_length_eq_zero hown.1
    subst hxs
    obtain ⟨v', w', hr, h2, h3, _, h5⟩ := run_append_own_at (P := P) w base t ty e i z 1 bytes E.ht hi hz0 hz1 hz2 E.hz E.pos _ 0 [] (World.ownsRow_nil w base e 1) ad 1 1 [u] rfl hnews hall (by simp [maxLen]) (by omega) hb
    exact ⟨v', w', hr, .of_row h2, h3, fun k hk => by
      rcases h5 with h | h
      · rw [h] at hk; exact .inl hk
      · rw [h] at hk; right; simp at hk; omega⟩
  · have hlt := (Array.getElem?_eq_some_iff.1 hg).1
    by_cases hroom : n + 1 ≤ cap
    · have hr := run_append_room_cells (P := P) w t ty e i E.ht hi g o n cap ad 1 1 [u] (by rw [hz1]; rfl) hnews hall hroom
        (fun j hj => by
          have : j = 0 := by simpa using hj
          subst this
          rw [hz1, cell_of_row w g _ cur e (0, 0) hg]; simp; omega)
        (fun j hj => by simp [World.frozen?, hg])
      rw [hz1, Nat.mul_one] at hr
      have hset : w.setCells g (o + n) [u] = w.setCell ⟨g, o + n, none⟩ u := by simp [World.setCells]
      rw [hset] at hr
      refine ⟨_, _, hr, ⟨by simp [hown.1], .inr ⟨g, o, cap, cur.setIfInBounds (o + n) u, rfl, hbg, ?_, hroom, hcm, by simpa using hs, ?_⟩⟩, ?_, fun k hk => .inl hk⟩
      · simp [World.setCell, Array.getElem?_modify, hg]
      · have hl := hown.1
        subst ht
        apply List.ext_getElem?
        intro j
        simp only [List.getElem?_take, List.getElem?_drop, Array.toList_setIfInBounds]
        by_cases hj : j < n
        · rw [if_pos (by omega), List.getElem?_append_left (by simpa using by omega), List.getElem?_set_ne (by omega)]
          simp [hj]
        · by_cases hj2 : j = n
          · subst hj2
            rw [if_pos (by omega), List.getElem?_append_right (by rw [hl]; omega), List.getElem?_set_self (by simp; omega), hl, Nat.sub_self]
            rfl
          · rw [if_neg (by omega), List.getElem?_eq_none]
            rw [List.length_append, hl]; simp; omega
      · exact ⟨rfl, rfl, rfl, by simp [World.setCell], fun k hk hne => Below.heap_setCell _ _ _ _ (by simpa [Value.ownBlock] using hne)⟩
    · have holds : ∀ j u', xs[j]? = some u' → w.cell? ((⟨g, o, none⟩ : Addr).add j) = some u' := by
        intro j u' hj
        rw [addr_add, cell_of_row w g _ cur e (0, 0) hg]
        subst ht
        rw [List.getElem?_take] at hj
        split at hj
        · simpa [List.getElem?_drop] using hj
        · cases hj
      obtain ⟨v', w', hr, h2, h3⟩ := run_append_arg_grows (P := P) w t ty e i z 1 bytes E.ht hi hz0 hz1 hz2 E.hz E.pos ⟨g, o, none⟩ n cap xs (by simpa using hown.1) holds ad 1 1 [u] rfl hnews (by omega) (by simp only [maxLen]; omega) (by omega)
      have h2' := OwnsQ.of_row h2
      refine ⟨v', w', hr, ⟨h2'.1, ?_⟩, ⟨h3.os, h3.tape, h3.output, h3.size, fun k hk _ => h3.block k hk (by simp)⟩, fun k hk => .inr (h2'.lt k hk).1⟩
      rcases h2'.2 with h | ⟨g', o', cap', cur', hv, hb', r⟩
      · exact .inl h
      · exact .inr ⟨g', o', cap', cur', hv, by omega, r⟩

/-- one element that lies in a block just made is appended to a queue -/
theorem wpList_queue1 (hgd : o.guard = none) (s x : Operand) (ho : o.op = .call { callee := .builtin .append, args := #[s, x], argTypes := #[t, t] })
    (E : Elt P t e z 1 bytes) (base : Nat) (v : Value) (n : Nat) (xs : List Value) (hs : a.eval s = v) (wr : World) (hown : OwnsQ wr base e v n xs)
    (u : Value) (hw : w = wr.alloc (.cells #[u] e)) (G : Nat) (hG : wr.heap.size = G) (hx : a.eval x = .slice (some ⟨G, 0, none⟩) 1 1) (h1 : u.oneCell' = true)
    (hn : n + 1 ≤ 1000000) (hbytes : bytes ≤ 1000) (hb : base ≤ wr.heap.size)
    (h : ∀ v' w', OwnsQ w' base e v' (n + 1) (xs ++ [u]) → wr.grownBy w' v.ownBlock → (∀ k, v'.ownBlock = some k → v.ownBlock = some k ∨ wr.heap.size < k) →
      wpList P ops Q rest (a.put o.dst v') w') : wpList P ops Q (o :: rest) a w := by
  subst hw
  subst hG
  have hu : (wr.alloc (.cells #[u] e)).cell? ⟨wr.heap.size, 0, none⟩ = some u := by
    rw [cell_of_row _ _ _ #[u] e (0, 0) (heap_alloc_new wr _)]; rfl
  obtain ⟨v', w', hrun, h2, h3, h4⟩ := run_queue1 (P := P) (wr.alloc (.cells #[u] e)) E o.type base v n xs (hown.keep ((Below.refl _ _).alloc (Nat.le_refl _) _)) ⟨wr.heap.size, 0, none⟩ u hu h1 hn hbytes (by simp; omega)
  refine wpList_plain hgd fun _ hK => ?_
  unfold Oper.wp execOp
  simp only [ho, resolve, invoke, builtin, Sem.run_bind, Sem.run_pure, Result.andThen_ok, List.map_toArray, List.map_cons, List.map_nil, hs, hx, hrun]
  refine hK _ _ (h v' w' h2 ⟨h3.os, h3.tape, h3.output, Nat.le_trans (by simp) h3.size, fun k hk hne => ?_⟩ (fun k hk => (h4 k hk).imp id (fun hh => by simp at hh; omega)))
  rw [h3.block k (by simp; omega) hne]
  exact heap_alloc_old wr _ hk
end

set_option maxRecDepth 100000 in
/-- a queue without its first element: the run's equation -/
theorem queue_tail {w : World} {base n g o c : Nat} {x : Value} {xs : List Value} (h : OwnsQ w base 3 (.slice (some ⟨g, o, none⟩) (n + 1) c) (n + 1) (x :: xs)) :
    ∃ A2 c2, (∀ W, (Instr.slice 29 (.slice (some ⟨g, o, none⟩) (n + 1) c) (some (.int .i64 1)) none none).run Tryd.prog W = .ok (.slice A2 n c2) W) ∧ OwnsQ w base 3 (.slice A2 n c2) n xs := by
  refine ⟨_, _, fun W => ?_, OwnsQ.pop h⟩
  rw [run_slice_l W _ _ _ _ Tryd.underlying29 _ _ (by omega) (by omega), show Tryd.prog.elem 29 = 3 from by kernel_rfl, Tryd.sizeOf3]
  simp [sliced, addr_add]
end Go.Proofs.YtkmnacchiagipaaDoor

namespace Go.Proofs.YtkmnacchiagipaaDoor

/-- a state is met: seen or not -/
def visit (x : List Bool × List Nat) (p : Nat) : List Bool × List Nat := if x.1.getD p true = true then x else (x.1.set p true, x.2 ++ [p])
def visits (x : List Bool × List Nat) (ps : List Nat) : List Bool × List Nat := ps.foldl visit x
def lack (l : List Bool) : Nat := l.count false

theorem visit_eq_seen {x : List Bool × List Nat} {p : Nat} (h : x.1.getD p true = true) : visit x p = x := by unfold visit; rw [if_pos h]
theorem visit_eq_new {x : List Bool × List Nat} {p : Nat} (h : x.1.getD p true = false) : visit x p = (x.1.set p true, x.2 ++ [p]) := by unfold visit; rw [if_neg (by rw [h]; simp)]
theorem visit_len (x : List Bool × List Nat) (p : Nat) : (visit x p).1.length = x.1.length := by unfold visit; split <;> simp
theorem visits_len (ps : List Nat) : ∀ x : List Bool × List Nat, (visits x ps).1.length = x.1.length := by
  induction ps with
  | nil => intro x; rfl
  | cons p ps ih => intro x; exact (ih _).trans (visit_len x p)
theorem visits_snoc (x : List Bool × List Nat) (ps : List Nat) (p : Nat) : visits x (ps ++ [p]) = visit (visits x ps) p := by simp [visits]

theorem lack_set (l : List Bool) (p : Nat) (h : l.getD p true = false) : lack (l.set p true) + 1 = lack l := by
  unfold lack
  induction l generalizing p with
  | nil => simp at h
  | cons b l ih =>
    cases p with
    | zero => simp at h; subst h; simp
    | succ p =>
      have := ih p (by simpa using h)
      simp only [List.set_cons_succ, List.count_cons]
      omega
theorem visit_size (x : List Bool × List Nat) (p : Nat) : (visit x p).2.length + lack (visit x p).1 = x.2.length + lack x.1 := by
  unfold visit; split
  · rfl
  · rename_i h
    have := lack_set x.1 p (by simpa using h)
    simp; omega
theorem visits_size (ps : List Nat) : ∀ x : List Bool × List Nat, (visits x ps).2.length + lack (visits x ps).1 = x.2.length + lack x.1 := by
  induction ps with
  | nil => intro x; rfl
  | cons p ps ih => intro x; exact (ih _).trans (visit_size x p)

theorem getD_set_self {l : List Bool} {p : Nat} (h : l.getD p true = false) : (l.set p true).getD p false = true := by
  have hp : p < l.length := by
    rcases Nat.lt_or_ge p l.length with h' | h'
    · exact h'
    · simp [List.getD_eq_getElem?_getD, List.getElem?_eq_none h'] at h
  simp [List.getD_eq_getElem?_getD, hp]
theorem getD_set_mono {l : List Bool} {p q : Nat} (h : l.getD q false = true) : (l.set p true).getD q false = true := by
  have hq : q < l.length := by
    rcases Nat.lt_or_ge q l.length with h' | h'
    · exact h'
    · simp [List.getD_eq_getElem?_getD, List.getElem?_eq_none h'] at h
  by_cases e : p = q
  · subst e; simp [List.getD_eq_getElem?_getD, hq]
  · simp only [List.getD_eq_getElem?_getD] at h ⊢
    rw [List.getElem?_set_ne e]; exact h
theorem getD_set_or {l : List Bool} {p q : Nat} (h : (l.set p true).getD q false = true) : l.getD q false = true ∨ q = p := by
  by_cases e : q = p
  · exact .inr e
  · left
    simp only [List.getD_eq_getElem?_getD] at h ⊢
    rw [List.getElem?_set_ne (fun h => e h.symm)] at h
    exact h
theorem visit_mono (x : List Bool × List Nat) (p q : Nat) (h : x.1.getD q false = true) : (visit x p).1.getD q false = true := by
  unfold visit; split
  · exact h
  · exact getD_set_mono h
theorem visits_mono (ps : List Nat) : ∀ (x : List Bool × List Nat) (q : Nat), x.1.getD q false = true → (visits x ps).1.getD q false = true := by
  induction ps with
  | nil => intro x q h; exact h
  | cons p ps ih => intro x q h; exact ih _ q (visit_mono x p q h)
theorem visit_hit (x : List Bool × List Nat) (p : Nat) (hp : p < x.1.length) : (visit x p).1.getD p false = true := by
  unfold visit; split
  · rename_i h; simp [List.getD_eq_getElem?_getD, hp] at h ⊢; exact h
  · rename_i h; exact getD_set_self (by simpa using h)
theorem visits_hit (ps : List Nat) : ∀ (x : List Bool × List Nat), (∀ p ∈ ps, p < x.1.length) → ∀ p ∈ ps, (visits x ps).1.getD p false = true := by
  induction ps with
  | nil => intro x _ p hp; simp at hp
  | cons a ps ih =>
    intro x hx p hp
    rcases List.mem_cons.1 hp with rfl | hp
    · exact visits_mono ps _ p (visit_hit x p (hx p (by simp)))
    · exact ih (visit x a) (fun q hq => by rw [visit_len]; exact hx q (by simp [hq])) p hp

/-- what has been found so far: all that is seen can be reached; all that is seen is to be looked at still, or all that it leads to is seen -/
structure Found (R : Nat → Prop) (succ : Nat → List Nat) (x : List Bool × List Nat) (open_ : List Nat) : Prop where
  sound : ∀ q, x.1.getD q false = true → R q
  todo : ∀ q ∈ x.2, x.1.getD q false = true ∧ q < x.1.length
  done : ∀ q, x.1.getD q false = true → q ∈ x.2 ∨ q ∈ open_ ∨ ∀ p ∈ succ q, x.1.getD p false = true

theorem Found.visitOne {R : Nat → Prop} {succ : Nat → List Nat} {x : List Bool × List Nat} {o : List Nat} (h : Found R succ x o) (p : Nat) (hp : p < x.1.length) (hR : R p) : Found R succ (visit x p) o := by
  by_cases hs : x.1.getD p true = true
  · rw [visit_eq_seen hs]; exact h
  · have hs' : x.1.getD p true = false := by simpa using hs
    rw [visit_eq_new hs']
    refine ⟨fun q hq => ?_, fun q hq => ?_, fun q hq => ?_⟩
    · rcases getD_set_or hq with hq | rfl
      · exact h.sound q hq
      · exact hR
    · rcases List.mem_append.1 hq with hq | hq
      · exact ⟨getD_set_mono (h.todo q hq).1, by simpa using (h.todo q hq).2⟩
      · simp at hq; subst hq; exact ⟨getD_set_self hs', by simpa using hp⟩
    · rcases getD_set_or hq with hq | rfl
      · rcases h.done q hq with h1 | h1 | h1
        · exact .inl (List.mem_append.2 (.inl h1))
        · exact .inr (.inl h1)
        · exact .inr (.inr fun p' hp' => getD_set_mono (h1 p' hp'))
      · exact .inl (by simp)
theorem Found.visitAll {R : Nat → Prop} {succ : Nat → List Nat} {o : List Nat} (ps : List Nat) : ∀ {x : List Bool × List Nat}, Found R succ x o → (∀ p ∈ ps, p < x.1.length ∧ R p) → Found R succ (visits x ps) o := by
  induction ps with
  | nil => intro x h _; exact h
  | cons p ps ih =>
    intro x h hp
    exact ih (h.visitOne p (hp p (by simp)).1 (hp p (by simp)).2) (fun q hq => ⟨by rw [visit_len]; exact (hp q (by simp [hq])).1, (hp q (by simp [hq])).2⟩)
/-- a round: the last one is taken, what it leads to is met -/
theorem Found.round {R : Nat → Prop} {succ : Nat → List Nat} {seen : List Bool} {todo : List Nat} {q : Nat} (h : Found R succ (seen, todo ++ [q]) []) (hs : ∀ q, R q → ∀ p ∈ succ q, R p ∧ p < seen.length) : Found R succ (visits (seen, todo) (succ q)) [] := by
  have hq := h.todo q (by simp)
  have hR := h.sound q hq.1
  have h1 : Found R succ (seen, todo) [q] := by
    refine ⟨h.sound, fun p hp => h.todo p (by simp at hp ⊢; exact .inl hp), fun p hp => ?_⟩
    rcases h.done p hp with h2 | h2 | h2
    · rcases List.mem_append.1 h2 with h3 | h3
      · exact .inl h3
      · exact .inr (.inl h3)
    · simp at h2
    · exact .inr (.inr h2)
  have h2 := Found.visitAll (succ q) h1 (fun p hp => ⟨(hs q hR p hp).2, (hs q hR p hp).1⟩)
  refine ⟨h2.sound, h2.todo, fun p hp => ?_⟩
  rcases h2.done p hp with h3 | h3 | h3
  · exact .inl h3
  · simp at h3; subst h3
    exact .inr (.inr fun p' hp' => visits_hit (succ p) (seen, todo) (fun r hr => (hs p hR r hr).2) p' hp')
  · exact .inr (.inr h3)

/-- what can be reached from some states -/
inductive Reach (succ : Nat → List Nat) (from_ : List Nat) : Nat → Prop
  | start {q : Nat} : q ∈ from_ → Reach succ from_ q
  | step {q p : Nat} : Reach succ from_ q → p ∈ succ q → Reach succ from_ p

theorem Found.end_ {succ : Nat → List Nat} {from_ : List Nat} {seen : List Bool} (h : Found (Reach succ from_) succ (seen, []) []) (hf : ∀ q ∈ from_, seen.getD q false = true) (q : Nat) : seen.getD q false = true ↔ Reach succ from_ q := by
  constructor
  · exact h.sound q
  · intro hr
    induction hr with
    | start hq => exact hf _ hq
    | step _ hp ih =>
      rcases h.done _ ih with h1 | h1 | h1
      · simp at h1
      · simp at h1
      · exact h1 _ hp

def marked (seen : List Bool) (l : List Nat) : List Bool := l.foldl (fun s p => s.set p true) seen
theorem marked_len (l : List Nat) : ∀ s : List Bool, (marked s l).length = s.length := by
  induction l with
  | nil => intro s; rfl
  | cons p l ih => intro s; exact (ih _).trans (by simp)
theorem marked_snoc (s : List Bool) (l : List Nat) (p : Nat) : marked s (l ++ [p]) = (marked s l).set p true := by simp [marked]
theorem marked_or (l : List Nat) : ∀ (s : List Bool) (q : Nat), (marked s l).getD q false = true → s.getD q false = true ∨ q ∈ l := by
  induction l with
  | nil => intro s q h; exact .inl h
  | cons p l ih =>
    intro s q h
    rcases ih _ q h with h1 | h1
    · rcases getD_set_or h1 with h2 | h2
      · exact .inl h2
      · exact .inr (by simp [h2])
    · exact .inr (by simp [h1])
theorem marked_mono (l : List Nat) : ∀ (s : List Bool) (q : Nat), s.getD q false = true → (marked s l).getD q false = true := by
  induction l with
  | nil => intro s q h; exact h
  | cons p l ih => intro s q h; exact ih _ q (getD_set_mono h)
theorem marked_hit (l : List Nat) : ∀ (s : List Bool), (∀ p ∈ l, p < s.length) → ∀ p ∈ l, (marked s l).getD p false = true := by
  induction l with
  | nil => intro s _ p hp; simp at hp
  | cons a l ih =>
    intro s hs p hp
    rcases List.mem_cons.1 hp with rfl | hp
    · refine marked_mono l _ p ?_
      have := hs p (by simp)
      simp [List.getD_eq_getElem?_getD, this]
    · exact ih _ (fun q hq => by simpa using hs q (by simp [hq])) p hp
theorem found_start (n : Nat) (from_ : List Nat) (succ : Nat → List Nat) (hf : ∀ p ∈ from_, p < n) : Found (Reach succ from_) succ (marked (List.replicate n false) from_, from_) [] := by
  have hit := marked_hit from_ (List.replicate n false) (fun p hp => by simpa using hf p hp)
  refine ⟨fun q hq => ?_, fun q hq => ⟨hit q hq, by rw [marked_len]; simpa using hf q hq⟩, fun q hq => ?_⟩
  · rcases marked_or from_ _ q hq with h | h
    · simp [List.getD_eq_getElem?_getD, List.getElem?_replicate] at h
      split at h <;> simp at h
    · exact .start h
  · rcases marked_or from_ _ q hq with h | h
    · simp [List.getD_eq_getElem?_getD, List.getElem?_replicate] at h
      split at h <;> simp at h
    · exact .inl h
end Go.Proofs.YtkmnacchiagipaaDoor

namespace Go.Proofs.YtkmnacchiagipaaDoor
open Go.RowKit

abbrev ncells (l : List Nat) : List Value := icells (l.map (fun k : Nat => (k : Int)))
abbrev bcells (l : List Bool) : Array Value := (l.map Value.bool).toArray
theorem eltInt : Elt Tryd.prog 29 3 (.int .i64 0) 1 8 := ⟨Tryd.underlying29, by kernel_rfl, rfl, by omega⟩

theorem bcells_get (l : List Bool) (p : Nat) (h : p < l.length) : (bcells l)[p]? = some (.bool (l.getD p true)) := by
  simp [bcells, h, List.getD_eq_getElem?_getD]
theorem bcells_set (l : List Bool) (p : Nat) (b : Bool) : (bcells l).setIfInBounds p (.bool b) = bcells (l.set p b) := by
  simp [bcells, List.map_set]
theorem bcells_size (l : List Bool) : (bcells l).size = l.length := by simp [bcells]

/-- a flood that is under way: w: the world in which it began; R: the block of what it began with -/
structure FS (w W : World) (R : Option Nat) (n : Nat) (x : List Bool × List Nat) (tv : Value) : Prop where
  len : x.1.length = n
  row : Blk W w.heap.size (bcells x.1) 4
  sb : Blk W (w.heap.size + 1) #[.slice (some ⟨w.heap.size, 0, none⟩) n n] 245
  tb : Blk W (w.heap.size + 2) #[tv] 29
  own : W.ownsRow 0 3 1 tv x.2.length (ncells x.2)
  at_ : ∀ b, tv.ownBlock = some b → R = some b ∨ w.heap.size + 3 ≤ b
  old : ∀ b, R = some b → b < w.heap.size
  grown : w.grownBy W R
  bound : x.2.length + lack x.1 ≤ 1000

section
variable {w W W' : World} {R : Option Nat} {n : Nat} {x : List Bool × List Nat} {tv : Value}
theorem FS.ne (h : FS w W R n x tv) {b : Nat} (h1 : w.heap.size ≤ b) (h2 : b < w.heap.size + 3) : tv.ownBlock ≠ some b := fun e => by
  rcases h.at_ b e with hr | hb
  · have := h.old b hr; omega
  · omega
theorem grown_set {row : Option Nat} (h : w.grownBy W row) {a : Addr} (ha : w.heap.size ≤ a.block) (u : Value) : w.grownBy (W.setCell a u) row :=
  ⟨h.os, h.tape, h.output, by have := h.size; simp [World.setCell]; exact this, fun k hk hne => by
    rw [Below.heap_setCell _ _ _ _ (by omega)]; exact h.block k hk hne⟩
theorem grown_new_then {row : Option Nat} (h : w.grownBy W row) (hb : Below W.heap.size W W') : w.grownBy W' row :=
  ⟨hb.os.trans h.os, hb.tape.trans h.tape, hb.output.trans h.output, Nat.le_trans h.size hb.size, fun k hk hne => (hb.block k (Nat.lt_of_lt_of_le hk h.size)).trans (h.block k hk hne)⟩
theorem FS.keep (h : FS w W R n x tv) (hb : Below W.heap.size W W') : FS w W' R n x tv :=
  ⟨h.len, h.row.step hb, h.sb.step hb, h.tb.step hb, own_below h.own hb (Nat.le_refl _), h.at_, h.old, grown_new_then h.grown hb, h.bound⟩
end

theorem World.size_setCell' (w : World) (a : Addr) (v : Value) : (w.setCell a v).heap.size = w.heap.size := by simp [World.setCell]
theorem ncells_snoc (l : List Nat) (p : Nat) : ncells (l ++ [p]) = ncells l ++ [.int .i64 (p : Int)] := by simp [ncells]

end Go.Proofs.YtkmnacchiagipaaDoor

namespace Go.Proofs.YtkmnacchiagipaaDoor
open Go.RowKit

theorem madeBools (n : Nat) : madeCells #[Value.bool false] n = bcells (List.replicate n false) := by
  apply Array.ext
  · simp [madeCells, bcells]
  · intro i h1 h2
    simp [madeCells, bcells, Nat.mod_one]
theorem eltBool : Elt Tryd.prog 245 4 (.bool false) 1 1 := ⟨Tryd.underlying245, by kernel_rfl, rfl, by omega⟩

theorem grown_of_below' {w w' : World} (hb : Below w.heap.size w w') (row : Option Nat) : w.grownBy w' row := ⟨hb.os, hb.tape, hb.output, hb.size, fun k hk _ => hb.block k hk⟩
end Go.Proofs.YtkmnacchiagipaaDoor
