/- A queue: a slice of one-cell elements of the call's own that loses its first element and grows at its end. -/
import Derived.Test.YtikkmoleneioeaaSlices
import Derived.Test.YtikkmoleneioeaaMem
import Derived.ArgAppend
import Derived.RegionTactic
namespace Go.Proofs.Ytikkmoleneioeaa
open Go.RowKit

def OwnsQ (w : World) (base : Nat) (e : TypeId) (v : Value) (n : Nat) (xs : List Value) : Prop :=
  xs.length = n ∧ ((v = .slice none 0 0 ∧ n = 0) ∨
    ∃ g o cap cur, v = .slice (some ⟨g, o, none⟩) n cap ∧ base ≤ g ∧ w.heap[g]? = some (.cells cur e (0, 0)) ∧ n ≤ cap ∧ cap ≤ maxLen ∧ o + cap ≤ cur.size ∧ (cur.toList.drop o).take n = xs)

section
variable {w w' : World} {base : Nat} {e : TypeId} {v : Value} {n : Nat} {xs : List Value}
theorem OwnsQ.nil (w : World) (base : Nat) (e : TypeId) : OwnsQ w base e (.slice none 0 0) 0 [] := ⟨rfl, .inl ⟨rfl, rfl⟩⟩
theorem OwnsQ.of_row (h : w.ownsRow base e 1 v n xs) : OwnsQ w base e v n xs := by
  refine ⟨by simpa using h.1, ?_⟩
  rcases h.2 with h | ⟨g, cap, cur, rfl, hb, hg, hn, hm, hs, ht⟩
  · exact .inl h
  · exact .inr ⟨g, 0, cap, cur, rfl, hb, hg, hn, hm, by omega, by simpa using ht⟩
theorem OwnsQ.lt (h : OwnsQ w base e v n xs) : ∀ k, v.ownBlock = some k → base ≤ k ∧ k < w.heap.size := by
  intro k hk
  rcases h.2 with ⟨rfl, _⟩ | ⟨g, o, cap, cur, rfl, hb, hg, _⟩
  · simp [Value.ownBlock] at hk
  · simp [Value.ownBlock] at hk; subst hk
    exact ⟨hb, (Array.getElem?_eq_some_iff.1 hg).1⟩
theorem OwnsQ.kept (h : OwnsQ w base e v n xs) (hk : ∀ k, v.ownBlock = some k → w'.heap[k]? = w.heap[k]?) : OwnsQ w' base e v n xs := by
  refine ⟨h.1, h.2.imp id ?_⟩
  rintro ⟨g, o, cap, cur, rfl, hb, hg, r⟩
  exact ⟨g, o, cap, cur, rfl, hb, by rw [hk g rfl]; exact hg, r⟩
theorem OwnsQ.keep (h : OwnsQ w base e v n xs) (hb : Below w.heap.size w w') : OwnsQ w' base e v n xs := h.kept fun k hk => hb.block k (h.lt k hk).2
theorem OwnsQ.far (h : OwnsQ w base e v n xs) {a : Addr} (ha : v.ownBlock ≠ some a.block) (u : Value) : OwnsQ (w.setCell a u) base e v n xs :=
  h.kept fun k hk => Below.heap_setCell _ _ _ _ (fun e => ha (by rw [hk, e]))
theorem OwnsQ.ne (h : OwnsQ w base e v n xs) {b : Nat} (hb : b < base) : v.ownBlock ≠ some b := fun e => by have := (h.lt b e).1; omega
theorem OwnsQ.form (h : OwnsQ w base e v n xs) : ∃ A c, v = .slice A n c ∧ n ≤ c ∧ c ≤ maxLen ∧ Rd w A n 1 xs := by
  rcases h.2 with ⟨rfl, rfl⟩ | ⟨g, o, cap, cur, rfl, hb, hg, hn, hm, hs, ht⟩
  · have : xs = [] := List.eq_nil_of_length_eq_zero h.1
    subst this
    exact ⟨none, 0, rfl, Nat.le_refl _, by simp [maxLen], Rd.nil _ _ _⟩
  · refine ⟨_, _, rfl, hn, hm, by simp [h.1], rdy_some _ _ _, fun j hj => ?_⟩
    subst ht
    simp only [blk_some, ofs_some]
    rw [cell_of_row w g (o + j) cur e (0, 0) hg]
    simp at hj ⊢
/-- where a queue that is not empty begins -/
theorem OwnsQ.addr (h : OwnsQ w base e v (n + 1) xs) : ∃ g o c, v = .slice (some ⟨g, o, none⟩) (n + 1) c ∧ n + 1 ≤ c ∧ c ≤ maxLen ∧ base ≤ g ∧ g < w.heap.size := by
  rcases h.2 with ⟨_, h0⟩ | ⟨g, o, cap, cur, rfl, hb, hg, hn, hm, hs, ht⟩
  · omega
  · exact ⟨g, o, cap, rfl, hn, hm, hb, (Array.getElem?_eq_some_iff.1 hg).1⟩
/-- the first element leaves -/
theorem OwnsQ.pop {g o c : Nat} {x : Value} (h : OwnsQ w base e (.slice (some ⟨g, o, none⟩) (n + 1) c) (n + 1) (x :: xs)) : OwnsQ w base e (.slice (if c = 1 then some ⟨g, o, none⟩ else some ⟨g, o + 1, none⟩) n (c - 1)) n xs := by
  have hl := h.1
  simp at hl
  rcases h.2 with ⟨_, h0⟩ | ⟨g', o', cap, cur, hv, hb, hg, hn, hm, hs, ht⟩
  · omega
  · simp at hv
    obtain ⟨⟨rfl, rfl⟩, rfl⟩ := hv
    refine ⟨hl, .inr ?_⟩
    by_cases hc : c = 1
    · subst hc
      obtain rfl : n = 0 := by omega
      have : xs = [] := List.eq_nil_of_length_eq_zero hl
      subst this
      exact ⟨g, o, 0, cur, by simp, hb, hg, by omega, by omega, by omega, by simp⟩
    · refine ⟨g, o + 1, c - 1, cur, by simp [hc], hb, hg, by omega, by omega, by omega, ?_⟩
      apply List.ext_getElem?
      intro j
      have := congrArg (fun l => l[j + 1]?) ht
      simp only [List.getElem?_cons_succ] at this
      rw [← this]
      simp only [List.getElem?_take, List.getElem?_drop]
      rw [show o + 1 + j = o + (j + 1) by omega]
      simp
theorem queue_grownBy {row : Option Nat} (hg : w.grownBy w' row) (h : OwnsQ w base e v n xs) (hne : v.ownBlock = none ∨ v.ownBlock ≠ row) : OwnsQ w' base e v n xs :=
  h.kept fun k hk => hg.block k (h.lt k hk).2 (fun e => by
    rcases hne with h1 | h1
    · rw [hk] at h1; cases h1
    · exact h1 (by rw [hk, e]))
end

section
variable {P : Program} {w : World} {ops : Array Oper} {rest : List Oper} {o : Oper} {a : Act} {Q : Exit → Act → World → Prop} {K : Act → World → Prop} {t e : TypeId} {z : Value} {bytes : Nat}

theorem run_queue1 (w : World) (E : Elt P t e z 1 bytes) (ty : TypeId) (base : Nat) (v : Value) (n : Nat) (xs : List Value) (hown : OwnsQ w base e v n xs) (ad : Addr) (u : Value) (hu : w.cell? ad = some u) (h1 : u.oneCell' = true)
    (hn : n + 1 ≤ 1000000) (hbytes : bytes ≤ 1000) (hb : base ≤ w.heap.size) :
    ∃ v' w', (Builtin.append_ #[t, t] ty #[v, .slice (some ad) 1 1]).run P w = .ok v' w' ∧ OwnsQ w' base e v' (n + 1) (xs ++ [u]) ∧ w.grownBy w' v.ownBlock ∧ (∀ k, v'.ownBlock = some k → v.ownBlock = some k ∨ w.heap.size ≤ k) := by
  obtain ⟨i, hi, hz0, hz1, hz2⟩ := info_parts E.info
  have hbb : (n + 1) * bytes ≤ 1000000 * 1000 := Nat.mul_le_mul hn hbytes
  have hnews : ∀ j u', [u][j]? = some u' → w.cell? (ad.add j) = some u' := by
    intro j u' hj
    cases j with
    | zero => simp at hj; subst hj; simpa [Addr.add] using hu
    | succ j => simp at hj
  have hall : ∀ u' ∈ [u], u'.oneCell' = true := by simpa using h1
  rcases hown.2 with ⟨rfl, rfl⟩ | ⟨g, o, cap, cur, rfl, hbg, hg, hnc, hcm, hs, ht⟩
  · have hxs : xs = [] := List.eq_nil_of_length_eq_zero hown.1
    subst hxs
    obtain ⟨v', w', hr, h2, h3, _, h5⟩ := run_append_own_at (P := P) w base t ty e i z 1 bytes E.ht hi hz0 hz1 hz2 E.hz E.pos _ 0 [] (World.ownsRow_nil w base e 1) ad 1 1 [u] rfl hnews hall (by simp [maxLen]) (by omega) hb
    exact ⟨v', w', hr, .of_row h2, h3, fun k hk => by
      rcases h5 with h | h
      · rw [h] at hk; exact .inl hk
      · rw [h] at hk; right; simp at hk; omega⟩
  · have hlt := (Array.getElem?_eq_some_iff.1 hg).1
    by_cases hroom : n + 1 ≤ cap
    · have hr := run_append_room_cells (P := P) w t ty e i E.ht hi g o n cap ad 1 1 [u] (by rw [hz1]; rfl) hnews hall hroom
        (fun j hj => by
          have : j = 0 := by simpa using hj
          subst this
          rw [hz1, cell_of_row w g _ cur e (0, 0) hg]; simp; omega)
        (fun j hj => by simp [World.frozen?, hg])
      rw [hz1, Nat.mul_one] at hr
      have hset : w.setCells g (o + n) [u] = w.setCell ⟨g, o + n, none⟩ u := by simp [World.setCells]
      rw [hset] at hr
      refine ⟨_, _, hr, ⟨by simp [hown.1], .inr ⟨g, o, cap, cur.setIfInBounds (o + n) u, rfl, hbg, ?_, hroom, hcm, by simpa using hs, ?_⟩⟩, ?_, fun k hk => .inl hk⟩
      · simp [World.setCell, Array.getElem?_modify, hg]
      · have hl := hown.1
        subst ht
        apply List.ext_getElem?
        intro j
        simp only [List.getElem?_take, List.getElem?_drop, Array.toList_setIfInBounds]
        by_cases hj : j < n
        · rw [if_pos (by omega), List.getElem?_append_left (by simpa using by omega), List.getElem?_set_ne (by omega)]
          simp [hj]
        · by_cases hj2 : j = n
          · subst hj2
            rw [if_pos (by omega), List.getElem?_append_right (by rw [hl]; omega), List.getElem?_set_self (by simp; omega), hl, Nat.sub_self]
            rfl
          · rw [if_neg (by omega), List.getElem?_eq_none]
            rw [List.length_append, hl]; simp; omega
      · exact ⟨rfl, rfl, rfl, by simp [World.setCell], fun k hk hne => Below.heap_setCell _ _ _ _ (by simpa [Value.ownBlock] using hne)⟩
    · have holds : ∀ j u', xs[j]? = some u' → w.cell? ((⟨g, o, none⟩ : Addr).add j) = some u' := by
        intro j u' hj
        rw [addr_add, cell_of_row w g _ cur e (0, 0) hg]
        subst ht
        rw [List.getElem?_take] at hj
        split at hj
        · simpa [List.getElem?_drop] using hj
        · cases hj
      obtain ⟨v', w', hr, h2, h3⟩ := run_append_arg_grows (P := P) w t ty e i z 1 bytes E.ht hi hz0 hz1 hz2 E.hz E.pos ⟨g, o, none⟩ n cap xs (by simpa using hown.1) holds ad 1 1 [u] rfl hnews (by omega) (by simp only [maxLen]; omega) (by omega)
      have h2' := OwnsQ.of_row h2
      refine ⟨v', w', hr, ⟨h2'.1, ?_⟩, ⟨h3.os, h3.tape, h3.output, h3.size, fun k hk _ => h3.block k hk (by simp)⟩, fun k hk => .inr (h2'.lt k hk).1⟩
      rcases h2'.2 with h | ⟨g', o', cap', cur', hv, hb', r⟩
      · exact .inl h
      · exact .inr ⟨g', o', cap', cur', hv, by omega, r⟩

/-- one element that lies in a block just made is appended to a queue -/
theorem wpList_queue1 (hgd : o.guard = none) (s x : Operand) (ho : o.op = .call { callee := .builtin .append, args := #[s, x], argTypes := #[t, t] })
    (E : Elt P t e z 1 bytes) (base : Nat) (v : Value) (n : Nat) (xs : List Value) (hs : a.eval s = v) (wr : World) (hown : OwnsQ wr base e v n xs)
    (u : Value) (hw : w = wr.alloc (.cells #[u] e)) (G : Nat) (hG : wr.heap.size = G) (hx : a.eval x = .slice (some ⟨G, 0, none⟩) 1 1) (h1 : u.oneCell' = true)
    (hn : n + 1 ≤ 1000000) (hbytes : bytes ≤ 1000) (hb : base ≤ wr.heap.size)
    (h : ∀ v' w', OwnsQ w' base e v' (n + 1) (xs ++ [u]) → wr.grownBy w' v.ownBlock → (∀ k, v'.ownBlock = some k → v.ownBlock = some k ∨ wr.heap.size < k) →
      wpList P ops Q rest (a.put o.dst v') w') : wpList P ops Q (o :: rest) a w := by
  subst hw
  subst hG
  have hu : (wr.alloc (.cells #[u] e)).cell? ⟨wr.heap.size, 0, none⟩ = some u := by
    rw [cell_of_row _ _ _ #[u] e (0, 0) (heap_alloc_new wr _)]; rfl
  obtain ⟨v', w', hrun, h2, h3, h4⟩ := run_queue1 (P := P) (wr.alloc (.cells #[u] e)) E o.type base v n xs (hown.keep ((Below.refl _ _).alloc (Nat.le_refl _) _)) ⟨wr.heap.size, 0, none⟩ u hu h1 hn hbytes (by simp; omega)
  refine wpList_plain hgd fun _ hK => ?_
  unfold Oper.wp execOp
  simp only [ho, resolve, invoke, builtin, Sem.run_bind, Sem.run_pure, Result.andThen_ok, List.map_toArray, List.map_cons, List.map_nil, hs, hx, hrun]
  refine hK _ _ (h v' w' h2 ⟨h3.os, h3.tape, h3.output, Nat.le_trans (by simp) h3.size, fun k hk hne => ?_⟩ (fun k hk => (h4 k hk).imp id (fun hh => by simp at hh; omega)))
  rw [h3.block k (by simp; omega) hne]
  exact heap_alloc_old wr _ hk
end

set_option maxRecDepth 100000 in
/-- a queue without its first element: the run's equation -/
theorem queue_tail {w : World} {base n g o c : Nat} {x : Value} {xs : List Value} (h : OwnsQ w base 3 (.slice (some ⟨g, o, none⟩) (n + 1) c) (n + 1) (x :: xs)) :
    ∃ A2 c2, (∀ W, (Instr.slice 25 (.slice (some ⟨g, o, none⟩) (n + 1) c) (some (.int .i64 1)) none none).run Try.prog W = .ok (.slice A2 n c2) W) ∧ OwnsQ w base 3 (.slice A2 n c2) n xs := by
  refine ⟨_, _, fun W => ?_, OwnsQ.pop h⟩
  rw [run_slice_l W _ _ _ _ Try.underlying25 _ _ (by omega) (by omega), show Try.prog.elem 25 = 3 from by kernel_rfl, Try.sizeOf3]
  simp [sliced, addr_add]
end Go.Proofs.Ytikkmoleneioeaa
