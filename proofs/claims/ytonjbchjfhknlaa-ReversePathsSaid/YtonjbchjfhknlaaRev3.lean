/- turn.Reverse walked. -/
import Derived.Test.YtonjbchjfhknlaaRev2
namespace Go.Proofs.Ytonjbchjfhknlaa
open Go.RowKit

/-- what Reverse puts where -/
def revOne (q : Nat) (s : StateL) : List (Nat × ArcL) := (if s.final = 1000000001 then [] else [(0, (⟨0, 0, s.final, q + 1⟩ : ArcL))]) ++ s.arcs.map (fun a => (a.to.toNat + 1, ⟨a.inn, a.out, a.wt, q + 1⟩))
def revTo (ss : List StateL) (k : Nat) : List (Nat × ArcL) := (List.range k).flatMap fun q => ((ss[q]?).map (revOne q)).getD []
theorem revTo_succ (ss : List StateL) (k : Nat) (h : k < ss.length) : revTo ss (k + 1) = revTo ss k ++ revOne k ss[k] := by
  unfold revTo; rw [List.range_succ, List.flatMap_append]; simp [h]
def revM (m : MachL) : MachL :=
  ⟨0, if 0 ≤ m.start then
    (addSs (List.replicate (m.states.length + 1) emptyS) (revTo m.states m.states.length)).set (m.start.toNat + 1) ⟨0, ((addSs (List.replicate (m.states.length + 1) emptyS) (revTo m.states m.states.length))[m.start.toNat + 1]?.map (·.arcs)).getD []⟩
    else addSs (List.replicate (m.states.length + 1) emptyS) (revTo m.states m.states.length)⟩
theorem revOne_len (q : Nat) (s : StateL) : (revOne q s).length ≤ s.arcs.length + 1 := by
  unfold revOne; split <;> simp <;> omega
theorem revTo_len (ss : List StateL) (k : Nat) (h : k ≤ ss.length) : (revTo ss k).length ≤ arcsOf (ss.take k) + k := by
  induction k with
  | zero => simp [revTo]
  | succ k ih =>
    rw [revTo_succ ss k (by omega), List.length_append, arcsOf_take ss k (by omega)]
    have := revOne_len k ss[k]
    have := ih (by omega)
    omega
theorem mem_revTo (ss : List StateL) (k : Nat) (hk : k ≤ ss.length) (x : Nat × ArcL) : x ∈ revTo ss k ↔ ∃ q, q < k ∧ ∃ h : q < ss.length, ((ss[q].final ≠ 1000000001 ∧ x = (0, ⟨0, 0, ss[q].final, q + 1⟩)) ∨ ∃ a ∈ ss[q].arcs, x = (a.to.toNat + 1, ⟨a.inn, a.out, a.wt, q + 1⟩)) := by
  unfold revTo
  rw [List.mem_flatMap]
  constructor
  · rintro ⟨q, hq, hx⟩
    rw [List.mem_range] at hq
    have hl : q < ss.length := by omega
    refine ⟨q, hq, hl, ?_⟩
    simp only [List.getElem?_eq_getElem hl, Option.map_some, Option.getD_some] at hx
    unfold revOne at hx
    rcases List.mem_append.1 hx with h | h
    · split at h
      · simp at h
      · rename_i hf; simp at h; exact .inl ⟨hf, h⟩
    · obtain ⟨a, ha, rfl⟩ := List.mem_map.1 h
      exact .inr ⟨a, ha, rfl⟩
  · rintro ⟨q, hq, hl, h⟩
    refine ⟨q, List.mem_range.2 hq, ?_⟩
    simp only [List.getElem?_eq_getElem hl, Option.map_some, Option.getD_some]
    unfold revOne
    rw [List.mem_append]
    rcases h with ⟨hf, rfl⟩ | ⟨a, ha, rfl⟩
    · left; rw [if_neg hf]; simp
    · right; exact List.mem_map.2 ⟨a, ha, rfl⟩
theorem revTo_lt {m : MachL} (hv : Valid m) : ∀ x ∈ revTo m.states m.states.length, x.1 < m.states.length + 1 := by
  intro x hx
  obtain ⟨q, hq, hl, h⟩ := (mem_revTo _ _ (Nat.le_refl _) _).1 hx
  rcases h with ⟨_, rfl⟩ | ⟨a, ha, rfl⟩
  · omega
  · have h1 := (hv.st _ (List.getElem_mem hl)).2 a ha
    have := h1.t0; have := h1.t1
    simp only; omega
theorem set_self {α : Type} (l : List α) (i : Nat) (h : i < l.length) : l.set i l[i] = l := by simp
theorem rev_valid {m : MachL} (hv : Valid m) (hn : m.states.length + 1 ≤ 60) (ha : arcsOf m.states + m.states.length ≤ 400) : Valid (revM m) := by
  have hlt := revTo_lt hv
  have hs0 := hv.s0; have hs1 := hv.s1
  have hst : ∀ s ∈ addSs (List.replicate (m.states.length + 1) emptyS) (revTo m.states m.states.length), ValidFinal s.final ∧ ∀ a ∈ s.arcs, ValidArc (m.states.length + 1 : Nat) a := by
    intro s hs
    obtain ⟨i, hi, rfl⟩ := List.getElem_of_mem hs
    rw [addSs_len, List.length_replicate] at hi
    rw [addSs_get _ _ (by simpa using hlt) i (by simpa using hi)]
    refine ⟨.inr (by simp), fun a ha => ?_⟩
    simp only [List.getElem_replicate, List.nil_append] at ha
    obtain ⟨x, hx, rfl⟩ := List.mem_map.1 ha
    obtain ⟨q, hq, hl, h⟩ := (mem_revTo _ _ (Nat.le_refl _) _).1 (List.mem_filter.1 hx).1
    rcases h with ⟨hf, rfl⟩ | ⟨a, hma, rfl⟩
    · have := (hv.st _ (List.getElem_mem hl)).1
      unfold ValidFinal at this
      refine ⟨by simp only; omega, by simp only; omega, by simp only; omega, by simp only; omega, by simp only; omega, by simp only; omega, by simp only; omega, by simp only; omega⟩
    · have h1 := (hv.st _ (List.getElem_mem hl)).2 a hma
      exact ⟨h1.i0, h1.i1, h1.o0, h1.o1, h1.w0, h1.w1, by simp only; omega, by simp only; omega⟩
  have harc : arcsOf (addSs (List.replicate (m.states.length + 1) emptyS) (revTo m.states m.states.length)) ≤ 400 := by
    rw [addSs_arcs _ _ (by simpa using hlt)]
    have h1 := revTo_len m.states m.states.length (Nat.le_refl _)
    rw [List.take_length] at h1
    have h2 : arcsOf (List.replicate (m.states.length + 1) emptyS) = 0 := by simp [arcsOf]
    omega
  have hlen := addSs_len (revTo m.states m.states.length) (List.replicate (m.states.length + 1) emptyS)
  rw [List.length_replicate] at hlen
  unfold revM
  generalize addSs (List.replicate (m.states.length + 1) emptyS) (revTo m.states m.states.length) = ss at *
  split
  · have hp : m.start.toNat + 1 < ss.length := by omega
    have e : (ss[m.start.toNat + 1]?.map (·.arcs)).getD [] = ss[m.start.toNat + 1].arcs := by simp [hp]
    refine ⟨by simpa [hlen] using hn, ?_, by simp, by simp only [List.length_set, hlen]; omega, fun s hs => ?_⟩
    · rw [e]
      have : arcsOf (ss.set (m.start.toNat + 1) ⟨0, ss[m.start.toNat + 1].arcs⟩) = arcsOf ss := by
        unfold arcsOf
        rw [List.map_set]
        have := set_self (ss.map fun s => s.arcs.length) (m.start.toNat + 1) (by simpa using hp)
        rw [List.getElem_map] at this
        rw [this]
      rw [this]; exact harc
    · simp only [List.length_set, hlen]
      rcases List.mem_or_eq_of_mem_set hs with h | h
      · exact hst s h
      · subst h
        rw [e]
        exact ⟨.inl (by simp), (hst _ (List.getElem_mem hp)).2⟩
  · refine ⟨by simpa [hlen] using hn, harc, by simp, by simp only [hlen]; omega, fun s hs => by simp only [hlen]; exact hst s hs⟩

/-! ### its first loop -/
def infTo (n k : Nat) : List StateL := List.replicate k emptyS ++ List.replicate (n - k) ⟨0, []⟩
theorem infTo_len (n k : Nat) (h : k ≤ n) : (infTo n k).length = n := by simp [infTo]; omega
theorem infTo_succ (n k : Nat) (h : k < n) : infTo n (k + 1) = (infTo n k).set k ⟨1000000001, ((infTo n k)[k]'(by rw [infTo_len n k (by omega)]; exact h)).arcs⟩ := by
  have e : (infTo n k)[k]'(by rw [infTo_len n k (by omega)]; exact h) = ⟨0, []⟩ := by
    simp only [infTo]
    rw [List.getElem_append_right (by simp)]; simp
  rw [e]
  unfold infTo
  rw [show n - k = (n - (k + 1)) + 1 by omega, List.replicate_succ (n := n - (k + 1)), List.set_append_right _ _ (by simp), List.replicate_succ' (n := k), List.append_assoc]
  simp
theorem infTo_all (n : Nat) : infTo n n = List.replicate n emptyS := by simp [infTo]
theorem madeStates (n : Nat) : madeCells #[Value.int .i64 0, .slice none 0 0] (n * 2) = (statesCells (((infTo n 0).map (·.final)).zip (List.replicate n (.slice none 0 0)))).toArray := by
  have e : ((infTo n 0).map (·.final)).zip (List.replicate n (Value.slice none 0 0)) = List.replicate n ((0 : Int), Value.slice none 0 0) := by
    simp [infTo]
  rw [e]
  apply Array.ext
  · simp [madeCells, statesCells_len]
  · intro i h1 h2
    have hi : i < n * 2 := by simpa [madeCells] using h1
    have e2 := flatMap_at stCells 2 (fun _ => rfl) (List.replicate n ((0 : Int), Value.slice none 0 0)) (i / 2) (by simp; omega) (i % 2) (Nat.mod_lt _ (by omega))
    rw [show i / 2 * 2 + i % 2 = i by omega] at e2
    have h3 : i < (statesCells (List.replicate n ((0 : Int), Value.slice none 0 0))).length := by rw [statesCells_len]; simpa using hi
    have e3 : (statesCells (List.replicate n ((0 : Int), Value.slice none 0 0)))[i]? = some ((statesCells (List.replicate n ((0 : Int), Value.slice none 0 0)))[i]) := List.getElem?_eq_getElem h3
    have e4 := e3.symm.trans e2
    simp only [List.getElem_toArray]
    rcases Nat.mod_two_eq_zero_or_one i with h | h
    · rw [h] at e4; simp [stCells] at e4; rw [e4]; simp [madeCells, h]
    · rw [h] at e4; simp [stCells] at e4; rw [e4]; simp [madeCells, h]
theorem StG.made (w : World) (n : Nat) (hn : n ≤ 1000000) : StG (w.alloc (.cells (statesCells (((infTo n 0).map (·.final)).zip (List.replicate n (.slice none 0 0)))).toArray 42)) w.heap.size w.heap.size n (List.replicate n (.slice none 0 0)) (infTo n 0) := by
  have hl := infTo_len n 0 (by omega)
  refine ⟨⟨by rw [hl]; simp, ?_, fun i h h' => ?_⟩, fun i j hi hj _ => by simpa using apart_nil _⟩
  · rw [hl]
    have hlen : (statesCells (((infTo n 0).map (·.final)).zip (List.replicate n (Value.slice none 0 0)))).length = n * 2 := by rw [statesCells_len]; simp [hl]
    exact ⟨hlen, .inr ⟨w.heap.size, n, _, rfl, Nat.le_refl _, heap_alloc_new w _, Nat.le_refl _, by simp only [maxLen]; omega, by simpa using hlen, by rw [← hlen]; simp⟩⟩
  · have : (infTo n 0)[i].arcs = [] := by simp [infTo]
    rw [this]
    simpa using OwnArcs.nil _ _

theorem addSs_small (l : List (Nat × ArcL)) (n : Nat) (hl : ∀ x ∈ l, x.1 < n) (h : l.length ≤ 1000) : ∀ s ∈ addSs (List.replicate n emptyS) l, s.arcs.length ≤ 1000 := by
  intro s hs
  obtain ⟨i, hi, rfl⟩ := List.getElem_of_mem hs
  rw [addSs_len, List.length_replicate] at hi
  rw [addSs_get _ _ (by simpa using hl) i (by simpa using hi)]
  simp only [List.getElem_replicate, List.nil_append, List.length_map]
  exact Nat.le_trans (List.length_filter_le _ _) h
theorem add_any' (x : Int) (w1 W : World) (n : Nat) (vs : List Value) (ss : List StateL) (h : RvW w1 W n vs ss) (q : Nat) (hx : x = q) (hq : q < n) (hn : n ≤ 1000) (i o t d : Int) (hl : ∀ s ∈ ss, s.arcs.length ≤ 1000) :
    Calls Try.prog 44 #[.int .i64 x, .agg #[.int .i64 i, .int .i64 o, .int .i64 t, .int .i64 d], .pointer (some ⟨w1.heap.size + 1, 0, none⟩)] W fun e w' => e = .returned (.tuple #[]) ∧ (∃ vs', RvW w1 w' n vs' (addS ss (q, ⟨i, o, t, d⟩))) ∧ (∀ b cs t, Blk W b cs t → 78 ≠ t → b ≠ w1.heap.size → Blk w' b cs t) := by
  subst hx
  exact add_any w1 W n vs ss h q hq hn ⟨i, o, t, d⟩ hl
def revFin (k : Nat) (f : Int) : List (Nat × ArcL) := if f = 1000000001 then [] else [(0, ⟨0, 0, f, k + 1⟩)]
def revArc (k : Nat) (a : ArcL) : Nat × ArcL := (a.to.toNat + 1, ⟨a.inn, a.out, a.wt, k + 1⟩)
theorem revOne_eq (k : Nat) (s : StateL) : revOne k s = revFin k s.final ++ s.arcs.map (revArc k) := rfl
theorem revFin_len (k : Nat) (f : Int) : (revFin k f).length ≤ 1 := by unfold revFin; split <;> simp
theorem revFin_lt (k : Nat) (f : Int) : ∀ x ∈ revFin k f, x.1 = 0 := by unfold revFin; split <;> simp

set_option maxRecDepth 100000 in
set_option maxHeartbeats 8000000 in
theorem Reverse_any (v : Value) (m : MachL) (w : World) (hm : MachAt w v m) (hv : Valid m) (hn : m.states.length + 1 ≤ 60) (ha : arcsOf m.states + m.states.length ≤ 400) :
    Calls Try.prog 16 #[v] w fun e w' => ∃ mv, e = .returned (.tuple #[mv, .int .i64 0]) ∧ OwnMach w' w.heap.size mv (revM m) ∧ Below w.heap.size w w' := by
  have CH := Lib.hid (fun W hb => Check_ok v m W (hm.below hb) hv)
  have HRV := Lib.hid (rev_valid hv hn ha)
  obtain ⟨A, c, rfl, hS⟩ := hm
  have hs0 := hv.s0; have hs1 := hv.s1
  have HS := Lib.hid hS; have HV := Lib.hid hv
  have rd := hS.rdy
  clear hS hv
  go_enter Try.func16, Try.ntmps16
  go_wp2_with fail
  refine (CH.out _ (by repeat' (first | exact Below.refl _ _ | assumption | refine Below.drew ?_ | refine Below.alloc ?_ (by first | omega | (simp; done) | (simp; omega)) _ | refine Below.setCell ?_ (by first | omega | (simp; done) | (simp; omega)) _))).mono ?_
  rintro e w1 ⟨rfl, bel⟩
  have M1 : Hid (Blk w1 w.heap.size #[.int .i64 m.start, .slice A m.states.length c] 27) := Lib.hid (Blk.step (Blk.alloc (Blk.new' (by simp)) _) bel)
  have R1 : Hid (Blk w1 (w.heap.size + 1) #[.int .i64 0, .slice none 0 0] 27) := Lib.hid (Blk.step (Blk.new' (by simp)) bel)
  have b1 : Below w.heap.size w w1 := (((Below.refl _ _).alloc (Nat.le_refl _) _).alloc (by simp) _).trans (bel.mono (by simp; omega))
  have k1 := M1.out.cell; have l1 := M1.out.lt
  clear bel CH
  have hmk := run_make_elt eltState w1 (m.states.length + 1) (by omega) (by omega) (by omega)
  simp only [Value.cells, madeStates] at hmk
  rw [Int.natCast_add, Int.natCast_one] at hmk
  go_wp2_with fail
  have F0 : RvW w1 ((w1.alloc (.cells (statesCells (((infTo (m.states.length + 1) 0).map (·.final)).zip (List.replicate (m.states.length + 1) (.slice none 0 0)))).toArray 42)).alloc (.cells #[.int .i64 0, .slice (some ⟨w1.heap.size, 0, none⟩) (m.states.length + 1) (m.states.length + 1)] 27)) (m.states.length + 1) (List.replicate (m.states.length + 1) (.slice none 0 0)) (infTo (m.states.length + 1) 0) :=
    ⟨(StG.made w1 _ (by omega)).keep ((Below.refl _ _).alloc (Nat.le_refl _) _), Blk.new' (by simp), ((Below.refl _ _).alloc (Nat.le_refl _) _).alloc (by simp) _⟩
  generalize ((w1.alloc (.cells (statesCells (((infTo (m.states.length + 1) 0).map (·.final)).zip (List.replicate (m.states.length + 1) (.slice none 0 0)))).toArray 42)).alloc (.cells #[.int .i64 0, .slice (some ⟨w1.heap.size, 0, none⟩) (m.states.length + 1) (m.states.length + 1)] 27)) = w2 at *
  clear hmk
  generalize hN : m.states.length + 1 = N at *
  have HN := Lib.hid hN
  have hN2 : (m.states.length : Int) + 1 = N := by omega
  rw [hN2]
  clear hN hN2
  go_loopw [28] (fun i wr => ∃ k : Nat, k ≤ N ∧ i = .int .i64 k ∧ RvW w1 wr N (List.replicate N (.slice none 0 0)) (infTo N k)) (fun i _ => N - (intOf i).toNat)
  case atStart => exact ⟨0, by omega, rfl, F0⟩
  case round =>
    obtain ⟨k, hk, rfl, hR⟩ := hrel
    have HR := Lib.hid hR
    have hob := hR.ob.cell; have lob := hR.ob.lt
    by_cases hlt : k < N
    · have hkl : k < (infTo N k).length := by rw [infTo_len N k hk]; exact hlt
      have hcell := (hR.st.cell hkl).2
      have hfz := hR.st.froz (k * 2) (by omega)
      have lg := (hR.st.lt (by omega)).2
      have HS2 := Lib.hid (hR.setFinal k hkl 1000000001)
      have HSU := Lib.hid (infTo_succ N k hlt)
      have i0 : (0 : Int) ≤ ↑k := by omega
      have i1 : (↑k : Int) < ↑N := by omega
      generalize (infTo N k)[k].final = x0 at *
      clear hR
      go_wp2_with fail
      go_roundw
      case rel => exact ⟨k + 1, by omega, by go_num, by rw [HSU.out]; exact HS2.out⟩
      case measure => simp [intOf]; omega
    · obtain rfl : N = k := by omega
      rw [infTo_all] at hR
      have HR2 := Lib.hid hR
      have M2 := Lib.hid (M1.out.below hR.bel l1)
      have k2 := M2.out.cell; have l2 := M2.out.lt
      clear hR k1 F0 hlt HR
      go_wp2_with fail
      clear k2 l2 hob lob
      have HLT := Lib.hid (revTo_lt HV.out)
      rw [HN.out] at HLT
      have HTO : Hid (∀ s ∈ m.states, ∀ a ∈ s.arcs, 0 ≤ (a : ArcL).to ∧ a.to < m.states.length) := Lib.hid (fun s hs a ha => ⟨((HV.out.st s hs).2 a ha).t0, ((HV.out.st s hs).2 a ha).t1⟩)
      have HNP : Hid (∀ k, k ≤ m.states.length → ∀ x ∈ revTo m.states k, x.1 < N) := Lib.hid (fun k hk x hx => by
        obtain ⟨q, hq, hl, h⟩ := (mem_revTo _ _ hk _).1 hx
        exact HLT.out x ((mem_revTo _ _ (Nat.le_refl _) _).2 ⟨q, hl, hl, h⟩))
      generalize hr0 : List.replicate N emptyS = r0 at *
      have HR0 := Lib.hid hr0; clear hr0
      go_loopw [41] (fun i wr => ∃ (k : Nat) (vs : List Value), k ≤ m.states.length ∧ i = .int .i64 k ∧ RvW w1 wr N vs (addSs r0 (revTo m.states k))) (fun i _ => m.states.length - (intOf i).toNat)
      case atStart => exact ⟨0, _, by omega, rfl, by simpa [revTo, addSs] using HR2.out⟩
      case round =>
        obtain ⟨k, vs, hk, rfl, hR⟩ := hrel
        have HR := Lib.hid hR
        have bw : Below w.heap.size w wr := b1.trans (hR.bel.mono b1.size)
        by_cases hlt : k < m.states.length
        · have hSr := HS.out.below bw (Nat.le_refl _)
          have d0 := hSr.c0 k hlt
          obtain ⟨A', c', d1', hA'⟩ := HS.out.c1 k hlt
          have d1 := cell_keep bw (Nat.le_refl _) d1'
          have lA := World.block_lt_of_cell? _ _ d0
          have hrs := revTo_succ m.states k hlt
          rw [revOne_eq, ← List.append_assoc] at hrs
          have hrl := revTo_len m.states k hk
          have hal := arcsOf_take m.states k hlt
          have hal2 := arcsOf_le m.states (k + 1)
          have htk := HTO.out _ (List.getElem_mem hlt)
          have hvf := (HV.out.st _ (List.getElem_mem hlt)).1
          unfold ValidFinal at hvf
          generalize m.states[k] = s at *
          have HRS := Lib.hid hrs
          have HA : Hid (ArcsAt w A' s.arcs) := Lib.hid hA'
          have rdA := hA'.rdy
          have HTK := Lib.hid htk
          have hx5 : (revTo m.states k).length + 1 + s.arcs.length ≤ 1000 := by omega
          have hsa : s.arcs.length ≤ 400 := by omega
          have i0 : (0 : Int) ≤ ↑k := by omega
          have i1 : (↑k : Int) < ↑m.states.length := by omega
          have hN1 : m.states.length + 1 = N := HN.out
          have hk60 : k ≤ 60 := by omega
          have hwo : w1.heap.size < wr.heap.size := (hR.st.lt (by omega)).2
          have HKL : Hid (∀ x ∈ revTo m.states k, x.1 < N) := Lib.hid (HNP.out k hk)
          clear hSr hA' d1' hrs hrl hal hal2 htk hR
          obtain ⟨wo, rfl⟩ : ∃ wo : World, wo = wr := ⟨_, rfl⟩
          have HR3 := Lib.hid (HR.out.keep ((Below.refl _ _).alloc (Nat.le_refl _) (.cells #[.int .i64 s.final, .slice A' s.arcs.length c'] 42)))
          have S0 : Blk (wo.alloc (.cells #[.int .i64 s.final, .slice A' s.arcs.length c'] 42)) wo.heap.size #[.int .i64 s.final, .slice A' s.arcs.length c'] 42 := Blk.new _ _ _
          have hN0 : 0 < N := by omega
          clear hN1
          go_upto_if 48 with fail
          go_cut [] (fun wx => ∃ vs, RvW w1 wx N vs (addSs r0 (revTo m.states k ++ revFin k s.final)) ∧ Blk wx wo.heap.size #[.int .i64 s.final, .slice A' s.arcs.length c'] 42)
          case first =>
            by_cases hinf : s.final = 1000000001
            · have hinf2 : (s.final != 1000000001) = false := by simp [hinf]
              have HE : Hid (revFin k s.final = []) := Lib.hid (by unfold revFin; rw [if_pos hinf])
              clear hinf
              go_wp2_with fail
              go_meet
              case rel => exact ⟨vs, by rw [HE.out, List.append_nil]; exact HR3.out, S0⟩
            · have hinf2 : (s.final != 1000000001) = true := by simpa using hinf
              have HE : Hid (revFin k s.final = [(0, ⟨0, 0, s.final, (k : Int) + 1⟩)]) := Lib.hid (by unfold revFin; rw [if_neg hinf])
              clear hinf
              go_wp2_with fail
              refine (add_any' _ w1 _ N vs _ HR3.out 0 (by rfl) hN0 (by omega) _ _ _ _ (by rw [← HR0.out]; exact addSs_small _ _ HKL.out (by omega))).mono ?_
              rintro e w5 ⟨rfl, ⟨vs5, hR5⟩, hfar⟩
              have S5 := hfar _ _ _ S0 (by decide) (by omega)
              have HR5 : Hid (RvW w1 w5 N vs5 (addSs r0 (revTo m.states k ++ revFin k s.final))) := Lib.hid (by rw [HE.out, addSs_snoc]; exact hR5)
              clear hR5 hfar
              go_wp2_with fail
              go_meet
              case rel => exact ⟨vs5, HR5.out, S5⟩
          case rest =>
            obtain ⟨w6, rfl⟩ : ∃ wx : World, wx = wc := ⟨_, rfl⟩
            obtain ⟨vs6, hR6, hS6⟩ := hcut
            have HR6 := Lib.hid hR6
            have k5 := hS6.cell; have l5 := hS6.lt
            clear hR6 hS6 S0 d0 d1
            have HX : Hid ((revTo m.states k ++ revFin k s.final).length + s.arcs.length ≤ 1000) := Lib.hid (by
              have := revFin_len k s.final
              rw [List.length_append]; omega)
            have HXL : Hid (∀ x ∈ revTo m.states k ++ revFin k s.final, x.1 < N) := Lib.hid (fun x hx => by
              rcases List.mem_append.1 hx with h | h
              · exact HKL.out x h
              · rw [revFin_lt k s.final x h]; exact hN0)
            generalize revTo m.states k ++ revFin k s.final = base at *
            go_wp2_with fail
            clear k5
            go_loopw [59] (fun i wx => ∃ (t : Nat) (vs : List Value), t ≤ s.arcs.length ∧ i = .int .i64 t ∧ RvW w1 wx N vs (addSs r0 (base ++ (s.arcs.take t).map (revArc k)))) (fun i _ => s.arcs.length - (intOf i).toNat)
            case atStart => exact ⟨0, _, by omega, rfl, by simpa using HR6.out⟩
            case round =>
              obtain ⟨t, vs, ht, rfl, hR⟩ := hrel
              have HRt := Lib.hid hR
              by_cases hlt2 : t < s.arcs.length
              · have bwr : Below w.heap.size w wr := b1.trans (hR.bel.mono b1.size)
                have hAr := HA.out.below bwr (Nat.le_refl _)
                have f0 := hAr.c0 t hlt2; have f1 := hAr.c1 t hlt2; have f2 := hAr.c2 t hlt2; have f3 := hAr.c3 t hlt2
                have lA' := World.block_lt_of_cell? _ _ f0
                have hva := HTK.out _ (List.getElem_mem hlt2)
                have hsn := addSs_snoc r0 (base ++ (s.arcs.take t).map (revArc k)) (revArc k s.arcs[t])
                rw [List.append_assoc, ← List.map_singleton, ← List.map_append, ← List.take_succ_eq_append_getElem hlt2] at hsn
                have hxl : ∀ x ∈ base ++ (s.arcs.take t).map (revArc k), x.1 < N := fun x hx => by
                  rcases List.mem_append.1 hx with h | h
                  · exact HXL.out x h
                  · obtain ⟨a, ha, rfl⟩ := List.mem_map.1 h
                    have := HTK.out a (List.mem_of_mem_take ha)
                    have := HN.out
                    simp only [revArc]; omega
                have hsm : ∀ z ∈ addSs r0 (base ++ (s.arcs.take t).map (revArc k)), z.arcs.length ≤ 1000 := by
                  rw [← HR0.out]
                  exact addSs_small _ _ hxl (by have := HX.out; simp; omega)
                generalize s.arcs[t] = a at *
                obtain ⟨p, hp⟩ : ∃ p : Nat, a.to = p := ⟨a.to.toNat, by omega⟩
                have hp2 : a.to.toNat = p := by omega
                have hpn : p + 1 < N := by have := HN.out; omega
                rw [hp] at f3
                simp only [revArc, hp2] at hsn
                have HSN := Lib.hid hsn; have HSM := Lib.hid hsm
                have HR8 : Hid (RvW w1 (wr.alloc (.cells #[.int .i64 a.inn, .int .i64 a.out, .int .i64 a.wt, .int .i64 ((k : Int) + 1)] 78)) N vs (addSs r0 (base ++ (s.arcs.take t).map (revArc k)))) := Lib.hid (HRt.out.keep ((Below.refl _ _).alloc (Nat.le_refl _) _))
                clear hAr hva hsn hxl hsm hp hp2 hR
                obtain ⟨wi, rfl⟩ : ∃ wx : World, wx = wr := ⟨_, rfl⟩
                go_wp2_with fail
                refine (add_any' _ w1 _ N vs _ HR8.out (p + 1) (by omega) hpn (by omega) _ _ _ _ HSM.out).mono ?_
                rintro e w7 ⟨rfl, ⟨vs7, hR7⟩, -⟩
                have HR7 : Hid (RvW w1 w7 N vs7 (addSs r0 (base ++ (s.arcs.take (t + 1)).map (revArc k)))) := Lib.hid (by rw [HSN.out]; exact hR7)
                clear hR7
                go_wp2_with fail
                go_roundw
                case rel => exact ⟨t + 1, vs7, by omega, by go_num, HR7.out⟩
                case measure => simp [intOf]; omega
              · have hte : s.arcs.take t = s.arcs := List.take_of_length_le (by omega)
                rw [hte, ← HRS.out] at hR
                have HR7 := Lib.hid hR
                clear hR hte
                go_wp2_with fail
                go_roundw
                case rel => exact ⟨k + 1, vs, by omega, by go_num, HR7.out⟩
                case measure => simp [intOf]; omega
        · obtain rfl : k = m.states.length := by omega
          have M3 := M1.out.below hR.bel l1
          have R3 := R1.out.below hR.bel (by have := R1.out.lt; exact this)
          have k3 := M3.cell; have l3 := M3.lt
          have r3 := R3.cell; have rf3 := R3.froz; have rl3 := R3.lt
          have hob := hR.ob.cell; have lob := hR.ob.lt
          have hN1 : m.states.length + 1 = N := HN.out
          have hsl := hR.st.len
          have h1 := b1.size
          have hr1 := R1.out.lt
          have ⟨_, lg⟩ := hR.st.lt (by omega)
          have hfz := fun o => hR.st.froz o (by omega)
          have HRVE : Hid (revM m = ⟨0, if 0 ≤ m.start then (addSs r0 (revTo m.states m.states.length)).set (m.start.toNat + 1) ⟨0, ((addSs r0 (revTo m.states m.states.length))[m.start.toNat + 1]?.map (·.arcs)).getD []⟩ else addSs r0 (revTo m.states m.states.length)⟩) := Lib.hid (by unfold revM; rw [HN.out, HR0.out])
          generalize addSs r0 (revTo m.states m.states.length) = fin at *
          have HRF := Lib.hid hR
          have HSL := Lib.hid hsl
          clear hR M3 R3 HR hN1 HR2 hsl
          by_cases h0 : 0 ≤ m.start
          · obtain ⟨p, hp⟩ : ∃ p : Nat, m.start = p := ⟨m.start.toNat, by omega⟩
            have hp2 : m.start.toNat = p := by omega
            have hpn : p + 1 < N := by have := HN.out; omega
            have hpf : p + 1 < fin.length := by rw [← HSL.out]; exact hpn
            have hcf := (HRF.out.st.cell hpf).2
            have HRG := Lib.hid (HRF.out.setFinal (p + 1) hpf 0)
            rw [hp] at k3
            have hre : Hid (revM m = ⟨0, fin.set (p + 1) ⟨0, fin[p + 1].arcs⟩⟩) := Lib.hid (by rw [HRVE.out, if_pos h0, hp2]; simp [hpf])
            have p0 : (0 : Int) ≤ (p : Int) + 1 := by omega
            have p1 : (p : Int) + 1 < (N : Int) := by omega
            have pq : (0 : Int) ≤ (p : Int) := by omega
            have e2 : ((p : Int) + 1).toNat = p + 1 := by omega
            generalize fin[p + 1].final = x0 at *
            clear HRVE hp hp2 HRF
            go_wp2_with fail
            have HMA : Hid (MachAt (wr.setCell ⟨w1.heap.size, (p + 1) * 2, none⟩ (.int .i64 0)) (.agg #[.int .i64 0, .slice (some ⟨w1.heap.size, 0, none⟩) N N]) (revM m)) := Lib.hid (by
              have h1 := OwnSt.at_ ⟨_, HRG.out.st.st⟩
              refine ⟨some ⟨w1.heap.size, 0, none⟩, N, ?_, ?_⟩
              · rw [hre.out, ← h1.1]
              · rw [hre.out]; exact h1.2)
            have r4 : ∀ o, (wr.setCell ⟨w1.heap.size, (p + 1) * 2, none⟩ (.int .i64 0)).cell? ⟨w.heap.size + 1, o, none⟩ = #[Value.int .i64 0, Value.slice none 0 0][o]? := fun o => by rw [World.cell?_setCell_other _ _ _ _ (by intro e; injection e with e1 e2; omega)]; exact r3 o
            have rf4 : ∀ o, (wr.setCell ⟨w1.heap.size, (p + 1) * 2, none⟩ (.int .i64 0)).frozen? ⟨w.heap.size + 1, o, none⟩ = false := fun o => by rw [World.frozen?_setCell]; exact rf3 o
            have rl4 : w.heap.size + 1 < (wr.setCell ⟨w1.heap.size, (p + 1) * 2, none⟩ (.int .i64 0)).heap.size := by simp only [World.setCell, Array.size_modify]; exact rl3
            have hob4 := HRG.out.ob.cell; have lob4 := HRG.out.ob.lt
            clear k3 l3 r3 rf3 rl3 hob lob hfz hcf lg
            generalize wr.setCell ⟨w1.heap.size, (p + 1) * 2, none⟩ (.int .i64 0) = w8 at *
            refine (Check_ok _ _ w8 HMA.out HRV.out).mono ?_
            rintro e w9 ⟨rfl, bel9⟩
            have HR9 := Lib.hid (HRG.out.keep bel9)
            have r5 := fun o => (bcell bel9).1 _ o rl4 |>.trans (r4 o)
            have rf5 := fun o => (bcell bel9).2 _ o rl4 |>.trans (rf4 o)
            have rl5 : w.heap.size + 1 < w9.heap.size := by have := bel9.size; omega
            have hob5 := HR9.out.ob.cell; have lob5 := HR9.out.ob.lt
            clear r4 rf4 rl4 hob4 lob4 HRG bel9
            go_wp2_with fail
            refine bodyPost_ret (v := .tuple #[.agg #[.int .i64 0, .slice (some ⟨w1.heap.size, 0, none⟩) N N], .int .i64 0]) (by simp [results, Try.results16, go_sem, *]) rfl ⟨_, rfl, ?_, ?_⟩
            · rw [hre.out]
              exact ⟨_, rfl, _, ((HR9.out.st.st.setCell (a := ⟨w.heap.size + 1, 0, none⟩) (by simp only; omega) _).setCell (a := ⟨w.heap.size + 1, 1, none⟩) (by simp only; omega) _).mono h1⟩
            · exact ((b1.trans (HR9.out.bel.mono b1.size)).setCell (by simp) _).setCell (by simp) _
          · have hre : Hid (revM m = ⟨0, fin⟩) := Lib.hid (by rw [HRVE.out, if_neg h0])
            have HRG := HRF
            clear HRVE
            go_wp2_with fail
            have HMA : Hid (MachAt wr (.agg #[.int .i64 0, .slice (some ⟨w1.heap.size, 0, none⟩) N N]) (revM m)) := Lib.hid (by
              have h1 := OwnSt.at_ ⟨_, HRG.out.st.st⟩
              refine ⟨some ⟨w1.heap.size, 0, none⟩, N, ?_, ?_⟩
              · rw [hre.out, ← h1.1]
              · rw [hre.out]; exact h1.2)
            have r4 : ∀ o, (wr).cell? ⟨w.heap.size + 1, o, none⟩ = #[Value.int .i64 0, Value.slice none 0 0][o]? := fun o => by exact r3 o
            have rf4 : ∀ o, (wr).frozen? ⟨w.heap.size + 1, o, none⟩ = false := fun o => by exact rf3 o
            have rl4 : w.heap.size + 1 < (wr).heap.size := rl3
            have hob4 := HRG.out.ob.cell; have lob4 := HRG.out.ob.lt
            clear k3 l3 r3 rf3 rl3 hob lob hfz 
            obtain ⟨w8, rfl⟩ : ∃ w8 : World, w8 = wr := ⟨_, rfl⟩
            refine (Check_ok _ _ w8 HMA.out HRV.out).mono ?_
            rintro e w9 ⟨rfl, bel9⟩
            have HR9 := Lib.hid (HRG.out.keep bel9)
            have r5 := fun o => (bcell bel9).1 _ o rl4 |>.trans (r4 o)
            have rf5 := fun o => (bcell bel9).2 _ o rl4 |>.trans (rf4 o)
            have rl5 : w.heap.size + 1 < w9.heap.size := by have := bel9.size; omega
            have hob5 := HR9.out.ob.cell; have lob5 := HR9.out.ob.lt
            clear r4 rf4 rl4 hob4 lob4 HRG bel9
            go_wp2_with fail
            refine bodyPost_ret (v := .tuple #[.agg #[.int .i64 0, .slice (some ⟨w1.heap.size, 0, none⟩) N N], .int .i64 0]) (by simp [results, Try.results16, go_sem, *]) rfl ⟨_, rfl, ?_, ?_⟩
            · rw [hre.out]
              exact ⟨_, rfl, _, ((HR9.out.st.st.setCell (a := ⟨w.heap.size + 1, 0, none⟩) (by simp only; omega) _).setCell (a := ⟨w.heap.size + 1, 1, none⟩) (by simp only; omega) _).mono h1⟩
            · exact ((b1.trans (HR9.out.bel.mono b1.size)).setCell (by simp) _).setCell (by simp) _
end Go.Proofs.Ytonjbchjfhknlaa
