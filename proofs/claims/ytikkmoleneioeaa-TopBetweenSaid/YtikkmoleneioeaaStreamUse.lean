/- stream: what laws use. -/
import Derived.Test.YtikkmoleneioeaaStreamFeed
import Derived.Test.YtikkmoleneioeaaStreamEnd
import Derived.Test.YtikkmoleneioeaaCostMade
namespace Go.Proofs.Ytikkmoleneioeaa
open Go.RowKit

theorem geo_small : ∀ n : Fin 7, n.val + n.val * geo 4 (n.val - 1) ≤ 100000 := by decide
theorem made_smallS (r : RawL) (k : Nat) (h1 : 1 ≤ k) (h6 : k ≤ 6) : SmallS (mkMach r k false) 9 4 := by
  have hl := made_little r k false h1
  have hq : ∀ q, arcsQ (mkMach r k false) q = [] ∨ ∃ s ∈ (mkMach r k false).states, arcsQ (mkMach r k false) q = s.arcs := fun q => by
    unfold arcsQ
    cases hs : (mkMach r k false).states[q]? with
    | none => exact .inl rfl
    | some s => exact .inr ⟨s, List.mem_of_getElem? hs, rfl⟩
  refine ⟨fun q => ?_, fun q a ha => ?_, by omega, by omega, ?_⟩
  · rcases hq q with h | ⟨s, hs, h⟩
    · rw [h]; simp
    · rw [h]; exact hl.arcs s hs
  · rcases hq q with h | ⟨s, hs, h⟩
    · rw [h] at ha; cases ha
    · rw [h] at ha; exact hl.wt s hs a ha
  · exact geo_small ⟨_, Nat.lt_succ_of_le (Nat.le_trans hl.len h6)⟩
theorem made_finQ (r : RawL) (k : Nat) (h1 : 1 ≤ k) : ∀ q, finQ (mkMach r k false) q ≠ INF → finQ (mkMach r k false) q ≤ 9 := fun q h => by
  have hl := made_little r k false h1
  unfold finQ at *
  cases hs : (mkMach r k false).states[q]? with
  | none => rw [hs] at h; exact absurd rfl h
  | some s =>
    rw [hs] at h
    simp only [Option.map_some, Option.getD_some] at h ⊢
    exact hl.fin s (List.mem_of_getElem? hs) h
theorem accW_any {m : MachL} {x : List Int} {q : Nat} {u v : List Int} {c : Int} (h : AccW m q u v c) : ∀ i, i ≤ x.length → u = x.drop i → Acc m x [] true (q, i, 0) c := by
  induction h with
  | @fin q s hs hf =>
    intro i hi hu
    have h1 := congrArg List.length hu
    simp only [List.length_nil, List.length_drop] at h1
    have e : finalP m (q, i, 0) = s.final := by unfold finalP; simp only [hs]; rfl
    rw [← e]
    refine Acc.fin ?_ (by rw [e]; exact hf)
    unfold endsP
    simp only [Bool.true_or, Bool.and_true, beq_iff_eq]; omega
  | @arc q s a x' y' c hs ha _ ih =>
    intro i hi hu
    obtain ⟨h1, h2⟩ := step_drop hu.symm
    refine Acc.arc (a := a) (q := (a.to.toNat, stepAt i a.inn, 0)) ?_ ?_ (ih _ (stepAt_le h1 hi) h2)
    · unfold arcsP; simp only [hs]; exact ha
    · unfold nextP
      simp only [Bool.true_or, Bool.and_true, if_true]
      rw [if_pos h1]
theorem any_totS {m : MachL} {x y : List Int} {c : Int} (h : Tot m x y false c) : Tot m x [] true c := by
  obtain ⟨h0, h⟩ := tot_accW.1 h
  exact tot_acc.2 ⟨h0, accW_any h 0 (Nat.zero_le _) rfl⟩
theorem begin_marks {m : MachL} (hv : Valid m) {WW : Int} {L : TabK} (h : StT m WW [] L) (h0 : 0 ≤ m.start) : 0 < (marksL L m.states.length).length := by
  obtain ⟨k, hk, -⟩ := (h.tab m.start.toNat).2 _ (.start h0)
  have hm : m.start.toNat ∈ hasL L m.states.length := by
    unfold hasL
    exact List.mem_filter.2 ⟨List.mem_range.2 (by have := hv.s1; omega), by rw [hk]; rfl⟩
  unfold marksL
  rw [List.length_map]
  exact List.length_pos_of_mem hm
theorem best_is {T : Int → Prop} {r c : Int} (h : Best T r) (hc : T c) (hm : ∀ d, T d → c ≤ d) : r = c := by
  rcases h with ⟨-, h⟩ | ⟨h1, h2, -⟩
  · exact absurd hc (h c)
  · have := h2 c hc; have := hm r h1; omega
theorem best_none {T : Int → Prop} {r : Int} (h : Best T r) (hn : ∀ c, ¬ T c) : r = INF := by
  rcases h with ⟨h, -⟩ | ⟨h, -⟩
  · exact h
  · exact absurd h (hn r)
theorem end_reads {m : MachL} {x : List Int} {k : KeyL} {n : Int} (h1 : Tot m x k.out false k.c) (h2 : ∀ k' : KeyL, Tot m x k'.out false k'.c → ¬ klt k' k) (hb : Best (Tot m x [] true) n) : n = k.c := by
  refine best_is hb (any_totS h1) fun d hd => ?_
  obtain ⟨y, hy⟩ := tot_some hd
  have := h2 ⟨d, y⟩ hy
  unfold klt at this
  simp only at this
  omega
theorem end_cost {m : MachL} {x : List Int} {k : KeyL} {n : Int} (h1 : Tot m x k.out false k.c) (h2 : ∀ k' : KeyL, Tot m x k'.out false k'.c → ¬ klt k' k) (hb : Best (Tot m x k.out false) n) : n = k.c := by
  refine best_is hb h1 fun d hd => ?_
  have := h2 ⟨d, k.out⟩ hd
  unfold klt at this
  simp only at this
  omega
theorem end_none {m : MachL} {x : List Int} {n : Int} (h : ∀ k : KeyL, ¬ Tot m x k.out false k.c) (hb : Best (Tot m x [] true) n) : n = INF := best_none hb fun c hc => by
  obtain ⟨y, hy⟩ := tot_some hc
  exact h ⟨c, y⟩ hy
theorem FedZ.o {m : MachL} {WW : Int} {x : List Int} {Z : Nat → Prop} {w : World} {rv : Value} (h : FedZ m WW x Z w rv) : FedO m WW x w rv := by
  obtain ⟨L, h1, h2⟩ := h
  exact ⟨L, h1.other fun _ e => e.elim, h2⟩
theorem FedZ.set {m : MachL} {WW : Int} {x : List Int} {Z : Nat → Prop} {w : World} {rv : Value} (h : FedZ m WW x Z w rv) {a : Addr} (ha : Z a.block) (u : Value) : FedZ m WW x Z (w.setCell a u) rv := by
  obtain ⟨L, h1, h2⟩ := h
  exact ⟨L, h1.set ha u, h2⟩
theorem fed_below {m : MachL} {WW : Int} {x : List Int} {Z : Nat → Prop} {w w' : World} {rv : Value} (h : FedZ m WW x Z w rv) (hb : Below w.heap.size w w') : FedZ m WW x Z w' rv := by
  obtain ⟨L, h1, h2⟩ := h
  exact ⟨L, h1.below hb, h2⟩
theorem Begin_use (A : Option Addr) (c : Nat) (m : MachL) (w : World) (WW : Int) (AA : Nat) (hm : StatesAt w A m.states) (hv : Valid m) (hs : SmallS m WW AA) (h0 : 0 ≤ m.start) :
    Calls Try.prog 11 #[.agg #[.int .i64 m.start, .slice A m.states.length c]] w fun e w' => ∃ A' k' c', e = .returned (.tuple #[.agg #[.int .i64 0, .slice A' k' c'], .int .i64 0]) ∧ FedO m WW [] w' (.agg #[.int .i64 0, .slice A' k' c']) ∧ 0 < k' ∧ Below w.heap.size w w' := by
  refine (Begin_any _ m w WW AA ⟨A, c, rfl, hm⟩ hv hs).mono ?_
  rintro e w' ⟨rv, rfl, ⟨L, ⟨A', c', rfl, h1⟩, h2⟩, hb⟩
  exact ⟨A', _, c', rfl, ⟨L, ⟨A', c', rfl, h1⟩, h2⟩, begin_marks hv h2 h0, hb⟩
theorem Feed_use (A : Option Addr) (c : Nat) (rv0 : Value) (m : MachL) (w : World) (WW : Int) (AA : Nat) (x ls : List Int) (Al : Option Addr) (nl cl : Nat) (f : Int) (hm : StatesAt w A m.states) (hv : Valid m) (hs : SmallS m WW AA) (hr : FedO m WW x w rv0) (hl : Rd w Al nl 1 (icells ls)) (hg : GoodW ls) (hx : x.length + nl ≤ 12) (hf : (x.length : Int) + nl = f) :
    Calls Try.prog 12 #[.agg #[.int .i64 m.start, .slice A m.states.length c], rv0, .slice Al nl cl] w fun e w' => ∃ A' k' c', e = .returned (.tuple #[.agg #[.int .i64 f, .slice A' k' c'], .int .i64 0]) ∧ FedZ m WW (x ++ ls) (fun g => g < w.heap.size) w' (.agg #[.int .i64 f, .slice A' k' c']) ∧ Below w.heap.size w w' := by
  have hn := rdi_len hl
  refine (Feed_any _ rv0 m w WW AA x ls Al nl cl ⟨A, c, rfl, hm⟩ hv hs hr hl hg hx).mono ?_
  rintro e w' ⟨rv, rfl, ⟨L, ⟨A', c', rfl, h1⟩, h2⟩, hb⟩
  have e1 : ((x ++ ls).length : Nat) = f := by rw [List.length_append]; omega
  refine ⟨A', _, c', by rw [e1], ⟨L, ⟨A', c', by rw [e1], h1⟩, h2⟩, hb⟩
theorem End_use (A : Option Addr) (c : Nat) (rv0 : Value) (m : MachL) (w : World) (WW F : Int) (AA : Nat) (x : List Int) (hm : StatesAt w A m.states) (hv : Valid m) (hs : SmallS m WW AA) (hr : FedO m WW x w rv0) (hx : x.length ≤ 12) (hW : WW ≤ 100000) (hF : ∀ q, finQ m q ≠ INF → finQ m q ≤ F) (hF1 : F ≤ 100000000) :
    Calls Try.prog 14 #[.agg #[.int .i64 m.start, .slice A m.states.length c], rv0] w fun e w' => EndA m x w' e ∧ Below w.heap.size w w' := by
  obtain ⟨L, h1, h2⟩ := hr
  exact End_any _ _ m w WW F AA x L ⟨A, c, rfl, hm⟩ hv hs h1 h2 hx hW hF hF1
end Go.Proofs.Ytikkmoleneioeaa
