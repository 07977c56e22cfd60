/- A word's line ahead of a machine: its cheapest path (plain); best.Best and the words that are cut, as the law uses them. -/
import Derived.Test.YtikkmoleneioeaaTopUse
import Derived.Test.YtikkmoleneioeaaCompLines
import Derived.Test.YtikkmoleneioeaaBest
import Derived.Test.YtikkmoleneioeaaCutWords
namespace Go.Proofs.Ytikkmoleneioeaa
open Go.RowKit

theorem applied_tot {m c : MachL} {x : List Int} (hx : ∀ a ∈ x, 1 ≤ a ∧ a ≤ 1000) (hc : ∀ u v e, Tot c u v false e ↔ Comp (crossM x x) m u v e) (u v : List Int) (e : Int) : Tot c u v false e ↔ u = x ∧ Tot m x v false e := by
  rw [hc]
  constructor
  · rintro ⟨y, d1, d2, g1, g2, rfl⟩
    obtain ⟨rfl, rfl, rfl⟩ := (cross_tot hx hx u y d1).1 g1
    exact ⟨rfl, by rw [Int.zero_add]; exact g2⟩
  · rintro ⟨rfl, h⟩
    exact ⟨u, 0, e, (cross_tot hx hx u u 0).2 ⟨rfl, rfl, rfl⟩, h, by omega⟩
theorem applied_way {m c : MachL} {x : List Int} (hv : Valid c) (h0 : c.start = 0) (hT : ∀ u v e, Tot c u v false e ↔ u = x ∧ Tot m x v false e) {D B : Int} (h : Tw c 0 D B) : ∃ v, Tot m x v false D := by
  obtain ⟨u, v, ha⟩ := way_accW hv (tw_way hv h)
  exact ⟨v, ((hT u v D).1 (tot_accW.2 ⟨by omega, by rw [h0]; exact ha⟩)).2⟩
theorem applied_tw {m c : MachL} {x v : List Int} (hv : Valid c) (h0 : c.start = 0) (hT : ∀ u v e, Tot c u v false e ↔ u = x ∧ Tot m x v false e) {D : Int} (h : Tot m x v false D) : ∃ B, Tw c 0 D B := by
  have h2 := (tot_accW.1 ((hT x v D).2 ⟨rfl, h⟩)).2
  rw [h0] at h2
  exact way_tw hv (accW_way hv h2)
/-- what Best answers, as the law uses it -/
def BestU (c : MachL) (D er : Int) : Prop := (er = 12 ∧ ∀ A B, ¬ Tw c 0 A B) ∨ (er = 0 ∧ (∃ B, Tw c 0 D B) ∧ ∀ A B, Tw c 0 A B → D ≤ A)
theorem applied_eq {m c : MachL} {x : List Int} (hv : Valid c) (h0 : c.start = 0) (hT : ∀ u v e, Tot c u v false e ↔ u = x ∧ Tot m x v false e) {D er : Int} (h : BestU c D er) {k : KeyL} (hk : Tot m x k.out false k.c) (hmin : ∀ k' : KeyL, Tot m x k'.out false k'.c → ¬ klt k' k) : er = 0 ∧ k.c = D := by
  obtain ⟨B, hB⟩ := applied_tw hv h0 hT hk
  rcases h with ⟨-, h⟩ | ⟨h1, ⟨B', h2⟩, h3⟩
  · exact absurd hB (h _ _)
  · have h4 := h3 _ _ hB
    obtain ⟨v, hvv⟩ := applied_way hv h0 hT h2
    have h5 := hmin ⟨D, v⟩ hvv
    unfold klt at h5
    simp only at h5
    exact ⟨h1, by omega⟩
theorem applied_none {m c : MachL} {x : List Int} (hv : Valid c) (h0 : c.start = 0) (hT : ∀ u v e, Tot c u v false e ↔ u = x ∧ Tot m x v false e) {D er : Int} (h : BestU c D er) (hno : ∀ k : KeyL, ¬ Tot m x k.out false k.c) : er = 12 := by
  rcases h with ⟨h1, -⟩ | ⟨-, ⟨B', h2⟩, -⟩
  · exact h1
  · obtain ⟨v, hvv⟩ := applied_way hv h0 hT h2
    exact absurd hvv (hno ⟨D, v⟩)
theorem Best_use (v : Value) (c : MachL) (w : World) (hm : MachAt w v c) (hv : Valid c) (hs : Small c) (h0 : c.start = 0) :
    Calls Try.prog 22 #[v] w fun e w' => ∃ D A n k er, e = .returned (.tuple #[.agg #[.int .i64 D, .slice A n k], .int .i64 er]) ∧ BestU c D er ∧ Below w.heap.size w w' := by
  refine (Best_any v c w hm hv hs (by rw [h0]; exact Int.le_refl _)).mono ?_
  rintro e w' ⟨hB, hb⟩
  have hz : c.start.toNat = 0 := by rw [h0]; rfl
  rw [hz] at hB
  rcases hB with ⟨rfl, h⟩ | ⟨D, av, l, t, z, rfl, ho, ht, hz2, hf, hc, hD0, hD1, hmin, hl⟩
  · exact ⟨0, none, 0, 0, 12, rfl, .inl ⟨rfl, h⟩, hb⟩
  · obtain ⟨A, k, rfl, -, -⟩ := own_form ho
    have h1 := trun_tw ht hz2 hf
    rw [hc] at h1
    refine ⟨D, A, _, k, 0, rfl, .inr ⟨rfl, ⟨_, h1⟩, fun A B hAB => ?_⟩, hb⟩
    have h2 := hmin A B hAB
    unfold lle at h2
    simp only at h2
    omega
theorem Word_c (A : Option Addr) (n c : Nat) (xs : List Int) (most : Nat) (w : World) (hx : IntArg w A n xs) (hm : most ≤ 100) :
    Calls Try.prog 18 #[.slice A n c, .int .i64 most] w fun e w' => ∃ Ax cx, e = .returned (.slice Ax (mkWord xs most).length cx) ∧ Rd w' Ax (mkWord xs most).length 1 (icells (mkWord xs most)) ∧ ((mkWord xs most).length ≤ cx ∧ cx ≤ maxLen) ∧ Below w.heap.size w w' := by
  have WD := Lib.hid (word_any A n c xs most w hx hm)
  clear hx
  generalize mkWord xs most = x at *
  generalize hxl : x.length = xl at *
  go_enter Try.func18, Try.ntmps18
  go_wp2_with fail
  refine WD.out.mono ?_; rintro e w1 ⟨v, rfl, ho, b1⟩
  obtain ⟨Ax, cx, rfl, h1, h2⟩ := own_form ho
  have HR := Lib.hid (Rd.of_own ho); have HB := Lib.hid b1; have HC := Lib.hid (And.intro h1 h2)
  clear ho b1 WD h1 h2
  go_wp2_with fail
  go_ret
  exact ⟨Ax, cx, rfl, HR.out, HC.out, HB.out⟩
theorem Picked_any (n m : Int) (w : World) (h1 : -9223372036854775808 ≤ n) (h2 : n ≤ 9223372036854775807) (h3 : 1 ≤ m) (h4 : m ≤ 9223372036854775807) :
    Calls Try.prog 23 #[.int .i64 n, .int .i64 m] w fun e w' => e = .returned (.int .i64 (pick n m)) ∧ w = w' := by
  have H := Lib.hid (picked_any n m w h1 h2 h3 h4)
  clear h1 h2 h3 h4
  generalize pick n m = p at *
  go_enter Try.func23, Try.ntmps23
  go_wp2_with fail
  refine H.out.mono ?_; rintro e w_ ⟨rfl, rfl⟩
  go_wp2_with fail
  go_ret
  exact ⟨rfl, rfl⟩
theorem size_ad (w : World) (o : Obj) : w.heap.size < ((w.alloc o).drew).heap.size := by
  show w.heap.size < (w.alloc o).heap.size
  simp
end Go.Proofs.Ytikkmoleneioeaa
