/- The walk of ComposeBetween. -/
/- Compose as laws use it: one shape of answer, full or not; its costs. -/
import Derived.Test.YtikkmoleneioeaaCompose
import Derived.Test.YtikkmoleneioeaaCompLaw
namespace Go.Proofs.Ytikkmoleneioeaa
open Go.RowKit

/-- what a law's walk needs of Compose -/
def CompOut (a b : MachL) (w' : World) (e : Ending) (W : Int) : Prop :=
  (e = .returned (.tuple #[.agg #[.int .i64 0, .slice none 0 0], .int .i64 5]) ∧ FullWhy a b) ∨ ∃ A k c, e = .returned (.tuple #[.agg #[.int .i64 0, .slice A c.states.length k], .int .i64 0]) ∧ StatesAt w' A c.states ∧ c.start = 0 ∧ Valid c ∧ Wt c W ∧ 0 < c.states.length ∧ ∀ x z d, Tot c x z false d ↔ Comp a b x z d
theorem compose_out (va vb : Value) (a b : MachL) (W1 W2 : Int) (w : World) (ha : MachAt w va a) (hb : MachAt w vb b) (hva : Valid a) (hvb : Valid b) (ha0 : 0 ≤ a.start) (hb0 : 0 ≤ b.start) (h1 : Wt a W1) (h2 : Wt b W2) (hle : W1 + W2 ≤ 1000000000) :
    Calls Try.prog 19 #[va, vb] w fun e w' => CompOut a b w' e (W1 + W2) ∧ Below w.heap.size w w' :=
  (Compose_any va vb a b W1 W2 w ha hb hva hvb ha0 hb0 (h1.ok h2 hle)).mono (by
    rintro e w' ⟨h, hbl⟩
    refine ⟨?_, hbl⟩
    rcases h with h | ⟨mv, c, T, rfl, ho, hc, hs, hA⟩
    · exact .inl h
    · right
      obtain ⟨A, k, rfl, s1⟩ := own_open ho
      obtain ⟨v1, v2⟩ := comp_valid hva hvb (h1.ok h2 hle) hc hs hA
      exact ⟨A, k, c, by rw [hc.start], s1, hc.start, v1, v2, comp_pos hc, fun x z d => compose_tot hc (h1.endOk h2 hle) ha0 hb0 x z d⟩)
theorem made_size4 (r : RawL) (k : Int) (k1 : 1 ≤ k) : (mkMach r k false).states.length ≤ k.toNat := by
  have h1 := mkMach_len r k false k1
  have h2 : mkN r k ≤ k ∧ 1 ≤ mkN r k := by unfold mkN; omega
  omega

end Go.Proofs.Ytikkmoleneioeaa

namespace Go.Proofs.Ytikkmoleneioeaa
open Go.RowKit

/-- a composed machine at A, of n states -/
structure CompC (a b : MachL) (W' : World) (W : Int) (A : Option Addr) (n k : Nat) (c : MachL) : Prop where
  at_ : StatesAt W' A c.states
  len : c.states.length = n
  st : c.start = 0
  v : Valid c
  w : Wt c W
  pos : 0 < n
  tot : ∀ x z d, Tot c x z false d ↔ Comp a b x z d
structure CompE (a b : MachL) (W' : World) (W : Int) (A : Option Addr) (n k : Nat) (er : Int) : Prop where
  full : (er = 5 ∧ n = 0 ∧ A = none ∧ k = 0 ∧ FullWhy a b) ∨ (er = 0 ∧ ∃ c, CompC a b W' W A n k c)
section
variable {a b : MachL} {W' W'' : World} {W : Int} {A : Option Addr} {n k : Nat} {er : Int} {c : MachL}
theorem CompC.step (h : CompC a b W' W A n k c) (hb : Below W'.heap.size W' W'') : CompC a b W'' W A n k c := ⟨h.at_.below hb (Nat.le_refl _), h.len, h.st, h.v, h.w, h.pos, h.tot⟩
theorem CompE.step (h : CompE a b W' W A n k er) (hb : Below W'.heap.size W' W'') : CompE a b W'' W A n k er := ⟨h.full.imp id (fun ⟨h1, c, h2⟩ => ⟨h1, c, h2.step hb⟩)⟩
theorem CompC.alloc (h : CompC a b W' W A n k c) (o : Obj) : CompC a b (W'.alloc o) W A n k c := h.step ((Below.refl _ _).alloc (Nat.le_refl _) o)
theorem CompE.alloc (h : CompE a b W' W A n k er) (o : Obj) : CompE a b (W'.alloc o) W A n k er := h.step ((Below.refl _ _).alloc (Nat.le_refl _) o)
theorem CompC.mach (h : CompC a b W' W A n k c) : MachAt W' (.agg #[.int .i64 0, .slice A n k]) c := ⟨A, k, by rw [h.st, h.len], h.at_⟩
theorem CompC.cost (h : CompC a b W' W A n k c) (A1 A2 : Option Addr) (c1 c2 : Nat) (x y : List Int) (hx : Rd W' A1 x.length 1 (icells x)) (hy : Rd W' A2 y.length 1 (icells y)) (hlx : x.length ≤ 4) (hly : y.length ≤ 4) (hbx : ∀ a ∈ x, 1 ≤ a ∧ a ≤ 1000) (hby : ∀ a ∈ y, 1 ≤ a ∧ a ≤ 1000) (hW : W ≤ 300000 := by omega) :
    Calls Try.prog 15 #[.agg #[.int .i64 0, .slice A n k], .slice A1 x.length c1, .slice A2 y.length c2] W' fun e w' => ∃ r, e = .returned (.int .i64 r) ∧ Best (Tot c x y false) r ∧ (0 ≤ r ∧ r ≤ INF) ∧ Below W'.heap.size W' w' :=
  (cost_any _ c x y A1 A2 c1 c2 W' h.mach h.v hx hy (by omega) (by omega) hbx hby (wt_costOk h.v h.w hW hlx hly)).mono (by
    rintro e w' ⟨r, rfl, h1, h2⟩
    exact ⟨r, rfl, h1, h1.nonneg h.v, h2⟩)
end
theorem tri_bound (T : List TriL) (n1 n2 : Nat) (hn : T.Nodup) (hr : ∀ t ∈ T, t.a < n1 ∧ t.b < n2 ∧ t.f ≤ 2) : T.length ≤ n1 * n2 * 3 := by
  have h1 : (T.map (fun t => (t.a * n2 + t.b) * 3 + t.f)).Nodup := by
    refine List.pairwise_map.2 (List.Pairwise.imp_of_mem ?_ hn)
    intro x y hx hy hne he
    obtain ⟨x1, x2, x3⟩ := hr x hx
    obtain ⟨y1, y2, y3⟩ := hr y hy
    apply hne
    have e1 : x.f = y.f ∧ x.a * n2 + x.b = y.a * n2 + y.b := by omega
    have e2 : x.b = y.b := by
      have h1 := congrArg (· % n2) e1.2
      simp only [Nat.mul_add_mod', Nat.mod_eq_of_lt x2, Nat.mod_eq_of_lt y2] at h1
      exact h1
    have e3 : x.a = y.a := by
      have h3 : x.a * n2 = y.a * n2 := by omega
      exact Nat.eq_of_mul_eq_mul_right (by omega) h3
    cases x; cases y; simp at *; omega
  have h2 := nodup_lt (n1 * n2 * 3) _ h1 (fun v hv => by
    obtain ⟨t, ht, rfl⟩ := List.mem_map.1 hv
    obtain ⟨x1, x2, x3⟩ := hr t ht
    have h4 : (t.a + 1) * n2 ≤ n1 * n2 := Nat.mul_le_mul_right _ x1
    rw [Nat.succ_mul] at h4
    omega)
  rw [List.length_map] at h2
  exact h2
theorem sum_map_le {α : Type} (f : α → Nat) (k : Nat) : ∀ (l : List α), (∀ x ∈ l, f x ≤ k) → (l.map f).sum ≤ l.length * k := by
  intro l
  induction l with
  | nil => intro _; simp
  | cons a l ih =>
    intro h
    have h1 := ih (fun x hx => h x (by simp [hx]))
    have h2 := h a (by simp)
    rw [List.map_cons, List.sum_cons, List.length_cons, Nat.succ_mul]
    omega
/-- two machines of two states are never too large -/
theorem not_full {a b : MachL} (ha : a.states.length ≤ 2) (hb : b.states.length ≤ 2) (ha4 : ∀ q, (arcsQ a q).length ≤ 4) (hb4 : ∀ q, (arcsQ b q).length ≤ 4) : ¬ FullWhy a b := by
  have h24 : ∀ t, (hopsX a b t).length ≤ 24 := fun t => by
    have h1 := left_len t (arcsQ b t.b) (arcsQ a t.a) (arcsQ a t.a).length
    rw [List.take_length] at h1
    have h2 := ha4 t.a; have h3 := hb4 t.b
    have h4 := rightTo_len t (arcsQ b t.b) (arcsQ b t.b).length
    have h5 : hopsR t (arcsQ b t.b) = rightTo t (arcsQ b t.b) (arcsQ b t.b).length := by unfold hopsR rightTo; rw [List.take_length]
    have h6 : (arcsQ a t.a).length * ((arcsQ b t.b).length + 1) ≤ 4 * 5 := Nat.mul_le_mul h2 (by omega)
    unfold hopsX
    rw [List.length_append, h5]
    omega
  have hT : ∀ T : List TriL, T.Nodup → (∀ t ∈ T, t.a < a.states.length ∧ t.b < b.states.length ∧ t.f ≤ 2) → T.length ≤ 12 := fun T hn hr => by
    have h1 := tri_bound T _ _ hn hr
    have h2 : a.states.length * b.states.length ≤ 2 * 2 := Nat.mul_le_mul ha hb
    omega
  rintro (⟨T, hn, hr, hl⟩ | ⟨T, S, t, hI, ht, hl⟩)
  · have := hT T hn hr; omega
  · have h1 := hT T hI.nd hI.rng
    have h2 := (List.getElem?_eq_some_iff.1 ht).1
    have h3 := h24 t
    have h4 : arcsOf S ≤ S.length * 24 := by
      unfold arcsOf
      refine sum_map_le _ 24 S (fun s hs => ?_)
      obtain ⟨i, hi, rfl⟩ := List.getElem_of_mem hs
      have hi2 : i < T.length := by omega
      have h5 := (hI.arcs i _ _ (List.getElem?_eq_getElem hi2) (List.getElem?_eq_getElem hi)).1
      rw [h5]; exact h24 _
    omega
theorem compose_use (va vb : Value) (a b : MachL) (W1 W2 : Int) (w : World) (ha : MachAt w va a) (hb : MachAt w vb b) (hva : Valid a) (hvb : Valid b) (ha0 : 0 ≤ a.start) (hb0 : 0 ≤ b.start) (h1 : Wt a W1) (h2 : Wt b W2) (hle : W1 + W2 ≤ 1000000000) :
    Calls Try.prog 19 #[va, vb] w fun e w' => (∃ A k n er, e = .returned (.tuple #[.agg #[.int .i64 0, .slice A n k], .int .i64 er]) ∧ CompE a b w' (W1 + W2) A n k er) ∧ Below w.heap.size w w' :=
  (compose_out va vb a b W1 W2 w ha hb hva hvb ha0 hb0 h1 h2 hle).mono (by
    rintro e w' ⟨h, hbl⟩
    refine ⟨?_, hbl⟩
    rcases h with ⟨h, hf⟩ | ⟨A, k, c, rfl, g1, g2, g3, g4, g5, g6⟩
    · exact ⟨none, 0, 0, 5, h, ⟨.inl ⟨rfl, rfl, rfl, rfl, hf⟩⟩⟩
    · exact ⟨A, k, _, 0, rfl, ⟨.inr ⟨rfl, c, ⟨g1, rfl, g2, g3, g4, g5, g6⟩⟩⟩⟩)
end Go.Proofs.Ytikkmoleneioeaa
