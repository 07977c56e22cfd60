/- Compose as laws use it: one shape of answer, full or not; its costs. -/
import Derived.Test.YtfikkpgigicepaaComposeBetweenWalk
namespace Go.Proofs.Ytfikkpgigicepaa
open Go.RowKit

/-- a composed machine at A, of n states -/
structure CompC (a b : MachL) (W' : World) (W : Int) (A : Option Addr) (n k : Nat) (c : MachL) : Prop where
  at_ : StatesAt W' A c.states
  len : c.states.length = n
  st : c.start = 0
  v : Valid c
  w : Wt c W
  pos : 0 < n
  tot : ∀ x z d, Tot c x z false d ↔ Comp a b x z d
structure CompE (a b : MachL) (W' : World) (W : Int) (A : Option Addr) (n k : Nat) (er : Int) : Prop where
  full : (er = 5 ∧ n = 0 ∧ A = none ∧ k = 0) ∨ (er = 0 ∧ ∃ c, CompC a b W' W A n k c)
section
variable {a b : MachL} {W' W'' : World} {W : Int} {A : Option Addr} {n k : Nat} {er : Int} {c : MachL}
theorem CompC.step (h : CompC a b W' W A n k c) (hb : Below W'.heap.size W' W'') : CompC a b W'' W A n k c := ⟨h.at_.below hb (Nat.le_refl _), h.len, h.st, h.v, h.w, h.pos, h.tot⟩
theorem CompE.step (h : CompE a b W' W A n k er) (hb : Below W'.heap.size W' W'') : CompE a b W'' W A n k er := ⟨h.full.imp id (fun ⟨h1, c, h2⟩ => ⟨h1, c, h2.step hb⟩)⟩
theorem CompC.alloc (h : CompC a b W' W A n k c) (o : Obj) : CompC a b (W'.alloc o) W A n k c := h.step ((Below.refl _ _).alloc (Nat.le_refl _) o)
theorem CompE.alloc (h : CompE a b W' W A n k er) (o : Obj) : CompE a b (W'.alloc o) W A n k er := h.step ((Below.refl _ _).alloc (Nat.le_refl _) o)
theorem CompC.mach (h : CompC a b W' W A n k c) : MachAt W' (.agg #[.int .i64 0, .slice A n k]) c := ⟨A, k, by rw [h.st, h.len], h.at_⟩
theorem CompC.cost (h : CompC a b W' W A n k c) (A1 A2 : Option Addr) (c1 c2 : Nat) (x y : List Int) (hx : Rd W' A1 x.length 1 (icells x)) (hy : Rd W' A2 y.length 1 (icells y)) (hlx : x.length ≤ 4) (hly : y.length ≤ 4) (hbx : ∀ a ∈ x, 1 ≤ a ∧ a ≤ 1000) (hby : ∀ a ∈ y, 1 ≤ a ∧ a ≤ 1000) (hW : W ≤ 300000 := by omega) :
    Calls Try.prog 20 #[.agg #[.int .i64 0, .slice A n k], .slice A1 x.length c1, .slice A2 y.length c2] W' fun e w' => ∃ r, e = .returned (.int .i64 r) ∧ Best (Tot c x y false) r ∧ (0 ≤ r ∧ r ≤ INF) ∧ Below W'.heap.size W' w' :=
  (cost_any _ c x y A1 A2 c1 c2 W' h.mach h.v hx hy (by omega) (by omega) hbx hby (wt_costOk h.v h.w hW hlx hly)).mono (by
    rintro e w' ⟨r, rfl, h1, h2⟩
    exact ⟨r, rfl, h1, h1.nonneg h.v, h2⟩)
end
theorem compose_use (va vb : Value) (a b : MachL) (W1 W2 : Int) (w : World) (ha : MachAt w va a) (hb : MachAt w vb b) (hva : Valid a) (hvb : Valid b) (ha0 : 0 ≤ a.start) (hb0 : 0 ≤ b.start) (h1 : Wt a W1) (h2 : Wt b W2) (hle : W1 + W2 ≤ 1000000000) :
    Calls Try.prog 16 #[va, vb] w fun e w' => (∃ A k n er, e = .returned (.tuple #[.agg #[.int .i64 0, .slice A n k], .int .i64 er]) ∧ CompE a b w' (W1 + W2) A n k er) ∧ Below w.heap.size w w' :=
  (compose_out va vb a b W1 W2 w ha hb hva hvb ha0 hb0 h1 h2 hle).mono (by
    rintro e w' ⟨h, hbl⟩
    refine ⟨?_, hbl⟩
    rcases h with h | ⟨A, k, c, rfl, g1, g2, g3, g4, g5, g6⟩
    · exact ⟨none, 0, 0, 5, h, ⟨.inl ⟨rfl, rfl, rfl, rfl⟩⟩⟩
    · exact ⟨A, k, _, 0, rfl, ⟨.inr ⟨rfl, c, ⟨g1, rfl, g2, g3, g4, g5, g6⟩⟩⟩⟩)
end Go.Proofs.Ytfikkpgigicepaa
