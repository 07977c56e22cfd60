/- tropicakeep.Made, Word; tropicatop.add. -/
import Derived.Test.YtikkmoleneioeaaStreamFeed
import Derived.Test.YtikkmoleneioeaaCuts
import Derived.Test.YtikkmoleneioeaaComposeBetweenWalk
namespace Go.Proofs.Ytikkmoleneioeaa
open Go.RowKit

theorem Made_k (v : Value) (r : RawL) (k : Nat) (h1 : 1 ≤ k) (h60 : k ≤ 60) (w : World) (hr : RawArg w v r) : Calls Try.prog 17 #[v, .int .i64 (k : Int)] w fun e w' => ∃ mv, e = .returned mv ∧ OwnMach w' w.heap.size mv (mkMach r k false) ∧ Below w.heap.size w w' := by
  have MD := Lib.hid (fun W hb => made_any v r k false W (hr.below hb) (by omega) (by omega))
  obtain ⟨hst, hlen, A, c, rfl, hN⟩ := hr
  clear hst hlen hN
  generalize mkMach r k false = m at *
  go_enter Try.func17, Try.ntmps17
  go_wp2_with fail
  refine (MD.out _ (by repeat' (first | exact Below.refl _ _ | assumption | refine Below.drew ?_ | refine Below.alloc ?_ (by first | omega | (simp; done) | (simp; omega)) _ | refine Below.setCell ?_ (by first | omega | (simp; done) | (simp; omega)) _))).mono ?_; rintro e w1 ⟨mv, rfl, ho, b1⟩
  have c1 : Below w.heap.size w w1 := ((by repeat' (first | exact Below.refl _ _ | assumption | refine Below.drew ?_ | refine Below.alloc ?_ (by first | omega | (simp; done) | (simp; omega)) _ | refine Below.setCell ?_ (by first | omega | (simp; done) | (simp; omega)) _)) : Below w.heap.size w ((w.alloc (.cells #[.int .i64 r.start, .slice A r.nodes.length c] 24)).alloc (.cells #[.int .i64 0, .slice none 0 0] 28))).trans (b1.mono (by simp; omega))
  have R1 : Blk w1 (w.heap.size + 1) #[.int .i64 0, .slice none 0 0] 28 := Blk.step (Blk.new' (by simp)) b1
  have ho1 : OwnMach w1 (w.heap.size + 2) mv m := by simpa using ho
  obtain ⟨sv, rfl, vs, hos⟩ := ho1
  obtain ⟨A2, c2, rfl, -, -⟩ := hos.form
  have k0 := R1.cell 0; have k1 := R1.cell 1; have kf0 := R1.froz 0; have kf1 := R1.froz 1; have kl := R1.lt
  have HO : Hid (∀ W, W = (w1.setCell ⟨w.heap.size + 1, 0, none⟩ (.int .i64 m.start)).setCell ⟨w.heap.size + 1, 1, none⟩ (.slice A2 m.states.length c2) → OwnMach W w.heap.size (.agg #[.int .i64 m.start, .slice A2 m.states.length c2]) m) := Lib.hid (by
    rintro W rfl
    exact (show OwnMach _ (w.heap.size + 2) _ m from ⟨_, rfl, vs, (hos.setCell (a := ⟨w.heap.size + 1, 0, none⟩) (by show w.heap.size + 1 < _; omega) _).setCell (a := ⟨w.heap.size + 1, 1, none⟩) (by show w.heap.size + 1 < _; omega) _⟩).mono (by omega))
  clear ho hos b1 MD R1
  go_wp2_with fail
  refine bodyPost_ret (v := .agg #[.int .i64 m.start, .slice A2 m.states.length c2]) (by simp [results, Try.results17, go_sem, *]) rfl ⟨_, rfl, HO.out _ rfl, (by repeat' (first | exact Below.refl _ _ | assumption | refine Below.drew ?_ | refine Below.alloc ?_ (by first | omega | (simp; done) | (simp; omega)) _ | refine Below.setCell ?_ (by first | omega | (simp; done) | (simp; omega)) _))⟩
theorem Word_k (A : Option Addr) (n c : Nat) (xs : List Int) (most : Nat) (w : World) (hx : IntArg w A n xs) (hm : most ≤ 100) :
    Calls Try.prog 18 #[.slice A n c, .int .i64 most] w fun e w' => ∃ Ax cx, e = .returned (.slice Ax (mkWord xs most).length cx) ∧ Rd w' Ax (mkWord xs most).length 1 (icells (mkWord xs most)) ∧ Below w.heap.size w w' := by
  have WD := Lib.hid (word_any A n c xs most w hx hm)
  clear hx
  generalize mkWord xs most = x at *
  generalize x.length = xl at *
  go_enter Try.func18, Try.ntmps18
  go_wp2_with fail
  refine WD.out.mono ?_; rintro e w1 ⟨v, rfl, ho, b1⟩
  obtain ⟨Ax, cx, rfl, -, -⟩ := own_form ho
  have HR := Lib.hid (Rd.of_own ho); have HB := Lib.hid b1
  clear ho b1 WD
  go_wp2_with fail
  go_ret
  exact ⟨Ax, cx, rfl, HR.out, HB.out⟩
theorem add_any (c d : Int) (w : World) (hc : 0 ≤ c ∧ c ≤ 1000000001) (hd : 0 ≤ d ∧ d ≤ 1000000001) : Calls Try.prog 20 #[.int .i64 c, .int .i64 d] w fun e w' => e = .returned (.int .i64 (bothV c d)) ∧ w = w' := by
  have hwr : IntKind.i64.wrap (c + d) = c + d := IntWalk.i64_in _ (by omega)
  unfold bothV
  by_cases h1 : c = 1000000001
  · have e1 : (c == 1000000001) = true := by simp [h1]
    rw [if_pos (.inl h1)]
    clear h1
    go_enter Try.func20, Try.ntmps20
    go_wp2_with fail
    go_ret
    exact ⟨rfl, rfl⟩
  · have e1 : (c == 1000000001) = false := by simpa using h1
    by_cases h2 : d = 1000000001
    · have e2 : (d == 1000000001) = true := by simp [h2]
      rw [if_pos (.inr h2)]
      clear h1 h2
      go_enter Try.func20, Try.ntmps20
      go_wp2_with fail
      go_ret
      exact ⟨rfl, rfl⟩
    · have e2 : (d == 1000000001) = false := by simpa using h2
      rw [if_neg (by omega)]
      clear h1 h2
      go_enter Try.func20, Try.ntmps20
      go_wp2_with fail
      go_ret
      exact ⟨rfl, rfl⟩
/-- what is fed to two machines one behind the other -/
theorem between_le {a b c : MachL} {w : List Int} {n all : Int} {k : KeyL} (hT : ∀ d y, Tot c w y false d ↔ Comp a b w y d) (hk : Tot a w k.out false k.c) (hb : Best (Tot b k.out [] true) n) (ha : Best (Tot c w [] true) all) (h8 : k.c ≤ 200000000) : all ≤ bothV k.c n := by
  have hi : INF = 1000000001 := rfl
  have hal : all ≤ 1000000001 := by rcases ha with ⟨h, -⟩ | ⟨-, -, h⟩ <;> omega
  unfold bothV
  rcases hb with ⟨h1, -⟩ | ⟨h1, -, h2⟩
  · rw [if_pos (.inr h1)]; exact hal
  · rw [if_neg (by omega)]
    obtain ⟨y, hy⟩ := tot_some h1
    have hc : Tot c w y false (k.c + n) := (hT _ _).2 ⟨k.out, k.c, n, hk, hy, rfl⟩
    rcases ha with ⟨-, h⟩ | ⟨-, h, -⟩
    · exact absurd (any_totS hc) (h _)
    · exact h _ (any_totS hc)
theorem between_none {a b c : MachL} {w : List Int} {all : Int} (hT : ∀ d y, Tot c w y false d ↔ Comp a b w y d) (hn : ∀ k : KeyL, ¬ Tot a w k.out false k.c) (ha : Best (Tot c w [] true) all) : all = INF := best_none ha fun d hd => by
  obtain ⟨y, hy⟩ := tot_some hd
  obtain ⟨z, d1, d2, h1, -, -⟩ := (hT _ _).1 hy
  exact hn ⟨d1, z⟩ h1
end Go.Proofs.Ytikkmoleneioeaa
