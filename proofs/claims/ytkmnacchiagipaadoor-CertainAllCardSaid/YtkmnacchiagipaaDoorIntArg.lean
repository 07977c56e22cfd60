/- An argument that is a slice of ints, opened; word: labels of raw numbers. -/
import Derived.Test.YtkmnacchiagipaaDoorSlices
import Derived.ProofKit
import Derived.OpenShut
import Derived.LoopTactic
namespace Go.Proofs.YtkmnacchiagipaaDoor
open Go.ChangeShapes Go.WideShapes Go.ChangeAt Go.RowKit

/-- what a walk is told of a slice of ints that came in -/
structure IntArg (w : World) (A : Option Addr) (n : Nat) (xs : List Int) : Prop where
  len : xs.length = n
  max : n ≤ 9223372036854775807
  rd : Rd w A n 1 (icells xs)
  bd : ∀ x ∈ xs, -9223372036854775808 ≤ x ∧ x ≤ 9223372036854775807

theorem IntArg.below {w w' : World} {A : Option Addr} {n : Nat} {xs : List Int} (h : IntArg w A n xs) (hb : Below w.heap.size w w') : IntArg w' A n xs := ⟨h.len, h.max, h.rd.below hb rfl, h.bd⟩
theorem IntArg.cell {w : World} {A : Option Addr} {n : Nat} {xs : List Int} (h : IntArg w A n xs) (k : Nat) (hk : k < xs.length) : w.cell? ⟨blk A, ofs A + k, none⟩ = some (.int .i64 xs[k]) := by
  have := h.rd.cell k (by simpa using hk)
  simpa using this

set_option maxRecDepth 100000 in
theorem open_ints_arg {H : Type} {enc : TypeId × Value → H} {W : World} {base : Nat} {v : Value} {d : DataW H} {p : List MemPlace}
    (hv : Value.okWide Tryd.prog W .any base 29 v) (h : DataW.Trod enc Tryd.prog W 0 (fun _ => true) true 29 v d p) :
    ∃ A n c xs, v = .slice A n c ∧ IntArg W A n xs := by
  obtain ⟨A, n, c, rfl⟩ := okWide_slice Tryd.underlying29 hv
  obtain ⟨fuel, hf⟩ := h
  rcases open_ints Tryd.underlying29 Tryd.underlying3 (by kernel_rfl) hf with ⟨hcs, _⟩ | ⟨x, l, c', zs, hcs, _, hl, hm, hz, _, hcell, hwz⟩
  · simp [Value.cells] at hcs
    obtain ⟨rfl, rfl, rfl⟩ := hcs
    exact ⟨none, 0, 0, [], rfl, rfl, by omega, Rd.nil _ _ _, fun x hx => by simp at hx⟩
  · simp [Value.cells] at hcs
    obtain ⟨rfl, rfl, rfl⟩ := hcs
    simp at hz
    unfold maxLen at hm
    have key : ∀ i (hi : i < n), ∃ b off, x = ⟨b, off, none⟩ ∧ W.cell? ⟨b, off + i, none⟩ = some (.int .i64 (zs[i]'(by omega))) := by
      intro i hi
      obtain ⟨b, off, spot⟩ := x
      have h0 := hcell 0 (by omega)
      have hspot : spot = none := by simpa [Addr.add] using World.cell?_spot h0
      subst hspot
      refine ⟨b, off, rfl, ?_⟩
      have hi' := hcell i (by omega)
      rw [addr_add] at hi'
      rw [hi']
      simp [List.getD, show i < zs.length by omega]
    refine ⟨some x, n, c, zs.take n, rfl, by simp; omega, by omega, ⟨by simp; omega, fun h0 => ?_, fun j hj => ?_⟩, fun y hy => ?_⟩
    · obtain ⟨b, off, rfl, -⟩ := key 0 h0
      rfl
    · have hj' : j < n := by simp at hj; omega
      obtain ⟨b, off, rfl, hc⟩ := key j hj'
      simp only [blk_some, ofs_some]
      rw [hc]
      simp
    · exact wf_i64 (hwz y (List.mem_of_mem_take hy))

theorem eltInt : Elt Tryd.prog 29 3 (.int .i64 0) 1 8 := ⟨Tryd.underlying29, by kernel_rfl, rfl, by omega⟩

def mkWord (xs : List Int) (most : Nat) : List Int := (xs.take most).map fun x => 1 + pick x 2
theorem mkWord_len (xs : List Int) (most : Nat) : (mkWord xs most).length ≤ most := by unfold mkWord; simp; omega
theorem mkWord_b (xs : List Int) (most : Nat) : ∀ x ∈ mkWord xs most, 1 ≤ x ∧ x ≤ 2 := by
  intro x hx
  unfold mkWord at hx
  obtain ⟨y, -, rfl⟩ := List.mem_map.1 hx
  have := pick_lo y 2 (by omega); have := pick_hi y 2 (by omega)
  omega

set_option maxHeartbeats 1000000 in
theorem word_any (A : Option Addr) (n c : Nat) (xs : List Int) (most : Nat) (w : World) (hx : IntArg w A n xs) (hm : most ≤ 100) :
    Calls Tryd.prog 27 #[.slice A n c, .int .i64 most] w fun e w' => ∃ v, e = .returned v ∧ w'.ownsRow w.heap.size 3 1 v (mkWord xs most).length (icells (mkWord xs most)) ∧ Below w.heap.size w w' := by
  have HX := Lib.hid hx
  have rd := hx.rd.rdy
  have hn := hx.max
  have HL := Lib.hid hx.len
  clear hx
  go_enter Tryd.func27, Tryd.ntmps27
  go_wp2_with fail
  go_loopw [5, 6] (fun v i wr => ∃ k : Nat, k ≤ n ∧ k ≤ most ∧ i = .int .i64 k ∧ wr.ownsRow w.heap.size 3 1 v k (icells ((xs.take k).map fun x => 1 + pick x 2)) ∧ Below w.heap.size w wr) (fun _ i _ => most - (intOf i).toNat)
  case atStart => exact ⟨0, by omega, by omega, rfl, World.ownsRow_nil _ _ _ _, (by repeat' (first | exact Below.refl _ _ | assumption | refine Below.drew ?_ | refine Below.alloc ?_ (by first | omega | (simp; done) | (simp; omega)) _ | refine Below.setCell ?_ (by first | omega | (simp; done) | (simp; omega)) _))⟩
  case round =>
    obtain ⟨k, hk, h1, rfl, hown, bel⟩ := hrel
    by_cases hh : k < n ∧ k < most
    · obtain ⟨hkn, hk1⟩ := hh
      have hkl : k < xs.length := by have := HL.out; omega
      have hcell := (HX.out.below bel).cell k hkl
      have hx := HX.out.bd xs[k] (List.getElem_mem hkl)
      have hs : (xs.take (k + 1)).map (fun x => 1 + pick x 2) = (xs.take k).map (fun x => 1 + pick x 2) ++ [1 + pick xs[k] 2] := by rw [List.take_succ_eq_append_getElem hkl, List.map_append]; rfl
      generalize xs[k] = x at *
      have HS := Lib.hid hs
      have g1 : (k : Int) < (most : Int) := by omega
      have g2 : (k : Int) < (n : Int) := by omega
      have p0 := pick_lo x 2 (by omega)
      have p1 := pick_hi x 2 (by omega)
      have hsz := bel.size
      clear hs
      go_wp2_with (first
        | (go_at_call 10; refine (picked_any _ _ _ (by omega) (by omega) (by omega) (by omega)).mono ?_; rintro e w' ⟨rfl, rfl⟩)
        | (at_builtin; refine wpList_app1 rfl _ _ rfl eltInt w.heap.size _ k _ rfl wr hown _ rfl wr.heap.size rfl rfl rfl (by simp [Value.oneCell']) (by omega) (by omega) hsz ?_; intro g cap w1 hown1 hg1 hat hlt))
      have bel1 := below_app bel hown hg1 (Nat.le_refl _) hsz
      clear hg1 bel hown hcell
      go_roundw
      case rel => exact ⟨k + 1, by omega, by omega, by go_num, by rw [HS.out]; simpa using hown1, bel1⟩
      case measure => simp [intOf]; omega
    · have hd : (xs.take k).map (fun x => 1 + pick x 2) = mkWord xs most := by
        unfold mkWord; have := HL.out
        by_cases h100 : k = most
        · rw [h100]
        · rw [List.take_of_length_le (by omega), List.take_of_length_le (by omega)]
      have hlen : k = (mkWord xs most).length := by rw [← hd]; simp; have := HL.out; omega
      have HD := Lib.hid hd; clear hd
      have HN := Lib.hid hlen; clear hlen
      have gn : ¬ ((k : Int) < n ∧ (k : Int) < most) := by omega
      have HO := Lib.hid hown; clear hown
      go_wp2_with fail
      all_goals
        go_ret
        refine ⟨_, rfl, ?_, bel⟩
        have ho := HO.out
        rw [HD.out] at ho
        rw [← HN.out]
        exact ho
end Go.Proofs.YtkmnacchiagipaaDoor
