/- reach.flood: a closure that meets a state. -/
/- reach.flood: the loops. -/
import Derived.Test.YtlfjccgbngnjhaaFloodPlain
import Derived.Test.YtlfjccgbngnjhaaMem
import Derived.Test.YtlfjccgbngnjhaaSlices
import Derived.WalkSmall
import Derived.LoopTactic
import Derived.Deep.LoopGhost
import Derived.Deep.DeepCutAuto
import Derived.Deep.CutBlock
namespace Go.Proofs.Ytlfjccgbngnjhaa
open Go.RowKit

abbrev ncells (l : List Nat) : List Value := icells (l.map (fun k : Nat => (k : Int)))
abbrev bcells (l : List Bool) : Array Value := (l.map Value.bool).toArray
theorem eltInt : Elt Try.prog 44 3 (.int .i64 0) 1 8 := ⟨Try.underlying44, by kernel_rfl, rfl, by omega⟩

theorem bcells_get (l : List Bool) (p : Nat) (h : p < l.length) : (bcells l)[p]? = some (.bool (l.getD p true)) := by
  simp [bcells, h, List.getD_eq_getElem?_getD]
theorem bcells_set (l : List Bool) (p : Nat) (b : Bool) : (bcells l).setIfInBounds p (.bool b) = bcells (l.set p b) := by
  simp [bcells, List.map_set]
theorem bcells_size (l : List Bool) : (bcells l).size = l.length := by simp [bcells]

/-- a flood that is under way: w: the world in which it began; R: the block of what it began with -/
structure FS (w W : World) (R : Option Nat) (n : Nat) (x : List Bool × List Nat) (tv : Value) : Prop where
  len : x.1.length = n
  row : Blk W w.heap.size (bcells x.1) 4
  sb : Blk W (w.heap.size + 1) #[.slice (some ⟨w.heap.size, 0, none⟩) n n] 69
  tb : Blk W (w.heap.size + 2) #[tv] 44
  own : W.ownsRow 0 3 1 tv x.2.length (ncells x.2)
  at_ : ∀ b, tv.ownBlock = some b → R = some b ∨ w.heap.size + 3 ≤ b
  old : ∀ b, R = some b → b < w.heap.size
  grown : w.grownBy W R
  bound : x.2.length + lack x.1 ≤ 1000

section
variable {w W W' : World} {R : Option Nat} {n : Nat} {x : List Bool × List Nat} {tv : Value}
theorem FS.ne (h : FS w W R n x tv) {b : Nat} (h1 : w.heap.size ≤ b) (h2 : b < w.heap.size + 3) : tv.ownBlock ≠ some b := fun e => by
  rcases h.at_ b e with hr | hb
  · have := h.old b hr; omega
  · omega
theorem grown_set {row : Option Nat} (h : w.grownBy W row) {a : Addr} (ha : w.heap.size ≤ a.block) (u : Value) : w.grownBy (W.setCell a u) row :=
  ⟨h.os, h.tape, h.output, by have := h.size; simp [World.setCell]; exact this, fun k hk hne => by
    rw [Below.heap_setCell _ _ _ _ (by omega)]; exact h.block k hk hne⟩
theorem grown_new_then {row : Option Nat} (h : w.grownBy W row) (hb : Below W.heap.size W W') : w.grownBy W' row :=
  ⟨hb.os.trans h.os, hb.tape.trans h.tape, hb.output.trans h.output, Nat.le_trans h.size hb.size, fun k hk hne => (hb.block k (Nat.lt_of_lt_of_le hk h.size)).trans (h.block k hk hne)⟩
theorem FS.keep (h : FS w W R n x tv) (hb : Below W.heap.size W W') : FS w W' R n x tv :=
  ⟨h.len, h.row.step hb, h.sb.step hb, h.tb.step hb, own_below h.own hb (Nat.le_refl _), h.at_, h.old, grown_new_then h.grown hb, h.bound⟩
end

theorem World.size_setCell' (w : World) (a : Addr) (v : Value) : (w.setCell a v).heap.size = w.heap.size := by simp [World.setCell]
theorem ncells_snoc (l : List Nat) (p : Nat) : ncells (l ++ [p]) = ncells l ++ [.int .i64 (p : Int)] := by simp [ncells]

set_option maxRecDepth 100000 in
set_option maxHeartbeats 4000000 in
theorem visit_any (w W : World) (R : Option Nat) (n : Nat) (x : List Bool × List Nat) (tv : Value) (h : FS w W R n x tv) (p : Nat) (hp : p < n) (hn : n ≤ 1000) :
    Calls Try.prog 71 #[.int .i64 p, .pointer (some ⟨w.heap.size + 1, 0, none⟩), .pointer (some ⟨w.heap.size + 2, 0, none⟩)] W fun e w' => e = .returned (.tuple #[]) ∧ ∃ tv', FS w w' R n (visit x p) tv' := by
  obtain ⟨seen, todo⟩ := x
  have H := Lib.hid h
  have hl := h.len
  have k1 := h.row.cell p
  rw [bcells_get _ _ (by simpa [hl] using hp)] at k1
  have k2 := h.sb.cell; have k3 := h.tb.cell; have k4 := h.row.froz; have k5 := h.tb.froz
  have bd := h.bound
  have i0 : (0 : Int) ≤ ↑p := by omega
  have i1 : (↑p : Int) < ↑n := by omega
  have l1 := h.row.lt; have l2 := h.sb.lt; have l3 := h.tb.lt
  have hnb : n ≤ 9223372036854775807 := by omega
  simp only at k1 bd hl
  clear h
  by_cases hs : seen.getD p true = true
  · rw [hs] at k1
    have HV := Lib.hid (visit_eq_seen (x := (seen, todo)) hs)
    clear hs
    go_enter Try.func71, Try.ntmps71
    go_wp2_with fail
    go_end0
    exact ⟨rfl, tv, by rw [HV.out]; exact H.out⟩
  · have hs' : seen.getD p true = false := by simpa using hs
    rw [hs'] at k1
    have HV := Lib.hid (visit_eq_new (x := (seen, todo)) hs')
    have HS := Lib.hid hs'
    have hown := own_setCell H.out.own (a := ⟨w.heap.size, p, none⟩) (H.out.ne (b := w.heap.size) (Nat.le_refl _) (by omega)) (.bool true)
    have HO := Lib.hid hown
    have T1 := Lib.hid (H.out.tb.far (a := ⟨w.heap.size, p, none⟩) (by simp) (.bool true))
    clear hs hs' hown
    go_enter Try.func71, Try.ntmps71
    go_wp2_with (at_builtin; refine wpList_app1 rfl _ _ rfl eltInt 0 tv todo.length (ncells todo) rfl (W.setCell ⟨w.heap.size, p, none⟩ (.bool true)) HO.out #[.int .i64 p] rfl W.heap.size (by simp) rfl rfl (by simp [Value.oneCell']) (by omega) (by omega) (Nat.zero_le _) ?_; intro g cap w3 ho3 hg3 hat3 hlt3; have k6 := (T1.out.grown hg3 (H.out.ne (b := w.heap.size + 2) (by omega) (by omega)).symm).cell; have k7 := (T1.out.grown hg3 (H.out.ne (b := w.heap.size + 2) (by omega) (by omega)).symm).froz; have l6 := (T1.out.grown hg3 (H.out.ne (b := w.heap.size + 2) (by omega) (by omega)).symm).lt)
    go_end0
    have hg0 : g ≠ w.heap.size + 2 := fun e => by
      rcases hat3 with h | h
      · rw [e] at h; exact H.out.ne (b := w.heap.size + 2) (by omega) (by omega) h
      · rw [World.size_setCell'] at h; omega
    refine ⟨rfl, .slice (some ⟨g, 0, none⟩) (todo.length + 1) cap, ?_⟩
    rw [HV.out]
    refine ⟨by simpa using hl, ?_, ?_, ?_, ?_, ?_, H.out.old, ?_, ?_⟩
    · have h1 := H.out.row.put p (.bool true)
      rw [bcells_set] at h1
      exact (h1.grown hg3 (H.out.ne (b := w.heap.size) (Nat.le_refl _) (by omega)).symm).far (by simp) _
    · exact ((H.out.sb.far (by simp) _).grown hg3 (H.out.ne (b := w.heap.size + 1) (by omega) (by omega)).symm).far (by simp) _
    · exact ((T1.out.grown hg3 (H.out.ne (b := w.heap.size + 2) (by omega) (by omega)).symm).put 0 _).eq (by simp)
    · have h1 := own_setCell ho3 (a := ⟨w.heap.size + 2, 0, none⟩) (by simpa [Value.ownBlock] using hg0) (.slice (some ⟨g, 0, none⟩) (todo.length + 1) cap)
      rw [ncells_snoc, List.length_append]
      exact h1
    · intro b hb
      simp only [Value.ownBlock, Option.some.injEq] at hb
      subst hb
      rcases hat3 with h | h
      · exact H.out.at_ g h
      · right; rw [World.size_setCell'] at h; omega
    · refine grown_set ?_ (by simp) _
      have h1 := grown_set H.out.grown (a := ⟨w.heap.size, p, none⟩) (Nat.le_refl _) (.bool true)
      refine ⟨hg3.os.trans h1.os, hg3.tape.trans h1.tape, hg3.output.trans h1.output, Nat.le_trans h1.size hg3.size, fun k hk hne => (hg3.block k (Nat.lt_of_lt_of_le hk h1.size) ?_).trans (h1.block k hk hne)⟩
      intro e
      rcases H.out.at_ k e.symm with h2 | h2
      · exact hne h2.symm
      · omega
    · have h1 := visit_size (seen, todo) p
      rw [HV.out] at h1
      simp only at h1 ⊢
      omega
end Go.Proofs.Ytlfjccgbngnjhaa

namespace Go.Proofs.Ytlfjccgbngnjhaa
open Go.RowKit

theorem madeBools (n : Nat) : madeCells #[Value.bool false] n = bcells (List.replicate n false) := by
  apply Array.ext
  · simp [madeCells, bcells]
  · intro i h1 h2
    simp [madeCells, bcells, Nat.mod_one]
theorem eltBool : Elt Try.prog 69 4 (.bool false) 1 1 := ⟨Try.underlying69, by kernel_rfl, rfl, by omega⟩

/-- what next does with a state: it meets all that the state leads to, in order -/
def NextOk (w : World) (R : Option Nat) (n : Nat) (f : FuncId) (caps : Array Value) (succ : Nat → List Nat) : Prop :=
  ∀ (W : World) (x : List Bool × List Nat) (tv : Value) (q : Nat), q < n → FS w W R n x tv →
    Calls Try.prog f (#[.int .i64 q, .func (.func 71) #[] #[.pointer (some ⟨w.heap.size + 1, 0, none⟩), .pointer (some ⟨w.heap.size + 2, 0, none⟩)]] ++ caps) W fun e w' => e = .returned (.tuple #[]) ∧ ∃ tv', FS w w' R n (visits x (succ q)) tv'

theorem grown_of_below' {w w' : World} (hb : Below w.heap.size w w') (row : Option Nat) : w.grownBy w' row := ⟨hb.os, hb.tape, hb.output, hb.size, fun k hk _ => hb.block k hk⟩
set_option maxRecDepth 100000 in
set_option maxHeartbeats 4000000 in
theorem flood_any (w : World) (n : Nat) (fv : Value) (from_ : List Nat) (f : FuncId) (caps : Array Value) (succ : Nat → List Nat) (hn : n ≤ 100) (hfl : from_.length ≤ 100) (hf : ∀ p ∈ from_, p < n)
    (hown : w.ownsRow 0 3 1 fv from_.length (ncells from_)) (hC : ∀ (x : Array Value) (W : World), (callFunc f x).run Try.prog W = .ok (.enter f x) W) (hN : NextOk w fv.ownBlock n f caps succ) (hs : ∀ q, q < n → ∀ p ∈ succ q, p < n) :
    Calls Try.prog 52 #[.int .i64 n, fv, .func (.func f) #[] caps] w fun e w' => ∃ seen : List Bool, e = .returned (.slice (some ⟨w.heap.size, 0, none⟩) n n) ∧ Blk w' w.heap.size (bcells seen) 4 ∧ seen.length = n ∧ (∀ q, seen.getD q false = true ↔ Reach succ from_ q) ∧ w.grownBy w' fv.ownBlock := by
  have hmk := run_make_elt eltBool w n (by omega) (by omega) (by omega)
  simp only [Value.cells, Nat.mul_one, madeBools] at hmk
  obtain ⟨A, c, rfl, hc1, hc2⟩ := own_form hown
  have HO := Lib.hid hown
  have HF := Lib.hid hf
  have HN := Lib.hid hN
  have HS := Lib.hid hs
  have rd := (Rd.of_own hown).rdy
  have HB : Hid (∀ q, Reach succ from_ q → q < n) := Lib.hid (fun q h => by
    induction h with
    | start hq => exact hf _ hq
    | step _ hp ih => exact hs _ ih _ hp)
  clear hown hf hN hs
  go_enter Try.func52, Try.ntmps52
  go_wp2_with fail
  have HR := Lib.hid (Rd.of_own HO.out)
  have bA : ∀ b, (Value.slice A from_.length c).ownBlock = some b → b < w.heap.size := fun b hb => (HO.out.lt b hb).2
  have P0 : Blk (((w.alloc (.cells (bcells (List.replicate n false)) 4)).alloc (.cells #[.slice (some ⟨w.heap.size, 0, none⟩) n n] 69)).alloc (.cells #[.slice A from_.length c] 44)) w.heap.size (bcells (marked (List.replicate n false) (from_.take 0))) 4 := ((Blk.new _ _ _).alloc _).alloc _
  have P1 : Blk (((w.alloc (.cells (bcells (List.replicate n false)) 4)).alloc (.cells #[.slice (some ⟨w.heap.size, 0, none⟩) n n] 69)).alloc (.cells #[.slice A from_.length c] 44)) (w.heap.size + 1) #[.slice (some ⟨w.heap.size, 0, none⟩) n n] 69 := (Blk.new' (by simp)).alloc _
  have P2 : Blk (((w.alloc (.cells (bcells (List.replicate n false)) 4)).alloc (.cells #[.slice (some ⟨w.heap.size, 0, none⟩) n n] 69)).alloc (.cells #[.slice A from_.length c] 44)) (w.heap.size + 2) #[.slice A from_.length c] 44 := Blk.new' (by simp)
  have B0 : Below w.heap.size w (((w.alloc (.cells (bcells (List.replicate n false)) 4)).alloc (.cells #[.slice (some ⟨w.heap.size, 0, none⟩) n n] 69)).alloc (.cells #[.slice A from_.length c] 44)) := (by repeat' (first | exact Below.refl _ _ | assumption | refine Below.drew ?_ | refine Below.alloc ?_ (by first | omega | (simp; done) | (simp; omega)) _ | refine Below.setCell ?_ (by first | omega | (simp; done) | (simp; omega)) _))
  generalize ((w.alloc (.cells (bcells (List.replicate n false)) 4)).alloc (.cells #[.slice (some ⟨w.heap.size, 0, none⟩) n n] 69)).alloc (.cells #[.slice A from_.length c] 44) = wl at *
  clear hmk
  go_loopw [17] (fun i wr => ∃ k : Nat, k ≤ from_.length ∧ i = .int .i64 k ∧ Blk wr w.heap.size (bcells (marked (List.replicate n false) (from_.take k))) 4 ∧ Blk wr (w.heap.size + 1) #[.slice (some ⟨w.heap.size, 0, none⟩) n n] 69 ∧ Blk wr (w.heap.size + 2) #[.slice A from_.length c] 44 ∧ Below w.heap.size w wr) (fun i _ => from_.length - (intOf i).toNat)
  case atStart => exact ⟨0, by omega, rfl, P0, P1, P2, B0⟩
  case round =>
    obtain ⟨k, hk, rfl, h0, h1, h2, bel⟩ := hrel
    have l0 := h0.lt; have l1 := h1.lt; have l2 := h2.lt
    by_cases hlt : k < from_.length
    · have hpn : from_[k] < n := HF.out _ (List.getElem_mem hlt)
      have hcell := rdi_cell (HR.out.below bel rfl) k (by simpa using hlt)
      simp only [List.getElem_map] at hcell
      have hmk := marked_snoc (List.replicate n false) (from_.take k) from_[k]
      rw [← List.take_succ_eq_append_getElem hlt] at hmk
      have hml := marked_len (from_.take k) (List.replicate n false)
      rw [List.length_replicate] at hml
      have lA := World.block_lt_of_cell? _ _ hcell
      generalize from_[k] = p at *
      have HMK := Lib.hid hmk
      have kc := h0.cell p
      rw [bcells_get _ _ (by omega)] at kc
      have k1 := h1.cell; have k4 := h0.froz
      have H0 := Lib.hid h0; have H1 := Lib.hid h1; have H2 := Lib.hid h2
      have i0 : (0 : Int) ≤ ↑p := by omega
      have i1 : (↑p : Int) < ↑n := by omega
      clear h0 h1 h2 hmk hml
      go_wp2_with fail
      go_roundw
      case rel =>
        refine ⟨k + 1, by omega, by go_num, ?_, H1.out.far (by simp) _, H2.out.far (by simp) _, bel.setCell (Nat.le_refl _) _⟩
        rw [HMK.out, ← bcells_set]
        exact H0.out.put p _
      case measure => simp [intOf]; omega
    · have hke : from_.take k = from_ := List.take_of_length_le (by omega)
      rw [hke] at h0
      have hlk : lack (marked (List.replicate n false) from_) ≤ n := by
        refine Nat.le_trans List.count_le_length ?_
        rw [marked_len]; simp
      have hF0 : FS w wr (Value.slice A from_.length c).ownBlock n (marked (List.replicate n false) from_, from_) (.slice A from_.length c) :=
        ⟨by simp [marked_len], h0, h1, h2, own_below HO.out bel (Nat.le_refl _), fun b hb => .inl hb, bA, grown_of_below' bel _, by simp only; omega⟩
      have hD0 : Found (Reach succ from_) succ (marked (List.replicate n false) from_, from_) [] := found_start n from_ succ HF.out
      have HFS := Lib.hid hF0
      have HFD := Lib.hid hD0
      clear h0 h1 h2 hke hF0 hD0
      go_wp2_with fail
      go_loopg [] (from_.length + lack (marked (List.replicate n false) from_)) (fun g wx => ∃ (x : List Bool × List Nat) (tv : Value), x.2.length + lack x.1 = g ∧ FS w wx (Value.slice A from_.length c).ownBlock n x tv ∧ Found (Reach succ from_) succ x [] ∧ Hid (∀ q ∈ from_, x.1.getD q false = true))
      case atStart => exact ⟨_, _, rfl, HFS.out, HFD.out, Lib.hid (marked_hit from_ (List.replicate n false) (fun p hp => by simpa using HF.out p hp))⟩
      case round =>
        obtain ⟨⟨seen, todo⟩, tv, hg, hFS, hFD, HFR⟩ := hrel
        have HFS2 := Lib.hid hFS
        have HFD2 := Lib.hid hFD
        have k1 := hFS.tb.cell; have k2 := hFS.sb.cell; have k3 := hFS.tb.froz
        have l1 := hFS.tb.lt; have l2 := hFS.sb.lt
        have bd := hFS.bound
        simp only at hg bd
        rcases List.eq_nil_or_concat todo with rfl | ⟨t, q, rfl⟩
        · obtain ⟨A2, c2, rfl, -, -⟩ := own_form hFS.own
          clear hFS hFD
          go_wp2_with fail
          go_ret
          exact ⟨rfl, seen, HFS2.out.row, HFS2.out.len, Found.end_ HFD2.out HFR.out, HFS2.out.grown⟩
        · rw [List.concat_eq_append] at *
          have hqn : q < n := by have := (hFD.todo q (by simp)).2; simp only at this; rw [hFS.len] at this; exact this
          have hown := hFS.own
          simp only [List.length_append, List.length_singleton] at hown bd
          rw [ncells_snoc] at hown
          obtain ⟨b2, c2, rfl, hc3, hc4, hb2⟩ : ∃ b c, tv = .slice (some ⟨b, 0, none⟩) (t.length + 1) c ∧ t.length + 1 ≤ c ∧ c ≤ maxLen ∧ b < wr.heap.size := by
            rcases hown.2 with ⟨_, h0⟩ | ⟨b, cap, cur, hv, _, hh, h1, h2, _⟩
            · omega
            · exact ⟨b, cap, hv, h1, h2, (Array.getElem?_eq_some_iff.1 hh).1⟩
          have hcell : wr.cell? ⟨b2, t.length, none⟩ = some (.int .i64 q) := by
            rw [hown.cellAt t.length (by omega)]
            simp [ncells]
          have hpop := ownsRow_pop (by simp [ncells]) hown
          have HP := Lib.hid hpop
          have hgk : t.length + 1 + lack seen = gk := by simpa using hg
          have nb := HFS2.out.ne (b := w.heap.size + 2) (by omega) (by omega)
          have nb2 : b2 ≠ w.heap.size + 2 := by simpa [Value.ownBlock] using nb
          have hr : Hid (Found (Reach succ from_) succ (visits (seen, t) (succ q)) []) := Lib.hid (hFD.round (fun q' hq' p hp => ⟨.step hq' hp, by rw [hFS.len]; exact HS.out q' (HB.out q' hq') p hp⟩))
          have e1 : (↑(t.length + 1) : Int) = ↑t.length + 1 := by simp
          clear hFS hFD hown hpop hg nb
          generalize hm : t.length = m at *
          have HM := Lib.hid hm; clear hm
          simp only [maxLen] at hc4
          have i0 : (0 : Int) ≤ ↑m := by omega
          have i1 : (↑m : Int) < ↑m + 1 := by omega
          have hFn : Hid (FS w (wr.setCell ⟨w.heap.size + 2, 0, none⟩ (.slice (some ⟨b2, 0, none⟩) m c2)) (Value.slice A from_.length c).ownBlock n (seen, t) (.slice (some ⟨b2, 0, none⟩) m c2)) := by
            refine Lib.hid ⟨HFS2.out.len, HFS2.out.row.far (by simp) _, HFS2.out.sb.far (by simp) _, (HFS2.out.tb.put 0 _).eq (by simp), ?_, HFS2.out.at_, HFS2.out.old, grown_set HFS2.out.grown (by simp) _, ?_⟩
            · simp only [HM.out]; exact own_setCell HP.out (by simpa [Value.ownBlock] using nb2) _
            · simp only [HM.out]; omega
          go_wp2_with fail
          refine (HN.out _ _ _ q hqn hFn.out).mono ?_
          rintro e w4 ⟨rfl, tv4, hF4⟩
          have HF4 := Lib.hid hF4
          clear hF4
          go_wp2_with fail
          go_roundg (m + lack seen)
          case measure => omega
          case rel => exact ⟨_, tv4, by rw [visits_size]; simp [HM.out], HF4.out, hr.out, Lib.hid (fun p hp => visits_mono _ _ p (HFR.out p hp))⟩
end Go.Proofs.Ytlfjccgbngnjhaa
