/- reach.flood: a closure that meets a state. -/
import Derived.Test.YtndajklppipckaaFloodPlain
import Derived.Test.YtndajklppipckaaMem
import Derived.Test.YtndajklppipckaaBlk
import Derived.Test.YtndajklppipckaaRdInts
import Derived.WalkSmall
namespace Go.Proofs.Ytndajklppipckaa
open Go.RowKit

abbrev ncells (l : List Nat) : List Value := icells (l.map (fun k : Nat => (k : Int)))
abbrev bcells (l : List Bool) : Array Value := (l.map Value.bool).toArray
theorem eltInt : Elt Try.prog 38 3 (.int .i64 0) 1 8 := ⟨Try.underlying38, by kernel_rfl, rfl, by omega⟩

theorem bcells_get (l : List Bool) (p : Nat) (h : p < l.length) : (bcells l)[p]? = some (.bool (l.getD p true)) := by
  simp [bcells, h, List.getD_eq_getElem?_getD]
theorem bcells_set (l : List Bool) (p : Nat) (b : Bool) : (bcells l).setIfInBounds p (.bool b) = bcells (l.set p b) := by
  simp [bcells, List.map_set]
theorem bcells_size (l : List Bool) : (bcells l).size = l.length := by simp [bcells]

/-- a flood that is under way: w: the world in which it began; R: the block of what it began with -/
structure FS (w W : World) (R : Option Nat) (n : Nat) (x : List Bool × List Nat) (tv : Value) : Prop where
  len : x.1.length = n
  row : Blk W w.heap.size (bcells x.1) 4
  sb : Blk W (w.heap.size + 1) #[.slice (some ⟨w.heap.size, 0, none⟩) n n] 199
  tb : Blk W (w.heap.size + 2) #[tv] 38
  own : W.ownsRow 0 3 1 tv x.2.length (ncells x.2)
  at_ : ∀ b, tv.ownBlock = some b → R = some b ∨ w.heap.size + 3 ≤ b
  old : ∀ b, R = some b → b < w.heap.size
  grown : w.grownBy W R
  bound : x.2.length + lack x.1 ≤ 1000

section
variable {w W W' : World} {R : Option Nat} {n : Nat} {x : List Bool × List Nat} {tv : Value}
theorem FS.ne (h : FS w W R n x tv) {b : Nat} (h1 : w.heap.size ≤ b) (h2 : b < w.heap.size + 3) : tv.ownBlock ≠ some b := fun e => by
  rcases h.at_ b e with hr | hb
  · have := h.old b hr; omega
  · omega
theorem grown_set {row : Option Nat} (h : w.grownBy W row) {a : Addr} (ha : w.heap.size ≤ a.block) (u : Value) : w.grownBy (W.setCell a u) row :=
  ⟨h.os, h.tape, h.output, by have := h.size; simp [World.setCell]; exact this, fun k hk hne => by
    rw [Below.heap_setCell _ _ _ _ (by omega)]; exact h.block k hk hne⟩
theorem grown_new_then {row : Option Nat} (h : w.grownBy W row) (hb : Below W.heap.size W W') : w.grownBy W' row :=
  ⟨hb.os.trans h.os, hb.tape.trans h.tape, hb.output.trans h.output, Nat.le_trans h.size hb.size, fun k hk hne => (hb.block k (Nat.lt_of_lt_of_le hk h.size)).trans (h.block k hk hne)⟩
theorem FS.keep (h : FS w W R n x tv) (hb : Below W.heap.size W W') : FS w W' R n x tv :=
  ⟨h.len, h.row.step hb, h.sb.step hb, h.tb.step hb, own_below h.own hb (Nat.le_refl _), h.at_, h.old, grown_new_then h.grown hb, h.bound⟩
end

theorem World.size_setCell' (w : World) (a : Addr) (v : Value) : (w.setCell a v).heap.size = w.heap.size := by simp [World.setCell]
theorem ncells_snoc (l : List Nat) (p : Nat) : ncells (l ++ [p]) = ncells l ++ [.int .i64 (p : Int)] := by simp [ncells]

set_option maxRecDepth 100000 in
set_option maxHeartbeats 4000000 in
theorem visit_any (w W : World) (R : Option Nat) (n : Nat) (x : List Bool × List Nat) (tv : Value) (h : FS w W R n x tv) (p : Nat) (hp : p < n) (hn : n ≤ 1000) :
    Calls Try.prog 115 #[.int .i64 p, .pointer (some ⟨w.heap.size + 1, 0, none⟩), .pointer (some ⟨w.heap.size + 2, 0, none⟩)] W fun e w' => e = .returned (.tuple #[]) ∧ ∃ tv', FS w w' R n (visit x p) tv' := by
  obtain ⟨seen, todo⟩ := x
  have H := Lib.hid h
  have hl := h.len
  have k1 := h.row.cell p
  rw [bcells_get _ _ (by simpa [hl] using hp)] at k1
  have k2 := h.sb.cell; have k3 := h.tb.cell; have k4 := h.row.froz; have k5 := h.tb.froz
  have bd := h.bound
  have i0 : (0 : Int) ≤ ↑p := by omega
  have i1 : (↑p : Int) < ↑n := by omega
  have l1 := h.row.lt; have l2 := h.sb.lt; have l3 := h.tb.lt
  have hnb : n ≤ 9223372036854775807 := by omega
  simp only at k1 bd hl
  clear h
  by_cases hs : seen.getD p true = true
  · rw [hs] at k1
    have HV := Lib.hid (visit_eq_seen (x := (seen, todo)) hs)
    clear hs
    go_enter Try.func115, Try.ntmps115
    go_wp2_with fail
    go_end0
    exact ⟨rfl, tv, by rw [HV.out]; exact H.out⟩
  · have hs' : seen.getD p true = false := by simpa using hs
    rw [hs'] at k1
    have HV := Lib.hid (visit_eq_new (x := (seen, todo)) hs')
    have HS := Lib.hid hs'
    have hown := own_setCell H.out.own (a := ⟨w.heap.size, p, none⟩) (H.out.ne (b := w.heap.size) (Nat.le_refl _) (by omega)) (.bool true)
    have HO := Lib.hid hown
    have T1 := Lib.hid (H.out.tb.far (a := ⟨w.heap.size, p, none⟩) (by simp) (.bool true))
    clear hs hs' hown
    go_enter Try.func115, Try.ntmps115
    go_wp2_with (at_builtin; refine wpList_app1 rfl _ _ rfl eltInt 0 tv todo.length (ncells todo) rfl (W.setCell ⟨w.heap.size, p, none⟩ (.bool true)) HO.out #[.int .i64 p] rfl W.heap.size (by simp) rfl rfl (by simp [Value.oneCell']) (by omega) (by omega) (Nat.zero_le _) ?_; intro g cap w3 ho3 hg3 hat3 hlt3; have k6 := (T1.out.grown hg3 (H.out.ne (b := w.heap.size + 2) (by omega) (by omega)).symm).cell; have k7 := (T1.out.grown hg3 (H.out.ne (b := w.heap.size + 2) (by omega) (by omega)).symm).froz; have l6 := (T1.out.grown hg3 (H.out.ne (b := w.heap.size + 2) (by omega) (by omega)).symm).lt)
    go_end0
    have hg0 : g ≠ w.heap.size + 2 := fun e => by
      rcases hat3 with h | h
      · rw [e] at h; exact H.out.ne (b := w.heap.size + 2) (by omega) (by omega) h
      · rw [World.size_setCell'] at h; omega
    refine ⟨rfl, .slice (some ⟨g, 0, none⟩) (todo.length + 1) cap, ?_⟩
    rw [HV.out]
    refine ⟨by simpa using hl, ?_, ?_, ?_, ?_, ?_, H.out.old, ?_, ?_⟩
    · have h1 := H.out.row.put p (.bool true)
      rw [bcells_set] at h1
      exact (h1.grown hg3 (H.out.ne (b := w.heap.size) (Nat.le_refl _) (by omega)).symm).far (by simp) _
    · exact ((H.out.sb.far (by simp) _).grown hg3 (H.out.ne (b := w.heap.size + 1) (by omega) (by omega)).symm).far (by simp) _
    · exact ((T1.out.grown hg3 (H.out.ne (b := w.heap.size + 2) (by omega) (by omega)).symm).put 0 _).eq (by simp)
    · have h1 := own_setCell ho3 (a := ⟨w.heap.size + 2, 0, none⟩) (by simpa [Value.ownBlock] using hg0) (.slice (some ⟨g, 0, none⟩) (todo.length + 1) cap)
      rw [ncells_snoc, List.length_append]
      exact h1
    · intro b hb
      simp only [Value.ownBlock, Option.some.injEq] at hb
      subst hb
      rcases hat3 with h | h
      · exact H.out.at_ g h
      · right; rw [World.size_setCell'] at h; omega
    · refine grown_set ?_ (by simp) _
      have h1 := grown_set H.out.grown (a := ⟨w.heap.size, p, none⟩) (Nat.le_refl _) (.bool true)
      refine ⟨hg3.os.trans h1.os, hg3.tape.trans h1.tape, hg3.output.trans h1.output, Nat.le_trans h1.size hg3.size, fun k hk hne => (hg3.block k (Nat.lt_of_lt_of_le hk h1.size) ?_).trans (h1.block k hk hne)⟩
      intro e
      rcases H.out.at_ k e.symm with h2 | h2
      · exact hne h2.symm
      · omega
    · have h1 := visit_size (seen, todo) p
      rw [HV.out] at h1
      simp only at h1 ⊢
      omega
end Go.Proofs.Ytndajklppipckaa
