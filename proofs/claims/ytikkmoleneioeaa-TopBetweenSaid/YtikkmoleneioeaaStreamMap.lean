/- stream.marks: marks by state, in a map; marks.better. -/
import Derived.Test.YtikkmoleneioeaaStreamAlong
namespace Go.Proofs.Ytikkmoleneioeaa
open Go.RowKit
open Go.ChangeMaps (setBlock)

theorem keyOkS : KeyOk Try.prog 3 intV where
  chk e k w := by cases e <;> kernel_rfl
  eq a b w := by
    show (Op.equalIn 10000 _ _ _).run _ w = _
    rw [show (10000 : Nat) = 9999 + 1 from rfl, Op.equalIn]
    simp only [Sem.run_bind, run_underlying Try.underlying3, Result.andThen_ok, if_true, Sem.run_pure]
    congr 1
  stays a := by simp [Instr.sameBits]
  now a b := ⟨_, Try.underlying3, .inr (by simp only [Instr.sameNow, if_true]; congr 1)⟩
/-- a mark lies in the map; what it wrote does not lie in block X -/
def MarkIn (w : World) (q : Nat) (X : Nat → Prop) (o : Option KeyL) (v : Option Value) : Prop := match o with
  | none => v = none
  | some k => ∃ A c, v = some (markV q k A c) ∧ Rd w A k.out.length 1 (icells k.out) ∧ (k.out = [] ∨ ¬ X (blk A))
def TabX (w : World) (b : Nat) (L : TabK) (X : Nat → Prop) : Prop := ∃ lst : List (Int × Value), MapB w b intV id lst ∧ ∀ q : Nat, MarkIn w q X (L q) (assoc lst (q : Int))
theorem Rd.moved {w w' : World} {A : Option Addr} {l : List Int} (h : Rd w A l.length 1 (icells l)) (hk : l ≠ [] → w'.heap[blk A]? = w.heap[blk A]?) : Rd w' A l.length 1 (icells l) := by
  refine ⟨h.len, h.rdy, fun j hj => ?_⟩
  have hne : l ≠ [] := fun e => by subst e; simp [icells] at hj
  have := h.cell j hj
  unfold World.cell? at this ⊢
  simp only at this ⊢
  rw [hk hne]; exact this
def CellsB (w : World) (g : Nat) : Prop := ∃ cs t f, w.heap[g]? = some (.cells cs t f)
theorem rd_lt {w : World} {A : Option Addr} {l : List Int} (h : Rd w A l.length 1 (icells l)) (hne : l ≠ []) : blk A < w.heap.size ∧ CellsB w (blk A) := by
  have hl : 0 < (icells l).length := by
    cases l with
    | nil => exact absurd rfl hne
    | cons a l => simp [icells]
  have hc := h.cell 0 hl
  refine ⟨World.block_lt_of_cell? _ _ hc, ?_⟩
  unfold World.cell? at hc
  simp only at hc
  cases ho : w.heap[blk A]? with
  | none => rw [ho] at hc; simp at hc
  | some o =>
    rw [ho] at hc
    cases o with
    | cells cs t f => exact ⟨cs, t, f, ho⟩
    | _ => simp at hc
theorem MarkIn.moved {w w' : World} {q : Nat} {X X' : Nat → Prop} {o : Option KeyL} {v : Option Value} (h : MarkIn w q X o v) (hk : ∀ g, g < w.heap.size → ¬ X g → CellsB w g → w'.heap[g]? = w.heap[g]?) (hX : ∀ g, g < w.heap.size → ¬ X g → ¬ X' g) : MarkIn w' q X' o v := by
  cases o with
  | none => exact h
  | some k =>
    obtain ⟨A, c, h1, h2, h3⟩ := h
    by_cases hne : k.out = []
    · exact ⟨A, c, h1, h2.moved fun e => absurd hne e, .inl hne⟩
    · have hX0 := h3.resolve_left hne
      obtain ⟨hl, hc⟩ := rd_lt h2 hne
      exact ⟨A, c, h1, h2.moved fun _ => hk _ hl hX0 hc, .inr (hX _ hl hX0)⟩
theorem TabX.lt {w : World} {b : Nat} {L : TabK} {X : Nat → Prop} (h : TabX w b L X) : b < w.heap.size := by
  obtain ⟨lst, hm, -⟩ := h
  exact hm.lt
theorem TabX.notCells {w : World} {b : Nat} {L : TabK} {X : Nat → Prop} (h : TabX w b L X) : ¬ CellsB w b := by
  obtain ⟨lst, hm, -⟩ := h
  rintro ⟨cs, t, f, ho⟩
  rw [hm.blk] at ho
  cases ho
theorem TabX.moved {w w' : World} {b : Nat} {L : TabK} {X X' : Nat → Prop} (h : TabX w b L X) (hb : w'.heap[b]? = w.heap[b]?) (hk : ∀ g, g < w.heap.size → ¬ X g → CellsB w g → w'.heap[g]? = w.heap[g]?) (hX : ∀ g, g < w.heap.size → ¬ X g → ¬ X' g) : TabX w' b L X' := by
  obtain ⟨lst, hm, h⟩ := h
  exact ⟨lst, hm.kept hb, fun q => (h q).moved hk hX⟩
theorem TabX.below {w w' : World} {b : Nat} {L : TabK} {X : Nat → Prop} (h : TabX w b L X) (hb : Below w.heap.size w w') : TabX w' b L X :=
  h.moved (hb.block b h.lt) (fun g hg _ _ => hb.block g hg) fun _ _ h => h
theorem TabX.grown {w w' : World} {b : Nat} {L : TabK} {X : Nat → Prop} (h : TabX w b L X) {row : Option Nat} (hg : w.grownBy w' row) (hne : some b ≠ row) (hr : ∀ g, row = some g → X g) : TabX w' b L X :=
  h.moved (hg.block b h.lt hne) (fun g hl hX _ => hg.block g hl fun e => hX (hr g e.symm)) fun _ _ h => h
theorem TabX.other {w : World} {b : Nat} {L : TabK} {X X' : Nat → Prop} (h : TabX w b L X) (hX : ∀ g, g < w.heap.size → ¬ X g → ¬ X' g) : TabX w b L X' := h.moved rfl (fun _ _ _ _ => rfl) hX
theorem TabX.made (w : World) (X : Nat → Prop) : TabX (w.alloc (.map #[] 0)) w.heap.size (fun _ => none) X := ⟨[], MapB.made w _ rfl _ _, fun _ => rfl⟩
/-- a mark is put -/
theorem TabX.put {w : World} {b : Nat} {L : TabK} {X : Nat → Prop} {lst : List (Int × Value)} (hm : MapB w b intV id lst) (h : ∀ q : Nat, MarkIn w q X (L q) (assoc lst (q : Int))) {p : Nat} {k : KeyL} {A : Option Addr} {c : Nat} (hk : Rd w A k.out.length 1 (icells k.out)) (hX : k.out = [] ∨ ¬ X (blk A)) :
    TabX (setBlock w b (mapObj intV id (mput lst (p : Int) (markV p k A c)))) b (updK L p k) X := by
  refine ⟨_, hm.put (p : Int) (markV p k A c), fun q => ?_⟩
  have hmv : ∀ g, g < w.heap.size → ¬ X g → CellsB w g → (setBlock w b (mapObj intV id (mput lst (p : Int) (markV p k A c)))).heap[g]? = w.heap[g]? := fun g _ _ ⟨cs, t, f, ho⟩ => setBlock_ne fun e => by
    subst e
    rw [hm.blk] at ho
    cases ho
  rw [assoc_mput]
  by_cases e : q = p
  · subst e
    rw [if_pos rfl, updK_at]
    refine ⟨A, c, rfl, hk.moved fun hne => hmv _ (rd_lt hk hne).1 (hX.resolve_left hne) (rd_lt hk hne).2, hX⟩
  · rw [if_neg (by omega), updK_ne _ _ e]
    exact (h q).moved hmv fun _ _ h => h
theorem grown_after {w w1 w2 : World} {row : Option Nat} (hb : Below w.heap.size w w1) (hg : w1.grownBy w2 row) : w.grownBy w2 row :=
  ⟨hg.os.trans hb.os, hg.tape.trans hb.tape, hg.output.trans hb.output, Nat.le_trans hb.size hg.size, fun k hk hne => (hg.block k (Nat.lt_of_lt_of_le hk hb.size) hne).trans (hb.block k hk)⟩
/-- what a look-up answers -/
theorem TabX.look {w : World} {b : Nat} {L : TabK} {X : Nat → Prop} (h : TabX w b L X) (q : Nat) : (L q = none → ∃ lst, MapB w b intV id lst ∧ assoc lst (q : Int) = none) ∧ ∀ k, L q = some k → ∃ lst A c, MapB w b intV id lst ∧ assoc lst (q : Int) = some (markV q k A c) ∧ Rd w A k.out.length 1 (icells k.out) ∧ (k.out = [] ∨ ¬ X (blk A)) := by
  obtain ⟨lst, hm, h⟩ := h
  have hq := h q
  refine ⟨fun e => ?_, fun k e => ?_⟩
  · rw [e] at hq; exact ⟨lst, hm, hq⟩
  · rw [e] at hq
    obtain ⟨A, c, h1, h2, h3⟩ := hq
    exact ⟨lst, A, c, hm, h1, h2, h3⟩
theorem zeroMark (w : World) : (zeroValue 71).run Try.prog w = .ok (.agg #[.int .i64 0, .int .i64 0, .slice none 0 0]) w := by kernel_rfl
theorem look_none {w : World} {b : Nat} {lst : List (Int × Value)} (hm : MapB w b intV id lst) {q : Nat} (h : assoc lst (q : Int) = none) : (Instr.lookup 68 (.map (some b)) (.int .i64 (q : Int)) true).run Try.prog w = .ok (.tuple #[.agg #[.int .i64 0, .int .i64 0, .slice none 0 0], .bool false]) w := by
  have e := run_lookup_x hm keyOkS Try.underlying68 (q : Int) true (zeroMark w)
  rw [h] at e; exact e
theorem look_some {w : World} {b : Nat} {lst : List (Int × Value)} (hm : MapB w b intV id lst) {q : Nat} {v : Value} (h : assoc lst (q : Int) = some v) : (Instr.lookup 68 (.map (some b)) (.int .i64 (q : Int)) true).run Try.prog w = .ok (.tuple #[v, .bool true]) w := by
  have e := run_lookup_x hm keyOkS Try.underlying68 (q : Int) true (zeroMark w)
  rw [h] at e; exact e
theorem look_one {w : World} {b : Nat} {lst : List (Int × Value)} (hm : MapB w b intV id lst) {q : Nat} {v : Value} (h : assoc lst (q : Int) = some v) : (Instr.lookup 68 (.map (some b)) (.int .i64 (q : Int)) false).run Try.prog w = .ok v w := by
  have e := run_lookup_x hm keyOkS Try.underlying68 (q : Int) false (zeroMark w)
  rw [h] at e; exact e
theorem upd_run {w : World} {b : Nat} {lst : List (Int × Value)} (hm : MapB w b intV id lst) (q : Nat) (v : Value) : (Instr.mapUpdate 68 (.map (some b)) (.int .i64 (q : Int)) v).run Try.prog w = .ok () (setBlock w b (mapObj intV id (mput lst (q : Int) v))) :=
  run_mapUpdate_x hm keyOkS Try.underlying68 (q : Int) v

theorem better_put {w W2 : World} {b : Nat} {L : TabK} {X : Nat → Prop} (hT : TabX w b L X) (B2 : Below w.heap.size w W2) (p : Nat) (kc : Int) (ko : List Int) (A : Option Addr) (c : Nat) (hk : Rd w A ko.length 1 (icells ko)) (hX : ko = [] ∨ ¬ X (blk A)) :
    ∃ W', (Instr.mapUpdate 68 (.map (some b)) (.int .i64 (p : Int)) (.agg #[.int .i64 (p : Int), .int .i64 kc, .slice A ko.length c])).run Try.prog W2 = .ok () W' ∧ TabX W' b (updK L p ⟨kc, ko⟩) X ∧ w.grownBy W' (some b) := by
  obtain ⟨lst2, hm2, h2⟩ := hT.below B2
  exact ⟨_, upd_run hm2 p _, TabX.put hm2 h2 (p := p) (k := ⟨kc, ko⟩) (c := c) (hk.below B2 rfl) hX, grown_after B2 (setBlock_grown _)⟩
set_option maxRecDepth 100000 in
set_option maxHeartbeats 4000000 in
theorem better_any (w : World) (b : Nat) (L : TabK) (X : Nat → Prop) (p : Nat) (k : KeyL) (A : Option Addr) (c : Nat) (hT : TabX w b L X) (hk : Rd w A k.out.length 1 (icells k.out)) (hX : k.out = [] ∨ ¬ X (blk A)) (g : GoodW k.out) (hl : k.out.length ≤ 1000000) (hL : ∀ k0, L p = some k0 → GoodW k0.out ∧ k0.out.length ≤ 1000000) :
    Calls Try.prog 25 #[.map (some b), markV p k A c] w fun e w' => e = .returned (.bool (betB L p k)) ∧ TabX w' b (putK L p k) X ∧ w.grownBy w' (some b) := by
  obtain ⟨kc, ko⟩ := k
  simp only [markV] at *
  have LS := Lib.hid (fun (k0 : KeyL) (B : Option Addr) (c' : Nat) (W : World) (h : Rd W A ko.length 1 (icells ko)) (h' : Rd W B k0.out.length 1 (icells k0.out)) (hL : GoodW k0.out ∧ k0.out.length ≤ 1000000) => less_any (p : Int) (p : Int) ⟨kc, ko⟩ k0 A B c c' W h h' g hL.1 hl hL.2)
  have HT := Lib.hid hT
  have HK := Lib.hid hk; have HX := Lib.hid hX
  cases hLp : L p with
  | none =>
    have e1 : betB L p ⟨kc, ko⟩ = true := by unfold betB; rw [hLp]
    have e2 : putK L p ⟨kc, ko⟩ = updK L p ⟨kc, ko⟩ := by unfold putK; rw [if_pos e1]
    rw [e1, e2]
    obtain ⟨lst, hm, ha⟩ := (hT.look p).1 hLp
    have hlk := look_none (hm.alloc (.cells #[.int .i64 (p : Int), .int .i64 kc, .slice A ko.length c] 71)) ha
    have B2 : Below w.heap.size w ((w.alloc (.cells #[.int .i64 (p : Int), .int .i64 kc, .slice A ko.length c] 71)).alloc (.cells #[.int .i64 0, .int .i64 0, .slice none 0 0] 71)) := (by repeat' (first | exact Below.refl _ _ | assumption | refine Below.drew ?_ | refine Below.alloc ?_ (by first | omega | (simp; done) | (simp; omega)) _ | refine Below.setCell ?_ (by first | omega | (simp; done) | (simp; omega)) _))
    obtain ⟨W', hup, hp⟩ := better_put hT B2 p kc ko A c hk hX
    have HP := Lib.hid hp
    clear hm hp ha hT hk hX B2 e1 e2 hLp HT LS HK HX hL g
    go_enter Try.func25, Try.ntmps25
    go_wp2_with fail
    go_ret
    exact ⟨rfl, HP.out⟩
  | some k0 =>
    obtain ⟨lst, B, c', hm, ha, hr, hx⟩ := (hT.look p).2 k0 hLp
    have hlk := look_some (hm.alloc (.cells #[.int .i64 (p : Int), .int .i64 kc, .slice A ko.length c] 71)) ha
    have hL0 := hL k0 hLp
    have B2 : Below w.heap.size w ((w.alloc (.cells #[.int .i64 (p : Int), .int .i64 kc, .slice A ko.length c] 71)).alloc (.cells #[.int .i64 (p : Int), .int .i64 k0.c, .slice B k0.out.length c'] 71)) := (by repeat' (first | exact Below.refl _ _ | assumption | refine Below.drew ?_ | refine Below.alloc ?_ (by first | omega | (simp; done) | (simp; omega)) _ | refine Below.setCell ?_ (by first | omega | (simp; done) | (simp; omega)) _))
    have CL := Lib.hid (LS.out k0 B c' _ (hk.below B2 rfl) (hr.below B2 rfl) hL0)
    simp only [markV] at CL hlk
    have HR := Lib.hid hr
    have e0 : betB L p ⟨kc, ko⟩ = decide (klt ⟨kc, ko⟩ k0) := by unfold betB; rw [hLp]
    obtain ⟨k0c, k0o⟩ := k0
    simp only at *
    by_cases hlt : klt ⟨kc, ko⟩ ⟨k0c, k0o⟩
    · have e1 : betB L p ⟨kc, ko⟩ = true := by rw [e0]; exact decide_eq_true hlt
      have e2 : putK L p ⟨kc, ko⟩ = updK L p ⟨kc, ko⟩ := by unfold putK; rw [if_pos e1]
      rw [decide_eq_true hlt] at CL
      rw [e1, e2]
      have HB2 := Lib.hid B2
      clear hm ha hr hx hL0 hL hT hk hX B2 e0 e1 e2 hLp LS HR hlt g
      go_enter Try.func25, Try.ntmps25
      go_wp2_with fail
      refine CL.out.mono ?_; rintro e w3 ⟨rfl, b3⟩
      have B3 := HB2.out.trans (b3.mono HB2.out.size)
      obtain ⟨W', hup, hp⟩ := better_put HT.out B3 p kc ko A c HK.out HX.out
      have HP := Lib.hid hp
      have q := (Blk.new w #[.int .i64 (p : Int), .int .i64 kc, .slice A ko.length c] 71).alloc (.cells #[.int .i64 (p : Int), .int .i64 k0c, .slice B k0o.length c'] 71)
      have q3 := q.step b3
      have k0' := q3.cell 0; have k1' := q3.cell 1; have k2' := q3.cell 2
      simp only [List.getElem?_toArray, List.getElem?_cons_succ, List.getElem?_cons_zero] at k0' k1' k2'
      clear hp B3 b3 CL q q3 HT HK HX
      go_wp2_with fail
      go_ret
      exact ⟨rfl, HP.out⟩
    · have e1 : betB L p ⟨kc, ko⟩ = false := by rw [e0]; exact decide_eq_false hlt
      have e2 : putK L p ⟨kc, ko⟩ = L := by unfold putK; rw [e1]; rfl
      rw [decide_eq_false hlt] at CL
      rw [e1, e2]
      have HB2 := Lib.hid B2
      clear hm ha hr hx hL0 hL hT hk hX B2 e0 e1 e2 hLp LS HR hlt g
      go_enter Try.func25, Try.ntmps25
      go_wp2_with fail
      refine CL.out.mono ?_; rintro e w3 ⟨rfl, b3⟩
      have B3 := Lib.hid (HB2.out.trans (b3.mono HB2.out.size))
      clear b3 CL
      go_wp2_with fail
      go_ret
      exact ⟨rfl, HT.out.below B3.out, ⟨B3.out.os, B3.out.tape, B3.out.output, B3.out.size, fun k hk _ => B3.out.block k hk⟩⟩
end Go.Proofs.Ytikkmoleneioeaa
