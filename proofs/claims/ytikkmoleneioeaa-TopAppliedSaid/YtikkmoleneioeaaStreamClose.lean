/- stream.close: marks go along arcs that read nothing, till nothing gets better. -/
import Derived.Test.YtikkmoleneioeaaStreamLess
import Derived.Test.YtikkmoleneioeaaQueue
import Derived.Deep.LoopGhost
namespace Go.Proofs.Ytikkmoleneioeaa
open Go.RowKit

theorem cell_map {w w' : World} {b : Nat} (hg : w.grownBy w' (some b)) (hb : ¬ CellsB w b) {a : Addr} {v : Value} (h : w.cell? a = some v) : w'.cell? a = some v := by
  have hl := World.block_lt_of_cell? _ _ h
  have hne : a.block ≠ b := fun e => hb (by
    unfold World.cell? at h
    rw [e] at h
    cases ho : w.heap[b]? with
    | none => rw [ho] at h; simp at h
    | some o =>
      rw [ho] at h
      cases o with
      | cells cs t f => exact ⟨cs, t, f, ho⟩
      | _ => simp at h)
  unfold World.cell? at h ⊢
  rw [hg.block a.block hl (by simpa using hne)]; exact h
theorem ArcsAt.map {w w' : World} {b : Nat} (hg : w.grownBy w' (some b)) (hb : ¬ CellsB w b) {A : Option Addr} {l : List ArcL} (h : ArcsAt w A l) : ArcsAt w' A l :=
  ⟨h.rdy, fun i hi => cell_map hg hb (h.c0 i hi), fun i hi => cell_map hg hb (h.c1 i hi), fun i hi => cell_map hg hb (h.c2 i hi), fun i hi => cell_map hg hb (h.c3 i hi)⟩
theorem StatesAt.map {w w' : World} {b : Nat} (hg : w.grownBy w' (some b)) (hb : ¬ CellsB w b) {A : Option Addr} {l : List StateL} (h : StatesAt w A l) : StatesAt w' A l :=
  ⟨h.rdy, fun i hi => cell_map hg hb (h.c0 i hi), fun i hi => by
    obtain ⟨A', c, h1, h2⟩ := h.c1 i hi
    exact ⟨A', c, cell_map hg hb h1, h2.map hg hb⟩⟩
theorem MachAt.map {w w' : World} {b : Nat} (hg : w.grownBy w' (some b)) (hb : ¬ CellsB w b) {v : Value} {m : MachL} (h : MachAt w v m) : MachAt w' v m := by
  obtain ⟨A, c, hv, h⟩ := h
  exact ⟨A, c, hv, h.map hg hb⟩
theorem grown_bel {w w1 w2 : World} {row : Option Nat} (hg : w.grownBy w1 row) (hb : Below w1.heap.size w1 w2) : w.grownBy w2 row :=
  ⟨hb.os.trans hg.os, hb.tape.trans hg.tape, hb.output.trans hg.output, Nat.le_trans hg.size hb.size, fun k hk hne => (hb.block k (Nat.lt_of_lt_of_le hk hg.size)).trans (hg.block k hk hne)⟩
theorem grown_trans {w w1 w2 : World} {row : Option Nat} (hg : w.grownBy w1 row) (hh : w1.grownBy w2 row) : w.grownBy w2 row :=
  ⟨hh.os.trans hg.os, hh.tape.trans hg.tape, hh.output.trans hg.output, Nat.le_trans hg.size hh.size, fun k hk hne => (hh.block k (Nat.lt_of_lt_of_le hk hg.size) hne).trans (hg.block k hk hne)⟩
theorem grown_rows {w w1 w2 : World} {row row' : Option Nat} (hg : w.grownBy w1 row) (hh : w1.grownBy w2 row') (hr : ∀ k, row' = some k → w.heap.size ≤ k) : w.grownBy w2 row :=
  ⟨hh.os.trans hg.os, hh.tape.trans hg.tape, hh.output.trans hg.output, Nat.le_trans hg.size hh.size, fun k hk hne => (hh.block k (Nat.lt_of_lt_of_le hk hg.size) (fun e => by have := hr k e.symm; omega)).trans (hg.block k hk hne)⟩
def nC (l : List Nat) : List Value := l.map fun (q : Nat) => .int .i64 (q : Int)
theorem nC_snoc (l : List Nat) (q : Nat) : nC (l ++ [q]) = nC l ++ [.int .i64 (q : Int)] := by simp [nC]
/-- the memory of close -/
structure ClW (w : World) (Y : Nat → Prop) (b : Nat) (st : Int) (A : Option Addr) (n c : Nat) (wr : World) (L : TabK) (todo : List Nat) (tv : Value) : Prop where
  mb : Blk wr w.heap.size #[.int .i64 st, .slice A n c] 28
  tab : TabX wr b L (fun g => tv.ownBlock = some g ∨ Y g)
  own : OwnsQ wr (w.heap.size + 1) 3 tv todo.length (nC todo)
  gr : w.grownBy wr (some b)
section
variable {w wr wr' : World} {Y : Nat → Prop} {b : Nat} {st : Int} {A : Option Addr} {n c : Nat} {L : TabK} {todo : List Nat} {tv : Value}
theorem ClW.keep (h : ClW w Y b st A n c wr L todo tv) (hb : Below wr.heap.size wr wr') : ClW w Y b st A n c wr' L todo tv := ⟨h.mb.step hb, h.tab.below hb, h.own.keep hb, grown_bel h.gr hb⟩
theorem ClW.app (h : ClW w Y b st A n c wr L todo tv) (hb : b < w.heap.size) {q : Nat} {v' : Value} (ho : OwnsQ wr' (w.heap.size + 1) 3 v' (todo.length + 1) (nC todo ++ [.int .i64 (q : Int)])) (hg : wr.grownBy wr' tv.ownBlock) (hv : ∀ k, v'.ownBlock = some k → tv.ownBlock = some k ∨ wr.heap.size < k) :
    ClW w Y b st A n c wr' L (todo ++ [q]) v' := by
  refine ⟨h.mb.grown hg (h.own.ne (by omega)).symm, ?_, ?_, grown_rows h.gr hg fun k hk => by have := (h.own.lt k hk).1; omega⟩
  · refine h.tab.moved (hg.block b h.tab.lt (h.own.ne (by omega)).symm) (fun g hl hX _ => hg.block g hl fun e => hX (.inl e.symm)) fun g hl hX e => ?_
    rcases e with e | e
    · rcases hv g e with h1 | h1
      · exact hX (.inl h1)
      · omega
    · exact hX (.inr e)
  · rw [nC_snoc, List.length_append]; exact ho
theorem ClW.put (h : ClW w Y b st A n c wr L todo tv) (hb : b < w.heap.size) {L' : TabK} (ht : TabX wr' b L' (fun g => tv.ownBlock = some g ∨ Y g)) (hg : wr.grownBy wr' (some b)) : ClW w Y b st A n c wr' L' todo tv :=
  ⟨h.mb.grown hg (by simp; omega), ht, queue_grownBy hg h.own (.inr (h.own.ne (by omega))), grown_trans h.gr hg⟩
end
set_option maxRecDepth 100000 in
theorem queue_tail2 {w : World} {base n g o c : Nat} {x : Value} {xs : List Value} (h : OwnsQ w base 3 (.slice (some ⟨g, o, none⟩) (n + 1) c) (n + 1) (x :: xs)) :
    ∃ A2 c2, (∀ W, (Instr.slice 25 (.slice (some ⟨g, o, none⟩) (n + 1) c) (some (.int .i64 1)) none none).run Try.prog W = .ok (.slice A2 n c2) W) ∧ OwnsQ w base 3 (.slice A2 n c2) n xs ∧ (Value.slice A2 n c2).ownBlock = some g := by
  refine ⟨_, _, fun W => ?_, OwnsQ.pop h, ?_⟩
  · rw [run_slice_l W _ _ _ _ Try.underlying25 _ _ (by omega) (by omega), show Try.prog.elem 25 = 3 from by kernel_rfl, Try.sizeOf3]
    simp [sliced, addr_add]
  · split <;> simp [Value.ownBlock]
/-- marks had without going round are no longer and no dearer than this -/
theorem simp_bound {m : MachL} (hv : Valid m) {WW : Int} (h0 : 0 ≤ WW) (hw : ∀ q, ∀ a ∈ arcsQ m q, a.wt ≤ WW) {L0 L : TabK} {B : Nat} (hI : ∀ q k, L0 q = some k → q < m.states.length ∧ KB B WW k) (h : SimpK m L0 L) {q : Nat} {k : KeyL} (hk : L q = some k) : KB (B + m.states.length) WW k := by
  obtain ⟨q0, k0, l, h1, h2, h3, h4, h5, -⟩ := h q k hk
  obtain ⟨hq0, hb0⟩ := hI q0 k0 h1
  have hlen := nodup_ltS m.states.length _ h5 fun x hx => by
    rcases List.mem_cons.1 hx with rfl | hx
    · exact hq0
    · exact eps_lt hv l q0 h2 x hx
  simp only [List.length_cons, List.length_map] at hlen
  rw [h4]
  exact (KB.fold hw l q0 B k0 h2 hb0).mono (by omega) h0
theorem hasL_succ (L : TabK) (k : Nat) : hasL L (k + 1) = hasL L k ++ if (L k).isSome = true then [k] else [] := by
  unfold hasL
  rw [List.range_succ, List.filter_append]
  congr 1
  by_cases h : (L k).isSome = true
  · rw [if_pos h, List.filter_cons_of_pos (by exact h)]; rfl
  · rw [if_neg h, List.filter_cons_of_neg (by exact h)]; rfl
theorem hasL_len (L : TabK) (k : Nat) : (hasL L k).length ≤ k := by
  unfold hasL
  have := List.length_filter_le (fun q => (L q).isSome) (List.range k)
  rwa [List.length_range] at this
theorem nil_or {Y : Nat → Prop} {g : Nat} (h : ¬ Y g) : ¬ ((Value.slice none 0 0).ownBlock = some g ∨ Y g) := fun e => e.elim (fun e => by simp [Value.ownBlock] at e) h
theorem own_apart {w : World} {B : Nat} {e : TypeId} {A : Option Addr} {n c : Nat} {l : List Int} {X : Nat → Prop} (h : w.ownsRow B e 1 (.slice A n c) n (icells l)) (hX : ∀ g, X g → g < B) : l = [] ∨ ¬ X (blk A) := by
  rcases h.2 with ⟨hv, hn⟩ | ⟨g, cap, cur, hv, hb, -⟩
  · left
    have := h.1
    rw [hn] at this
    simp [icells] at this
    exact this
  · right
    intro e
    have h1 := hX _ e
    simp only [Value.slice.injEq] at hv
    obtain ⟨rfl, -, -⟩ := hv
    simp only [blk_some] at h1
    omega
theorem arcsOf_leS (ss : List StateL) : ∀ i (h : i < ss.length), ss[i].arcs.length ≤ arcsOf ss := by
  unfold arcsOf
  induction ss with
  | nil => intro i h; simp at h
  | cons s ss ih =>
    intro i h
    cases i with
    | zero => simp
    | succ i => have := ih i (by simpa using h); simp only [List.getElem_cons_succ, List.map_cons, List.sum_cons]; omega
set_option maxRecDepth 100000 in
set_option maxHeartbeats 8000000 in
theorem close_any (w : World) (Y : Nat → Prop) (hY : ∀ g, Y g → g < w.heap.size) (b : Nat) (L0 : TabK) (v : Value) (m : MachL) (B : Nat) (WW : Int) (AA : Nat) (hT : TabX w b L0 Y) (hm : MachAt w v m) (hv : Valid m) (hA : ∀ q, (arcsQ m q).length ≤ AA) (hw : ∀ q, ∀ a ∈ arcsQ m q, a.wt ≤ WW) (h0 : 0 ≤ WW)
    (hI : ∀ q k, L0 q = some k → q < m.states.length ∧ GoodW k.out ∧ 0 ≤ k.c ∧ KB B WW k) (hbd : B + m.states.length ≤ 10000) (hbw : ((B + m.states.length : Nat) : Int) * WW ≤ 1000000000000) (hN : m.states.length + m.states.length * geo AA (m.states.length - 1) ≤ 100000) :
    Calls Try.prog 45 #[.map (some b), v] w fun e w' => e = .returned (.tuple #[]) ∧ ∃ L' : TabK, TabX w' b L' Y ∧ StInv m L0 ⟨L', []⟩ 0 [] ∧ w.grownBy w' (some b) := by
  obtain ⟨A, c, rfl, hS⟩ := hm
  have hbl := hT.lt
  have hnc := hT.notCells
  have hsz := hv.size
  have HS : Hid (∀ q (h : q < m.states.length), ∃ A' c', ∀ wr, w.grownBy wr (some b) → wr.cell? ⟨blk A, ofs A + q * 2 + 1, none⟩ = some (.slice A' (m.states[q].arcs.length : Nat) c') ∧ ArcsAt wr A' m.states[q].arcs) := Lib.hid fun q h => by
    obtain ⟨A', c', h1, h2⟩ := hS.c1 q h
    exact ⟨A', c', fun wr hg => ⟨cell_map hg hnc h1, h2.map hg hnc⟩⟩
  have HV := Lib.hid hv
  have HYY := Lib.hid hY
  clear hY
  have HW := Lib.hid hw
  have HC := Lib.hid (candK_len hA L0 m.states.length)
  have rd := hS.rdy
  have HST := Lib.hid (StInv.init (fun q k hk => ⟨(hI q k hk).1, (hI q k hk).2.1, (hI q k hk).2.2.1⟩) 0)
  have hH0 : hasL L0 0 = [] := rfl
  have HH0 := Lib.hid hH0
  have HHS := Lib.hid (hasL_succ L0); have HHL := Lib.hid (hasL_len L0)
  have HT := Lib.hid hT
  have HSB := Lib.hid (fun (L : TabK) (hs : SimpK m L0 L) (q : Nat) (k : KeyL) => simp_bound hv h0 hw (fun q k hk => ⟨(hI q k hk).1, (hI q k hk).2.2.2⟩) hs (q := q) (k := k))
  have B1 : Below w.heap.size w (w.alloc (.cells #[.int .i64 m.start, .slice A m.states.length c] 28)) := (by repeat' (first | exact Below.refl _ _ | assumption | refine Below.drew ?_ | refine Below.alloc ?_ (by first | omega | (simp; done) | (simp; omega)) _ | refine Below.setCell ?_ (by first | omega | (simp; done) | (simp; omega)) _))
  have hC0 : ClW w Y b m.start A m.states.length c (w.alloc (.cells #[.int .i64 m.start, .slice A m.states.length c] 28)) L0 (hasL L0 0) (.slice none 0 0) :=
    ⟨Blk.new _ _ _, (hT.below B1).other (fun g _ h => nil_or h), OwnsQ.nil _ _ _, grown_of_below B1 _⟩
  have HC0 := Lib.hid hC0
  clear hT hS hC0 B1 hH0 hnc hI hw hA
  go_enter Try.func45, Try.ntmps45
  go_wp2_with fail
  generalize w.alloc (.cells #[.int .i64 m.start, .slice A m.states.length c] 28) = w1 at *
  go_loopw [4, 14] (fun tv iv wr => ∃ k : Nat, k ≤ m.states.length ∧ iv = .int .i64 k ∧ ClW w Y b m.start A m.states.length c wr L0 (hasL L0 k) tv) (fun _ iv _ => m.states.length - (intOf iv).toNat)
  case atStart => exact ⟨0, by omega, rfl, HC0.out⟩
  case round =>
    obtain ⟨k, hk, rfl, hC⟩ := hrel
    by_cases hlt : k < m.states.length
    · have i0 : (0 : Int) ≤ ↑k := by omega
      have i1 : (↑k : Int) < ↑m.states.length := by omega
      have HCr := Lib.hid hC
      have hsl := HHL.out k
      cases hL : L0 k with
      | none =>
        obtain ⟨lst, hm1, ha⟩ := (hC.tab.look k).1 hL
        have hlk := look_none hm1 ha
        have hs : hasL L0 (k + 1) = hasL L0 k := by rw [HHS.out, hL]; simp
        have HSS := Lib.hid hs
        clear hm1 ha hC hs hL
        obtain ⟨wo, rfl⟩ : ∃ wo : World, wo = wr := ⟨_, rfl⟩
        go_wp2_with fail
        go_roundw
        case rel => exact ⟨k + 1, by omega, by go_num, by rw [HSS.out]; exact HCr.out.keep ((Below.refl _ _).alloc (Nat.le_refl _) _)⟩
        case measure => simp [intOf]; omega
      | some k0 =>
        obtain ⟨lst, B', c', hm1, ha, -, -⟩ := (hC.tab.look k).2 k0 hL
        have hlk := look_some hm1 ha
        have hs : hasL L0 (k + 1) = hasL L0 k ++ [k] := by rw [HHS.out, hL]; simp
        have HSS := Lib.hid hs
        obtain ⟨kc, ko⟩ := k0
        simp only [markV] at hlk
        clear hm1 ha hC hs hL
        obtain ⟨wo, rfl⟩ : ∃ wo : World, wo = wr := ⟨_, rfl⟩
        have HCb := Lib.hid (HCr.out.keep ((Below.refl _ _).alloc (Nat.le_refl _) (.cells #[.int .i64 (k : Int), .int .i64 kc, .slice B' ko.length c'] 71)))
        have hbs : w.heap.size + 1 ≤ (wo.alloc (.cells #[.int .i64 (k : Int), .int .i64 kc, .slice B' ko.length c'] 71)).heap.size := by have := HCr.out.mb.lt; simp; omega
        go_wp2_with (at_builtin; refine wpList_queue1 rfl _ _ rfl eltInt (w.heap.size + 1) _ (hasL L0 k).length (nC (hasL L0 k)) rfl (wo.alloc (.cells #[.int .i64 (k : Int), .int .i64 kc, .slice B' ko.length c'] 71)) HCb.out.own (.int .i64 (k : Int)) rfl (wo.heap.size + 1) (by simp) rfl (by simp [Value.oneCell']) (by omega) (by omega) hbs ?_; intro v3 w3 ho3 hg3 hv3; have HC3 := Lib.hid (HCb.out.app hbl ho3 hg3 hv3); clear ho3 hg3 hv3)
        go_roundw
        case rel => exact ⟨k + 1, by omega, by go_num, by rw [HSS.out]; exact HC3.out⟩
        case measure => simp [intOf]; omega
    · obtain rfl : k = m.states.length := by omega
      have i1 : ¬ (↑m.states.length : Int) < ↑m.states.length := by omega
      have HC1 := Lib.hid hC
      have hP0 : potK (candK m L0 m.states.length) ⟨L0, hasL L0 m.states.length⟩ ≤ 100000 := by
        unfold potK lackK
        have h1 := HHL.out m.states.length
        have h2 := HC.out
        have h3 := List.countP_le_length (p := fun p : Nat × KeyL => betB L0 p.1 p.2) (l := candK m L0 m.states.length)
        simp only
        omega
      have HP0 := Lib.hid hP0
      generalize hCc : candK m L0 m.states.length = C at *
      have HCC := Lib.hid hCc
      clear hC hP0 hCc HC HH0 HHS HT HC0
      go_wp2_with fail
      go_loopg [4] (potK C ⟨L0, hasL L0 m.states.length⟩) (fun g tv wr => ∃ (S : CSt), ClW w Y b m.start A m.states.length c wr S.L S.t tv ∧ StInv m L0 S 0 [] ∧ potK C S ≤ g ∧ g ≤ 100000)
      case atStart => exact ⟨_, HC1.out, HST.out, Nat.le_refl _, HP0.out⟩
      case round =>
        obtain ⟨⟨L, t⟩, hC, hI, hp, hg⟩ := hrel
        simp only at hC
        have HCr := Lib.hid hC; have HIr := Lib.hid hI
        cases t with
        | nil =>
          obtain ⟨A2, c2, rfl, -, -, -⟩ := hC.own.form
          clear hC hI
          go_wp2_with fail
          go_end0
          exact ⟨rfl, L, HCr.out.tab.moved rfl (fun _ _ _ _ => rfl) (fun _ _ h e => h (.inr e)), HIr.out, HCr.out.gr⟩
        | cons q t =>
          have hown := hC.own
          simp only [List.length_cons] at hown
          obtain ⟨g2, o2, c2, rfl, hc3, hc4, hb1, hb2⟩ := hown.addr
          have hn1 : nC (q :: t) = .int .i64 (q : Int) :: nC t := rfl
          rw [hn1] at hown
          obtain ⟨A3, c3, hsl, ho3, hob⟩ := queue_tail2 hown
          obtain ⟨A4, c4, hv4, -, -, hrd⟩ := hown.form
          have hcell : wr.cell? ⟨g2, o2, none⟩ = some (.int .i64 (q : Int)) := by
            have h1 := hrd.cell 0 (by simp)
            simp only [Value.slice.injEq] at hv4
            obtain ⟨rfl, -, rfl⟩ := hv4
            simpa [blk_some, ofs_some] using h1
          have hqn := (hI.good q (getK L q) (by
            have := hI.tin q (by simp)
            obtain ⟨k0, hk0⟩ := Option.isSome_iff_exists.1 this
            simp only at hk0 ⊢
            unfold getK; rw [hk0]; rfl)).1
          obtain ⟨A', c', hrow⟩ := HS.out q hqn
          have hr0 := (hrow wr hC.gr).1
          have HROW := Lib.hid (fun wx hg => (hrow wx hg).2)
          have HQ : Hid (arcsQ m q = m.states[q].arcs) := Lib.hid (by unfold arcsQ; rw [List.getElem?_eq_getElem hqn]; rfl)
          have hCt : ClW w Y b m.start A m.states.length c wr L t (.slice A3 t.length c3) := ⟨hC.mb, by rw [hob]; exact hC.tab, ho3, hC.gr⟩
          have hIt : StInv m L0 ⟨L, t⟩ q (arcsQ m q) := hI.take
          have hpt : potK C ⟨L, t⟩ + 1 ≤ gk := by unfold potK at hp ⊢; simp only [List.length_cons] at hp ⊢; omega
          have HCT := Lib.hid hCt; have HIT := Lib.hid hIt; have HPT := Lib.hid hpt
          have k1 := hC.mb.cell; have lm := hC.mb.lt
          have lA := World.block_lt_of_cell? _ _ hr0
          have e1 : (↑(t.length + 1) : Int) = ↑t.length + 1 := by simp
          have q0 : (0 : Int) ≤ ↑q := by omega
          have q1 : (↑q : Int) < ↑m.states.length := by omega
          have j1 : (0 : Int) < ↑t.length + 1 := by omega
          simp only [maxLen] at hc4
          rw [HQ.out] at HIT
          have HRL : Hid (∀ a ∈ m.states[q].arcs, a ∈ arcsQ m q) := Lib.hid (fun a ha => by rw [HQ.out]; exact ha)
          clear hC hI hp hown hrow hCt hIt hpt hrd hv4 ho3 hob hn1 HCr HIr
          have hw' : ∀ a ∈ arcsQ m q, a.wt ≤ WW := HW.out q
          have hal : m.states[q].arcs.length ≤ 400 := Nat.le_trans (arcsOf_leS m.states q hqn) HV.out.arcs
          generalize t.length = tl at *
          generalize m.states[q].arcs = arcs at *
          go_wp2_with fail
          go_loopw [4, 44] (fun tv iv wx => ∃ (k : Nat) (S : CSt), k ≤ arcs.length ∧ iv = .int .i64 k ∧ ClW w Y b m.start A m.states.length c wx S.L S.t tv ∧ StInv m L0 S q (arcs.drop k) ∧ potK C S + 1 ≤ gk) (fun _ iv _ => arcs.length - (intOf iv).toNat)
          case atStart => exact ⟨0, ⟨L, t⟩, by omega, rfl, HCT.out, HIT.out, HPT.out⟩
          case round =>
            obtain ⟨k, ⟨L2, t2⟩, hk, rfl, hC, hI, hp⟩ := hrel
            simp only at hC
            have i0 : (0 : Int) ≤ ↑k := by omega
            by_cases hlt : k < arcs.length
            · have i1 : (↑k : Int) < ↑arcs.length := by omega
              have hdr : arcs.drop k = arcs[k] :: arcs.drop (k + 1) := List.drop_eq_getElem_cons hlt
              rw [hdr] at hI
              have hmem := HRL.out _ (List.getElem_mem hlt)
              have hva := (arcsQ_ok HV.out hmem).2
              have hR := hI.rel HV.out hmem
              have hPR := hI.pot HV.out hmem
              rw [HCC.out] at hPR
              have hAr := HROW.out wr hC.gr
              have d0 := hAr.c0 k hlt; have d1 := hAr.c1 k hlt; have d2 := hAr.c2 k hlt; have d3 := hAr.c3 k hlt
              have rdR := hAr.rdy
              have lR := World.block_lt_of_cell? _ _ d0
              have hsm : (L2 q).isSome = true := by
                rcases hI.cur with h | h
                · cases h
                · exact h
              obtain ⟨kq, hkq⟩ := Option.isSome_iff_exists.1 hsm
              have hgq : getK L2 q = kq := by unfold getK; rw [hkq]; rfl
              have hrel : relA q ⟨L2, t2⟩ arcs[k] = if arcs[k].inn = 0 ∧ betB L2 arcs[k].to.toNat (extK kq arcs[k]) = true then ⟨updK L2 arcs[k].to.toNat (extK kq arcs[k]), t2 ++ [arcs[k].to.toNat]⟩ else ⟨L2, t2⟩ := by unfold relA; simp only [hgq]
              have HG2 := Lib.hid (hI.good q kq hkq)
              have HKB := Lib.hid (HSB.out L2 hI.simp q kq hkq)
              have HGL := Lib.hid hI.good
              have HSL := Lib.hid (fun q k => HSB.out L2 hI.simp q k)
              have HRr := Lib.hid hR; have HPR := Lib.hid hPR; have HPk := Lib.hid hp
              have HCr := Lib.hid hC
              have hww := hw' _ hmem
              clear hI hR hPR hp hdr hmem hAr hsm hgq
              generalize relA q ⟨L2, t2⟩ arcs[k] = S' at *
              generalize arcs[k] = a at *
              obtain ⟨ai, ao, aw, at'⟩ := a
              obtain ⟨-, -, o0, o1, w0', w1', t0', t1'⟩ := hva
              simp only at o0 o1 w0' w1' t0' t1' d0 d1 d2 d3 hrel hww
              obtain ⟨p, rfl⟩ : ∃ p : Nat, at' = (p : Int) := ⟨at'.toNat, by omega⟩
              rw [Int.toNat_natCast] at hrel
              have HREL := Lib.hid hrel
              clear hrel
              obtain ⟨wo, rfl⟩ : ∃ wo : World, wo = wr := ⟨_, rfl⟩
              have HCb := Lib.hid (HCr.out.keep ((Below.refl _ _).alloc (Nat.le_refl _) (.cells #[.int .i64 ai, .int .i64 ao, .int .i64 aw, .int .i64 (p : Int)] 65)))
              by_cases hz : ai = 0
              · have hb : (ai == 0) = true := by simp [hz]
                have HZ := Lib.hid hz
                obtain ⟨lst, B', c5, hm1, ha, hrq, -⟩ := (HCb.out.tab.look q).2 kq hkq
                have hlk := look_one hm1 ha
                have hbl2 : kq.out.length ≤ 10000 ∧ kq.c ≤ 1000000000000 := by
                  have h1 := HKB.out
                  exact ⟨by have := h1.1; omega, Int.le_trans h1.2 hbw⟩
                have AL := Lib.hid (along_any (q : Int) kq B' c5 ⟨ai, ao, aw, (p : Int)⟩ _ hrq hbl2.1 HG2.out.2.2 hbl2.2 w0' (by omega))
                simp only [markV, arcVal] at AL hlk
                have eX : extK kq ⟨ai, ao, aw, (p : Int)⟩ = extK kq ⟨ai, ao, aw, (p : Int)⟩ := rfl
                have HEG := Lib.hid (ext_good (a := ⟨ai, ao, aw, (p : Int)⟩) HG2.out.2.1 o0 o1)
                have HKE : Hid ((extK kq ⟨ai, ao, aw, (p : Int)⟩).out.length ≤ 1000000) := Lib.hid (by
                  unfold extK pre; simp only [List.length_append]; split <;> simp <;> omega)
                generalize extK kq ⟨ai, ao, aw, (p : Int)⟩ = ke at *
                obtain ⟨kqc, kqo⟩ := kq
                simp only at AL hlk
                clear hm1 ha hrq hz hkq hww hC eX
                go_wp2_with fail
                refine AL.out.mono ?_; rintro e w2 ⟨A6, c6, rfl, ho6, b6⟩
                have HC6 := Lib.hid (HCb.out.keep b6)
                have hX6 := own_apart ho6 (X := fun g => Value.ownBlock _ = some g ∨ Y g) (fun g e => by have h2 := HCb.out.mb.lt; exact e.elim (fun e => by have := (HCb.out.own.lt g e).2; omega) (fun e => by have := HYY.out g e; omega))
                have hrd6 := Rd.of_own ho6
                have P6 := (Blk.new wo #[.int .i64 ai, .int .i64 ao, .int .i64 aw, .int .i64 (p : Int)] 65).step b6
                have BT := Lib.hid (better_any w2 b L2 _ p ke A6 c6 HC6.out.tab hrd6 hX6 HEG.out HKE.out (fun k0 hk0 => ⟨(HGL.out p k0 hk0).2.1, by have h1 := (HSL.out p k0 hk0).1; omega⟩))
                have hsz6 := b6.size
                simp only [World.size_alloc] at hsz6
                simp only [markV] at BT
                have HP6 := Lib.hid P6
                clear ho6 hrd6 hX6 P6 b6 AL
                go_wp2_with fail
                refine BT.out.mono ?_; rintro e w3 ⟨rfl, ht3, hg3⟩
                have HC7 := Lib.hid (HC6.out.put hbl ht3 hg3)
                have P7 := HP6.out.grown hg3 (fun e => by have e2 : wo.heap.size = b := Option.some.inj e; have h7 := HCb.out.mb.lt; have h8 := HCr.out.mb.lt; omega)
                have kto := P7.cell 3; have lto := P7.lt
                simp only [List.getElem?_toArray, List.getElem?_cons_succ, List.getElem?_cons_zero] at kto
                have hs7 := HC7.out.mb.lt
                clear ht3 hg3 P7 BT HP6 HC6
                cases hbe : betB L2 p ke
                · have hs' : S' = ⟨L2, t2⟩ := by rw [HREL.out, if_neg (fun h => by rw [hbe] at h; cases h.2)]
                  have hpk : putK L2 p ke = L2 := by unfold putK; rw [hbe]; rfl
                  rw [hpk] at HC7
                  have HS' := Lib.hid hs'
                  clear hs' hpk hbe
                  go_wp2_with fail
                  go_roundw
                  case rel => exact ⟨k + 1, S', by omega, by go_num, by rw [HS'.out]; exact HC7.out, HRr.out, by have := HPR.out; have := HPk.out; omega⟩
                  case measure => simp [intOf]; omega
                · have hs' : S' = ⟨updK L2 p ke, t2 ++ [p]⟩ := by rw [HREL.out, if_pos ⟨HZ.out, hbe⟩]
                  have hpk : putK L2 p ke = updK L2 p ke := by unfold putK; rw [hbe]; rfl
                  rw [hpk] at HC7
                  have HS' := Lib.hid hs'
                  have htl : t2.length + 1 ≤ 1000000 := by have h1 := HPk.out; unfold potK at h1; simp only at h1; omega
                  clear hs' hpk hbe
                  go_wp2_with (at_builtin; refine wpList_queue1 rfl _ _ rfl eltInt (w.heap.size + 1) _ t2.length (nC t2) rfl w3 HC7.out.own (.int .i64 (p : Int)) rfl w3.heap.size rfl rfl (by simp [Value.oneCell']) htl (by omega) (by omega) ?_; intro v8 w8 ho8 hg8 hv8; have HC8 := Lib.hid (HC7.out.app hbl ho8 hg8 hv8); clear ho8 hg8 hv8)
                  go_roundw
                  case rel => exact ⟨k + 1, S', by omega, by go_num, by rw [HS'.out]; exact HC8.out, HRr.out, by have := HPR.out; have := HPk.out; omega⟩
                  case measure => simp [intOf]; omega
              · have hb : (ai == 0) = false := by simp [hz]
                have hs' : S' = ⟨L2, t2⟩ := by rw [HREL.out, if_neg (fun h => hz h.1)]
                have HS' := Lib.hid hs'
                clear hs' hz hkq hww hC
                go_wp2_with fail
                go_roundw
                case rel => exact ⟨k + 1, S', by omega, by go_num, by rw [HS'.out]; exact HCb.out, HRr.out, by have := HPR.out; have := HPk.out; omega⟩
                case measure => simp [intOf]; omega
            · obtain rfl : k = arcs.length := by omega
              have i1 : ¬ (↑arcs.length : Int) < ↑arcs.length := by omega
              have HC3 := Lib.hid hC; have HI3 := Lib.hid hI; have HP3 := Lib.hid hp
              clear hC hI hp
              go_wp2_with fail
              go_roundg (gk - 1)
              case measure => have := HP3.out; omega
              case rel => exact ⟨⟨L2, t2⟩, HC3.out, StInv.any (by have := HI3.out; rwa [List.drop_length] at this), by have := HP3.out; omega, by omega⟩
end Go.Proofs.Ytikkmoleneioeaa
