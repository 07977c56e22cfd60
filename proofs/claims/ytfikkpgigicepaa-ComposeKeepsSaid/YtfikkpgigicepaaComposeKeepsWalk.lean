/- The walk of ComposeKeeps. -/
import Derived.Test.YtfikkpgigicepaaTogether
namespace Go.Proofs.Ytfikkpgigicepaa
open Go.RowKit

theorem keep_big {a b : MachL} {v w : List Int} (hva : Valid a) (hvb : Valid b) (ha : Little a 4 4) (hb : Little b 4 4) (hv : v.length ≤ 2) (hw : w.length ≤ 2) : KBig a b v w := by
  have kf : ∀ {m : MachL}, Valid m → Little m 4 4 → ∀ q, finQ m q ≠ INF → 0 ≤ finQ m q ∧ finQ m q ≤ 9 := fun {m} hm hl q hq => by
    obtain ⟨s, h1, h2⟩ := finQ_ne hq
    rw [← h2] at hq ⊢
    have h3 := hl.fin s (List.mem_of_getElem? h1) hq
    have h4 := (hm.st s (List.mem_of_getElem? h1)).1
    rcases h4 with h | h
    · omega
    · exact absurd h hq
  have ka : ∀ {m : MachL}, Little m 4 4 → ∀ q, (arcsQ m q).length ≤ 4 := fun {m} hl q => by
    unfold arcsQ
    cases hs : m.states[q]? with
    | none => simp
    | some s => simpa using hl.arcs s (List.mem_of_getElem? hs)
  exact ⟨ha.len, hb.len, by omega, by omega, kf hva ha, kf hvb hb, ka ha, ka hb⟩
theorem keep_kp {a b : MachL} {v w : List Int} (hva : Valid a) (hvb : Valid b) (ha : Wt a 9) (hb : Wt b 9) (h1 : 0 ≤ a.start) (h2 : 0 ≤ b.start) : Kp a b v w := by
  have kw : ∀ {m : MachL}, Wt m 9 → ∀ q, ∀ e ∈ arcsQ m q, e.wt ≤ 9 := fun {m} hl q e he => by
    obtain ⟨s, g1, g2⟩ := arcsQ_mem he
    exact hl.w s (List.mem_of_getElem? g1) e g2
  exact ⟨hva, hvb, h1, h2, kw ha, kw hb⟩
namespace composeKeeps
set_option maxRecDepth 100000 in
set_option maxHeartbeats 8000000 in
theorem walk {w : World} (v1 : Value) (r1 : RawL) (hr1 : RawArg w v1 r1) (v2 : Value) (r2 : RawL) (hr2 : RawArg w v2 r2) (A1 : Option Addr) (n1 k1 : Nat) (xs : List Int) (hx : IntArg w A1 n1 xs) (A2 : Option Addr) (n2 k2 : Nat) (ys : List Int) (hy : IntArg w A2 n2 ys) :
    Calls Try.prog 4 #[v1, v2, .slice A1 n1 k1, .slice A2 n2 k2] w fun e w' => e = .returned (.bool true) ∧ Below w.heap.size w w' := by
  have hma : Valid (mkMach r1 4 false) := valid_made r1 4 false (by omega) (by omega)
  have hmb : Valid (mkMach r2 4 false) := valid_made r2 4 false (by omega) (by omega)
  have hla := made_little r1 4 false (by omega)
  have hlb := made_little r2 4 false (by omega)
  have ha0 : 0 ≤ (mkMach r1 4 false).start := pick_lo _ _ (by unfold mkN; omega)
  have hb0 : 0 ≤ (mkMach r2 4 false).start := pick_lo _ _ (by unfold mkN; omega)
  have HM1 := Lib.hid (fun W hb => made_any v1 r1 4 false W (hr1.below hb) (by omega) (by omega))
  have HM2 := Lib.hid (fun W hb => made_any v2 r2 4 false W (hr2.below hb) (by omega) (by omega))
  have HWX := Lib.hid (fun W hb => word_any A1 n1 k1 xs 2 W (hx.below hb) (by omega))
  have HWY := Lib.hid (fun W hb => word_any A2 n2 k2 ys 2 W (hy.below hb) (by omega))
  have lx := mkWord_len xs 2; have ly := mkWord_len ys 2
  have BX := Lib.hid (word_b xs 2); have BY := Lib.hid (word_b ys 2)
  obtain ⟨-, -, A, c, rfl, -⟩ := hr1
  obtain ⟨-, -, B, d, rfl, -⟩ := hr2
  generalize mkMach r1 4 false = a at *
  generalize mkMach r2 4 false = b at *
  generalize mkWord xs 2 = x at *
  generalize mkWord ys 2 = y at *
  have HC1 := Lib.hid (fun va vb W h1 h2 => compose_use va vb a b 9 9 W h1 h2 hma hmb ha0 hb0 hla.wt9 hlb.wt9 (by omega))
  have HKB := Lib.hid (keep_big hma hmb hla hlb lx ly); have HKP : Hid (Kp a b x y) := Lib.hid (keep_kp hma hmb hla.wt9 hlb.wt9 ha0 hb0)
  clear hma hmb hla hlb hx hy ha0 hb0
  go_enter Try.func4, Try.ntmps4
  go_upto_region 1 with fail
  have R2 : Hid (Blk ((w.alloc (.cells #[.int .i64 r1.start, .slice A r1.nodes.length c] 24)).alloc (.cells #[.int .i64 r2.start, .slice B r2.nodes.length d] 24)) (w.heap.size + 1) #[.int .i64 r2.start, .slice B r2.nodes.length d] 24) := Lib.hid (Blk.new' (by simp))
  have R1 : Hid (Blk ((w.alloc (.cells #[.int .i64 r1.start, .slice A r1.nodes.length c] 24)).alloc (.cells #[.int .i64 r2.start, .slice B r2.nodes.length d] 24)) w.heap.size #[.int .i64 r1.start, .slice A r1.nodes.length c] 24) := Lib.hid ((Blk.new _ _ _).alloc _)
  have b0 : Below w.heap.size w ((w.alloc (.cells #[.int .i64 r1.start, .slice A r1.nodes.length c] 24)).alloc (.cells #[.int .i64 r2.start, .slice B r2.nodes.length d] 24)) := (by repeat' (first | exact Below.refl _ _ | assumption | refine Below.drew ?_ | refine Below.alloc ?_ (by first | omega | (simp; done) | (simp; omega)) _ | refine Below.setCell ?_ (by first | omega | (simp; done) | (simp; omega)) _))
  generalize (w.alloc (.cells #[.int .i64 r1.start, .slice A r1.nodes.length c] 24)).alloc (.cells #[.int .i64 r2.start, .slice B r2.nodes.length d] 24) = w0 at *
  have k_R1 := R1.out.cell; have l_R1 := R1.out.lt
  go_wp2_with fail
  clear k_R1 l_R1
  refine (HM1.out _ b0).mono ?_; rintro e w1 ⟨mv1, rfl, o1, q1⟩
  have b1 : Below w.heap.size w w1 := b0.trans (q1.mono b0.size)
  replace R1 := Lib.hid (R1.out.step q1)
  replace R2 := Lib.hid (R2.out.step q1)
  obtain ⟨A3, c3, rfl, s1⟩ := own_open o1
  have X1 := Lib.hid (MBox.new (c := c3) s1)
  clear o1 s1
  go_upto_region 2 with fail
  replace R1 := Lib.hid (R1.out.alloc (.cells #[.int .i64 a.start, .slice A3 a.states.length c3] 28))
  replace R2 := Lib.hid (R2.out.alloc (.cells #[.int .i64 a.start, .slice A3 a.states.length c3] 28))
  have b1a := b1.alloc b1.size (.cells #[.int .i64 a.start, .slice A3 a.states.length c3] 28)
  generalize w1.alloc (.cells #[.int .i64 a.start, .slice A3 a.states.length c3] 28) = w1a at *
  generalize w1.heap.size = ba at *
  have k_R2 := R2.out.cell; have l_R2 := R2.out.lt
  go_wp2_with fail
  clear k_R2 l_R2
  refine (HM2.out _ b1a).mono ?_; rintro e w2 ⟨mv2, rfl, o2, q2⟩
  have b2 : Below w.heap.size w w2 := b1a.trans (q2.mono b1a.size)
  replace R2 := Lib.hid (R2.out.step q2)
  replace X1 := Lib.hid (X1.out.step q2)
  obtain ⟨A4, c4, rfl, s2⟩ := own_open o2
  have X2 := Lib.hid (MBox.new (c := c4) s2)
  clear o2 s2
  go_upto_region 3 with fail
  replace R2 := Lib.hid (R2.out.alloc (.cells #[.int .i64 b.start, .slice A4 b.states.length c4] 28))
  replace X1 := Lib.hid (X1.out.alloc (.cells #[.int .i64 b.start, .slice A4 b.states.length c4] 28))
  have b2a := b2.alloc b2.size (.cells #[.int .i64 b.start, .slice A4 b.states.length c4] 28)
  generalize w2.alloc (.cells #[.int .i64 b.start, .slice A4 b.states.length c4] 28) = w2a at *
  generalize w2.heap.size = bb at *
  have k_X1 := X1.out.blk.cell; have l_X1 := X1.out.blk.lt
  have k_X2 := X2.out.blk.cell; have l_X2 := X2.out.blk.lt
  go_wp2_with fail
  clear k_X1 l_X1 k_X2 l_X2
  refine (HC1.out _ _ _ X1.out.mach X2.out.mach).mono ?_; rintro e w3 ⟨⟨A5, k5, n5, er, rfl, hco1⟩, q3⟩
  have b3 : Below w.heap.size w w3 := b2a.trans (q3.mono b2a.size)
  replace X1 := Lib.hid (X1.out.step q3)
  replace X2 := Lib.hid (X2.out.step q3)
  have X3 := Lib.hid (Blk.new w3 #[.int .i64 0, .slice A5 n5 k5] 28)
  have HCO1 := Lib.hid (hco1.alloc (.cells #[.int .i64 0, .slice A5 n5 k5] 28))
  clear hco1
  go_upto_region 4 with fail
  replace X1 := Lib.hid (X1.out.alloc (.cells #[.int .i64 0, .slice A5 n5 k5] 28))
  replace X2 := Lib.hid (X2.out.alloc (.cells #[.int .i64 0, .slice A5 n5 k5] 28))
  have b3a := b3.alloc b3.size (.cells #[.int .i64 0, .slice A5 n5 k5] 28)
  generalize w3.alloc (.cells #[.int .i64 0, .slice A5 n5 k5] 28) = w3a at *
  generalize w3.heap.size = bx3 at *
  rcases HCO1.out.full with ⟨rfl, rfl, rfl, rfl, -⟩ | ⟨rfl, c1, hc1⟩
  · have k_X3 := X3.out.cell; have l_X3 := X3.out.lt
    go_wp2_with fail
    go_ret
    exact ⟨rfl, b3a⟩
  have H1 := Lib.hid hc1
  clear hc1 HCO1
  go_wp2_with fail
  refine (HWX.out _ b3a).mono ?_; rintro e w4 ⟨xv, rfl, ox, q4⟩
  have b4 : Below w.heap.size w w4 := b3a.trans (q4.mono b3a.size)
  replace X1 := Lib.hid (X1.out.step q4)
  replace X2 := Lib.hid (X2.out.step q4)
  replace X3 := Lib.hid (X3.out.step q4)
  replace H1 := Lib.hid (H1.out.step q4)
  obtain ⟨AX, cX, rfl, rx⟩ := word_open ox
  have RX := Lib.hid rx
  clear ox rx
  go_wp2_with fail
  refine (HWY.out _ b4).mono ?_; rintro e w5 ⟨yv, rfl, oy, q5⟩
  have b5 : Below w.heap.size w w5 := b4.trans (q5.mono b4.size)
  replace X1 := Lib.hid (X1.out.step q5)
  replace X2 := Lib.hid (X2.out.step q5)
  replace X3 := Lib.hid (X3.out.step q5)
  replace H1 := Lib.hid (H1.out.step q5)
  replace RX := Lib.hid (RX.out.below q5 rfl)
  obtain ⟨AY, cY, rfl, ry⟩ := word_open oy
  have RY := Lib.hid ry
  clear oy ry
  have hp1 : (0 : Int) < (n5 : Int) := by have := H1.out.pos; omega
  have hp2 : 0 < n5 := H1.out.pos
  have q0 := X3.out.cell 0; have q1 := X3.out.cell 1; have q2 := X1.out.blk.cell 0; have q3 := X1.out.blk.cell 1; have q4 := X2.out.blk.cell 0; have q5 := X2.out.blk.cell 1
  simp only [List.getElem?_toArray, List.getElem?_cons_zero, List.getElem?_cons_succ] at q0 q1 q2 q3 q4 q5
  have lq0 := X3.out.lt; have lq1 := X1.out.blk.lt; have lq2 := X2.out.blk.lt
  have COS := Lib.hid (fun W (hb : Below w5.heap.size w5 W) => (H1.out.step hb).cost AX AY cX cY x y (RX.out.below hb rfl) (RY.out.below hb rfl) (by omega) (by omega) BX.out BY.out)
  have TOG := Lib.hid (fun W (hb : Below w5.heap.size w5 W) => together_any a b x y A3 A4 AX AY c3 c4 cX cY W HKP.out HKB.out (X1.out.at_.below hb (Nat.le_refl _)) (X2.out.at_.below hb (Nat.le_refl _)) (RX.out.below hb rfl) (RY.out.below hb rfl))
  have HEQ := Lib.hid (fun best r (h : TogR a b x y best) hr => by obtain ⟨far0, far, h⟩ := h; exact h.end_ HKP.out (fun d => H1.out.tot x y d) (r := r) hr)
  have KS : ∀ W, Below w5.heap.size w5 W → W.cell? ⟨bx3, 0, none⟩ = some (.int .i64 0) ∧ W.cell? ⟨bx3, 1, none⟩ = some (.slice A5 n5 k5) ∧ W.cell? ⟨ba, 0, none⟩ = some (.int .i64 a.start) ∧ W.cell? ⟨ba, 1, none⟩ = some (.slice A3 a.states.length c3) ∧ W.cell? ⟨bb, 0, none⟩ = some (.int .i64 b.start) ∧ W.cell? ⟨bb, 1, none⟩ = some (.slice A4 b.states.length c4) ∧ Below w5.heap.size w5 W := fun W q => ⟨cellB q q0, cellB q q1, cellB q q2, cellB q q3, cellB q q4, cellB q q5, q⟩
  go_upto_region 8 with fail
  go_region_held3 (fun w' => w'.cell? ⟨bx3, 0, none⟩ = some (.int .i64 0) ∧ w'.cell? ⟨bx3, 1, none⟩ = some (.slice A5 n5 k5) ∧ w'.cell? ⟨ba, 0, none⟩ = some (.int .i64 a.start) ∧ w'.cell? ⟨ba, 1, none⟩ = some (.slice A3 a.states.length c3) ∧ w'.cell? ⟨bb, 0, none⟩ = some (.int .i64 b.start) ∧ w'.cell? ⟨bb, 1, none⟩ = some (.slice A4 b.states.length c4) ∧ Below w5.heap.size w5 w') (first | (exact KS _ (Below.refl _ _).drew) | (refine KS _ ?_; (try go_split_ands); first | exact Below.step (a := w5) (by assumption) bn | assumption)) (first | (go_at_call 20; go_split_ands; refine (COS.out _ (by assumption)).mono ?_; rintro e wn ⟨v1, rfl, hB1, hv1, bn⟩) | (go_at_call 21; go_split_ands; refine (TOG.out _ (by assumption)).mono ?_; rintro e wn ⟨v2, rfl, hB2, bn⟩))
  all_goals
    obtain rfl : v1 = v2 := HEQ.out _ _ hB2 hB1
    go_wp2_with fail
    go_ret
    exact ⟨by simp, b5.trans (Below.mono (show Below w5.heap.size w5 _ by go_split_ands; assumption) b5.size)⟩
end composeKeeps
end Go.Proofs.Ytfikkpgigicepaa
