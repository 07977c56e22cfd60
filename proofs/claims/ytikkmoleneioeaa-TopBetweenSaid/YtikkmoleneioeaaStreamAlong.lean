/- slices.Clone at numbers; stream.along. -/
import Derived.Test.YtikkmoleneioeaaStreamLess
namespace Go.Proofs.Ytikkmoleneioeaa
open Go.RowKit

theorem own_madeI (w : World) (e : TypeId) (B : Nat) (hB : B ≤ w.heap.size) (size : Nat) : (w.alloc (.cells #[] e)).ownsRow B e size (.slice (some ⟨w.heap.size, 0, none⟩) 0 0) 0 [] :=
  ⟨by simp, .inr ⟨w.heap.size, 0, #[], rfl, hB, heap_alloc_new w _, Nat.le_refl _, Nat.zero_le _, by simp, by simp⟩⟩
theorem icells_one' (l : List Int) : ∀ u ∈ icells l, u.oneCell' = true := by
  intro u hu
  unfold icells at hu
  obtain ⟨a, -, rfl⟩ := List.mem_map.1 hu
  rfl
set_option maxRecDepth 100000 in
set_option maxHeartbeats 1000000 in
theorem clone_ints (A : Option Addr) (l : List Int) (c : Nat) (W : World) (h : Rd W A l.length 1 (icells l)) (hl : l.length ≤ 100000) :
    Calls Try.prog 28 #[.slice A l.length c] W fun e w' => ∃ v', e = .returned v' ∧ w'.ownsRow W.heap.size 3 1 v' l.length (icells l) ∧ Below W.heap.size W w' := by
  have q22 : ∀ (w : World) (a : Option Addr) (n c n' c' : Nat), (binOp .eql 25 (.slice a n c) (.slice none n' c')).run Try.prog w = .ok (.bool a.isNone) w := fun w a n c n' c' => Lib.run_eql_slice_nil w _ _ a n c n' c' Try.underlying25
  have HR := Lib.hid h
  have H1 := Lib.hid (icells_one' l)
  have HR0 := Lib.hid h.rdy
  cases A with
  | none =>
    have e : l = [] := List.eq_nil_of_length_eq_zero (by
      rcases Nat.eq_zero_or_pos l.length with h0 | h0
      · exact h0
      · have := h.rdy h0; cases this)
    subst e
    clear h
    go_enter Try.func28, Try.ntmps28
    go_wp2
    go_ret
    exact ⟨_, rfl, ⟨rfl, .inl ⟨rfl, rfl⟩⟩, Below.refl _ _⟩
  | some a =>
    clear h
    have HLN : Hid (∀ (W' : World) v', W'.ownsRow W.heap.size 3 1 v' (0 + l.length) ([] ++ icells l) → W'.ownsRow W.heap.size 3 1 v' l.length (icells l)) := Lib.hid fun W' v' ho => by
      rw [Nat.zero_add, List.nil_append] at ho; exact ho
    generalize hn : l.length = n at *
    have HN := Lib.hid hn
    generalize hcs : icells l = cs at *
    clear hcs
    go_enter Try.func28, Try.ntmps28
    go_wp2_with (at_builtin; refine wpList_appR _ rfl _ _ rfl eltInt W.heap.size _ 0 [] rfl (own_madeI W _ _ (Nat.le_refl _) _) (some a) n c cs rfl (HR.out.below ((Below.refl _ _).alloc (Nat.le_refl _) _) rfl) H1.out (by omega) (by omega) (by simp) ?_; intro v' w' ho hg hb)
    go_ret
    exact ⟨_, rfl, HLN.out _ _ ho, ((Below.refl _ _).alloc (Nat.le_refl _) _).grown hg (by simp) (by intro k hk; have hk2 : some W.heap.size = some k := hk; injection hk2 with hk3; omega)⟩

theorem along_keep {w w2 w3 : World} {kc aw ai ao at' : Int} {A' : Option Addr} {n c' g cap : Nat} {cs ds : List Value} (HO : w2.ownsRow (w.heap.size + 3) 3 1 (.slice A' n c') n cs) (B2 : Below w.heap.size w w2) (H1 : Blk w2 (w.heap.size + 1) #[.int .i64 ai, .int .i64 ao, .int .i64 aw, .int .i64 at'] 65)
    {q : Int} {A0 : Option Addr} {n0 c0 : Nat} (H0 : Blk w2 w.heap.size #[.int .i64 q, .int .i64 kc, .slice A0 n0 c0] 71) (H2 : Blk w2 (w.heap.size + 1 + 1) #[.int .i64 0, .int .i64 0, .slice none 0 0] 71) (ho3 : w3.ownsRow (w.heap.size + 3) 3 1 (.slice (some ⟨g, 0, none⟩) (n + 1) cap) (n + 1) ds) (hg3 : w2.grownBy w3 (Value.slice A' n c').ownBlock) :
    w3.cell? ⟨w.heap.size, 1, none⟩ = some (.int .i64 kc) ∧ w3.cell? ⟨w.heap.size + 1, 1, none⟩ = some (.int .i64 ao) ∧ w3.cell? ⟨w.heap.size + 1, 2, none⟩ = some (.int .i64 aw) ∧ w3.cell? ⟨w.heap.size + 1, 3, none⟩ = some (.int .i64 at') ∧ (∀ o, w3.frozen? ⟨w.heap.size + 1 + 1, o, none⟩ = false) ∧ w3.cell? ⟨w.heap.size + 1 + 1, 0, none⟩ = some (.int .i64 0) ∧ w3.cell? ⟨w.heap.size + 1 + 1, 1, none⟩ = some (.int .i64 0) ∧ w3.cell? ⟨w.heap.size + 1 + 1, 2, none⟩ = some (.slice none 0 0) ∧ w.heap.size + 1 + 1 < w3.heap.size ∧
    Hid (∀ W, (∀ _ : Value, W = ((w3.setCell ⟨w.heap.size + 1 + 1, 0, none⟩ (.int .i64 at')).setCell ⟨w.heap.size + 1 + 1, 1, none⟩ (.int .i64 (kc + aw))).setCell ⟨w.heap.size + 1 + 1, 2, none⟩ (.slice (some ⟨g, 0, none⟩) (n + 1) cap)) → W.ownsRow (w.heap.size + 3) 3 1 (.slice (some ⟨g, 0, none⟩) (n + 1) cap) (n + 1) ds ∧ Below w.heap.size w W) := by
  have hne : ∀ b, b < w.heap.size + 3 → some b ≠ (Value.slice A' n c').ownBlock := fun b hb e => by have := (HO.lt _ e.symm).1; omega
  have Q1 := H1.grown hg3 (hne _ (by omega)); have Q2 := H2.grown hg3 (hne _ (by omega))
  have Q0 := H0.grown hg3 (hne _ (by omega))
  refine ⟨Q0.cell 1, Q1.cell 1, Q1.cell 2, Q1.cell 3, Q2.froz, Q2.cell 0, Q2.cell 1, Q2.cell 2, Q2.lt, Lib.hid fun W hW => ?_⟩
  rw [hW (.bool true)]
  have hq : (Value.slice (some ⟨g, 0, none⟩) (n + 1) cap).ownBlock ≠ some (w.heap.size + 1 + 1) := fun e => by have := (ho3.lt _ e).1; omega
  exact ⟨own_setCell (own_setCell (own_setCell ho3 hq _) hq _) hq _, (((B2.grown hg3 B2.size (fun k hk => by have := (HO.lt _ hk).1; omega)).setCell (by simp; omega) _).setCell (by simp; omega) _).setCell (by simp; omega) _⟩
set_option maxRecDepth 100000 in
set_option maxHeartbeats 4000000 in
theorem along0 (q kc : Int) (A : Option Addr) (n c : Nat) (ks : List Int) (ai ao aw at' : Int) (w : World) (hn : ks.length = n) (h : Rd w A n 1 (icells ks)) (hl : n ≤ 10000) (h0 : 0 ≤ kc) (h1 : kc ≤ 1000000000000) (ha0 : 0 ≤ aw) (ha1 : aw ≤ 1000000000) (hz : Hid (ao = 0)) :
    Calls Try.prog 29 #[.agg #[.int .i64 q, .int .i64 kc, .slice A n c], .agg #[.int .i64 ai, .int .i64 ao, .int .i64 aw, .int .i64 at']] w fun e w' => ∃ A' c', e = .returned (.agg #[.int .i64 at', .int .i64 (kc + aw), .slice A' n c']) ∧ w'.ownsRow (w.heap.size + 3) 3 1 (.slice A' n c') n (icells ks) ∧ Below w.heap.size w w' := by
  have CL : Hid (∀ W, Below w.heap.size w W → Calls Try.prog 28 #[.slice A n c] W fun e w' => ∃ v', e = .returned v' ∧ w'.ownsRow W.heap.size 3 1 v' n (icells ks) ∧ Below W.heap.size W w') := Lib.hid (fun W (hb : Below w.heap.size w W) => by
    have := clone_ints A ks c W (by rw [hn]; exact h.below hb rfl) (by omega)
    rwa [hn] at this)
  have w0 : wrap64 (kc + aw) = kc + aw := by unfold wrap64; omega
  clear h hn
  generalize icells ks = cs at *
  have B1 : Below w.heap.size w (((w.alloc (.cells #[.int .i64 q, .int .i64 kc, .slice A n c] 71)).alloc (.cells #[.int .i64 ai, .int .i64 ao, .int .i64 aw, .int .i64 at'] 65)).alloc (.cells #[.int .i64 0, .int .i64 0, .slice none 0 0] 71)) := (by repeat' (first | exact Below.refl _ _ | assumption | refine Below.drew ?_ | refine Below.alloc ?_ (by first | omega | (simp; done) | (simp; omega)) _ | refine Below.setCell ?_ (by first | omega | (simp; done) | (simp; omega)) _))
  have P0 : Blk (((w.alloc (.cells #[.int .i64 q, .int .i64 kc, .slice A n c] 71)).alloc (.cells #[.int .i64 ai, .int .i64 ao, .int .i64 aw, .int .i64 at'] 65)).alloc (.cells #[.int .i64 0, .int .i64 0, .slice none 0 0] 71)) w.heap.size #[.int .i64 q, .int .i64 kc, .slice A n c] 71 := ((Blk.new _ _ _).alloc _).alloc _
  have P1 : Blk (((w.alloc (.cells #[.int .i64 q, .int .i64 kc, .slice A n c] 71)).alloc (.cells #[.int .i64 ai, .int .i64 ao, .int .i64 aw, .int .i64 at'] 65)).alloc (.cells #[.int .i64 0, .int .i64 0, .slice none 0 0] 71)) (w.heap.size + 1) #[.int .i64 ai, .int .i64 ao, .int .i64 aw, .int .i64 at'] 65 := (Blk.new' (by simp)).alloc _
  have P2 : Blk (((w.alloc (.cells #[.int .i64 q, .int .i64 kc, .slice A n c] 71)).alloc (.cells #[.int .i64 ai, .int .i64 ao, .int .i64 aw, .int .i64 at'] 65)).alloc (.cells #[.int .i64 0, .int .i64 0, .slice none 0 0] 71)) (w.heap.size + 1 + 1) #[.int .i64 0, .int .i64 0, .slice none 0 0] 71 := Blk.new' (by simp)
  go_enter Try.func29, Try.ntmps29
  go_wp2_with fail
  have hsz : (((w.alloc (.cells #[.int .i64 q, .int .i64 kc, .slice A n c] 71)).alloc (.cells #[.int .i64 ai, .int .i64 ao, .int .i64 aw, .int .i64 at'] 65)).alloc (.cells #[.int .i64 0, .int .i64 0, .slice none 0 0] 71)).heap.size = w.heap.size + 3 := by simp
  generalize ((w.alloc (.cells #[.int .i64 q, .int .i64 kc, .slice A n c] 71)).alloc (.cells #[.int .i64 ai, .int .i64 ao, .int .i64 aw, .int .i64 at'] 65)).alloc (.cells #[.int .i64 0, .int .i64 0, .slice none 0 0] 71) = w1 at *
  refine (CL.out _ B1).mono ?_; rintro e w2 ⟨v, rfl, ho, b2⟩
  rw [hsz] at ho
  have hs2 := b2.size
  rw [hsz] at hs2
  have B2 := Lib.hid (B1.trans (b2.mono B1.size))
  have P0' := P0.step b2; have P1' := P1.step b2; have P2' := P2.step b2
  have k0 := P0'.cell 1; have k1 := P1'.cell 1; have k2 := P1'.cell 2; have k3 := P1'.cell 3; have k4 := P2'.froz; have k5 := P2'.cell 0; have k6 := P2'.cell 1; have k7 := P2'.cell 2
  have H0 := Lib.hid P0'; have H1 := Lib.hid P1'; have H2 := Lib.hid P2'
  simp only [List.getElem?_toArray, List.getElem?_cons_succ, List.getElem?_cons_zero] at k0 k1 k2 k3 k5 k6 k7
  obtain ⟨A', c', rfl, -, -⟩ := own_form ho
  have HO := Lib.hid ho
  have l2 := P2'.lt
  clear ho P0 P1 P2 P0' P1' P2' b2 B1 CL
  have hb : (ao != 0) = false := by simp [hz.out]
  clear hz
  have HD : Hid (∀ W, (∀ x : Value, W = ((w2.setCell ⟨w.heap.size + 1 + 1, 0, none⟩ (.int .i64 at')).setCell ⟨w.heap.size + 1 + 1, 1, none⟩ (.int .i64 (kc + aw))).setCell ⟨w.heap.size + 1 + 1, 2, none⟩ (.slice A' n c')) → W.ownsRow (w.heap.size + 3) 3 1 (.slice A' n c') n cs ∧ Below w.heap.size w W) := Lib.hid fun W hW => by
    rw [hW (.bool true)]
    have hne : (Value.slice A' n c').ownBlock ≠ some (w.heap.size + 1 + 1) := fun e => by have := (HO.out.lt _ e).1; omega
    exact ⟨own_setCell (own_setCell (own_setCell HO.out hne _) hne _) hne _, ((B2.out.setCell (by simp; omega) _).setCell (by simp; omega) _).setCell (by simp; omega) _⟩
  go_wp2_with fail
  refine bodyPost_ret (v := .agg #[.int .i64 at', .int .i64 (kc + aw), .slice A' n c']) (by simp [results, Try.results29, go_sem, *]) rfl ⟨A', c', rfl, HD.out _ fun _ => rfl⟩
set_option maxRecDepth 100000 in
set_option maxHeartbeats 4000000 in
theorem along1 (q kc : Int) (A : Option Addr) (n c : Nat) (ks : List Int) (ai ao aw at' : Int) (w : World) (hn : ks.length = n) (h : Rd w A n 1 (icells ks)) (hl : n ≤ 10000) (h0 : 0 ≤ kc) (h1 : kc ≤ 1000000000000) (ha0 : 0 ≤ aw) (ha1 : aw ≤ 1000000000) (hz : ao ≠ 0) :
    Calls Try.prog 29 #[.agg #[.int .i64 q, .int .i64 kc, .slice A n c], .agg #[.int .i64 ai, .int .i64 ao, .int .i64 aw, .int .i64 at']] w fun e w' => ∃ A' c', e = .returned (.agg #[.int .i64 at', .int .i64 (kc + aw), .slice A' (n + 1) c']) ∧ w'.ownsRow (w.heap.size + 3) 3 1 (.slice A' (n + 1) c') (n + 1) (icells ks ++ [.int .i64 ao]) ∧ Below w.heap.size w w' := by
  have CL : Hid (∀ W, Below w.heap.size w W → Calls Try.prog 28 #[.slice A n c] W fun e w' => ∃ v', e = .returned v' ∧ w'.ownsRow W.heap.size 3 1 v' n (icells ks) ∧ Below W.heap.size W w') := Lib.hid (fun W (hb : Below w.heap.size w W) => by
    have := clone_ints A ks c W (by rw [hn]; exact h.below hb rfl) (by omega)
    rwa [hn] at this)
  have w0 : wrap64 (kc + aw) = kc + aw := by unfold wrap64; omega
  clear h hn
  generalize icells ks = cs at *
  have B1 : Below w.heap.size w (((w.alloc (.cells #[.int .i64 q, .int .i64 kc, .slice A n c] 71)).alloc (.cells #[.int .i64 ai, .int .i64 ao, .int .i64 aw, .int .i64 at'] 65)).alloc (.cells #[.int .i64 0, .int .i64 0, .slice none 0 0] 71)) := (by repeat' (first | exact Below.refl _ _ | assumption | refine Below.drew ?_ | refine Below.alloc ?_ (by first | omega | (simp; done) | (simp; omega)) _ | refine Below.setCell ?_ (by first | omega | (simp; done) | (simp; omega)) _))
  have P0 : Blk (((w.alloc (.cells #[.int .i64 q, .int .i64 kc, .slice A n c] 71)).alloc (.cells #[.int .i64 ai, .int .i64 ao, .int .i64 aw, .int .i64 at'] 65)).alloc (.cells #[.int .i64 0, .int .i64 0, .slice none 0 0] 71)) w.heap.size #[.int .i64 q, .int .i64 kc, .slice A n c] 71 := ((Blk.new _ _ _).alloc _).alloc _
  have P1 : Blk (((w.alloc (.cells #[.int .i64 q, .int .i64 kc, .slice A n c] 71)).alloc (.cells #[.int .i64 ai, .int .i64 ao, .int .i64 aw, .int .i64 at'] 65)).alloc (.cells #[.int .i64 0, .int .i64 0, .slice none 0 0] 71)) (w.heap.size + 1) #[.int .i64 ai, .int .i64 ao, .int .i64 aw, .int .i64 at'] 65 := (Blk.new' (by simp)).alloc _
  have P2 : Blk (((w.alloc (.cells #[.int .i64 q, .int .i64 kc, .slice A n c] 71)).alloc (.cells #[.int .i64 ai, .int .i64 ao, .int .i64 aw, .int .i64 at'] 65)).alloc (.cells #[.int .i64 0, .int .i64 0, .slice none 0 0] 71)) (w.heap.size + 1 + 1) #[.int .i64 0, .int .i64 0, .slice none 0 0] 71 := Blk.new' (by simp)
  go_enter Try.func29, Try.ntmps29
  go_wp2_with fail
  have hsz : (((w.alloc (.cells #[.int .i64 q, .int .i64 kc, .slice A n c] 71)).alloc (.cells #[.int .i64 ai, .int .i64 ao, .int .i64 aw, .int .i64 at'] 65)).alloc (.cells #[.int .i64 0, .int .i64 0, .slice none 0 0] 71)).heap.size = w.heap.size + 3 := by simp
  generalize ((w.alloc (.cells #[.int .i64 q, .int .i64 kc, .slice A n c] 71)).alloc (.cells #[.int .i64 ai, .int .i64 ao, .int .i64 aw, .int .i64 at'] 65)).alloc (.cells #[.int .i64 0, .int .i64 0, .slice none 0 0] 71) = w1 at *
  refine (CL.out _ B1).mono ?_; rintro e w2 ⟨v, rfl, ho, b2⟩
  rw [hsz] at ho
  have hs2 := b2.size
  rw [hsz] at hs2
  have B2 := Lib.hid (B1.trans (b2.mono B1.size))
  have P0' := P0.step b2; have P1' := P1.step b2; have P2' := P2.step b2
  have k0 := P0'.cell 1; have k1 := P1'.cell 1; have k2 := P1'.cell 2; have k3 := P1'.cell 3; have k4 := P2'.froz; have k5 := P2'.cell 0; have k6 := P2'.cell 1; have k7 := P2'.cell 2
  have H0 := Lib.hid P0'; have H1 := Lib.hid P1'; have H2 := Lib.hid P2'
  simp only [List.getElem?_toArray, List.getElem?_cons_succ, List.getElem?_cons_zero] at k0 k1 k2 k3 k5 k6 k7
  obtain ⟨A', c', rfl, -, -⟩ := own_form ho
  have HO := Lib.hid ho
  have l2 := P2'.lt
  clear ho P0 P1 P2 P0' P1' P2' b2 B1 CL
  have hb : (ao != 0) = true := by simp [hz]
  clear hz
  have l3n : n + 1 ≤ 1000000 := by omega
  go_wp2_with (at_builtin; go_loud (refine wpList_app1 rfl _ _ rfl eltInt (w.heap.size + 3) (.slice A' n c') n cs rfl w2 HO.out #[.int .i64 ao] rfl w2.heap.size rfl rfl rfl (by simp [Value.oneCell']) (by omega) (by omega) (by omega) ?_; intro g cap w3 ho3 hg3 hb3 hl3; have hk := along_keep (kc := kc) (aw := aw) HO.out B2.out H1.out H0.out H2.out ho3 hg3; clear ho3 hg3; obtain ⟨j0, j1, j2, j3, j4, j5, j6, j7, l3, HD⟩ := hk))
  refine bodyPost_ret (v := .agg #[.int .i64 at', .int .i64 (kc + aw), .slice (some ⟨g, 0, none⟩) (n + 1) cap]) (by simp [results, Try.results29, go_sem, *]) rfl ⟨some ⟨g, 0, none⟩, cap, rfl, HD.out _ fun _ => rfl⟩
theorem along_any (q : Int) (k : KeyL) (A : Option Addr) (c : Nat) (a : ArcL) (w : World) (h : Rd w A k.out.length 1 (icells k.out)) (hl : k.out.length ≤ 10000) (h0 : 0 ≤ k.c) (h1 : k.c ≤ 1000000000000) (ha0 : 0 ≤ a.wt) (ha1 : a.wt ≤ 1000000000) :
    Calls Try.prog 29 #[markV q k A c, arcVal a] w fun e w' => ∃ A' c', e = .returned (markV a.to (extK k a) A' c') ∧ w'.ownsRow (w.heap.size + 3) 3 1 (.slice A' (extK k a).out.length c') (extK k a).out.length (icells (extK k a).out) ∧ Below w.heap.size w w' := by
  by_cases hz : a.out = 0
  · refine (along0 q k.c A k.out.length c k.out a.inn a.out a.wt a.to w rfl h hl h0 h1 ha0 ha1 (Lib.hid hz)).mono ?_
    rintro e w' ⟨A', c', rfl, ho, hb⟩
    have e1 : (extK k a).out = k.out := by unfold extK pre; rw [if_pos hz]; simp
    refine ⟨A', c', ?_, ?_, hb⟩
    · unfold markV; rw [e1]; rfl
    · rw [e1]; exact ho
  · refine (along1 q k.c A k.out.length c k.out a.inn a.out a.wt a.to w rfl h hl h0 h1 ha0 ha1 hz).mono ?_
    rintro e w' ⟨A', c', rfl, ho, hb⟩
    have e1 : (extK k a).out = k.out ++ [a.out] := by unfold extK pre; rw [if_neg hz]
    refine ⟨A', c', ?_, ?_, hb⟩
    · unfold markV; rw [e1, List.length_append]; rfl
    · rw [e1, List.length_append, show icells (k.out ++ [a.out]) = icells k.out ++ [.int .i64 a.out] by simp [icells]]; exact ho
end Go.Proofs.Ytikkmoleneioeaa
