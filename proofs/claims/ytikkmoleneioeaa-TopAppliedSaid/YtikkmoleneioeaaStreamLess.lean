/- stream.less: which of two marks is the better one. -/
/- slices.Clone at numbers; stream.along. -/
/- stream.marks: marks by state, in a map; marks.better. -/
import Derived.Test.YtikkmoleneioeaaStreamPlain
import Derived.Test.YtikkmoleneioeaaCmp
namespace Go.Proofs.Ytikkmoleneioeaa
open Go.RowKit

/-- slices.Compare at numbers -/
def lexG : List Int → List Int → Int
  | [], [] => 0
  | [], _ :: _ => -1
  | _ :: _, [] => 1
  | x :: xs, y :: ys => if cmp3 x y = 0 then lexG xs ys else cmp3 x y
theorem lexG_drop {xs ys : List Int} {k : Nat} (h : k < xs.length) (h' : k < ys.length) : lexG (xs.drop k) (ys.drop k) = if cmp3 xs[k] ys[k] = 0 then lexG (xs.drop (k + 1)) (ys.drop (k + 1)) else cmp3 xs[k] ys[k] := by
  rw [List.drop_eq_getElem_cons h, List.drop_eq_getElem_cons h']; rfl
theorem lexG_long {xs ys : List Int} {k : Nat} (h : k < xs.length) (h' : ys.length ≤ k) : lexG (xs.drop k) (ys.drop k) = 1 := by
  rw [List.drop_eq_getElem_cons h, List.drop_of_length_le h']; rfl
theorem lexG_end {xs ys : List Int} {k : Nat} (h : xs.length = k) (h' : k ≤ ys.length) : lexG (xs.drop k) (ys.drop k) = if k < ys.length then -1 else 0 := by
  rw [List.drop_of_length_le (by omega)]
  by_cases hl : k < ys.length
  · rw [if_pos hl, List.drop_eq_getElem_cons hl]; rfl
  · rw [if_neg hl, List.drop_of_length_le (by omega)]; rfl

set_option maxRecDepth 100000 in
set_option maxHeartbeats 4000000 in
theorem SlCompareG (A B : Option Addr) (n n' c c' : Nat) (xs ys : List Int) (w : World) (h : Rd w A n 1 (icells xs)) (h' : Rd w B n' 1 (icells ys)) (hl : n ≤ 1000000) (hl' : n' ≤ 1000000) :
    Calls Try.prog 50 #[.slice A n c, .slice B n' c'] w fun e w' => e = .returned (.int .i64 (lexG xs ys)) ∧ w = w' := by
  have HC := Lib.hid (rdi_cell h)
  have HL := Lib.hid (rdi_len h)
  have HC' := Lib.hid (rdi_cell h')
  have HL' := Lib.hid (rdi_len h')
  have rd := h.rdy
  have rd' := h'.rdy
  clear h h'
  go_enter Try.func50, Try.ntmps50
  go_wp2
  go_loop [11] (fun i => ∃ k : Nat, k ≤ n ∧ k ≤ n' ∧ i = .int .i64 k ∧ Hid (lexG (xs.drop k) (ys.drop k) = lexG xs ys)) (fun i => n - (intOf i).toNat)
  case atStart => exact ⟨0, by omega, by omega, rfl, Lib.hid rfl⟩
  case round =>
    obtain ⟨k, hk, hk', rfl, HF⟩ := hrel
    by_cases hln : k < n
    · have hlt : k < xs.length := by have := HL.out; omega
      have hcell := HC.out k hlt
      have q1 : (0 : Int) ≤ ↑k := by omega
      have q2 : (↑k : Int) < ↑n := by omega
      by_cases hln' : k < n'
      · have hlt' : k < ys.length := by have := HL'.out; omega
        have hcell' := HC'.out k hlt'
        have HD := Lib.hid (lexG_drop hlt hlt')
        have q3 : (↑k : Int) < ↑n' := by omega
        have q4 : ¬ (↑n' : Int) ≤ ↑k := by omega
        have hcon := Compare_any (xs[k]) (ys[k]) w
        generalize cmp3 xs[k] ys[k] = r at *
        generalize xs[k] = x at *
        generalize ys[k] = y at *
        have HCON := Lib.hid hcon
        clear hcon
        by_cases hz : r = 0
        · have hb : (r != 0) = false := by simp [hz]
          go_wp2_with (go_at_call 49; refine HCON.out.mono ?_; rintro e w' ⟨rfl, rfl⟩)
          go_round
          case rel => exact ⟨k + 1, by omega, by omega, by go_num, Lib.hid (by rw [← HF.out, HD.out, if_pos hz])⟩
          case measure => simp [intOf]; omega
        · have hb : (r != 0) = true := by simp [hz]
          have HE := Lib.hid (HF.out.symm.trans (HD.out.trans (if_neg hz)))
          go_wp2_with (go_at_call 49; refine HCON.out.mono ?_; rintro e w' ⟨rfl, rfl⟩)
          go_ret
          exact ⟨by rw [HE.out]; rfl, rfl⟩
      · have q4 : (↑n' : Int) ≤ ↑k := by omega
        have HE := Lib.hid (HF.out.symm.trans (lexG_long hlt (by have := HL'.out; omega)))
        go_wp2
        go_ret
        exact ⟨by rw [HE.out]; rfl, rfl⟩
    · have e : k = n := by omega
      subst e
      have HE := Lib.hid (HF.out.symm.trans (lexG_end HL.out.symm (by have := HL'.out; omega)))
      have hy := HL'.out
      by_cases hs : k < ys.length
      · have q4 : (↑k : Int) < ↑n' := by omega
        have HE2 := Lib.hid (HE.out.trans (if_pos hs))
        clear hy
        go_wp2
        go_ret
        exact ⟨by rw [HE2.out]; rfl, rfl⟩
      · have q4 : ¬ (↑k : Int) < ↑n' := by omega
        have HE2 := Lib.hid (HE.out.trans (if_neg hs))
        clear hy
        go_wp2
        go_ret
        exact ⟨by rw [HE2.out]; rfl, rfl⟩
theorem foldI_mono : ∀ (xs ys : List Int), xs.length = ys.length → GoodW xs → GoodW ys → ∀ a b : Int, a < b → xs.foldl (fun s a => s * 1001 + a) a < ys.foldl (fun s a => s * 1001 + a) b
  | [], [], _, _, _, _, _, h => h
  | [], _ :: _, h, _, _, _, _, _ => by simp at h
  | _ :: _, [], h, _, _, _, _, _ => by simp at h
  | x :: xs, y :: ys, h, hx, hy, a, b, hab => by
    have h1 := hx x (by simp); have h2 := hy y (by simp)
    exact foldI_mono xs ys (by simpa using h) (fun z hz => hx z (by simp [hz])) (fun z hz => hy z (by simp [hz])) _ _ (by show a * 1001 + x < b * 1001 + y; omega)
/-- at words of one length it tells which code is lower -/
theorem lexG_code : ∀ (xs ys : List Int), xs.length = ys.length → GoodW xs → GoodW ys → ∀ a : Int, (lexG xs ys < 0 ↔ xs.foldl (fun s a => s * 1001 + a) a < ys.foldl (fun s a => s * 1001 + a) a)
  | [], [], _, _, _, a => by simp [lexG]
  | [], _ :: _, h, _, _, _ => by simp at h
  | _ :: _, [], h, _, _, _ => by simp at h
  | x :: xs, y :: ys, h, hx, hy, a => by
    have hl : xs.length = ys.length := by simpa using h
    have gx : GoodW xs := fun z hz => hx z (by simp [hz])
    have gy : GoodW ys := fun z hz => hy z (by simp [hz])
    have ih := lexG_code xs ys hl gx gy
    simp only [List.foldl_cons, lexG]
    by_cases e : x = y
    · subst e
      rw [show cmp3 x x = 0 by unfold cmp3; rw [if_neg (by omega), if_neg (by omega)], if_pos rfl]
      exact ih (a * 1001 + x)
    · by_cases hlt : x < y
      · rw [show cmp3 x y = -1 by unfold cmp3; rw [if_pos hlt], if_neg (by omega)]
        have := foldI_mono xs ys hl gx gy (a * 1001 + x) (a * 1001 + y) (by omega)
        constructor <;> intro _ <;> omega
      · rw [show cmp3 x y = 1 by unfold cmp3; rw [if_neg hlt, if_pos (by omega)], if_neg (by omega)]
        have := foldI_mono ys xs hl.symm gy gx (a * 1001 + y) (a * 1001 + x) (by omega)
        constructor <;> intro _ <;> omega
theorem less_klt (k k' : KeyL) (g : GoodW k.out) (g' : GoodW k'.out) : decide (firstOf [cmp3 k.c k'.c, cmp3 (k.out.length : Int) (k'.out.length : Int), lexG k.out k'.out] < 0) = decide (klt k k') := by
  apply decide_eq_decide.2
  unfold klt
  simp only [firstOf]
  by_cases h1 : k.c < k'.c
  · rw [show cmp3 k.c k'.c = -1 by unfold cmp3; rw [if_pos h1], if_neg (by omega)]
    constructor <;> intro _ <;> omega
  · by_cases h2 : k'.c < k.c
    · rw [show cmp3 k.c k'.c = 1 by unfold cmp3; rw [if_neg h1, if_pos h2], if_neg (by omega)]
      constructor <;> intro _ <;> omega
    · rw [show cmp3 k.c k'.c = 0 by unfold cmp3; rw [if_neg h1, if_neg h2], if_pos rfl]
      by_cases h3 : k.out.length < k'.out.length
      · rw [show cmp3 (k.out.length : Int) (k'.out.length : Int) = -1 by unfold cmp3; rw [if_pos (by omega)], if_neg (by omega)]
        constructor <;> intro _ <;> omega
      · by_cases h4 : k'.out.length < k.out.length
        · rw [show cmp3 (k.out.length : Int) (k'.out.length : Int) = 1 by unfold cmp3; rw [if_neg (by omega), if_pos (by omega)], if_neg (by omega)]
          constructor <;> intro _ <;> omega
        · rw [show cmp3 (k.out.length : Int) (k'.out.length : Int) = 0 by unfold cmp3; rw [if_neg (by omega), if_neg (by omega)], if_pos rfl]
          have := lexG_code k.out k'.out (by omega) g g' 0
          unfold codeI
          by_cases h5 : lexG k.out k'.out = 0
          · rw [if_pos h5]
            constructor
            · intro _; omega
            · intro h
              have := this.2 (by omega)
              omega
          · rw [if_neg h5]
            constructor
            · intro h; have := this.1 h; omega
            · intro h; exact this.2 (by omega)
/-- a mark -/
abbrev markV (q : Int) (k : KeyL) (A : Option Addr) (c : Nat) : Value := .agg #[.int .i64 q, .int .i64 k.c, .slice A k.out.length c]
theorem rd_three (w : World) (G : Nat) (hG : w.heap.size = G) (x y z : Int) (t : TypeId) : Rd (w.alloc (.cells #[.int .i64 x, .int .i64 y, .int .i64 z] t)) (some ⟨G, 0, none⟩) 3 1 (icells [x, y, z]) := by
  subst hG
  refine ⟨rfl, rdy_some _ _ _, fun j hj => ?_⟩
  simp only [blk_some, ofs_some, Nat.zero_add]
  match j, hj with
  | 0, _ => simp [go_sem]
  | 1, _ => simp [go_sem]
  | 2, _ => simp [go_sem]

set_option maxRecDepth 100000 in
set_option maxHeartbeats 4000000 in
theorem less_any (q q' : Int) (k k' : KeyL) (A B : Option Addr) (c c' : Nat) (w : World) (h : Rd w A k.out.length 1 (icells k.out)) (h' : Rd w B k'.out.length 1 (icells k'.out)) (g : GoodW k.out) (g' : GoodW k'.out) (hl : k.out.length ≤ 1000000) (hl' : k'.out.length ≤ 1000000) :
    Calls Try.prog 31 #[markV q k A c, markV q' k' B c'] w fun e w' => e = .returned (.bool (decide (klt k k'))) ∧ Below w.heap.size w w' := by
  have hO := less_klt k k' g g'
  obtain ⟨kc, ko⟩ := k
  obtain ⟨kc', ko'⟩ := k'
  simp only [markV] at *
  have CM := Lib.hid (fun W (hb : Below w.heap.size w W) => SlCompareG A B ko.length ko'.length c c' ko ko' W (h.below hb rfl) (h'.below hb rfl) hl hl')
  clear h h' g g'
  generalize ko.length = n at *
  generalize ko'.length = n' at *
  generalize lexG ko ko' = lx at *
  rw [← hO]
  clear hO
  have B1 : Below w.heap.size w ((w.alloc (.cells #[.int .i64 q, .int .i64 kc, .slice A n c] 71)).alloc (.cells #[.int .i64 q', .int .i64 kc', .slice B n' c'] 71)) := (by repeat' (first | exact Below.refl _ _ | assumption | refine Below.drew ?_ | refine Below.alloc ?_ (by first | omega | (simp; done) | (simp; omega)) _ | refine Below.setCell ?_ (by first | omega | (simp; done) | (simp; omega)) _))
  have e1 : ((w.alloc (.cells #[.int .i64 q, .int .i64 kc, .slice A n c] 71)).alloc (.cells #[.int .i64 q', .int .i64 kc', .slice B n' c'] 71)).cell? ⟨w.heap.size, 1, none⟩ = some (.int .i64 kc) := by simp [go_sem]
  have e2 : ((w.alloc (.cells #[.int .i64 q, .int .i64 kc, .slice A n c] 71)).alloc (.cells #[.int .i64 q', .int .i64 kc', .slice B n' c'] 71)).cell? ⟨w.heap.size, 2, none⟩ = some (.slice A n c) := by simp [go_sem]
  have e3 : ((w.alloc (.cells #[.int .i64 q, .int .i64 kc, .slice A n c] 71)).alloc (.cells #[.int .i64 q', .int .i64 kc', .slice B n' c'] 71)).cell? ⟨w.heap.size + 1, 1, none⟩ = some (.int .i64 kc') := by simp [go_sem]
  have e4 : ((w.alloc (.cells #[.int .i64 q, .int .i64 kc, .slice A n c] 71)).alloc (.cells #[.int .i64 q', .int .i64 kc', .slice B n' c'] 71)).cell? ⟨w.heap.size + 1, 2, none⟩ = some (.slice B n' c') := by simp [go_sem]
  go_enter Try.func31, Try.ntmps31
  go_wp2_with fail
  generalize (w.alloc (.cells #[.int .i64 q, .int .i64 kc, .slice A n c] 71)).alloc (.cells #[.int .i64 q', .int .i64 kc', .slice B n' c'] 71) = w1 at *
  have HS : Hid (∀ W, Below w1.heap.size w1 W → Below w.heap.size w W ∧ W.cell? ⟨w.heap.size, 1, none⟩ = some (.int .i64 kc) ∧ W.cell? ⟨w.heap.size, 2, none⟩ = some (.slice A n c) ∧ W.cell? ⟨w.heap.size + 1, 1, none⟩ = some (.int .i64 kc') ∧ W.cell? ⟨w.heap.size + 1, 2, none⟩ = some (.slice B n' c')) :=
    Lib.hid fun W h => ⟨B1.trans (h.mono B1.size), cell_keep h (Nat.le_refl _) e1, cell_keep h (Nat.le_refl _) e2, cell_keep h (Nat.le_refl _) e3, cell_keep h (Nat.le_refl _) e4⟩
  clear e1 e2 e3 e4
  go_region_held3 (fun W => Below w.heap.size w W ∧ W.cell? ⟨w.heap.size, 1, none⟩ = some (.int .i64 kc) ∧ W.cell? ⟨w.heap.size, 2, none⟩ = some (.slice A n c) ∧ W.cell? ⟨w.heap.size + 1, 1, none⟩ = some (.int .i64 kc') ∧ W.cell? ⟨w.heap.size + 1, 2, none⟩ = some (.slice B n' c')) (exact HS.out _ (by repeat' (first | exact Below.refl _ _ | assumption | refine Below.drew ?_ | refine Below.alloc ?_ (by first | omega | (simp; done)) _)))
    (first | (go_at_call 49; refine (Compare_any _ _ _).mono ?_; rintro e w' ⟨rfl, rfl⟩) | (go_at_call 50; go_split_ands; refine (CM.out _ (by assumption)).mono ?_; rintro e w' ⟨rfl, rfl⟩) | (go_at_call 48; refine (Or_any _ 3 3 [cmp3 kc kc', cmp3 (n : Int) (n' : Int), lx] _ (by first | exact rd_three _ _ (by simp) _ _ _ _ | exact (rd_three _ _ (by simp) _ _ _ _).drew') (by omega)).mono ?_; rintro e w' ⟨rfl, rfl⟩))
  all_goals
    go_wp2_with fail
    go_ret
    exact ⟨rfl, B1.trans (Below.mono (by repeat' (first | exact Below.refl _ _ | assumption | refine Below.drew ?_ | refine Below.alloc ?_ (by first | omega | (simp; done)) _) : Below w1.heap.size w1 _) B1.size)⟩
end Go.Proofs.Ytikkmoleneioeaa

namespace Go.Proofs.Ytikkmoleneioeaa
open Go.RowKit

theorem own_madeI (w : World) (e : TypeId) (B : Nat) (hB : B ≤ w.heap.size) (size : Nat) : (w.alloc (.cells #[] e)).ownsRow B e size (.slice (some ⟨w.heap.size, 0, none⟩) 0 0) 0 [] :=
  ⟨by simp, .inr ⟨w.heap.size, 0, #[], rfl, hB, heap_alloc_new w _, Nat.le_refl _, Nat.zero_le _, by simp, by simp⟩⟩
theorem icells_one' (l : List Int) : ∀ u ∈ icells l, u.oneCell' = true := by
  intro u hu
  unfold icells at hu
  obtain ⟨a, -, rfl⟩ := List.mem_map.1 hu
  rfl
set_option maxRecDepth 100000 in
set_option maxHeartbeats 1000000 in
theorem clone_ints (A : Option Addr) (l : List Int) (c : Nat) (W : World) (h : Rd W A l.length 1 (icells l)) (hl : l.length ≤ 100000) :
    Calls Try.prog 28 #[.slice A l.length c] W fun e w' => ∃ v', e = .returned v' ∧ w'.ownsRow W.heap.size 3 1 v' l.length (icells l) ∧ Below W.heap.size W w' := by
  have q22 : ∀ (w : World) (a : Option Addr) (n c n' c' : Nat), (binOp .eql 25 (.slice a n c) (.slice none n' c')).run Try.prog w = .ok (.bool a.isNone) w := fun w a n c n' c' => Lib.run_eql_slice_nil w _ _ a n c n' c' Try.underlying25
  have HR := Lib.hid h
  have H1 := Lib.hid (icells_one' l)
  have HR0 := Lib.hid h.rdy
  cases A with
  | none =>
    have e : l = [] := List.eq_nil_of_length_eq_zero (by
      rcases Nat.eq_zero_or_pos l.length with h0 | h0
      · exact h0
      · have := h.rdy h0; cases this)
    subst e
    clear h
    go_enter Try.func28, Try.ntmps28
    go_wp2
    go_ret
    exact ⟨_, rfl, ⟨rfl, .inl ⟨rfl, rfl⟩⟩, Below.refl _ _⟩
  | some a =>
    clear h
    have HLN : Hid (∀ (W' : World) v', W'.ownsRow W.heap.size 3 1 v' (0 + l.length) ([] ++ icells l) → W'.ownsRow W.heap.size 3 1 v' l.length (icells l)) := Lib.hid fun W' v' ho => by
      rw [Nat.zero_add, List.nil_append] at ho; exact ho
    generalize hn : l.length = n at *
    have HN := Lib.hid hn
    generalize hcs : icells l = cs at *
    clear hcs
    go_enter Try.func28, Try.ntmps28
    go_wp2_with (at_builtin; refine wpList_appR _ rfl _ _ rfl eltInt W.heap.size _ 0 [] rfl (own_madeI W _ _ (Nat.le_refl _) _) (some a) n c cs rfl (HR.out.below ((Below.refl _ _).alloc (Nat.le_refl _) _) rfl) H1.out (by omega) (by omega) (by simp) ?_; intro v' w' ho hg hb)
    go_ret
    exact ⟨_, rfl, HLN.out _ _ ho, ((Below.refl _ _).alloc (Nat.le_refl _) _).grown hg (by simp) (by intro k hk; have hk2 : some W.heap.size = some k := hk; injection hk2 with hk3; omega)⟩

theorem along_keep {w w2 w3 : World} {kc aw ai ao at' : Int} {A' : Option Addr} {n c' g cap : Nat} {cs ds : List Value} (HO : w2.ownsRow (w.heap.size + 3) 3 1 (.slice A' n c') n cs) (B2 : Below w.heap.size w w2) (H1 : Blk w2 (w.heap.size + 1) #[.int .i64 ai, .int .i64 ao, .int .i64 aw, .int .i64 at'] 65)
    {q : Int} {A0 : Option Addr} {n0 c0 : Nat} (H0 : Blk w2 w.heap.size #[.int .i64 q, .int .i64 kc, .slice A0 n0 c0] 71) (H2 : Blk w2 (w.heap.size + 1 + 1) #[.int .i64 0, .int .i64 0, .slice none 0 0] 71) (ho3 : w3.ownsRow (w.heap.size + 3) 3 1 (.slice (some ⟨g, 0, none⟩) (n + 1) cap) (n + 1) ds) (hg3 : w2.grownBy w3 (Value.slice A' n c').ownBlock) :
    w3.cell? ⟨w.heap.size, 1, none⟩ = some (.int .i64 kc) ∧ w3.cell? ⟨w.heap.size + 1, 1, none⟩ = some (.int .i64 ao) ∧ w3.cell? ⟨w.heap.size + 1, 2, none⟩ = some (.int .i64 aw) ∧ w3.cell? ⟨w.heap.size + 1, 3, none⟩ = some (.int .i64 at') ∧ (∀ o, w3.frozen? ⟨w.heap.size + 1 + 1, o, none⟩ = false) ∧ w3.cell? ⟨w.heap.size + 1 + 1, 0, none⟩ = some (.int .i64 0) ∧ w3.cell? ⟨w.heap.size + 1 + 1, 1, none⟩ = some (.int .i64 0) ∧ w3.cell? ⟨w.heap.size + 1 + 1, 2, none⟩ = some (.slice none 0 0) ∧ w.heap.size + 1 + 1 < w3.heap.size ∧
    Hid (∀ W, (∀ _ : Value, W = ((w3.setCell ⟨w.heap.size + 1 + 1, 0, none⟩ (.int .i64 at')).setCell ⟨w.heap.size + 1 + 1, 1, none⟩ (.int .i64 (kc + aw))).setCell ⟨w.heap.size + 1 + 1, 2, none⟩ (.slice (some ⟨g, 0, none⟩) (n + 1) cap)) → W.ownsRow (w.heap.size + 3) 3 1 (.slice (some ⟨g, 0, none⟩) (n + 1) cap) (n + 1) ds ∧ Below w.heap.size w W) := by
  have hne : ∀ b, b < w.heap.size + 3 → some b ≠ (Value.slice A' n c').ownBlock := fun b hb e => by have := (HO.lt _ e.symm).1; omega
  have Q1 := H1.grown hg3 (hne _ (by omega)); have Q2 := H2.grown hg3 (hne _ (by omega))
  have Q0 := H0.grown hg3 (hne _ (by omega))
  refine ⟨Q0.cell 1, Q1.cell 1, Q1.cell 2, Q1.cell 3, Q2.froz, Q2.cell 0, Q2.cell 1, Q2.cell 2, Q2.lt, Lib.hid fun W hW => ?_⟩
  rw [hW (.bool true)]
  have hq : (Value.slice (some ⟨g, 0, none⟩) (n + 1) cap).ownBlock ≠ some (w.heap.size + 1 + 1) := fun e => by have := (ho3.lt _ e).1; omega
  exact ⟨own_setCell (own_setCell (own_setCell ho3 hq _) hq _) hq _, (((B2.grown hg3 B2.size (fun k hk => by have := (HO.lt _ hk).1; omega)).setCell (by simp; omega) _).setCell (by simp; omega) _).setCell (by simp; omega) _⟩
set_option maxRecDepth 100000 in
set_option maxHeartbeats 4000000 in
theorem along0 (q kc : Int) (A : Option Addr) (n c : Nat) (ks : List Int) (ai ao aw at' : Int) (w : World) (hn : ks.length = n) (h : Rd w A n 1 (icells ks)) (hl : n ≤ 10000) (h0 : 0 ≤ kc) (h1 : kc ≤ 1000000000000) (ha0 : 0 ≤ aw) (ha1 : aw ≤ 1000000000) (hz : Hid (ao = 0)) :
    Calls Try.prog 29 #[.agg #[.int .i64 q, .int .i64 kc, .slice A n c], .agg #[.int .i64 ai, .int .i64 ao, .int .i64 aw, .int .i64 at']] w fun e w' => ∃ A' c', e = .returned (.agg #[.int .i64 at', .int .i64 (kc + aw), .slice A' n c']) ∧ w'.ownsRow (w.heap.size + 3) 3 1 (.slice A' n c') n (icells ks) ∧ Below w.heap.size w w' := by
  have CL : Hid (∀ W, Below w.heap.size w W → Calls Try.prog 28 #[.slice A n c] W fun e w' => ∃ v', e = .returned v' ∧ w'.ownsRow W.heap.size 3 1 v' n (icells ks) ∧ Below W.heap.size W w') := Lib.hid (fun W (hb : Below w.heap.size w W) => by
    have := clone_ints A ks c W (by rw [hn]; exact h.below hb rfl) (by omega)
    rwa [hn] at this)
  have w0 : wrap64 (kc + aw) = kc + aw := by unfold wrap64; omega
  clear h hn
  generalize icells ks = cs at *
  have B1 : Below w.heap.size w (((w.alloc (.cells #[.int .i64 q, .int .i64 kc, .slice A n c] 71)).alloc (.cells #[.int .i64 ai, .int .i64 ao, .int .i64 aw, .int .i64 at'] 65)).alloc (.cells #[.int .i64 0, .int .i64 0, .slice none 0 0] 71)) := (by repeat' (first | exact Below.refl _ _ | assumption | refine Below.drew ?_ | refine Below.alloc ?_ (by first | omega | (simp; done) | (simp; omega)) _ | refine Below.setCell ?_ (by first | omega | (simp; done) | (simp; omega)) _))
  have P0 : Blk (((w.alloc (.cells #[.int .i64 q, .int .i64 kc, .slice A n c] 71)).alloc (.cells #[.int .i64 ai, .int .i64 ao, .int .i64 aw, .int .i64 at'] 65)).alloc (.cells #[.int .i64 0, .int .i64 0, .slice none 0 0] 71)) w.heap.size #[.int .i64 q, .int .i64 kc, .slice A n c] 71 := ((Blk.new _ _ _).alloc _).alloc _
  have P1 : Blk (((w.alloc (.cells #[.int .i64 q, .int .i64 kc, .slice A n c] 71)).alloc (.cells #[.int .i64 ai, .int .i64 ao, .int .i64 aw, .int .i64 at'] 65)).alloc (.cells #[.int .i64 0, .int .i64 0, .slice none 0 0] 71)) (w.heap.size + 1) #[.int .i64 ai, .int .i64 ao, .int .i64 aw, .int .i64 at'] 65 := (Blk.new' (by simp)).alloc _
  have P2 : Blk (((w.alloc (.cells #[.int .i64 q, .int .i64 kc, .slice A n c] 71)).alloc (.cells #[.int .i64 ai, .int .i64 ao, .int .i64 aw, .int .i64 at'] 65)).alloc (.cells #[.int .i64 0, .int .i64 0, .slice none 0 0] 71)) (w.heap.size + 1 + 1) #[.int .i64 0, .int .i64 0, .slice none 0 0] 71 := Blk.new' (by simp)
  go_enter Try.func29, Try.ntmps29
  go_wp2_with fail
  have hsz : (((w.alloc (.cells #[.int .i64 q, .int .i64 kc, .slice A n c] 71)).alloc (.cells #[.int .i64 ai, .int .i64 ao, .int .i64 aw, .int .i64 at'] 65)).alloc (.cells #[.int .i64 0, .int .i64 0, .slice none 0 0] 71)).heap.size = w.heap.size + 3 := by simp
  generalize ((w.alloc (.cells #[.int .i64 q, .int .i64 kc, .slice A n c] 71)).alloc (.cells #[.int .i64 ai, .int .i64 ao, .int .i64 aw, .int .i64 at'] 65)).alloc (.cells #[.int .i64 0, .int .i64 0, .slice none 0 0] 71) = w1 at *
  refine (CL.out _ B1).mono ?_; rintro e w2 ⟨v, rfl, ho, b2⟩
  rw [hsz] at ho
  have hs2 := b2.size
  rw [hsz] at hs2
  have B2 := Lib.hid (B1.trans (b2.mono B1.size))
  have P0' := P0.step b2; have P1' := P1.step b2; have P2' := P2.step b2
  have k0 := P0'.cell 1; have k1 := P1'.cell 1; have k2 := P1'.cell 2; have k3 := P1'.cell 3; have k4 := P2'.froz; have k5 := P2'.cell 0; have k6 := P2'.cell 1; have k7 := P2'.cell 2
  have H0 := Lib.hid P0'; have H1 := Lib.hid P1'; have H2 := Lib.hid P2'
  simp only [List.getElem?_toArray, List.getElem?_cons_succ, List.getElem?_cons_zero] at k0 k1 k2 k3 k5 k6 k7
  obtain ⟨A', c', rfl, -, -⟩ := own_form ho
  have HO := Lib.hid ho
  have l2 := P2'.lt
  clear ho P0 P1 P2 P0' P1' P2' b2 B1 CL
  have hb : (ao != 0) = false := by simp [hz.out]
  clear hz
  have HD : Hid (∀ W, (∀ x : Value, W = ((w2.setCell ⟨w.heap.size + 1 + 1, 0, none⟩ (.int .i64 at')).setCell ⟨w.heap.size + 1 + 1, 1, none⟩ (.int .i64 (kc + aw))).setCell ⟨w.heap.size + 1 + 1, 2, none⟩ (.slice A' n c')) → W.ownsRow (w.heap.size + 3) 3 1 (.slice A' n c') n cs ∧ Below w.heap.size w W) := Lib.hid fun W hW => by
    rw [hW (.bool true)]
    have hne : (Value.slice A' n c').ownBlock ≠ some (w.heap.size + 1 + 1) := fun e => by have := (HO.out.lt _ e).1; omega
    exact ⟨own_setCell (own_setCell (own_setCell HO.out hne _) hne _) hne _, ((B2.out.setCell (by simp; omega) _).setCell (by simp; omega) _).setCell (by simp; omega) _⟩
  go_wp2_with fail
  refine bodyPost_ret (v := .agg #[.int .i64 at', .int .i64 (kc + aw), .slice A' n c']) (by simp [results, Try.results29, go_sem, *]) rfl ⟨A', c', rfl, HD.out _ fun _ => rfl⟩
set_option maxRecDepth 100000 in
set_option maxHeartbeats 4000000 in
theorem along1 (q kc : Int) (A : Option Addr) (n c : Nat) (ks : List Int) (ai ao aw at' : Int) (w : World) (hn : ks.length = n) (h : Rd w A n 1 (icells ks)) (hl : n ≤ 10000) (h0 : 0 ≤ kc) (h1 : kc ≤ 1000000000000) (ha0 : 0 ≤ aw) (ha1 : aw ≤ 1000000000) (hz : ao ≠ 0) :
    Calls Try.prog 29 #[.agg #[.int .i64 q, .int .i64 kc, .slice A n c], .agg #[.int .i64 ai, .int .i64 ao, .int .i64 aw, .int .i64 at']] w fun e w' => ∃ A' c', e = .returned (.agg #[.int .i64 at', .int .i64 (kc + aw), .slice A' (n + 1) c']) ∧ w'.ownsRow (w.heap.size + 3) 3 1 (.slice A' (n + 1) c') (n + 1) (icells ks ++ [.int .i64 ao]) ∧ Below w.heap.size w w' := by
  have CL : Hid (∀ W, Below w.heap.size w W → Calls Try.prog 28 #[.slice A n c] W fun e w' => ∃ v', e = .returned v' ∧ w'.ownsRow W.heap.size 3 1 v' n (icells ks) ∧ Below W.heap.size W w') := Lib.hid (fun W (hb : Below w.heap.size w W) => by
    have := clone_ints A ks c W (by rw [hn]; exact h.below hb rfl) (by omega)
    rwa [hn] at this)
  have w0 : wrap64 (kc + aw) = kc + aw := by unfold wrap64; omega
  clear h hn
  generalize icells ks = cs at *
  have B1 : Below w.heap.size w (((w.alloc (.cells #[.int .i64 q, .int .i64 kc, .slice A n c] 71)).alloc (.cells #[.int .i64 ai, .int .i64 ao, .int .i64 aw, .int .i64 at'] 65)).alloc (.cells #[.int .i64 0, .int .i64 0, .slice none 0 0] 71)) := (by repeat' (first | exact Below.refl _ _ | assumption | refine Below.drew ?_ | refine Below.alloc ?_ (by first | omega | (simp; done) | (simp; omega)) _ | refine Below.setCell ?_ (by first | omega | (simp; done) | (simp; omega)) _))
  have P0 : Blk (((w.alloc (.cells #[.int .i64 q, .int .i64 kc, .slice A n c] 71)).alloc (.cells #[.int .i64 ai, .int .i64 ao, .int .i64 aw, .int .i64 at'] 65)).alloc (.cells #[.int .i64 0, .int .i64 0, .slice none 0 0] 71)) w.heap.size #[.int .i64 q, .int .i64 kc, .slice A n c] 71 := ((Blk.new _ _ _).alloc _).alloc _
  have P1 : Blk (((w.alloc (.cells #[.int .i64 q, .int .i64 kc, .slice A n c] 71)).alloc (.cells #[.int .i64 ai, .int .i64 ao, .int .i64 aw, .int .i64 at'] 65)).alloc (.cells #[.int .i64 0, .int .i64 0, .slice none 0 0] 71)) (w.heap.size + 1) #[.int .i64 ai, .int .i64 ao, .int .i64 aw, .int .i64 at'] 65 := (Blk.new' (by simp)).alloc _
  have P2 : Blk (((w.alloc (.cells #[.int .i64 q, .int .i64 kc, .slice A n c] 71)).alloc (.cells #[.int .i64 ai, .int .i64 ao, .int .i64 aw, .int .i64 at'] 65)).alloc (.cells #[.int .i64 0, .int .i64 0, .slice none 0 0] 71)) (w.heap.size + 1 + 1) #[.int .i64 0, .int .i64 0, .slice none 0 0] 71 := Blk.new' (by simp)
  go_enter Try.func29, Try.ntmps29
  go_wp2_with fail
  have hsz : (((w.alloc (.cells #[.int .i64 q, .int .i64 kc, .slice A n c] 71)).alloc (.cells #[.int .i64 ai, .int .i64 ao, .int .i64 aw, .int .i64 at'] 65)).alloc (.cells #[.int .i64 0, .int .i64 0, .slice none 0 0] 71)).heap.size = w.heap.size + 3 := by simp
  generalize ((w.alloc (.cells #[.int .i64 q, .int .i64 kc, .slice A n c] 71)).alloc (.cells #[.int .i64 ai, .int .i64 ao, .int .i64 aw, .int .i64 at'] 65)).alloc (.cells #[.int .i64 0, .int .i64 0, .slice none 0 0] 71) = w1 at *
  refine (CL.out _ B1).mono ?_; rintro e w2 ⟨v, rfl, ho, b2⟩
  rw [hsz] at ho
  have hs2 := b2.size
  rw [hsz] at hs2
  have B2 := Lib.hid (B1.trans (b2.mono B1.size))
  have P0' := P0.step b2; have P1' := P1.step b2; have P2' := P2.step b2
  have k0 := P0'.cell 1; have k1 := P1'.cell 1; have k2 := P1'.cell 2; have k3 := P1'.cell 3; have k4 := P2'.froz; have k5 := P2'.cell 0; have k6 := P2'.cell 1; have k7 := P2'.cell 2
  have H0 := Lib.hid P0'; have H1 := Lib.hid P1'; have H2 := Lib.hid P2'
  simp only [List.getElem?_toArray, List.getElem?_cons_succ, List.getElem?_cons_zero] at k0 k1 k2 k3 k5 k6 k7
  obtain ⟨A', c', rfl, -, -⟩ := own_form ho
  have HO := Lib.hid ho
  have l2 := P2'.lt
  clear ho P0 P1 P2 P0' P1' P2' b2 B1 CL
  have hb : (ao != 0) = true := by simp [hz]
  clear hz
  have l3n : n + 1 ≤ 1000000 := by omega
  go_wp2_with (at_builtin; go_loud (refine wpList_app1 rfl _ _ rfl eltInt (w.heap.size + 3) (.slice A' n c') n cs rfl w2 HO.out #[.int .i64 ao] rfl w2.heap.size rfl rfl rfl (by simp [Value.oneCell']) (by omega) (by omega) (by omega) ?_; intro g cap w3 ho3 hg3 hb3 hl3; have hk := along_keep (kc := kc) (aw := aw) HO.out B2.out H1.out H0.out H2.out ho3 hg3; clear ho3 hg3; obtain ⟨j0, j1, j2, j3, j4, j5, j6, j7, l3, HD⟩ := hk))
  refine bodyPost_ret (v := .agg #[.int .i64 at', .int .i64 (kc + aw), .slice (some ⟨g, 0, none⟩) (n + 1) cap]) (by simp [results, Try.results29, go_sem, *]) rfl ⟨some ⟨g, 0, none⟩, cap, rfl, HD.out _ fun _ => rfl⟩
theorem along_any (q : Int) (k : KeyL) (A : Option Addr) (c : Nat) (a : ArcL) (w : World) (h : Rd w A k.out.length 1 (icells k.out)) (hl : k.out.length ≤ 10000) (h0 : 0 ≤ k.c) (h1 : k.c ≤ 1000000000000) (ha0 : 0 ≤ a.wt) (ha1 : a.wt ≤ 1000000000) :
    Calls Try.prog 29 #[markV q k A c, arcVal a] w fun e w' => ∃ A' c', e = .returned (markV a.to (extK k a) A' c') ∧ w'.ownsRow (w.heap.size + 3) 3 1 (.slice A' (extK k a).out.length c') (extK k a).out.length (icells (extK k a).out) ∧ Below w.heap.size w w' := by
  by_cases hz : a.out = 0
  · refine (along0 q k.c A k.out.length c k.out a.inn a.out a.wt a.to w rfl h hl h0 h1 ha0 ha1 (Lib.hid hz)).mono ?_
    rintro e w' ⟨A', c', rfl, ho, hb⟩
    have e1 : (extK k a).out = k.out := by unfold extK pre; rw [if_pos hz]; simp
    refine ⟨A', c', ?_, ?_, hb⟩
    · unfold markV; rw [e1]; rfl
    · rw [e1]; exact ho
  · refine (along1 q k.c A k.out.length c k.out a.inn a.out a.wt a.to w rfl h hl h0 h1 ha0 ha1 hz).mono ?_
    rintro e w' ⟨A', c', rfl, ho, hb⟩
    have e1 : (extK k a).out = k.out ++ [a.out] := by unfold extK pre; rw [if_neg hz]
    refine ⟨A', c', ?_, ?_, hb⟩
    · unfold markV; rw [e1, List.length_append]; rfl
    · rw [e1, List.length_append, show icells (k.out ++ [a.out]) = icells k.out ++ [.int .i64 a.out] by simp [icells]]; exact ho
end Go.Proofs.Ytikkmoleneioeaa

namespace Go.Proofs.Ytikkmoleneioeaa
open Go.RowKit
open Go.ChangeMaps (setBlock)

theorem keyOkS : KeyOk Try.prog 3 intV where
  chk e k w := by cases e <;> kernel_rfl
  eq a b w := by
    show (Op.equalIn 10000 _ _ _).run _ w = _
    rw [show (10000 : Nat) = 9999 + 1 from rfl, Op.equalIn]
    simp only [Sem.run_bind, run_underlying Try.underlying3, Result.andThen_ok, if_true, Sem.run_pure]
    congr 1
  stays a := by simp [Instr.sameBits]
  now a b := ⟨_, Try.underlying3, .inr (by simp only [Instr.sameNow, if_true]; congr 1)⟩
/-- a mark lies in the map; what it wrote does not lie in block X -/
def MarkIn (w : World) (q : Nat) (X : Nat → Prop) (o : Option KeyL) (v : Option Value) : Prop := match o with
  | none => v = none
  | some k => ∃ A c, v = some (markV q k A c) ∧ Rd w A k.out.length 1 (icells k.out) ∧ (k.out = [] ∨ ¬ X (blk A))
def TabX (w : World) (b : Nat) (L : TabK) (X : Nat → Prop) : Prop := ∃ lst : List (Int × Value), MapB w b intV id lst ∧ ∀ q : Nat, MarkIn w q X (L q) (assoc lst (q : Int))
theorem Rd.moved {w w' : World} {A : Option Addr} {l : List Int} (h : Rd w A l.length 1 (icells l)) (hk : l ≠ [] → w'.heap[blk A]? = w.heap[blk A]?) : Rd w' A l.length 1 (icells l) := by
  refine ⟨h.len, h.rdy, fun j hj => ?_⟩
  have hne : l ≠ [] := fun e => by subst e; simp [icells] at hj
  have := h.cell j hj
  unfold World.cell? at this ⊢
  simp only at this ⊢
  rw [hk hne]; exact this
def CellsB (w : World) (g : Nat) : Prop := ∃ cs t f, w.heap[g]? = some (.cells cs t f)
theorem rd_lt {w : World} {A : Option Addr} {l : List Int} (h : Rd w A l.length 1 (icells l)) (hne : l ≠ []) : blk A < w.heap.size ∧ CellsB w (blk A) := by
  have hl : 0 < (icells l).length := by
    cases l with
    | nil => exact absurd rfl hne
    | cons a l => simp [icells]
  have hc := h.cell 0 hl
  refine ⟨World.block_lt_of_cell? _ _ hc, ?_⟩
  unfold World.cell? at hc
  simp only at hc
  cases ho : w.heap[blk A]? with
  | none => rw [ho] at hc; simp at hc
  | some o =>
    rw [ho] at hc
    cases o with
    | cells cs t f => exact ⟨cs, t, f, ho⟩
    | _ => simp at hc
theorem MarkIn.moved {w w' : World} {q : Nat} {X X' : Nat → Prop} {o : Option KeyL} {v : Option Value} (h : MarkIn w q X o v) (hk : ∀ g, g < w.heap.size → ¬ X g → CellsB w g → w'.heap[g]? = w.heap[g]?) (hX : ∀ g, g < w.heap.size → ¬ X g → ¬ X' g) : MarkIn w' q X' o v := by
  cases o with
  | none => exact h
  | some k =>
    obtain ⟨A, c, h1, h2, h3⟩ := h
    by_cases hne : k.out = []
    · exact ⟨A, c, h1, h2.moved fun e => absurd hne e, .inl hne⟩
    · have hX0 := h3.resolve_left hne
      obtain ⟨hl, hc⟩ := rd_lt h2 hne
      exact ⟨A, c, h1, h2.moved fun _ => hk _ hl hX0 hc, .inr (hX _ hl hX0)⟩
theorem TabX.lt {w : World} {b : Nat} {L : TabK} {X : Nat → Prop} (h : TabX w b L X) : b < w.heap.size := by
  obtain ⟨lst, hm, -⟩ := h
  exact hm.lt
theorem TabX.notCells {w : World} {b : Nat} {L : TabK} {X : Nat → Prop} (h : TabX w b L X) : ¬ CellsB w b := by
  obtain ⟨lst, hm, -⟩ := h
  rintro ⟨cs, t, f, ho⟩
  rw [hm.blk] at ho
  cases ho
theorem TabX.moved {w w' : World} {b : Nat} {L : TabK} {X X' : Nat → Prop} (h : TabX w b L X) (hb : w'.heap[b]? = w.heap[b]?) (hk : ∀ g, g < w.heap.size → ¬ X g → CellsB w g → w'.heap[g]? = w.heap[g]?) (hX : ∀ g, g < w.heap.size → ¬ X g → ¬ X' g) : TabX w' b L X' := by
  obtain ⟨lst, hm, h⟩ := h
  exact ⟨lst, hm.kept hb, fun q => (h q).moved hk hX⟩
theorem TabX.below {w w' : World} {b : Nat} {L : TabK} {X : Nat → Prop} (h : TabX w b L X) (hb : Below w.heap.size w w') : TabX w' b L X :=
  h.moved (hb.block b h.lt) (fun g hg _ _ => hb.block g hg) fun _ _ h => h
theorem TabX.grown {w w' : World} {b : Nat} {L : TabK} {X : Nat → Prop} (h : TabX w b L X) {row : Option Nat} (hg : w.grownBy w' row) (hne : some b ≠ row) (hr : ∀ g, row = some g → X g) : TabX w' b L X :=
  h.moved (hg.block b h.lt hne) (fun g hl hX _ => hg.block g hl fun e => hX (hr g e.symm)) fun _ _ h => h
theorem TabX.other {w : World} {b : Nat} {L : TabK} {X X' : Nat → Prop} (h : TabX w b L X) (hX : ∀ g, g < w.heap.size → ¬ X g → ¬ X' g) : TabX w b L X' := h.moved rfl (fun _ _ _ _ => rfl) hX
theorem TabX.made (w : World) (X : Nat → Prop) : TabX (w.alloc (.map #[] 0)) w.heap.size (fun _ => none) X := ⟨[], MapB.made w _ rfl _ _, fun _ => rfl⟩
/-- a mark is put -/
theorem TabX.put {w : World} {b : Nat} {L : TabK} {X : Nat → Prop} {lst : List (Int × Value)} (hm : MapB w b intV id lst) (h : ∀ q : Nat, MarkIn w q X (L q) (assoc lst (q : Int))) {p : Nat} {k : KeyL} {A : Option Addr} {c : Nat} (hk : Rd w A k.out.length 1 (icells k.out)) (hX : k.out = [] ∨ ¬ X (blk A)) :
    TabX (setBlock w b (mapObj intV id (mput lst (p : Int) (markV p k A c)))) b (updK L p k) X := by
  refine ⟨_, hm.put (p : Int) (markV p k A c), fun q => ?_⟩
  have hmv : ∀ g, g < w.heap.size → ¬ X g → CellsB w g → (setBlock w b (mapObj intV id (mput lst (p : Int) (markV p k A c)))).heap[g]? = w.heap[g]? := fun g _ _ ⟨cs, t, f, ho⟩ => setBlock_ne fun e => by
    subst e
    rw [hm.blk] at ho
    cases ho
  rw [assoc_mput]
  by_cases e : q = p
  · subst e
    rw [if_pos rfl, updK_at]
    refine ⟨A, c, rfl, hk.moved fun hne => hmv _ (rd_lt hk hne).1 (hX.resolve_left hne) (rd_lt hk hne).2, hX⟩
  · rw [if_neg (by omega), updK_ne _ _ e]
    exact (h q).moved hmv fun _ _ h => h
theorem grown_after {w w1 w2 : World} {row : Option Nat} (hb : Below w.heap.size w w1) (hg : w1.grownBy w2 row) : w.grownBy w2 row :=
  ⟨hg.os.trans hb.os, hg.tape.trans hb.tape, hg.output.trans hb.output, Nat.le_trans hb.size hg.size, fun k hk hne => (hg.block k (Nat.lt_of_lt_of_le hk hb.size) hne).trans (hb.block k hk)⟩
/-- what a look-up answers -/
theorem TabX.look {w : World} {b : Nat} {L : TabK} {X : Nat → Prop} (h : TabX w b L X) (q : Nat) : (L q = none → ∃ lst, MapB w b intV id lst ∧ assoc lst (q : Int) = none) ∧ ∀ k, L q = some k → ∃ lst A c, MapB w b intV id lst ∧ assoc lst (q : Int) = some (markV q k A c) ∧ Rd w A k.out.length 1 (icells k.out) ∧ (k.out = [] ∨ ¬ X (blk A)) := by
  obtain ⟨lst, hm, h⟩ := h
  have hq := h q
  refine ⟨fun e => ?_, fun k e => ?_⟩
  · rw [e] at hq; exact ⟨lst, hm, hq⟩
  · rw [e] at hq
    obtain ⟨A, c, h1, h2, h3⟩ := hq
    exact ⟨lst, A, c, hm, h1, h2, h3⟩
theorem zeroMark (w : World) : (zeroValue 71).run Try.prog w = .ok (.agg #[.int .i64 0, .int .i64 0, .slice none 0 0]) w := by kernel_rfl
theorem look_none {w : World} {b : Nat} {lst : List (Int × Value)} (hm : MapB w b intV id lst) {q : Nat} (h : assoc lst (q : Int) = none) : (Instr.lookup 68 (.map (some b)) (.int .i64 (q : Int)) true).run Try.prog w = .ok (.tuple #[.agg #[.int .i64 0, .int .i64 0, .slice none 0 0], .bool false]) w := by
  have e := run_lookup_x hm keyOkS Try.underlying68 (q : Int) true (zeroMark w)
  rw [h] at e; exact e
theorem look_some {w : World} {b : Nat} {lst : List (Int × Value)} (hm : MapB w b intV id lst) {q : Nat} {v : Value} (h : assoc lst (q : Int) = some v) : (Instr.lookup 68 (.map (some b)) (.int .i64 (q : Int)) true).run Try.prog w = .ok (.tuple #[v, .bool true]) w := by
  have e := run_lookup_x hm keyOkS Try.underlying68 (q : Int) true (zeroMark w)
  rw [h] at e; exact e
theorem look_one {w : World} {b : Nat} {lst : List (Int × Value)} (hm : MapB w b intV id lst) {q : Nat} {v : Value} (h : assoc lst (q : Int) = some v) : (Instr.lookup 68 (.map (some b)) (.int .i64 (q : Int)) false).run Try.prog w = .ok v w := by
  have e := run_lookup_x hm keyOkS Try.underlying68 (q : Int) false (zeroMark w)
  rw [h] at e; exact e
theorem upd_run {w : World} {b : Nat} {lst : List (Int × Value)} (hm : MapB w b intV id lst) (q : Nat) (v : Value) : (Instr.mapUpdate 68 (.map (some b)) (.int .i64 (q : Int)) v).run Try.prog w = .ok () (setBlock w b (mapObj intV id (mput lst (q : Int) v))) :=
  run_mapUpdate_x hm keyOkS Try.underlying68 (q : Int) v

theorem better_put {w W2 : World} {b : Nat} {L : TabK} {X : Nat → Prop} (hT : TabX w b L X) (B2 : Below w.heap.size w W2) (p : Nat) (kc : Int) (ko : List Int) (A : Option Addr) (c : Nat) (hk : Rd w A ko.length 1 (icells ko)) (hX : ko = [] ∨ ¬ X (blk A)) :
    ∃ W', (Instr.mapUpdate 68 (.map (some b)) (.int .i64 (p : Int)) (.agg #[.int .i64 (p : Int), .int .i64 kc, .slice A ko.length c])).run Try.prog W2 = .ok () W' ∧ TabX W' b (updK L p ⟨kc, ko⟩) X ∧ w.grownBy W' (some b) := by
  obtain ⟨lst2, hm2, h2⟩ := hT.below B2
  exact ⟨_, upd_run hm2 p _, TabX.put hm2 h2 (p := p) (k := ⟨kc, ko⟩) (c := c) (hk.below B2 rfl) hX, grown_after B2 (setBlock_grown _)⟩
set_option maxRecDepth 100000 in
set_option maxHeartbeats 4000000 in
theorem better_any (w : World) (b : Nat) (L : TabK) (X : Nat → Prop) (p : Nat) (k : KeyL) (A : Option Addr) (c : Nat) (hT : TabX w b L X) (hk : Rd w A k.out.length 1 (icells k.out)) (hX : k.out = [] ∨ ¬ X (blk A)) (g : GoodW k.out) (hl : k.out.length ≤ 1000000) (hL : ∀ k0, L p = some k0 → GoodW k0.out ∧ k0.out.length ≤ 1000000) :
    Calls Try.prog 25 #[.map (some b), markV p k A c] w fun e w' => e = .returned (.bool (betB L p k)) ∧ TabX w' b (putK L p k) X ∧ w.grownBy w' (some b) := by
  obtain ⟨kc, ko⟩ := k
  simp only [markV] at *
  have LS := Lib.hid (fun (k0 : KeyL) (B : Option Addr) (c' : Nat) (W : World) (h : Rd W A ko.length 1 (icells ko)) (h' : Rd W B k0.out.length 1 (icells k0.out)) (hL : GoodW k0.out ∧ k0.out.length ≤ 1000000) => less_any (p : Int) (p : Int) ⟨kc, ko⟩ k0 A B c c' W h h' g hL.1 hl hL.2)
  have HT := Lib.hid hT
  have HK := Lib.hid hk; have HX := Lib.hid hX
  cases hLp : L p with
  | none =>
    have e1 : betB L p ⟨kc, ko⟩ = true := by unfold betB; rw [hLp]
    have e2 : putK L p ⟨kc, ko⟩ = updK L p ⟨kc, ko⟩ := by unfold putK; rw [if_pos e1]
    rw [e1, e2]
    obtain ⟨lst, hm, ha⟩ := (hT.look p).1 hLp
    have hlk := look_none (hm.alloc (.cells #[.int .i64 (p : Int), .int .i64 kc, .slice A ko.length c] 71)) ha
    have B2 : Below w.heap.size w ((w.alloc (.cells #[.int .i64 (p : Int), .int .i64 kc, .slice A ko.length c] 71)).alloc (.cells #[.int .i64 0, .int .i64 0, .slice none 0 0] 71)) := (by repeat' (first | exact Below.refl _ _ | assumption | refine Below.drew ?_ | refine Below.alloc ?_ (by first | omega | (simp; done) | (simp; omega)) _ | refine Below.setCell ?_ (by first | omega | (simp; done) | (simp; omega)) _))
    obtain ⟨W', hup, hp⟩ := better_put hT B2 p kc ko A c hk hX
    have HP := Lib.hid hp
    clear hm hp ha hT hk hX B2 e1 e2 hLp HT LS HK HX hL g
    go_enter Try.func25, Try.ntmps25
    go_wp2_with fail
    go_ret
    exact ⟨rfl, HP.out⟩
  | some k0 =>
    obtain ⟨lst, B, c', hm, ha, hr, hx⟩ := (hT.look p).2 k0 hLp
    have hlk := look_some (hm.alloc (.cells #[.int .i64 (p : Int), .int .i64 kc, .slice A ko.length c] 71)) ha
    have hL0 := hL k0 hLp
    have B2 : Below w.heap.size w ((w.alloc (.cells #[.int .i64 (p : Int), .int .i64 kc, .slice A ko.length c] 71)).alloc (.cells #[.int .i64 (p : Int), .int .i64 k0.c, .slice B k0.out.length c'] 71)) := (by repeat' (first | exact Below.refl _ _ | assumption | refine Below.drew ?_ | refine Below.alloc ?_ (by first | omega | (simp; done) | (simp; omega)) _ | refine Below.setCell ?_ (by first | omega | (simp; done) | (simp; omega)) _))
    have CL := Lib.hid (LS.out k0 B c' _ (hk.below B2 rfl) (hr.below B2 rfl) hL0)
    simp only [markV] at CL hlk
    have HR := Lib.hid hr
    have e0 : betB L p ⟨kc, ko⟩ = decide (klt ⟨kc, ko⟩ k0) := by unfold betB; rw [hLp]
    obtain ⟨k0c, k0o⟩ := k0
    simp only at *
    by_cases hlt : klt ⟨kc, ko⟩ ⟨k0c, k0o⟩
    · have e1 : betB L p ⟨kc, ko⟩ = true := by rw [e0]; exact decide_eq_true hlt
      have e2 : putK L p ⟨kc, ko⟩ = updK L p ⟨kc, ko⟩ := by unfold putK; rw [if_pos e1]
      rw [decide_eq_true hlt] at CL
      rw [e1, e2]
      have HB2 := Lib.hid B2
      clear hm ha hr hx hL0 hL hT hk hX B2 e0 e1 e2 hLp LS HR hlt g
      go_enter Try.func25, Try.ntmps25
      go_wp2_with fail
      refine CL.out.mono ?_; rintro e w3 ⟨rfl, b3⟩
      have B3 := HB2.out.trans (b3.mono HB2.out.size)
      obtain ⟨W', hup, hp⟩ := better_put HT.out B3 p kc ko A c HK.out HX.out
      have HP := Lib.hid hp
      have q := (Blk.new w #[.int .i64 (p : Int), .int .i64 kc, .slice A ko.length c] 71).alloc (.cells #[.int .i64 (p : Int), .int .i64 k0c, .slice B k0o.length c'] 71)
      have q3 := q.step b3
      have k0' := q3.cell 0; have k1' := q3.cell 1; have k2' := q3.cell 2
      simp only [List.getElem?_toArray, List.getElem?_cons_succ, List.getElem?_cons_zero] at k0' k1' k2'
      clear hp B3 b3 CL q q3 HT HK HX
      go_wp2_with fail
      go_ret
      exact ⟨rfl, HP.out⟩
    · have e1 : betB L p ⟨kc, ko⟩ = false := by rw [e0]; exact decide_eq_false hlt
      have e2 : putK L p ⟨kc, ko⟩ = L := by unfold putK; rw [e1]; rfl
      rw [decide_eq_false hlt] at CL
      rw [e1, e2]
      have HB2 := Lib.hid B2
      clear hm ha hr hx hL0 hL hT hk hX B2 e0 e1 e2 hLp LS HR hlt g
      go_enter Try.func25, Try.ntmps25
      go_wp2_with fail
      refine CL.out.mono ?_; rintro e w3 ⟨rfl, b3⟩
      have B3 := Lib.hid (HB2.out.trans (b3.mono HB2.out.size))
      clear b3 CL
      go_wp2_with fail
      go_ret
      exact ⟨rfl, HT.out.below B3.out, ⟨B3.out.os, B3.out.tape, B3.out.output, B3.out.size, fun k hk _ => B3.out.block k hk⟩⟩
end Go.Proofs.Ytikkmoleneioeaa
