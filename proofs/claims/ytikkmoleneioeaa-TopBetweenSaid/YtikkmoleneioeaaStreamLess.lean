/- stream.less: which of two marks is the better one. -/
import Derived.Test.YtikkmoleneioeaaStreamTab
import Derived.Test.YtikkmoleneioeaaCmp
namespace Go.Proofs.Ytikkmoleneioeaa
open Go.RowKit

/-- slices.Compare at numbers -/
def lexG : List Int → List Int → Int
  | [], [] => 0
  | [], _ :: _ => -1
  | _ :: _, [] => 1
  | x :: xs, y :: ys => if cmp3 x y = 0 then lexG xs ys else cmp3 x y
theorem lexG_drop {xs ys : List Int} {k : Nat} (h : k < xs.length) (h' : k < ys.length) : lexG (xs.drop k) (ys.drop k) = if cmp3 xs[k] ys[k] = 0 then lexG (xs.drop (k + 1)) (ys.drop (k + 1)) else cmp3 xs[k] ys[k] := by
  rw [List.drop_eq_getElem_cons h, List.drop_eq_getElem_cons h']; rfl
theorem lexG_long {xs ys : List Int} {k : Nat} (h : k < xs.length) (h' : ys.length ≤ k) : lexG (xs.drop k) (ys.drop k) = 1 := by
  rw [List.drop_eq_getElem_cons h, List.drop_of_length_le h']; rfl
theorem lexG_end {xs ys : List Int} {k : Nat} (h : xs.length = k) (h' : k ≤ ys.length) : lexG (xs.drop k) (ys.drop k) = if k < ys.length then -1 else 0 := by
  rw [List.drop_of_length_le (by omega)]
  by_cases hl : k < ys.length
  · rw [if_pos hl, List.drop_eq_getElem_cons hl]; rfl
  · rw [if_neg hl, List.drop_of_length_le (by omega)]; rfl

set_option maxRecDepth 100000 in
set_option maxHeartbeats 4000000 in
theorem SlCompareG (A B : Option Addr) (n n' c c' : Nat) (xs ys : List Int) (w : World) (h : Rd w A n 1 (icells xs)) (h' : Rd w B n' 1 (icells ys)) (hl : n ≤ 1000000) (hl' : n' ≤ 1000000) :
    Calls Try.prog 50 #[.slice A n c, .slice B n' c'] w fun e w' => e = .returned (.int .i64 (lexG xs ys)) ∧ w = w' := by
  have HC := Lib.hid (rdi_cell h)
  have HL := Lib.hid (rdi_len h)
  have HC' := Lib.hid (rdi_cell h')
  have HL' := Lib.hid (rdi_len h')
  have rd := h.rdy
  have rd' := h'.rdy
  clear h h'
  go_enter Try.func50, Try.ntmps50
  go_wp2
  go_loop [11] (fun i => ∃ k : Nat, k ≤ n ∧ k ≤ n' ∧ i = .int .i64 k ∧ Hid (lexG (xs.drop k) (ys.drop k) = lexG xs ys)) (fun i => n - (intOf i).toNat)
  case atStart => exact ⟨0, by omega, by omega, rfl, Lib.hid rfl⟩
  case round =>
    obtain ⟨k, hk, hk', rfl, HF⟩ := hrel
    by_cases hln : k < n
    · have hlt : k < xs.length := by have := HL.out; omega
      have hcell := HC.out k hlt
      have q1 : (0 : Int) ≤ ↑k := by omega
      have q2 : (↑k : Int) < ↑n := by omega
      by_cases hln' : k < n'
      · have hlt' : k < ys.length := by have := HL'.out; omega
        have hcell' := HC'.out k hlt'
        have HD := Lib.hid (lexG_drop hlt hlt')
        have q3 : (↑k : Int) < ↑n' := by omega
        have q4 : ¬ (↑n' : Int) ≤ ↑k := by omega
        have hcon := Compare_any (xs[k]) (ys[k]) w
        generalize cmp3 xs[k] ys[k] = r at *
        generalize xs[k] = x at *
        generalize ys[k] = y at *
        have HCON := Lib.hid hcon
        clear hcon
        by_cases hz : r = 0
        · have hb : (r != 0) = false := by simp [hz]
          go_wp2_with (go_at_call 49; refine HCON.out.mono ?_; rintro e w' ⟨rfl, rfl⟩)
          go_round
          case rel => exact ⟨k + 1, by omega, by omega, by go_num, Lib.hid (by rw [← HF.out, HD.out, if_pos hz])⟩
          case measure => simp [intOf]; omega
        · have hb : (r != 0) = true := by simp [hz]
          have HE := Lib.hid (HF.out.symm.trans (HD.out.trans (if_neg hz)))
          go_wp2_with (go_at_call 49; refine HCON.out.mono ?_; rintro e w' ⟨rfl, rfl⟩)
          go_ret
          exact ⟨by rw [HE.out]; rfl, rfl⟩
      · have q4 : (↑n' : Int) ≤ ↑k := by omega
        have HE := Lib.hid (HF.out.symm.trans (lexG_long hlt (by have := HL'.out; omega)))
        go_wp2
        go_ret
        exact ⟨by rw [HE.out]; rfl, rfl⟩
    · have e : k = n := by omega
      subst e
      have HE := Lib.hid (HF.out.symm.trans (lexG_end HL.out.symm (by have := HL'.out; omega)))
      have hy := HL'.out
      by_cases hs : k < ys.length
      · have q4 : (↑k : Int) < ↑n' := by omega
        have HE2 := Lib.hid (HE.out.trans (if_pos hs))
        clear hy
        go_wp2
        go_ret
        exact ⟨by rw [HE2.out]; rfl, rfl⟩
      · have q4 : ¬ (↑k : Int) < ↑n' := by omega
        have HE2 := Lib.hid (HE.out.trans (if_neg hs))
        clear hy
        go_wp2
        go_ret
        exact ⟨by rw [HE2.out]; rfl, rfl⟩
theorem foldI_mono : ∀ (xs ys : List Int), xs.length = ys.length → GoodW xs → GoodW ys → ∀ a b : Int, a < b → xs.foldl (fun s a => s * 1001 + a) a < ys.foldl (fun s a => s * 1001 + a) b
  | [], [], _, _, _, _, _, h => h
  | [], _ :: _, h, _, _, _, _, _ => by simp at h
  | _ :: _, [], h, _, _, _, _, _ => by simp at h
  | x :: xs, y :: ys, h, hx, hy, a, b, hab => by
    have h1 := hx x (by simp); have h2 := hy y (by simp)
    exact foldI_mono xs ys (by simpa using h) (fun z hz => hx z (by simp [hz])) (fun z hz => hy z (by simp [hz])) _ _ (by show a * 1001 + x < b * 1001 + y; omega)
/-- at words of one length it tells which code is lower -/
theorem lexG_code : ∀ (xs ys : List Int), xs.length = ys.length → GoodW xs → GoodW ys → ∀ a : Int, (lexG xs ys < 0 ↔ xs.foldl (fun s a => s * 1001 + a) a < ys.foldl (fun s a => s * 1001 + a) a)
  | [], [], _, _, _, a => by simp [lexG]
  | [], _ :: _, h, _, _, _ => by simp at h
  | _ :: _, [], h, _, _, _ => by simp at h
  | x :: xs, y :: ys, h, hx, hy, a => by
    have hl : xs.length = ys.length := by simpa using h
    have gx : GoodW xs := fun z hz => hx z (by simp [hz])
    have gy : GoodW ys := fun z hz => hy z (by simp [hz])
    have ih := lexG_code xs ys hl gx gy
    simp only [List.foldl_cons, lexG]
    by_cases e : x = y
    · subst e
      rw [show cmp3 x x = 0 by unfold cmp3; rw [if_neg (by omega), if_neg (by omega)], if_pos rfl]
      exact ih (a * 1001 + x)
    · by_cases hlt : x < y
      · rw [show cmp3 x y = -1 by unfold cmp3; rw [if_pos hlt], if_neg (by omega)]
        have := foldI_mono xs ys hl gx gy (a * 1001 + x) (a * 1001 + y) (by omega)
        constructor <;> intro _ <;> omega
      · rw [show cmp3 x y = 1 by unfold cmp3; rw [if_neg hlt, if_pos (by omega)], if_neg (by omega)]
        have := foldI_mono ys xs hl.symm gy gx (a * 1001 + y) (a * 1001 + x) (by omega)
        constructor <;> intro _ <;> omega
theorem less_klt (k k' : KeyL) (g : GoodW k.out) (g' : GoodW k'.out) : decide (firstOf [cmp3 k.c k'.c, cmp3 (k.out.length : Int) (k'.out.length : Int), lexG k.out k'.out] < 0) = decide (klt k k') := by
  apply decide_eq_decide.2
  unfold klt
  simp only [firstOf]
  by_cases h1 : k.c < k'.c
  · rw [show cmp3 k.c k'.c = -1 by unfold cmp3; rw [if_pos h1], if_neg (by omega)]
    constructor <;> intro _ <;> omega
  · by_cases h2 : k'.c < k.c
    · rw [show cmp3 k.c k'.c = 1 by unfold cmp3; rw [if_neg h1, if_pos h2], if_neg (by omega)]
      constructor <;> intro _ <;> omega
    · rw [show cmp3 k.c k'.c = 0 by unfold cmp3; rw [if_neg h1, if_neg h2], if_pos rfl]
      by_cases h3 : k.out.length < k'.out.length
      · rw [show cmp3 (k.out.length : Int) (k'.out.length : Int) = -1 by unfold cmp3; rw [if_pos (by omega)], if_neg (by omega)]
        constructor <;> intro _ <;> omega
      · by_cases h4 : k'.out.length < k.out.length
        · rw [show cmp3 (k.out.length : Int) (k'.out.length : Int) = 1 by unfold cmp3; rw [if_neg (by omega), if_pos (by omega)], if_neg (by omega)]
          constructor <;> intro _ <;> omega
        · rw [show cmp3 (k.out.length : Int) (k'.out.length : Int) = 0 by unfold cmp3; rw [if_neg (by omega), if_neg (by omega)], if_pos rfl]
          have := lexG_code k.out k'.out (by omega) g g' 0
          unfold codeI
          by_cases h5 : lexG k.out k'.out = 0
          · rw [if_pos h5]
            constructor
            · intro _; omega
            · intro h
              have := this.2 (by omega)
              omega
          · rw [if_neg h5]
            constructor
            · intro h; have := this.1 h; omega
            · intro h; exact this.2 (by omega)
/-- a mark -/
abbrev markV (q : Int) (k : KeyL) (A : Option Addr) (c : Nat) : Value := .agg #[.int .i64 q, .int .i64 k.c, .slice A k.out.length c]
theorem rd_three (w : World) (G : Nat) (hG : w.heap.size = G) (x y z : Int) (t : TypeId) : Rd (w.alloc (.cells #[.int .i64 x, .int .i64 y, .int .i64 z] t)) (some ⟨G, 0, none⟩) 3 1 (icells [x, y, z]) := by
  subst hG
  refine ⟨rfl, rdy_some _ _ _, fun j hj => ?_⟩
  simp only [blk_some, ofs_some, Nat.zero_add]
  match j, hj with
  | 0, _ => simp [go_sem]
  | 1, _ => simp [go_sem]
  | 2, _ => simp [go_sem]

set_option maxRecDepth 100000 in
set_option maxHeartbeats 4000000 in
theorem less_any (q q' : Int) (k k' : KeyL) (A B : Option Addr) (c c' : Nat) (w : World) (h : Rd w A k.out.length 1 (icells k.out)) (h' : Rd w B k'.out.length 1 (icells k'.out)) (g : GoodW k.out) (g' : GoodW k'.out) (hl : k.out.length ≤ 1000000) (hl' : k'.out.length ≤ 1000000) :
    Calls Try.prog 31 #[markV q k A c, markV q' k' B c'] w fun e w' => e = .returned (.bool (decide (klt k k'))) ∧ Below w.heap.size w w' := by
  have hO := less_klt k k' g g'
  obtain ⟨kc, ko⟩ := k
  obtain ⟨kc', ko'⟩ := k'
  simp only [markV] at *
  have CM := Lib.hid (fun W (hb : Below w.heap.size w W) => SlCompareG A B ko.length ko'.length c c' ko ko' W (h.below hb rfl) (h'.below hb rfl) hl hl')
  clear h h' g g'
  generalize ko.length = n at *
  generalize ko'.length = n' at *
  generalize lexG ko ko' = lx at *
  rw [← hO]
  clear hO
  have B1 : Below w.heap.size w ((w.alloc (.cells #[.int .i64 q, .int .i64 kc, .slice A n c] 71)).alloc (.cells #[.int .i64 q', .int .i64 kc', .slice B n' c'] 71)) := (by repeat' (first | exact Below.refl _ _ | assumption | refine Below.drew ?_ | refine Below.alloc ?_ (by first | omega | (simp; done) | (simp; omega)) _ | refine Below.setCell ?_ (by first | omega | (simp; done) | (simp; omega)) _))
  have e1 : ((w.alloc (.cells #[.int .i64 q, .int .i64 kc, .slice A n c] 71)).alloc (.cells #[.int .i64 q', .int .i64 kc', .slice B n' c'] 71)).cell? ⟨w.heap.size, 1, none⟩ = some (.int .i64 kc) := by simp [go_sem]
  have e2 : ((w.alloc (.cells #[.int .i64 q, .int .i64 kc, .slice A n c] 71)).alloc (.cells #[.int .i64 q', .int .i64 kc', .slice B n' c'] 71)).cell? ⟨w.heap.size, 2, none⟩ = some (.slice A n c) := by simp [go_sem]
  have e3 : ((w.alloc (.cells #[.int .i64 q, .int .i64 kc, .slice A n c] 71)).alloc (.cells #[.int .i64 q', .int .i64 kc', .slice B n' c'] 71)).cell? ⟨w.heap.size + 1, 1, none⟩ = some (.int .i64 kc') := by simp [go_sem]
  have e4 : ((w.alloc (.cells #[.int .i64 q, .int .i64 kc, .slice A n c] 71)).alloc (.cells #[.int .i64 q', .int .i64 kc', .slice B n' c'] 71)).cell? ⟨w.heap.size + 1, 2, none⟩ = some (.slice B n' c') := by simp [go_sem]
  go_enter Try.func31, Try.ntmps31
  go_wp2_with fail
  generalize (w.alloc (.cells #[.int .i64 q, .int .i64 kc, .slice A n c] 71)).alloc (.cells #[.int .i64 q', .int .i64 kc', .slice B n' c'] 71) = w1 at *
  have HS : Hid (∀ W, Below w1.heap.size w1 W → Below w.heap.size w W ∧ W.cell? ⟨w.heap.size, 1, none⟩ = some (.int .i64 kc) ∧ W.cell? ⟨w.heap.size, 2, none⟩ = some (.slice A n c) ∧ W.cell? ⟨w.heap.size + 1, 1, none⟩ = some (.int .i64 kc') ∧ W.cell? ⟨w.heap.size + 1, 2, none⟩ = some (.slice B n' c')) :=
    Lib.hid fun W h => ⟨B1.trans (h.mono B1.size), cell_keep h (Nat.le_refl _) e1, cell_keep h (Nat.le_refl _) e2, cell_keep h (Nat.le_refl _) e3, cell_keep h (Nat.le_refl _) e4⟩
  clear e1 e2 e3 e4
  go_region_held3 (fun W => Below w.heap.size w W ∧ W.cell? ⟨w.heap.size, 1, none⟩ = some (.int .i64 kc) ∧ W.cell? ⟨w.heap.size, 2, none⟩ = some (.slice A n c) ∧ W.cell? ⟨w.heap.size + 1, 1, none⟩ = some (.int .i64 kc') ∧ W.cell? ⟨w.heap.size + 1, 2, none⟩ = some (.slice B n' c')) (exact HS.out _ (by repeat' (first | exact Below.refl _ _ | assumption | refine Below.drew ?_ | refine Below.alloc ?_ (by first | omega | (simp; done)) _)))
    (first | (go_at_call 49; refine (Compare_any _ _ _).mono ?_; rintro e w' ⟨rfl, rfl⟩) | (go_at_call 50; go_split_ands; refine (CM.out _ (by assumption)).mono ?_; rintro e w' ⟨rfl, rfl⟩) | (go_at_call 48; refine (Or_any _ 3 3 [cmp3 kc kc', cmp3 (n : Int) (n' : Int), lx] _ (by first | exact rd_three _ _ (by simp) _ _ _ _ | exact (rd_three _ _ (by simp) _ _ _ _).drew') (by omega)).mono ?_; rintro e w' ⟨rfl, rfl⟩))
  all_goals
    go_wp2_with fail
    go_ret
    exact ⟨rfl, B1.trans (Below.mono (by repeat' (first | exact Below.refl _ _ | assumption | refine Below.drew ?_ | refine Below.alloc ?_ (by first | omega | (simp; done)) _) : Below w1.heap.size w1 _) B1.size)⟩
end Go.Proofs.Ytikkmoleneioeaa
