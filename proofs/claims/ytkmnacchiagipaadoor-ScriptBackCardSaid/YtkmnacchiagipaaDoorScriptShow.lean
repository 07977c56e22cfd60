/- script.Show of steps that can be shown. -/
import Derived.Test.YtkmnacchiagipaaDoorScriptStep
import Derived.Test.YtkmnacchiagipaaDoorNamesShow
namespace Go.Proofs.YtkmnacchiagipaaDoor
open Go.RowKit

theorem shownA_len (s : StepL) : ∀ (ags line : List UInt8) (rest : StepL) (l : List UInt8) (r : StepL), shownA s ags line rest = .inr (l, r) → l.length ≤ line.length + 13 * ags.length
  | [], line, rest, l, r, h => by
    simp only [shownA, Sum.inr.injEq, Prod.mk.injEq] at h
    rw [← h.1]; simp
  | c :: cs, line, rest, l, r, h => by
    unfold shownA at h
    by_cases h1 : c = 110
    · rw [if_pos h1] at h
      by_cases h2 : nameB s.name = true
      · rw [if_pos h2] at h
        have := shownA_len s cs _ _ _ _ h
        have hn := nameB_len h2
        simp at this ⊢; omega
      · rw [if_neg h2] at h; cases h
    · rw [if_neg h1] at h
      by_cases h2 : getF s c.toNat < 0 ∨ 25 < getF s c.toNat
      · rw [if_pos h2] at h; cases h
      · rw [if_neg h2] at h
        have := shownA_len s cs _ _ _ _ h
        simp at this ⊢; omega
theorem shownS_len {s : StepL} {t : List UInt8} (h : shownS s = .inr t) : (1 ≤ s.kind ∧ s.kind ≤ 15) ∧ t.length ≤ 50 := by
  unfold shownS at h
  by_cases hk : s.kind < 1 ∨ 15 < s.kind
  · rw [if_pos hk] at h; cases h
  · rw [if_neg hk] at h
    obtain ⟨f1, f2⟩ := forms_len (s.kind - 1).toNat (by omega)
    refine ⟨by omega, ?_⟩
    cases hA : shownA s (argsF (s.kind - 1).toNat) (wordF (s.kind - 1).toNat) { s with kind := 0 } with
    | inl e => rw [hA] at h; cases h
    | inr p =>
      obtain ⟨l, r⟩ := p
      rw [hA] at h
      unfold endA at h
      by_cases hz : r = zeroS
      · simp only [hz, if_true, Sum.inr.injEq] at h
        have := shownA_len _ _ _ _ _ _ hA
        rw [← h]; simp; omega
      · simp only [hz, if_false] at h; cases h
def stepsC (l : List StepL) : List Value := l.flatMap stepC
theorem stepsC_len (l : List StepL) : (stepsC l).length = l.length * 5 := by
  induction l with
  | nil => rfl
  | cons a l ih => simp only [stepsC, List.flatMap_cons, List.length_append, List.length_cons] at *; rw [ih]; simp [stepC]; omega
/-- a slice of steps reads as l -/
structure StepsAt (w : World) (A : Option Addr) (l : List StepL) : Prop where
  rdy : Rdy A l.length
  c0 : ∀ i (h : i < l.length), w.cell? ⟨blk A, ofs A + i * 5, none⟩ = some (.int .i64 l[i].kind)
  c1 : ∀ i (h : i < l.length), w.cell? ⟨blk A, ofs A + i * 5 + 1, none⟩ = some (.int .i64 l[i].dest)
  c2 : ∀ i (h : i < l.length), w.cell? ⟨blk A, ofs A + i * 5 + 2, none⟩ = some (.int .i64 l[i].a)
  c3 : ∀ i (h : i < l.length), w.cell? ⟨blk A, ofs A + i * 5 + 3, none⟩ = some (.int .i64 l[i].b)
  c4 : ∀ i (h : i < l.length), w.cell? ⟨blk A, ofs A + i * 5 + 4, none⟩ = some (.string ⟨l[i].name.toArray⟩)
theorem StepsAt.below {w w' : World} {A : Option Addr} {l : List StepL} (h : StepsAt w A l) {B : Nat} (hb : Below B w w') (hB : w.heap.size ≤ B) : StepsAt w' A l :=
  ⟨h.rdy, fun i hi => cell_keep hb hB (h.c0 i hi), fun i hi => cell_keep hb hB (h.c1 i hi), fun i hi => cell_keep hb hB (h.c2 i hi), fun i hi => cell_keep hb hB (h.c3 i hi), fun i hi => cell_keep hb hB (h.c4 i hi)⟩
theorem StepsAt.of_own {w : World} {B : Nat} {A : Option Addr} {n c : Nat} {l : List StepL} (h : w.ownsRow B 51 5 (.slice A n c) n (stepsC l)) : StepsAt w A l := by
  have hn : n = l.length := by have h1 := h.1; rw [stepsC_len] at h1; omega
  subst hn
  have r := Rd.of_own h
  have q : ∀ i (hi : i < l.length) (j : Nat) (hj : j < 5), w.cell? ⟨blk A, ofs A + (i * 5 + j), none⟩ = (stepC l[i])[j]? := by
    intro i hi j hj
    have e := flatMap_at stepC 5 (fun _ => rfl) l i hi j hj
    have hs : (stepC l[i])[j]? = some ((stepC l[i])[j]'hj) := List.getElem?_eq_getElem hj
    rw [hs]
    exact r.at' (e.trans hs)
  exact ⟨r.rdy, fun i hi => q i hi 0 (by omega), fun i hi => q i hi 1 (by omega), fun i hi => q i hi 2 (by omega), fun i hi => q i hi 3 (by omega), fun i hi => q i hi 4 (by omega)⟩
/-- all can be shown, as T says -/
def ShowsAs (T : StepL → List UInt8) (l : List StepL) : Prop := ∀ s ∈ l, s.name.length ≤ 100000 ∧ shownS s = .inr (T s)
def scriptT (T : StepL → List UInt8) (l : List StepL) : List UInt8 := l.flatMap T
theorem scriptT_len {T : StepL → List UInt8} {l : List StepL} (h : ShowsAs T l) (h30 : l.length ≤ 30) (q : Nat) : (scriptT T (l.take q)).length ≤ 1500 := by
  have h1 := sum_le T 50 (l.take q) fun s hs => (shownS_len (h s (List.mem_of_mem_take hs)).2).2
  rw [List.length_take] at h1
  unfold scriptT; omega

set_option maxRecDepth 100000 in
set_option maxHeartbeats 8000000 in
theorem Show_steps (T : StepL → List UInt8) (A : Option Addr) (l : List StepL) (c : Nat) (w : World) (hT : StepsAt w A l) (h30 : l.length ≤ 30) (hok : ShowsAs T l) (hf : FormsP w) :
    Calls Tryd.prog 22 #[.slice A l.length c] w fun e w' => e = .returned (.tuple #[.string ⟨(scriptT T l).toArray⟩, .int .i64 0, .int .i64 0]) ∧ Below w.heap.size w w' := by
  have HN := Lib.hid hT; have HOK := Lib.hid hok; have HF := Lib.hid hf
  have rd := hT.rdy
  have HL := Lib.hid (fun q => scriptT_len hok h30 q)
  have HZ : Hid (scriptT T (l.take 0) = []) := Lib.hid (by simp [scriptT])
  have HS : Hid (∀ q (h : q < l.length), scriptT T (l.take (q + 1)) = scriptT T (l.take q) ++ T l[q]) := Lib.hid (fun q h => by unfold scriptT; rw [List.take_succ_eq_append_getElem h, List.flatMap_append]; simp)
  have HA : Hid (scriptT T (l.take l.length) = scriptT T l) := Lib.hid (by simp)
  have i30 : ¬ (30 : Int) < (l.length : Int) := by omega
  clear hT hok hf
  have SB := Lib.hid (bd_new w)
  have bl1 : Below w.heap.size w (w.alloc (.cells #[.pointer none, .slice none 0 0] 108)) := (Below.refl _ _).alloc (Nat.le_refl _) _
  have hlt1 : w.heap.size < (w.alloc (.cells #[.pointer none, .slice none 0 0] 108)).heap.size := by simp
  go_enter Tryd.func22, Tryd.ntmps22
  go_wp2_with fail
  generalize w.alloc (.cells #[.pointer none, .slice none 0 0] 108) = w2 at *
  go_loopw [15] (fun qv wr => ∃ (q : Nat), q ≤ l.length ∧ qv = .int .i64 q ∧ IsBd w.heap.size (scriptT T (l.take q)) wr ∧ Below w.heap.size w wr ∧ w.heap.size < wr.heap.size) (fun qv _ => l.length - (intOf qv).toNat)
  case atStart => exact ⟨0, by omega, rfl, by rw [HZ.out]; exact SB.out, bl1, hlt1⟩
  case round =>
    obtain ⟨q, hq, rfl, sq, bel, hbq⟩ := hrel
    have SQ := Lib.hid sq; clear sq SB bl1 hlt1
    have i0 : (0 : Int) ≤ ↑q := by omega
    by_cases hlt : q < l.length
    · have i1 : (↑q : Int) < ↑l.length := by omega
      have hNr := HN.out.below bel (Nat.le_refl _)
      have d0 := hNr.c0 q hlt; have d1 := hNr.c1 q hlt; have d2 := hNr.c2 q hlt; have d3 := hNr.c3 q hlt; have d4 := hNr.c4 q hlt
      have HSQ := Lib.hid (HS.out q hlt); have HLQ := Lib.hid (HL.out q)
      obtain ⟨n1, hsh⟩ := HOK.out _ (List.getElem_mem hlt)
      have hl50 := (shownS_len hsh).2
      have HSE : Hid (ShownE l[q] = .returned (.tuple #[.string ⟨(T l[q]).toArray⟩, .int .i64 0])) := Lib.hid (by unfold ShownE; rw [hsh])
      generalize l[q] = s at *
      have SH := Lib.hid (fun W hb => shown_any s W n1 (HF.out.below (show Below w.heap.size w W from hb)))
      obtain ⟨sk, sd, sa, sb, sn⟩ := s
      simp only [stepC] at SH
      have lA := World.block_lt_of_cell? _ _ d0
      clear hNr hsh
      obtain ⟨wo, rfl⟩ : ∃ wo : World, wo = wr := ⟨_, rfl⟩
      generalize T ⟨sk, sd, sa, sb, sn⟩ = t at *
      go_wp2_with fail
      have b5 : Below wo.heap.size wo (wo.alloc (.cells #[.int .i64 sk, .int .i64 sd, .int .i64 sa, .int .i64 sb, .string ⟨sn.toArray⟩] 51)) := (Below.refl _ _).alloc (Nat.le_refl _) _
      have bel5 := bel.trans (b5.mono bel.size)
      refine (SH.out _ bel5).mono ?_; rintro e w7 ⟨he, b7⟩
      obtain rfl := he.trans HSE.out
      have b57 := b5.trans (b7.mono b5.size)
      have S7 := Lib.hid (builder_keepB SQ.out b57)
      have bel7 := bel.trans (b57.mono bel.size)
      have hz7 := b57.size
      have WS := Lib.hid (bd_string w.heap.size (scriptT T (l.take q)) t w7 S7.out (by have := HLQ.out; omega) (by omega))
      clear b5 b7 b57 bel5 SQ SH d0 d1 d2 d3 d4 lA
      go_wp2_with fail
      refine WS.out.mono ?_; rintro e w8 ⟨⟨n, rfl⟩, s8, b8, o8⟩
      rw [← HSQ.out] at s8
      have H8 : Hid (IsBd w.heap.size (scriptT T (l.take (q + 1))) w8 ∧ Below w.heap.size w w8 ∧ w.heap.size < w8.heap.size) := Lib.hid ⟨s8, bel7.trans b8, by have := b8.size; omega⟩
      clear s8 b8 o8 bel7 bel
      go_wp2_with fail
      go_roundw
      case rel => exact ⟨q + 1, by omega, by go_num, H8.out⟩
      case measure => simp [intOf]; omega
    · obtain rfl : q = l.length := by omega
      have i1 : ¬ (↑l.length : Int) < ↑l.length := by omega
      have HTX := Lib.hid (bd_text w.heap.size (scriptT T l) wr (by rw [← HA.out]; exact SQ.out) (by omega))
      go_wp2_with fail
      refine HTX.out.mono ?_; rintro e w9 ⟨rfl, b9⟩
      go_wp2_with fail
      refine bodyPost_ret (v := .tuple #[.string ⟨(scriptT T l).toArray⟩, .int .i64 0, .int .i64 0]) (by simp [results, Tryd.results22, go_sem]) rfl ⟨rfl, bel.trans b9⟩
end Go.Proofs.YtkmnacchiagipaaDoor
