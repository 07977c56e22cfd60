/- script.shown: a step's line, or what is wrong. -/
import Derived.Test.YtkmnacchiagipaaDoorScriptForms
import Derived.Test.YtkmnacchiagipaaDoorLines
import Derived.Lib.OthersKept
import Derived.Laws.RangeAny
import Derived.Laws.Runes
namespace Go.Proofs.YtkmnacchiagipaaDoor
open Go.RowKit

theorem iterS_below {w : World} {B k : Nat} (hk : B ≤ k) (s : ByteArray) (p : Nat) : Below B w (w.iterAt k s p) := by
  refine ⟨rfl, rfl, rfl, by simp [World.iterAt], fun i hi => ?_⟩
  simp [World.iterAt, Array.getElem?_setIfInBounds_ne (show k ≠ i by omega)]
def itAt (w : World) (r : Nat) : Nat := match w.heap[r]? with | some (.stringIter _ p) => p | _ => 0
theorem itAt_of {w : World} {r : Nat} {s : ByteArray} {p : Nat} (h : w.heap[r]? = some (.stringIter s p)) : itAt w r = p := by simp [itAt, h]
theorem blk_iter {w : World} {b k : Nat} {cs : Array Value} {t : TypeId} (h : Blk w b cs t) (hne : b ≠ k) (s : ByteArray) (p : Nat) : Blk (w.iterAt k s p) b cs t := by
  refine h.kept ?_
  simp [World.iterAt, Array.getElem?_setIfInBounds_ne (show k ≠ b from fun e => hne e.symm)]
theorem encode_let (r : Int) (h0 : 0 ≤ r) (h1 : r ≤ 25) : Utf8.encode (97 + r) = ⟨#[UInt8.ofNat (97 + r.toNat)]⟩ := by
  obtain ⟨n, rfl⟩ : ∃ n : Nat, r = n := ⟨r.toNat, by omega⟩
  have hn : n ≤ 25 := by omega
  have key : ∀ n : Fin 26, Utf8.encode (97 + (n.val : Int)) = ⟨#[UInt8.ofNat (97 + n.val)]⟩ := by decide
  exact key ⟨n, by omega⟩
theorem args_ascii (k : Nat) : ∀ b ∈ argsF k, b.toNat < 128 := by
  by_cases h : k < 15
  · have key : ∀ n : Fin 15, ∀ b ∈ argsF n.val, b.toNat < 128 := by decide
    exact key ⟨k, h⟩
  · intro b hb
    unfold argsF at hb
    rw [List.getElem?_eq_none (by simp [formsL]; omega)] at hb
    simp at hb
theorem forms_len (k : Nat) (h : k < 15) : (argsF k).length ≤ 3 ∧ (wordF k).length ≤ 8 := by
  have key : ∀ n : Fin 15, (argsF n.val).length ≤ 3 ∧ (wordF n.val).length ≤ 8 := by decide
  exact key ⟨k, h⟩
theorem nameB_len {s : List UInt8} (h : nameB s = true) : s.length ≤ 12 := by
  unfold nameB at h
  simp only [Bool.and_eq_true, decide_eq_true_eq] at h
  exact h.1.1.2
/-- what shown answers -/
def ShownE (s : StepL) : Ending := match shownS s with
  | .inl er => .returned (.tuple #[.string ⟨#[]⟩, .int .i64 er])
  | .inr l => .returned (.tuple #[.string ⟨l.toArray⟩, .int .i64 0])

set_option maxRecDepth 100000 in
set_option maxHeartbeats 8000000 in
theorem shown_any (s : StepL) (w : World) (hs : s.name.length ≤ 100000) (hf : FormsP w) :
    Calls Tryd.prog 51 #[.agg (stepC s).toArray] w fun e w' => e = ShownE s ∧ Below w.heap.size w w' := by
  have hF := Lib.hid hf
  by_cases hk : s.kind < 1 ∨ 15 < s.kind
  · have HE : Hid (ShownE s = .returned (.tuple #[.string ⟨#[]⟩, .int .i64 14])) := Lib.hid (by unfold ShownE shownS; rw [if_pos hk])
    obtain ⟨kd, dt, sa, sb, nm⟩ := s
    simp only at hk
    unfold stepC
    generalize ShownE ⟨kd, dt, sa, sb, nm⟩ = E at *
    by_cases h1 : kd < 1
    · clear hk hf
      go_enter Tryd.func51, Tryd.ntmps51
      go_wp2_with fail
      go_ret2
      exact ⟨by rw [HE.out]; rfl, (by repeat' (first | exact Below.refl _ _ | assumption | refine Below.drew ?_ | refine Below.alloc ?_ (by first | omega | (simp; done) | (simp; omega)) _ | refine Below.setCell ?_ (by first | omega | (simp; done) | (simp; omega)) _))⟩
    · have h2 : 15 < kd := by omega
      have h1' : 1 ≤ kd := by omega
      clear hk hf h1
      go_enter Tryd.func51, Tryd.ntmps51
      go_wp2_with fail
      go_ret2
      exact ⟨by rw [HE.out]; rfl, (by repeat' (first | exact Below.refl _ _ | assumption | refine Below.drew ?_ | refine Below.alloc ?_ (by first | omega | (simp; done) | (simp; omega)) _ | refine Below.setCell ?_ (by first | omega | (simp; done) | (simp; omega)) _))⟩
  · obtain ⟨k, hkk⟩ : ∃ k : Nat, s.kind = (k : Int) + 1 := ⟨(s.kind - 1).toNat, by omega⟩
    have hk15 : k < 15 := by omega
    obtain ⟨fl1, fl2⟩ := forms_len k hk15
    have hasc := args_ascii k
    obtain ⟨c0, c1, c2⟩ := hf k hk15
    have HSS : Hid (shownS s = endA (shownA s (argsF k) (wordF k) { s with kind := 0 })) := Lib.hid (by
      unfold shownS; rw [if_neg hk, hkk, show ((k : Int) + 1 - 1).toNat = k by omega])
    generalize argsF k = ag at *
    generalize wordF k = wd at *
    have hgl : 0 < w.heap.size := World.block_lt_of_cell? _ _ c0
    have HS := Lib.hid hs
    have hsp : s = ⟨(k : Int) + 1, s.dest, s.a, s.b, s.name⟩ := by cases s; simp at hkk; simp [hkk]
    clear hf hk
    rw [hsp] at HSS HS ⊢
    generalize s.dest = dt at *
    generalize s.a = sa at *
    generalize s.b = sb at *
    generalize s.name = nm at *
    unfold stepC
    clear hsp hkk hs
    have i1 : (0 : Int) ≤ (k : Int) := by omega
    have i2 : (k : Int) < 15 := by omega
    have i3 : ¬ ((k : Int) + 1 < 1) := by omega
    have i4 : ¬ (15 < (k : Int) + 1) := by omega
    have HW : Hid (ShownE ⟨(k : Int) + 1, dt, sa, sb, nm⟩ = match endA (shownA ⟨(k : Int) + 1, dt, sa, sb, nm⟩ ag wd ⟨0, dt, sa, sb, nm⟩) with
      | .inl er => .returned (.tuple #[.string ⟨#[]⟩, .int .i64 er])
      | .inr l => .returned (.tuple #[.string ⟨l.toArray⟩, .int .i64 0])) := Lib.hid (by unfold ShownE; rw [HSS.out])
    have HWW : Hid ((∀ er, shownA ⟨(k : Int) + 1, dt, sa, sb, nm⟩ ag wd ⟨0, dt, sa, sb, nm⟩ = .inl er → ShownE ⟨(k : Int) + 1, dt, sa, sb, nm⟩ = .returned (.tuple #[.string ⟨#[]⟩, .int .i64 er])) ∧ (∀ l r, shownA ⟨(k : Int) + 1, dt, sa, sb, nm⟩ ag wd ⟨0, dt, sa, sb, nm⟩ = .inr (l, r) → ShownE ⟨(k : Int) + 1, dt, sa, sb, nm⟩ = if r = zeroS then .returned (.tuple #[.string ⟨(l ++ [10]).toArray⟩, .int .i64 0]) else .returned (.tuple #[.string ⟨#[]⟩, .int .i64 3]))) := Lib.hid ⟨fun er h => by rw [HW.out, h]; rfl, fun l r h => by rw [HW.out, h]; unfold endA; by_cases hz : r = zeroS <;> simp only [hz, if_true, if_false]⟩
    clear HW HSS
    generalize ShownE ⟨(k : Int) + 1, dt, sa, sb, nm⟩ = E at *
    generalize hA0 : shownA ⟨(k : Int) + 1, dt, sa, sb, nm⟩ ag wd ⟨0, dt, sa, sb, nm⟩ = A0 at *
    have HA0 := Lib.hid hA0; clear hA0
    go_enter Tryd.func51, Tryd.ntmps51
    go_wp2_with fail
    obtain ⟨agB, hagB⟩ : ∃ agB : ByteArray, (⟨ag.toArray⟩ : ByteArray) = agB := ⟨_, rfl⟩
    have hgs : agB.size = ag.length := by rw [← hagB]; rfl
    have hgg : ∀ i (h : i < ag.length) (h' : i < agB.size), agB[i]'h' = ag[i] := fun i h h' => by subst hagB; rfl
    have X1 : Blk (((w.alloc (.cells #[.int .i64 ((k : Int) + 1), .int .i64 dt, .int .i64 sa, .int .i64 sb, .string ⟨nm.toArray⟩] 51)).alloc (.cells #[.int .i64 ((k : Int) + 1), .string ⟨wd.toArray⟩, .string ⟨ag.toArray⟩] 176)).alloc (.cells #[.int .i64 0, .int .i64 dt, .int .i64 sa, .int .i64 sb, .string ⟨nm.toArray⟩] 51)) w.heap.size (stepC ⟨(k : Int) + 1, dt, sa, sb, nm⟩).toArray 51 := ((Blk.new w _ _).alloc _).alloc _
    have X6 : Blk (((w.alloc (.cells #[.int .i64 ((k : Int) + 1), .int .i64 dt, .int .i64 sa, .int .i64 sb, .string ⟨nm.toArray⟩] 51)).alloc (.cells #[.int .i64 ((k : Int) + 1), .string ⟨wd.toArray⟩, .string ⟨ag.toArray⟩] 176)).alloc (.cells #[.int .i64 0, .int .i64 dt, .int .i64 sa, .int .i64 sb, .string ⟨nm.toArray⟩] 51)) (w.heap.size + 2) (stepC ⟨0, dt, sa, sb, nm⟩).toArray 51 := Blk.new' (by simp)
    have hbe : Below w.heap.size w (((w.alloc (.cells #[.int .i64 ((k : Int) + 1), .int .i64 dt, .int .i64 sa, .int .i64 sb, .string ⟨nm.toArray⟩] 51)).alloc (.cells #[.int .i64 ((k : Int) + 1), .string ⟨wd.toArray⟩, .string ⟨ag.toArray⟩] 176)).alloc (.cells #[.int .i64 0, .int .i64 dt, .int .i64 sa, .int .i64 sb, .string ⟨nm.toArray⟩] 51)) := (by repeat' (first | exact Below.refl _ _ | assumption | refine Below.drew ?_ | refine Below.alloc ?_ (by first | omega | (simp; done) | (simp; omega)) _ | refine Below.setCell ?_ (by first | omega | (simp; done) | (simp; omega)) _))
    have hsz3 : (((w.alloc (.cells #[.int .i64 ((k : Int) + 1), .int .i64 dt, .int .i64 sa, .int .i64 sb, .string ⟨nm.toArray⟩] 51)).alloc (.cells #[.int .i64 ((k : Int) + 1), .string ⟨wd.toArray⟩, .string ⟨ag.toArray⟩] 176)).alloc (.cells #[.int .i64 0, .int .i64 dt, .int .i64 sa, .int .i64 sb, .string ⟨nm.toArray⟩] 51)).heap.size = w.heap.size + 3 := by simp
    generalize ((w.alloc (.cells #[.int .i64 ((k : Int) + 1), .int .i64 dt, .int .i64 sa, .int .i64 sb, .string ⟨nm.toArray⟩] 51)).alloc (.cells #[.int .i64 ((k : Int) + 1), .string ⟨wd.toArray⟩, .string ⟨ag.toArray⟩] 176)).alloc (.cells #[.int .i64 0, .int .i64 dt, .int .i64 sa, .int .i64 sb, .string ⟨nm.toArray⟩] 51) = w3 at *
    rw [hagB]
    have HGG := Lib.hid hgg; have HGS := Lib.hid hgs; have HAS := Lib.hid hasc
    clear hagB hgg hgs hasc c0 c1 c2
    go_loopw [5] (fun lv wr => ∃ (j : Nat) (line : List UInt8) (rest : StepL), j ≤ ag.length ∧ lv = .string ⟨line.toArray⟩ ∧ wr.heap[w.heap.size + 3]? = some (.stringIter agB j) ∧
      Blk wr w.heap.size (stepC ⟨(k : Int) + 1, dt, sa, sb, nm⟩).toArray 51 ∧ Blk wr (w.heap.size + 2) (stepC rest).toArray 51 ∧ Below w.heap.size w wr ∧ line.length ≤ 100 + 100 * j ∧
      A0 = shownA ⟨(k : Int) + 1, dt, sa, sb, nm⟩ (ag.drop j) line rest) (fun _ wr => ag.length - itAt wr (w.heap.size + 3))
    case atStart => exact ⟨0, wd, _, by omega, rfl, by rw [← hsz3]; exact heap_alloc_new w3 _, X1.alloc _, X6.alloc _, hbe.alloc (by omega) _, by omega, HA0.out.symm⟩
    case round =>
      obtain ⟨j, line, rest, hj, rfl, hi, hb1, hb6, hb, hll, hA⟩ := hrel
      have HI := Lib.hid hi; have HB1 := Lib.hid hb1; have HB6 := Lib.hid hb6; have HB := Lib.hid hb; have HA := Lib.hid hA
      clear hb1 hb6 hb hA X1 X6 hbe hsz3
      by_cases hlt : j < ag.length
      · have hlt' : j < agB.size := by have := HGS.out; omega
        have hgk := HGG.out j hlt hlt'
        have hx128 : (ag[j]).toNat < 128 := HAS.out _ (List.getElem_mem hlt)
        have hnx := fun ty => Lib.run_next_ascii_at (P := Tryd.prog) wr (w.heap.size + 3) agB j ty hi hlt' (by rw [hgk]; exact hx128)
        rw [hgk] at hnx
        have HDR : Hid (A0 = shownA ⟨(k : Int) + 1, dt, sa, sb, nm⟩ (ag[j] :: ag.drop (j + 1)) line rest) := Lib.hid (by rw [HA.out, List.drop_eq_getElem_cons hlt])
        have HIT : Hid ((wr.iterAt (w.heap.size + 3) agB (j + 1)).heap[w.heap.size + 3]? = some (.stringIter agB (j + 1))) := Lib.hid (Lib.iterAt_heap wr _ agB j (j + 1) hi)
        have Y1 := blk_iter HB1.out (show w.heap.size ≠ w.heap.size + 3 by omega) agB (j + 1)
        have Y6 := blk_iter HB6.out (show w.heap.size + 2 ≠ w.heap.size + 3 by omega) agB (j + 1)
        have YB := HB.out.trans (iterS_below (w := wr) (show w.heap.size ≤ w.heap.size + 3 by omega) agB (j + 1))
        generalize wr.iterAt (w.heap.size + 3) agB (j + 1) = wi at *
        generalize ag[j] = c at *
        have HY1 := Lib.hid Y1; have HY6 := Lib.hid Y6; have HYB := Lib.hid YB
        clear hi hgk HA Y6
        by_cases h110 : c = 110
        · subst h110
          have n4 : wi.cell? ⟨w.heap.size, 4, none⟩ = some (.string ⟨nm.toArray⟩) := HY1.out.cell 4
          have n4l := HY1.out.lt
          have NA := Lib.hid (name_any nm HS.out wi)
          clear Y1 hx128
          go_wp2_with fail
          refine NA.out.mono ?_; rintro e w1 ⟨rfl, b1⟩
          have Z1 := HY1.out.step b1; have Z6 := HY6.out.step b1
          have ZB := Lib.hid (HYB.out.trans (b1.mono HYB.out.size))
          have ZI : Hid (w1.heap[w.heap.size + 3]? = some (.stringIter agB (j + 1))) := Lib.hid ((b1.block _ (Array.getElem?_eq_some_iff.1 HIT.out).1).trans HIT.out)
          have m4 : w1.cell? ⟨w.heap.size, 4, none⟩ = some (.string ⟨nm.toArray⟩) := Z1.cell 4
          have m4l := Z1.lt
          have q4 : w1.cell? ⟨w.heap.size + 2, 4, none⟩ = some (.string ⟨rest.name.toArray⟩) := Z6.cell 4
          have q4f := Z6.froz 4; have q4l := Z6.lt
          have HZ1 := Lib.hid Z1; have HZ6 := Lib.hid Z6
          clear b1 NA HY1 HY6 HYB HIT Z1 Z6 n4 n4l YB
          cases hnb : nameB nm with
          | false =>
            have HE := Lib.hid (HWW.out.1 9 (by rw [HDR.out]; unfold shownA; simp [hnb]))
            clear hnb
            go_wp2_with fail
            go_ret2
            exact ⟨by rw [HE.out]; rfl, ZB.out⟩
          | true =>
            have hn12 := nameB_len hnb
            have n1 : (9223372036854775807 < 1 + nm.length) = False := by simp; omega
            have n2 : (9223372036854775807 < line.length + (1 + nm.length)) = False := by simp; omega
            have HCAT : Hid (((⟨line.toArray⟩ : ByteArray) ++ ((⟨#[32]⟩ : ByteArray) ++ ⟨nm.toArray⟩)) = ⟨(line ++ ([32] ++ nm)).toArray⟩) := Lib.hid (bytes_of (by simp)).symm
            have HNX : Hid (A0 = shownA ⟨(k : Int) + 1, dt, sa, sb, nm⟩ (ag.drop (j + 1)) (line ++ ([32] ++ nm)) { rest with name := [] }) := Lib.hid (by rw [HDR.out, shownA]; simp [hnb])
            have HLL : Hid ((line ++ ([32] ++ nm)).length ≤ 100 + 100 * (j + 1)) := Lib.hid (by simp; omega)
            clear hnb hll
            go_wp2_with fail
            rw [HCAT.out]
            go_roundw
            case rel => exact ⟨j + 1, _, _, by omega, rfl, by rw [Below.heap_setCell _ _ _ _ (show w.heap.size + 3 ≠ w.heap.size + 2 by omega)]; exact ZI.out, HZ1.out.far (a := ⟨w.heap.size + 2, 4, none⟩) (by show w.heap.size ≠ w.heap.size + 2; omega) _, (HZ6.out.put 4 _).eq rfl, ZB.out.setCell (p := ⟨w.heap.size + 2, 4, none⟩) (by show w.heap.size ≤ w.heap.size + 2; omega) _, HLL.out, HNX.out⟩
            case measure =>
              have h1 : (((w1.setCell ⟨w.heap.size + 2, 4, none⟩ (.string ⟨#[]⟩))).heap[w.heap.size + 3]?) = some (.stringIter agB (j + 1)) := by rw [Below.heap_setCell _ _ _ _ (show w.heap.size + 3 ≠ w.heap.size + 2 by omega)]; exact ZI.out
              rw [itAt_of HI.out, itAt_of h1]; omega
        · have hx : (c.toNat : Int) ≠ 110 := fun e => h110 (by
            have : c.toNat = (110 : UInt8).toNat := by have h2 : (110 : UInt8).toNat = 110 := rfl; omega
            exact UInt8.toNat_inj.1 this)
          have e1 : ((c.toNat : Int) == 110) = false := by simpa using hx
          have FA := Lib.hid (fun b W => field_any b (c.toNat : Int) W)
          have gF : wi.cell? ⟨w.heap.size, offF (c.toNat : Int), none⟩ = some (.int .i64 (getF ⟨(k : Int) + 1, dt, sa, sb, nm⟩ c.toNat)) := by
            rw [HY1.out.cell]; simpa using getF_at _ _
          have hoff := offF_lt (c.toNat : Int)
          have n1l := HY1.out.lt; have n6l := HY6.out.lt
          have HSF := Lib.hid (setF_at rest (c.toNat : Int) 0)
          generalize hx2 : (c.toNat : Int) = x at *
          generalize hof : offF x = of at *
          have HOF := Lib.hid hof; clear hof
          have HG : Hid (∀ A B C, shownA ⟨(k : Int) + 1, dt, sa, sb, nm⟩ (c :: A) B C = if getF ⟨(k : Int) + 1, dt, sa, sb, nm⟩ x < 0 ∨ 25 < getF ⟨(k : Int) + 1, dt, sa, sb, nm⟩ x then .inl 2 else shownA ⟨(k : Int) + 1, dt, sa, sb, nm⟩ A (B ++ [32, UInt8.ofNat (97 + (getF ⟨(k : Int) + 1, dt, sa, sb, nm⟩ x).toNat)]) (setF C x 0)) := Lib.hid (fun A B C => by rw [shownA, if_neg h110, hx2])
          generalize getF ⟨(k : Int) + 1, dt, sa, sb, nm⟩ x = r at *
          rw [HG.out] at HDR
          clear Y1 hx128 hx hx2 h110 HG
          go_wp2_with fail
          refine (FA.out _ _).mono ?_; rintro e w_ ⟨rfl, rfl⟩
          by_cases r0 : r < 0
          · have HE := Lib.hid (HWW.out.1 2 (by rw [HDR.out, if_pos (.inl r0)]))
            go_wp2_with fail
            go_ret2
            exact ⟨by rw [HE.out]; rfl, HYB.out⟩
          · by_cases r1 : 25 < r
            · have HE := Lib.hid (HWW.out.1 2 (by rw [HDR.out, if_pos (.inr r1)]))
              go_wp2_with fail
              go_ret2
              exact ⟨by rw [HE.out]; rfl, HYB.out⟩
            · have HNX := Lib.hid HDR.out
              rw [if_neg (by omega)] at HNX
              have hw1 : IntKind.i64.wrap (97 + r) = 97 + r := IntWalk.i64_in _ (by omega)
              have hw2 : IntKind.i32.wrap (97 + r) = 97 + r := by rw [IntKind.wrap_i32] <;> omega
              have hen := encode_let r (by omega) (by omega)
              generalize UInt8.ofNat (97 + r.toNat) = le at *
              have n1 : (9223372036854775807 < 1 + 1) = False := by simp
              have n2 : (9223372036854775807 < line.length + (1 + 1)) = False := by simp; omega
              have HCAT : Hid (((⟨line.toArray⟩ : ByteArray) ++ ((⟨#[32]⟩ : ByteArray) ++ ⟨#[le]⟩)) = ⟨(line ++ [32, le]).toArray⟩) := Lib.hid (bytes_of (by simp)).symm
              go_wp2_with fail
              have q6 : wi.cell? ⟨w.heap.size + 2, of, none⟩ = some (.int .i64 (getF rest x)) := by
                rw [HY6.out.cell]; simpa [HOF.out] using getF_at rest x
              have q6f := HY6.out.froz of; have q6l := HY6.out.lt
              refine (FA.out _ _).mono ?_; rintro e w_ ⟨rfl, rfl⟩
              have HFL : Hid ((line ++ [32, le]).length ≤ 100 + 100 * (j + 1)) := Lib.hid (by simp; omega)
              go_wp2_with fail
              rw [HCAT.out]
              go_roundw
              case rel => exact ⟨j + 1, _, _, by omega, rfl, by rw [Below.heap_setCell _ _ _ _ (show w.heap.size + 3 ≠ w.heap.size + 2 by omega)]; exact HIT.out, HY1.out.far (a := ⟨w.heap.size + 2, of, none⟩) (by show w.heap.size ≠ w.heap.size + 2; omega) _, (HY6.out.put of _).eq (show (stepC rest).toArray.setIfInBounds of _ = _ by rw [List.setIfInBounds_toArray, HSF.out]), HYB.out.setCell (p := ⟨w.heap.size + 2, of, none⟩) (by show w.heap.size ≤ w.heap.size + 2; omega) _, HFL.out, HNX.out⟩
              case measure =>
                have h1 : (((wi.setCell ⟨w.heap.size + 2, of, none⟩ (.int .i64 0))).heap[w.heap.size + 3]?) = some (.stringIter agB (j + 1)) := by rw [Below.heap_setCell _ _ _ _ (show w.heap.size + 3 ≠ w.heap.size + 2 by omega)]; exact HIT.out
                rw [itAt_of HI.out, itAt_of h1]; omega
      · obtain rfl : j = ag.length := by omega
        have hlt' : ¬ ag.length < agB.size := by have := HGS.out; omega
        have hnx := fun ty => Lib.run_next_end_at (P := Tryd.prog) wr (w.heap.size + 3) agB ag.length ty hi hlt'
        have HE := Lib.hid (HWW.out.2 line rest (by rw [HA.out, List.drop_length]; rfl))
        clear hi
        have HIE := Lib.hid HE.out
        obtain ⟨rk, rd, ra, rb, rn⟩ := rest
        have q0 : wr.cell? ⟨w.heap.size + 2, 0, none⟩ = some (.int .i64 rk) := HB6.out.cell 0
        have q1 : wr.cell? ⟨w.heap.size + 2, 1, none⟩ = some (.int .i64 rd) := HB6.out.cell 1
        have q2 : wr.cell? ⟨w.heap.size + 2, 2, none⟩ = some (.int .i64 ra) := HB6.out.cell 2
        have q3 : wr.cell? ⟨w.heap.size + 2, 3, none⟩ = some (.int .i64 rb) := HB6.out.cell 3
        have q4 : wr.cell? ⟨w.heap.size + 2, 4, none⟩ = some (.string ⟨rn.toArray⟩) := HB6.out.cell 4
        have q5 := HB6.out.lt
        have n3 : (9223372036854775807 < line.length + 1) = False := by simp; omega
        have HCAT : Hid (((⟨line.toArray⟩ : ByteArray) ++ (⟨#[10]⟩ : ByteArray)) = ⟨(line ++ [10]).toArray⟩) := Lib.hid (bytes_of (by simp)).symm
        clear HA HE
        by_cases hz : (⟨rk, rd, ra, rb, rn⟩ : StepL) = zeroS
        · have HE2 : Hid (E = .returned (.tuple #[.string ⟨(line ++ [10]).toArray⟩, .int .i64 0])) := Lib.hid (by rw [HIE.out, if_pos hz])
          obtain ⟨rfl, rfl, rfl, rfl, rfl⟩ : rk = 0 ∧ rd = 0 ∧ ra = 0 ∧ rb = 0 ∧ rn = [] := by simpa [zeroS] using hz
          clear hz HIE
          go_wp2_with fail
          rw [HCAT.out]
          go_ret2
          exact ⟨by rw [HE2.out]; rfl, HB.out⟩
        · have HE2 : Hid (E = .returned (.tuple #[.string ⟨#[]⟩, .int .i64 3])) := Lib.hid (by rw [HIE.out, if_neg hz])
          have HNZ : Hid (¬ (rk = 0 ∧ rd = 0 ∧ ra = 0 ∧ rb = 0 ∧ rn = [])) := Lib.hid (fun h => hz (by simp [zeroS, h.1, h.2.1, h.2.2.1, h.2.2.2.1, h.2.2.2.2]))
          clear hz HIE
          go_wp2_with fail
          all_goals
            first
            | (exfalso; have hh := HNZ.out; simp_all; done)
            | (go_ret2; exact ⟨by rw [HE2.out]; rfl, HB.out⟩)
end Go.Proofs.YtkmnacchiagipaaDoor
