/- turn.table. -/
import Derived.Test.YtphoioejhdjbaaaTurn2
import Derived.Test.YtphoioejhdjbaaaMapLaw
import Derived.Test.YtphoioejhdjbaaaMBox
import Derived.Test.YtphoioejhdjbaaaCheck
import Derived.Deep.RegionLaw
import Derived.Carry
namespace Go.Proofs.Ytphoioejhdjbaaa
open Go.RowKit


theorem zeroIntR (w : World) : (zeroValue 3).run Try.prog w = .ok (.int .i64 0) w := by kernel_rfl
abbrev keyI (k : Int) : Value := .int .i64 k
theorem keyOkI : KeyOk Try.prog 3 keyI where
  chk e k w := by cases e <;> kernel_rfl
  eq a b w := by
    show (Op.equalIn 10000 _ _ _).run _ w = _
    rw [run_equalIn_int w _ _ _ _ _ _ Try.underlying3]
    by_cases h : a = b <;> simp [h]
  stays a := by simp [Instr.sameBits]
  now a b := ⟨_, Try.underlying3, .inr (by by_cases h : a = b <;> simp [Instr.sameNow, h])⟩
def changeCells (p : Int × Int) : List Value := [.int .i64 p.1, .int .i64 p.2]
theorem mput_newI {l : List (Int × Int)} {k v : Int} (h : k ∉ l.map (·.1)) : mput l k v = l ++ [(k, v)] := by
  induction l with
  | nil => rfl
  | cons p l ih =>
    simp only [List.map_cons, List.mem_cons, not_or] at h
    simp only [mput, if_neg h.1, ih h.2]; rfl

set_option maxRecDepth 100000 in
set_option maxHeartbeats 4000000 in
theorem table_any (A : Option Addr) (c : Nat) (es : List (Int × Int)) (w : World) (h : Rd w A es.length 2 (es.flatMap changeCells)) (hn : es.length ≤ 50) (hd : (es.map (·.1)).Nodup) (hb : ∀ e ∈ es, 1 ≤ e.1 ∧ e.1 ≤ 1000 ∧ 0 ≤ e.2 ∧ e.2 ≤ 1000) :
    Calls Try.prog 55 #[.slice A es.length c] w fun e w' => e = .returned (.tuple #[.map (some w.heap.size), .int .i64 0]) ∧ MapB w' w.heap.size keyI intV es ∧ Below w.heap.size w w' := by
  have rd := h.rdy
  have HR := Lib.hid h; have HD := Lib.hid hd; have HB := Lib.hid hb
  clear h hd hb
  have hmm := run_makeMap (P := Try.prog) 98 w
  have g1 : ¬ (50 : Int) < (es.length : Int) := by omega
  go_enter Try.func55, Try.ntmps55
  go_wp2_with fail
  clear hmm
  have M0 : MapB (w.alloc (.map #[] 0)) w.heap.size keyI intV [] := MapB.made w _ rfl _ _
  have b0 : Below w.heap.size w (w.alloc (.map #[] 0)) := (by repeat' (first | exact Below.refl _ _ | assumption | refine Below.drew ?_ | refine Below.alloc ?_ (by first | omega | (simp; done) | (simp; omega)) _ | refine Below.setCell ?_ (by first | omega | (simp; done) | (simp; omega)) _))
  generalize w.alloc (.map #[] 0) = w1 at *
  go_loopw [5, 16] (fun tv iv wr => ∃ k : Nat, k ≤ es.length ∧ iv = .int .i64 k ∧ tv = .bool false ∧ MapB wr w.heap.size keyI intV (es.take k) ∧ Below w.heap.size w wr) (fun _ iv _ => es.length - (intOf iv).toNat)
  case atStart => exact ⟨0, by omega, rfl, rfl, M0, b0⟩
  case round =>
    obtain ⟨k, hk, rfl, rfl, hM, bel⟩ := hrel
    by_cases hlt : k < es.length
    · have hR := HR.out.below bel rfl
      have d0 : wr.cell? ⟨blk A, ofs A + k * 2, none⟩ = some (.int .i64 es[k].1) := hR.at' (by have := flatMap_at changeCells 2 (fun _ => rfl) es k hlt 0 (by omega); simpa [changeCells] using this)
      have d1 : wr.cell? ⟨blk A, ofs A + k * 2 + 1, none⟩ = some (.int .i64 es[k].2) := by
        have := hR.at' (j := k * 2 + 1) (u := .int .i64 es[k].2) (by have := flatMap_at changeCells 2 (fun _ => rfl) es k hlt 1 (by omega); simpa [changeCells] using this)
        rw [Nat.add_assoc]; exact this
      have hbd := HB.out _ (List.getElem_mem hlt)
      have hts : es.take (k + 1) = es.take k ++ [es[k]] := List.take_succ_eq_append_getElem hlt
      have hni : es[k].1 ∉ (es.take k).map (·.1) := by
        have h1 : ((es.take (k + 1)).map (·.1)).Nodup := by rw [List.map_take]; exact HD.out.sublist (List.take_sublist _ _)
        rw [hts, List.map_append, List.nodup_append] at h1
        intro hm
        exact h1.2.2 _ hm _ (by simp) rfl
      have lA := World.block_lt_of_cell? _ _ d0
      generalize es[k] = p at *
      obtain ⟨f, t⟩ := p
      simp only at d0 d1 hbd hni
      obtain ⟨f0, f1, t0, t1⟩ := hbd
      have e1 : ¬ f < 1 := by omega
      have e2 : ¬ 1000 < f := by omega
      have e3 : ¬ t < 0 := by omega
      have e4 : ¬ 1000 < t := by omega
      have hM2 := hM.alloc (.cells #[.int .i64 f, .int .i64 t] 67)
      have b2 : Below w.heap.size w (wr.alloc (.cells #[.int .i64 f, .int .i64 t] 67)) := bel.alloc bel.size _
      have hlk : (Instr.lookup 98 (.map (some w.heap.size)) (.int .i64 f) true).run Try.prog (wr.alloc (.cells #[.int .i64 f, .int .i64 t] 67)) = .ok (.tuple #[.int .i64 0, .bool false]) (wr.alloc (.cells #[.int .i64 f, .int .i64 t] 67)) := by
        have := run_lookup_x hM2 keyOkI Try.underlying98 f true (zeroIntR _)
        rw [(assoc_none_iff _ _).2 hni] at this
        exact this
      have hmu := run_mapUpdate_x hM2 keyOkI Try.underlying98 f t
      have HMP := hM2.put f t
      have hgr : (wr.alloc (.cells #[.int .i64 f, .int .i64 t] 67)).grownBy _ (some w.heap.size) := setBlock_grown (b := w.heap.size) (mapObj keyI intV (mput (es.take k) f t))
      rw [mput_newI hni, ← hts] at hmu HMP hgr
      have BC : Blk (wr.alloc (.cells #[.int .i64 f, .int .i64 t] 67)) wr.heap.size #[.int .i64 f, .int .i64 t] 67 := Blk.new _ _ _
      have kc := BC.cell; have kl := BC.lt
      go_upto_region 8 with fail
      generalize wr.alloc (.cells #[.int .i64 f, .int .i64 t] 67) = w2 at *
      have b3 := b2.grown hgr b2.size (fun j hj => by simp at hj; omega)
      have HMP2 := Lib.hid HMP
      generalize Go.ChangeMaps.setBlock w2 w.heap.size (mapObj keyI intV (es.take (k + 1))) = w3 at *
      have hmu2 : (Instr.mapUpdate 98 (.map (some w.heap.size)) (.int .i64 f) (.int .i64 t)).run Try.prog w2 = .ok () w3 := hmu
      clear hR hts hni hM hM2 hmu HMP hgr BC d0 d1 lA
      go_wp2_with fail
      go_roundw
      case rel => exact ⟨k + 1, by omega, by go_num, rfl, HMP2.out, b3⟩
      case measure => simp [intOf]; omega
    · obtain rfl : k = es.length := by omega
      rw [List.take_length] at hM
      have HM := Lib.hid hM
      clear hM
      go_wp2_with fail
      go_ret2
      exact ⟨rfl, HM.out, bel⟩
end Go.Proofs.Ytphoioejhdjbaaa
