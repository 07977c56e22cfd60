/- certain.Make. -/
import Derived.Test.YtkmnacchiagipaaDoorCertMk
import Derived.Test.YtkmnacchiagipaaDoorBits
import Derived.Test.YtkmnacchiagipaaDoorCertPlain
namespace Go.Proofs.YtkmnacchiagipaaDoor
open Go.RowKit
open Go.ChangeMaps (setBlock)

def CertFull (m : MachL) (WW : Int) : Prop := ∃ Ss xs cur S ks, CertI m WW Ss xs cur ∧ CurI m Ss xs S ks cur ∧ (400 < (flatA xs ++ cur).length ∨ 60 < Ss.length)
/-- what Make answers -/
def CertA (m : MachL) (WW : Int) (w w' : World) (e : Ending) : Prop := (e = .returned (.tuple #[.agg #[.int .i64 0, .slice none 0 0], .int .i64 5]) ∧ CertFull m WW) ∨
  ∃ mv x, e = .returned (.tuple #[mv, .int .i64 0]) ∧ OwnMach w' w.heap.size mv x ∧ CertOk m WW x ∧ Valid x
theorem certI_len {m : MachL} {WW : Int} {Ss : List SetL} {xs : List StateL} {cur : List ArcL} (h : CertI m WW Ss xs cur) (hm : m.states.length ≤ 60) {j : Nat} {S : SetL} (hj : Ss[j]? = some S) : S.length ≤ 60 :=
  Nat.le_trans (sorted_len m.states.length (h.srt S (List.mem_of_getElem? hj)) fun p hp => ((h.left j S hj).2 p hp).1) hm
theorem certI_ok {m : MachL} {WW : Int} {Ss : List SetL} {xs : List StateL} {cur : List ArcL} (h : CertI m WW Ss xs cur) (hm : m.states.length ≤ 60) (hW : WW ≤ 10000000) {j : Nat} {S : SetL} (hj : Ss[j]? = some S) (hl : Ss.length ≤ 61) : SetOk m S := by
  refine ⟨certI_len h hm hj, fun p hp' => ?_⟩
  have h1 := (h.left j S hj).2 p hp'
  have h2 := (List.getElem?_eq_some_iff.1 hj).1
  have h3 : WW * (j : Int) ≤ 10000000 * 61 := Int.mul_le_mul hW (by omega) (by omega) (by omega)
  exact ⟨h1.1, h1.2.1, by omega⟩
theorem zeroAt (w : World) : (zeroValue 133).run Tryd.prog w = .ok (.agg #[.int .i64 0]) w := by kernel_rfl
theorem SetAt.of_own {w : World} {B0 c : Nat} {A : Option Addr} {S : SetL} (h : OwnTwos 130 w B0 (.slice A S.length c) (setI S)) : SetAt w A S := by
  unfold OwnTwos at h
  rw [setI_len] at h
  exact TwosAt.of_own h
theorem arcsQ_400 {m : MachL} (hv : Valid m) (q : Nat) : (arcsQ m q).length ≤ 400 := by
  have h3 := hv.arcs
  unfold arcsQ
  cases hs : m.states[q]? with
  | none => simp
  | some s =>
    simp only [Option.map_some, Option.getD_some]
    have h4 := List.mem_of_getElem? hs
    obtain ⟨l1, l2, h5⟩ := List.append_of_mem h4
    unfold arcsOf at h3
    rw [h5] at h3
    simp at h3
    omega
theorem cand_arc {m : MachL} (hv : Valid m) {S : SetL} {i o : Int} {q : Nat} {c : Int} (h : Cand m S i o q c) : ((0 ≤ i ∧ i ≤ 1000) ∧ 0 ≤ o ∧ o ≤ 1000) ∧ (i, o) ∈ (flatA m.states).map kOf := by
  obtain ⟨p, -, a, ha, rfl, rfl, -, -⟩ := h
  obtain ⟨s, hs, hm⟩ := arcsQ_mem ha
  have hm2 := List.mem_of_getElem? hs
  have := (hv.st s hm2).2 a hm
  exact ⟨⟨⟨this.i0, this.i1⟩, this.o0, this.o1⟩, List.mem_map.2 ⟨a, List.mem_flatMap.2 ⟨s, hm2, hm⟩, rfl⟩⟩
theorem tab_keys {m : MachL} (hv : Valid m) {S : SetL} {L : TabL} {F : TabF} (h : RS L F (fun _ => False) (fun k q c => Cand m S k.1 k.2 q c)) (nd : (L.map (·.1)).Nodup) :
    L.length ≤ 400 ∧ ∀ x ∈ L, (0 ≤ x.1.1 ∧ x.1.1 ≤ 1000) ∧ 0 ≤ x.1.2 ∧ x.1.2 ≤ 1000 := by
  have key : ∀ k ∈ L.map (·.1), ∃ q c, Cand m S k.1 k.2 q c := fun k hk => ((h.key k).1 hk).resolve_left id
  refine ⟨?_, fun x hx => ?_⟩
  · have h1 := nodup_subR (L.map (·.1)) ((flatA m.states).map kOf) nd fun k hk => by
      obtain ⟨q, c, hc⟩ := key k hk
      exact (cand_arc hv hc).2
    rw [List.length_map, List.length_map, flatA_len] at h1
    exact Nat.le_trans h1 hv.arcs
  · obtain ⟨q, c, hc⟩ := key x.1 (List.mem_map.2 ⟨x, hx, rfl⟩)
    exact (cand_arc hv hc).1
theorem tab_inner {m : MachL} {WW : Int} (hw : WtC m WW) (hW : WW ≤ 10000000) {S : SetL} (hS : SetOk m S) {n : Nat} (hn : m.states.length = n) (h60 : n ≤ 60) {L : TabL} {F : TabF} (h : RS L F (fun _ => False) (fun k q c => Cand m S k.1 k.2 q c)) {k : KK} {b : Nat} (hb : (k, b) ∈ L) (nd : ((F b).map (·.1)).Nodup) :
    F b ≠ [] ∧ (∀ x ∈ F b, 0 ≤ x.2 ∧ x.2 ≤ 1000000000) ∧ (F b).length ≤ 1000 := by
  have key : ∀ x ∈ F b, Cand m S k.1 k.2 x.1 x.2 := fun x hx => (h.val k b hb x.1 x.2 ((mem_assoc nd).1 hx)).1
  refine ⟨fun e => ?_, fun x hx => cand_bound hw hW hS (key x hx), ?_⟩
  · obtain ⟨q, c, hc⟩ := ((h.key k).1 (List.mem_map.2 ⟨_, hb, rfl⟩)).resolve_left id
    have h1 := h.has k b hb q c hc
    rw [e] at h1
    simp [assoc] at h1
  · have h1 := nodup_ltR (idx := (F b).map (·.1)) (n := n) nd fun i hi => by
      obtain ⟨x, hx, rfl⟩ := List.mem_map.1 hi
      obtain ⟨p, -, a, ha, -, -, h3, -⟩ := key x hx
      have := (hw.tgt _ a ha).2
      omega
    rw [List.length_map] at h1
    omega
theorem sb_far {w w' : World} {bs base c r : Nat} {f : Int} {A : Option Addr} {xs : List Value} (h : Blk w bs #[.int .i64 f, .slice A r c] 76) (ho : w.ownsRow base 78 4 (.slice A r c) r xs) (hg : w.grownBy w' (Value.slice A r c).ownBlock) :
    (∀ o, w'.cell? ⟨bs, o, none⟩ = (#[.int .i64 f, .slice A r c] : Array Value)[o]?) ∧ (∀ o, w'.frozen? ⟨bs, o, none⟩ = false) ∧ bs < w'.heap.size := by
  have hk : w.heap[bs]? = some (.cells #[.int .i64 f, .slice A r c] 76 (0, 0)) := h
  have s1 : Blk w' bs #[.int .i64 f, .slice A r c] 76 := h.grown hg (fun e => ownT_ne ho hk (by decide) e.symm)
  exact ⟨s1.cell, s1.froz, s1.lt⟩
theorem ob_far {w w' : World} {g base c r : Nat} {f : Int} {A : Option Addr} {xs : List Value} (h : Blk w g #[.int .i64 f, .slice A r c] 41) (ho : w.ownsRow base 76 2 (.slice A r c) r xs) (hg : w.grownBy w' (Value.slice A r c).ownBlock) :
    (∀ o, w'.cell? ⟨g, o, none⟩ = (#[.int .i64 f, .slice A r c] : Array Value)[o]?) ∧ (∀ o, w'.frozen? ⟨g, o, none⟩ = false) ∧ g < w'.heap.size := by
  have hk : w.heap[g]? = some (.cells #[.int .i64 f, .slice A r c] 41 (0, 0)) := h
  have s1 : Blk w' g #[.int .i64 f, .slice A r c] 41 := h.grown hg (fun e => ownT_ne ho hk (by decide) e.symm)
  exact ⟨s1.cell, s1.froz, s1.lt⟩
theorem OwnStV.setT {w : World} {B0 : Nat} {v : Value} {vs : List Value} {ss : List StateL} (h : OwnStV w B0 v vs ss) {b : Nat} {cs : Array Value} {T : TypeId} (hb : Blk w b cs T) (h1 : T ≠ 76) (h2 : T ≠ 78) (o : Nat) (u : Value) : OwnStV (w.setCell ⟨b, o, none⟩ u) B0 v vs ss := by
  have hk : w.heap[b]? = some (.cells cs T (0, 0)) := hb
  exact ⟨h.len, own_setCell h.row (ownT_ne h.row hk h1.symm) _, fun i hi hi' => own_setCell (h.arcs i hi hi') (ownT_ne (h.arcs i hi hi') hk h2.symm) _⟩
theorem certI_valid {m : MachL} {WW : Int} (hv : Valid m) (hw : WtC m WW) (hW : WW ≤ 10000000) {Ss : List SetL} {xs : List StateL} (h : CertI m WW Ss xs []) (hl : xs.length = Ss.length) (h60 : Ss.length ≤ 60) (h400 : (flatA xs).length ≤ 400) : Valid ⟨0, xs⟩ := by
  have hp := (List.getElem?_eq_some_iff.1 h.first).1
  refine ⟨by show xs.length ≤ 60; omega, by rw [← flatA_len]; exact h400, by show (-1 : Int) ≤ 0; omega, by show (0 : Int) < xs.length; omega, fun s hs => ?_⟩
  obtain ⟨i, hi⟩ := List.getElem?_of_mem hs
  obtain ⟨S, h1, h2, h3⟩ := h.st i s hi
  have hil := (List.getElem?_eq_some_iff.1 h1).1
  have hSb : ∀ p ∈ S, 0 ≤ p.2 ∧ p.2 ≤ 600000000 := fun p hp' => by
    have h5 := (h.left i S h1).2 p hp'
    have h6 : WW * (i : Int) ≤ 10000000 * 60 := Int.mul_le_mul hW (by omega) (by omega) (by omega)
    omega
  refine ⟨?_, fun a ha => ?_⟩
  · rcases h2 with ⟨h2, -⟩ | ⟨-, ⟨p, hp', h5, h6⟩, -⟩
    · exact .inr h2
    · have := hSb p hp'; have := hw.f _ h5
      exact .inl (by omega)
  · obtain ⟨q, c, hc⟩ := (h3.keys.mem (kOf a)).1 (List.mem_map.2 ⟨a, ha, rfl⟩)
    obtain ⟨⟨⟨k1, k2⟩, k3, k4⟩, -⟩ := cand_arc hv hc
    obtain ⟨k5, T, k6, -⟩ := h3.nx a ha
    have k7 := (List.getElem?_eq_some_iff.1 k6).1
    have k8 := h.wts a (List.mem_append_left _ (List.mem_flatMap.2 ⟨s, hs, ha⟩))
    have h6 : WW * (Ss.length : Int) ≤ 10000000 * 60 := Int.mul_le_mul hW (by omega) (by omega) (by omega)
    exact ⟨k1, k2, k3, k4, k8.1, by omega, k5, by show a.to < (xs.length : Int); omega⟩
/-- how many states are done, read off the world -/
def outLen (w : World) (g : Nat) : Nat := match w.cell? ⟨g, 1, none⟩ with | some (.slice _ k _) => k | _ => 0
theorem MK.outLen {w wr : World} {B : Option Addr} {n cb g bn : Nat} {st : Int} {tv sv : Value} {vs : List Value} {ss : List StateL} {Ss : List SetL} {ts : List Value} {NL : List (List UInt8 × Nat)} (h : MK w B n cb st g bn wr tv sv vs ss Ss ts NL) : outLen wr g = ss.length := by
  obtain ⟨A, c, rfl, -, -⟩ := h.own.form
  have := h.ob.cell 1
  simp only [List.getElem?_toArray, List.getElem?_cons_succ, List.getElem?_cons_zero] at this
  unfold Proofs.YtkmnacchiagipaaDoor.outLen
  rw [this]
theorem MK.todo {w wr : World} {B : Option Addr} {n cb g bn : Nat} {st : Int} {At : Option Addr} {nt ct : Nat} {sv : Value} {vs : List Value} {ss : List StateL} {Ss : List SetL} {ts : List Value} {NL : List (List UInt8 × Nat)} (h : MK w B n cb st g bn wr (.slice At nt ct) sv vs ss Ss ts NL) {j : Nat} {S : SetL} (hj : Ss[j]? = some S) :
    ∃ A c, wr.cell? ⟨blk At, ofs At + j, none⟩ = some (.slice A S.length c) ∧ OwnTwos 130 wr w.heap.size (.slice A S.length c) (setI S) := by
  obtain ⟨A, c, h1, h2⟩ := h.se j S hj
  obtain ⟨A', c', hv, -, -⟩ := own_form h.td
  simp only [Value.slice.injEq] at hv
  obtain ⟨-, rfl, -⟩ := hv
  obtain ⟨hjl, h3⟩ := List.getElem?_eq_some_iff.1 h1
  exact ⟨A, c, by rw [(Rd.of_own h.td).cell j hjl, h3], h2⟩
set_option maxRecDepth 100000 in
set_option maxHeartbeats 32000000 in
theorem Make_any (v : Value) (m : MachL) (WW : Int) (w : World) (hm : MachAt w v m) (hv : Valid m) (hw : WtC m WW) (hW : WW ≤ 10000000) (hfull : (bitsOf m.states).full = true) (h0 : 0 ≤ m.start) (ht : TabP w) :
    Calls Tryd.prog 25 #[v] w fun e w' => CertA m WW w w' e ∧ Below w.heap.size w w' := by
  have BT : Hid (∀ W, Below w.heap.size w W → Calls Tryd.prog 26 #[v] W fun e w' => (∃ a c s p, e = .returned (.tuple #[.agg #[.bool a, .bool true, .bool c, .bool s, .bool p], .int .i64 0])) ∧ Below W.heap.size W w') := Lib.hid fun W hb => (Bits_any v m W (hm.below hb) hv).mono fun e w' h => ⟨⟨(bitsOf m.states).acc, (bitsOf m.states).cert, (bitsOf m.states).sorted, (bitsOf m.states).plain, by rw [h.1, hfull]⟩, h.2⟩
  have HV := Lib.hid hv; have HW := Lib.hid hw; have HT := Lib.hid ht
  have hmm := @run_makeMap Tryd.prog
  obtain ⟨B, cb, rfl, hS⟩ := hm
  have hsz := hv.size
  have HS := Lib.hid hS
  obtain ⟨sn, hsn⟩ : ∃ sn : Nat, m.start = sn := ⟨m.start.toNat, by omega⟩
  have hsn2 : m.start.toNat = sn := by omega
  have hsl : sn < m.states.length := by have := hv.s1; omega
  have HC0 : Hid (CertI m WW [[(sn, 0)]] [] []) := Lib.hid (by rw [← hsn2]; exact CertI.begin h0 hv.s1)
  have HSN := Lib.hid hsn
  rw [hsn] at BT ⊢
  clear hS hv hw ht hfull h0 hsn hsn2
  generalize hml : m.states.length = n at *
  have HML := Lib.hid hml
  clear hml
  go_enter Tryd.func25, Tryd.ntmps25
  go_wp2_with fail
  refine (BT.out _ (by repeat' (first | exact Below.refl _ _ | assumption | refine Below.drew ?_ | refine Below.alloc ?_ (by first | omega | (simp; done) | (simp; omega)) _ | refine Below.setCell ?_ (by first | omega | (simp; done) | (simp; omega)) _))).mono ?_; rintro e w1 ⟨⟨a, c, s, p, rfl⟩, r1⟩
  have M1 : Blk w1 w.heap.size #[.int .i64 sn, .slice B n cb] 41 := Blk.step ((Blk.new' rfl).alloc _) r1
  have R1 : Blk w1 (w.heap.size + 1) #[.int .i64 0, .slice none 0 0] 41 := Blk.step (Blk.new' (by simp)) r1
  have b1 : Below w.heap.size w w1 := ((by repeat' (first | exact Below.refl _ _ | assumption | refine Below.drew ?_ | refine Below.alloc ?_ (by first | omega | (simp; done) | (simp; omega)) _ | refine Below.setCell ?_ (by first | omega | (simp; done) | (simp; omega)) _)) : Below w.heap.size w _).trans (r1.mono (by simp; omega))
  have hz1 : w.heap.size + 1 < w1.heap.size := R1.lt
  have HM1 := Lib.hid M1; have HR1 := Lib.hid R1; have HB1 := Lib.hid b1
  have km := M1.cell; have kl := M1.lt
  have s0 : (0 : Int) ≤ (sn : Int) := by omega
  clear r1 M1 R1 b1 BT
  go_wp2_with fail
  clear km kl
  have bA : Below w1.heap.size w1 (((w1.alloc (.cells #[.bool a, .bool true, .bool c, .bool s, .bool p] 66)).alloc (.cells #[.int .i64 sn, .int .i64 0] 130)).alloc (.map #[] 0)) := (by repeat' (first | exact Below.refl _ _ | assumption | refine Below.drew ?_ | refine Below.alloc ?_ (by first | omega | (simp; done) | (simp; omega)) _ | refine Below.setCell ?_ (by first | omega | (simp; done) | (simp; omega)) _))
  have MP : MapB (((w1.alloc (.cells #[.bool a, .bool true, .bool c, .bool s, .bool p] 66)).alloc (.cells #[.int .i64 sn, .int .i64 0] 130)).alloc (.map #[] 0)) (w1.heap.size + 2) strC atV [] := MapB.made _ _ (by simp) _ _
  have FR : OwnTwos 130 (((w1.alloc (.cells #[.bool a, .bool true, .bool c, .bool s, .bool p] 66)).alloc (.cells #[.int .i64 sn, .int .i64 0] 130)).alloc (.map #[] 0)) w.heap.size (.slice (some ⟨w1.heap.size + 1, 0, none⟩) 1 1) (setI [(sn, 0)]) := by
    have h := World.ownsRow_lit (base := w.heap.size) (e := 130) (size := 2) (w1.alloc (.cells #[.bool a, .bool true, .bool c, .bool s, .bool p] 66)) #[.int .i64 sn, .int .i64 0] 1 (by simp; omega) (by simp [maxLen]) rfl
    have h2 := h.alloc (.map #[] 0)
    simp only [World.size_alloc] at h2
    exact h2
  have HM2 := Lib.hid (HM1.out.step bA); have HR2 := Lib.hid (HR1.out.step bA); have HB2 := Lib.hid (HB1.out.trans (bA.mono HB1.out.size))
  have HMP := Lib.hid MP; have HFR := Lib.hid FR
  obtain ⟨bn, hbn⟩ : ∃ bn, w1.heap.size + 2 = bn := ⟨_, rfl⟩
  obtain ⟨fb, hfb⟩ : ∃ fb, w1.heap.size + 1 = fb := ⟨_, rfl⟩
  rw [hbn] at HMP; rw [hfb] at HFR; rw [hbn, hfb]
  have hbn1 : w.heap.size < bn := by omega
  clear hbn hfb bA MP FR HM1 HR1 HB1 hz1
  generalize ((w1.alloc (.cells #[.bool a, .bool true, .bool c, .bool s, .bool p] 66)).alloc (.cells #[.int .i64 sn, .int .i64 0] 130)).alloc (.map #[] 0) = w2 at *
  have KY := Lib.hid (key_any (some ⟨fb, 0, none⟩) 1 [(sn, 0)] w2 (TwosAt.of_own HFR.out) (by simp; omega) (by simp) (HT.out.below HB2.out))
  refine KY.out.mono ?_; rintro e w3 ⟨rfl, b3⟩
  have HM3 := Lib.hid (HM2.out.step b3); have HR3 := Lib.hid (HR2.out.step b3); have HB3 := Lib.hid (HB2.out.trans (b3.mono HB2.out.size))
  have HMP3 := Lib.hid (HMP.out.below b3 (Nat.le_refl _)); have HFR3 := Lib.hid (own_below HFR.out b3 (Nat.le_refl _))
  clear b3 KY HM2 HR2 HB2 HMP HFR
  have hmu : (Instr.mapUpdate 134 (.map (some bn)) (strC (keyT [(sn, 0)])) (.agg #[.int .i64 0])).run Tryd.prog w3 = .ok () (setBlock w3 bn (mapObj strC atV (mput [] (keyT [(sn, 0)]) 0))) := run_mapUpdate_x HMP3.out keyOkStrC Tryd.underlying134 (keyT [(sn, 0)]) 0
  have hg3 : w3.grownBy (setBlock w3 bn (mapObj strC atV (mput [] (keyT [(sn, 0)]) 0))) (some bn) := setBlock_grown _
  have HM4 := Lib.hid (HM3.out.setMap HMP3.out (mapObj strC atV (mput [] (keyT [(sn, 0)]) 0))); have HR4 := Lib.hid (HR3.out.setMap HMP3.out (mapObj strC atV (mput [] (keyT [(sn, 0)]) 0)))
  have HFR4 := Lib.hid (World.ownsRow.kept HFR3.out hg3 (.inr (own_ne_cellsC HFR3.out (fun cur e' fz e => by rw [HMP3.out.blk] at e; cases e))))
  have HMP4 := Lib.hid (HMP3.out.put (keyT [(sn, 0)]) 0)
  have HB4 : Hid (Below w.heap.size w (setBlock w3 bn (mapObj strC atV (mput [] (keyT [(sn, 0)]) 0)))) := Lib.hid (below_set HB3.out (by omega) HB3.out.size)
  clear HM3 HR3 HB3 HMP3 HFR3 hg3
  go_upto_region 10 with fail
  clear hmu
  generalize setBlock w3 bn (mapObj strC atV (mput [] (keyT [(sn, 0)]) 0)) = w4 at *
  go_wp2_with fail
  have hz4 := HB4.out.size
  have bC : Below w4.heap.size w4 ((w4.alloc (.cells #[.slice (some ⟨fb, 0, none⟩) 1 1] 132)).alloc (.cells #[.int .i64 0, .slice none 0 0] 41)) := (by repeat' (first | exact Below.refl _ _ | assumption | refine Below.drew ?_ | refine Below.alloc ?_ (by first | omega | (simp; done) | (simp; omega)) _ | refine Below.setCell ?_ (by first | omega | (simp; done) | (simp; omega)) _))
  have hm4 := HM4.out.lt; have hr4 := HR4.out.lt
  have K0 : Hid (MK w B n cb sn (w4.heap.size + 1) bn ((w4.alloc (.cells #[.slice (some ⟨fb, 0, none⟩) 1 1] 132)).alloc (.cells #[.int .i64 0, .slice none 0 0] 41)) (.slice (some ⟨w4.heap.size, 0, none⟩) 1 1) (.slice none 0 0) [] [] [[(sn, 0)]] [.slice (some ⟨fb, 0, none⟩) 1 1] (numL [[(sn, 0)]])) := Lib.hid (by
    refine ⟨HM4.out.step bC, HR4.out.step bC, Blk.new' (by simp), OwnStV.nil _ _, HMP4.out.below bC (Nat.le_refl _), ?_, rfl, ?_, HB4.out.trans (bC.mono hz4), by omega, by omega⟩
    · have h := World.ownsRow_lit (base := w.heap.size) (e := 132) (size := 1) w4 #[.slice (some ⟨fb, 0, none⟩) 1 1] 1 (by omega) (by simp [maxLen]) rfl
      exact h.alloc _
    · intro j S hj
      cases j with
      | zero =>
        simp only [List.getElem?_cons_zero, Option.some.injEq] at hj
        subst hj
        exact ⟨_, 1, rfl, own_below HFR4.out bC (Nat.le_refl _)⟩
      | succ j => simp at hj)
  clear bC HM4 HR4 HFR4 HMP4 HB4 hm4 hr4
  have FINAL : Hid (∀ A c S W, SetAt W A S → SetOk m S → Below w.heap.size w W → Calls Tryd.prog 54 #[.slice A S.length c, .agg #[.int .i64 sn, .slice B n cb]] W fun e w' => ∃ b, e = .returned (.int .i64 b) ∧ FinJ m S b ∧ Below W.heap.size W w') := Lib.hid fun A c S W h1 h2 h3 => by
    have h := final_any A c S B cb m WW W h1 (HS.out.below h3 (Nat.le_refl _)) HW.out hW h2
    rw [HSN.out, HML.out] at h
    exact h
  have REACH : Hid (∀ A c S W, SetAt W A S → SetOk m S → Below w.heap.size w W → Calls Tryd.prog 55 #[.slice A S.length c, .agg #[.int .i64 sn, .slice B n cb]] W fun e w' => e = .returned (.map (some (W.heap.size + 1))) ∧ ∃ L F, RcW W B n cb sn w' L F ∧ RS L F (fun _ => False) (fun k q c => Cand m S k.1 k.2 q c)) := Lib.hid fun A c S W h1 h2 h3 => by
    have h := reached_any A c S B cb m WW W h1 (HS.out.below h3 (Nat.le_refl _)) HW.out hW h2 (arcsQ_400 HV.out)
    rw [HSN.out, HML.out] at h
    exact h
  have HI0 : Hid (CertI m WW [[(sn, 0)]] [] [] ∧ [[((sn, 0) : Nat × Int)]].length ≤ 60 ∧ (flatA []).length ≤ 400) := Lib.hid ⟨HC0.out, by simp, by simp [flatA]⟩
  generalize (w4.alloc (.cells #[.slice (some ⟨fb, 0, none⟩) 1 1] 132)).alloc (.cells #[.int .i64 0, .slice none 0 0] 41) = w5 at *
  generalize w4.heap.size + 1 = g at *
  go_loopw [8, 10] (fun tvv av wr => ∃ (tv sv : Value) (vs : List Value) (ss : List StateL) (Ss : List SetL) (ts : List Value), tvv = tv ∧ av = .int .i64 (flatA ss).length ∧ MK w B n cb sn g bn wr tv sv vs ss Ss ts (numL Ss) ∧ CertI m WW Ss ss [] ∧ Ss.length ≤ 60 ∧ (flatA ss).length ≤ 400) (fun _ _ wr => 61 - outLen wr g)
  case atStart => exact ⟨_, _, [], [], _, _, rfl, by simp [flatA], K0.out, HI0.out⟩
  case round =>
    clear K0 HI0 HC0 hz4
    obtain ⟨tv, sv, vs, ss, Ss, ts, rfl, rfl, hK, hI, hl60, hl400⟩ := hrel
    obtain ⟨wo, rfl⟩ : ∃ wo : World, wo = wr := ⟨_, rfl⟩
    have HOL := Lib.hid hK.outLen
    have hzo : w.heap.size ≤ wo.heap.size := hK.bel.size
    have HLOW := Lib.hid hK.low
    obtain ⟨A9, c9, rfl, -, -⟩ := hK.own.form
    obtain ⟨At, ct, rfl, -, -⟩ := own_form hK.td
    have HK := Lib.hid hK; have HI := Lib.hid hI
    have kg := hK.ob.cell; have lg := hK.ob.lt
    have km := hK.mb.cell; have lm := hK.mb.lt
    clear hK hI
    obtain ⟨na, hna⟩ : ∃ na, (flatA ss).length = na := ⟨_, rfl⟩
    have HNA := Lib.hid hna
    rw [hna] at hl400
    rw [hna]
    clear hna
    by_cases hlt : ss.length < Ss.length
    · have i1 : (ss.length : Int) < (Ss.length : Int) := by omega
      have hSj : Ss[ss.length]? = some Ss[ss.length] := List.getElem?_eq_getElem hlt
      have HSO : Hid (SetOk m Ss[ss.length]) := Lib.hid (certI_ok HI.out (by rw [HML.out]; exact hsz) hW hSj (by omega))
      have HSJ := Lib.hid hSj
      obtain ⟨A, cS, d0, hown⟩ := HK.out.todo hSj
      have HSA := Lib.hid (SetAt.of_own hown)
      have lt0 := World.block_lt_of_cell? _ _ d0
      have HSA0 := Lib.hid d0
      generalize Ss[ss.length] = S at *
      have rdt : Rdy At Ss.length := (Rd.of_own HK.out.td).rdy
      clear hSj hown
      generalize hNS : Ss.length = NS at *
      generalize hns : ss.length = ns at *
      have HNS := Lib.hid hNS; have HNSS := Lib.hid hns
      clear hNS hns
      have ns0 : (0 : Int) ≤ (ns : Int) := by omega
      go_wp2_with fail
      clear kg lg km lm d0 lt0
      refine (FINAL.out A cS S wo HSA.out HSO.out HK.out.bel).mono ?_; rintro e w6 ⟨b, rfl, hJ, b6⟩
      have hbb : b ≤ 910000000 := hJ.bound HSO.out HW.out hW
      have hb1 : -1 ≤ b := by rcases hJ with h | h <;> omega
      have HF := Lib.hid (hJ.fin (by omega))
      have HB6 := Lib.hid b6
      have hz6 := b6.size
      clear hJ b6
      go_upto_region 16 with fail
      have bS : Below w6.heap.size w6 (w6.alloc (.cells #[.int .i64 b, .slice none 0 0] 76)) := (Below.refl _ _).alloc (Nat.le_refl _) _
      have HBS := Lib.hid (Blk.new w6 #[.int .i64 b, .slice none 0 0] 76)
      have HK7 := Lib.hid (HK.out.keep (Below.step (a := wo) HB6.out bS))
      have HB7 := Lib.hid (Below.step (a := wo) HB6.out bS)
      have hbs0 : wo.heap.size ≤ w6.heap.size := hz6
      generalize w6.alloc (.cells #[.int .i64 b, .slice none 0 0] 76) = w7 at *
      generalize w6.heap.size = bs at *
      clear bS hz6 HB6 HSA
      have g1 : decide ((1000000000 : Int) < b) = false := by simp; omega
      have g1' : ¬ (1000000000 : Int) < b := by omega
      have kb := HBS.out.cell; have kl := HBS.out.lt; have kf := HBS.out.froz
      go_upto_region 18 with fail
      clear g1 g1'
      go_cut [72] (fun s72 wx => s72 = .bool (decide (b < 0)) ∧ wx = w7)
      case first =>
        go_wp2_with fail
        go_meet
        case rel => exact ⟨rfl, rfl⟩
      case rest =>
        obtain ⟨rfl, rfl⟩ := hcut
        obtain ⟨w7, rfl⟩ : ∃ wx : World, wx = wc := ⟨_, rfl⟩
        go_upto_if 72 with fail
        go_cut [] (fun wx => ∃ f, Blk wx bs #[.int .i64 f, .slice none 0 0] 76 ∧ FinS m S f ∧ Below wo.heap.size wo wx)
        case first =>
          by_cases hb0 : b < 0
          · have HFX : Hid (FinS m S 1000000001) := Lib.hid (by have h := HF.out; rw [if_pos hb0] at h; exact h)
            have HBX := Lib.hid ((HBS.out.put 0 (.int .i64 1000000001)).eq (cs' := #[.int .i64 1000000001, .slice none 0 0]) (by simp))
            have HB8 : Hid (Below wo.heap.size wo (w7.setCell ⟨bs, 0, none⟩ (.int .i64 1000000001))) := Lib.hid (HB7.out.setCell (p := ⟨bs, 0, none⟩) hbs0 _)
            go_wp2_with fail
            go_meet
            case rel => exact ⟨_, HBX.out, HFX.out, HB8.out⟩
          · have HFX : Hid (FinS m S b) := Lib.hid (by have h := HF.out; rw [if_neg hb0] at h; exact h)
            go_wp2_with fail
            go_meet
            case rel => exact ⟨_, HBS.out, HFX.out, HB7.out⟩
        case rest =>
          obtain ⟨f, hBX, hFX, hB8⟩ := hcut
          obtain ⟨w8, rfl⟩ : ∃ wx : World, wx = wc := ⟨_, rfl⟩
          have HBX := Lib.hid hBX; have HFX := Lib.hid hFX; have HB8 := Lib.hid hB8
          have HK8 := Lib.hid (HK.out.keep hB8)
          have HSA8 := Lib.hid (SetAt.below (S := S) (A := A) (w := wo) (by obtain ⟨A', c', e1, e2⟩ := HK.out.todo HSJ.out; rw [HSA0.out] at e1; injection e1 with e1; injection e1 with e3 e4 e5; subst e3; subst e5; exact SetAt.of_own e2) hB8 (Nat.le_refl _))
          clear HBS HK7 HB7 HF kb kl kf hbb hb1 hBX hFX hB8 HK
          have km := HK8.out.mb.cell; have lm := HK8.out.mb.lt
          go_wp2_with fail
          clear km lm
          refine (REACH.out A cS S w8 HSA8.out HSO.out HK8.out.bel).mono ?_; rintro e w9 ⟨rfl, L, F, hR, hD⟩
          have b9 := hR.bel
          have HD := Lib.hid hD
          have hb9 := b9.size
          have HT9 : Hid (TabsC w9 bn (w8.heap.size + 1) L F) := Lib.hid ⟨hR.map, fun x hx => (hR.inn x hx).1, by have := HK8.out.nm.lt; omega, fun x hx => by have := (hR.inn x hx).2; have := HK8.out.nm.lt; omega⟩
          have HK9 := Lib.hid (HK8.out.keep b9); have HBX9 := Lib.hid (HBX.out.step b9); have HB9 := Lib.hid (Below.step (a := wo) HB8.out b9)
          obtain ⟨b0, hb0⟩ : ∃ b0, w8.heap.size + 1 = b0 := ⟨_, rfl⟩
          rw [hb0] at HT9
          rw [hb0]
          clear hR hD b9 hb0 hb9 HK8 HBX HB8 HSA8
          obtain ⟨hL400, hlb⟩ := tab_keys HV.out HD.out HT9.out.map.nd
          have HLB := Lib.hid hlb
          clear hlb
          go_wp2_with (at_range; refine wpList_range_x rfl rfl Tryd.underlying137 rfl HT9.out.map ?_; intro w10 hR10 b10 z10)
          go_frame
          have HR10 := Lib.hid hR10; have B10 := Lib.hid b10
          obtain ⟨r, hr⟩ : ∃ r, w9.heap.size = r := ⟨_, rfl⟩
          have HRS := Lib.hid hr
          have hbr : b0 < r := by rw [← hr]; exact HT9.out.map.lt
          rw [hr] at HR10
          rw [hr]
          clear hR10 b10 z10 hr
          go_loopw [14] (fun kv wr => ∃ (idx : List Nat), MapR wr b0 r pairV mapV L idx ∧ OwnTwos 141 wr w9.heap.size kv ((pickL L idx).map (·.1)) ∧ Below w9.heap.size w9 wr) (fun _ wr => L.length - itLen wr r)
          case atStart => exact ⟨[], HR10.out, World.ownsRow_nil _ _ _ _, B10.out⟩
          case round =>
            clear HR10 B10
            obtain ⟨idx, hR, hO, hB⟩ := hrel
            obtain ⟨wx, rfl⟩ : ∃ wo : World, wo = wr := ⟨_, rfl⟩
            have HRX := Lib.hid hR; have HOX := Lib.hid hO; have HBX := Lib.hid hB
            clear hR hO hB
            go_wp2_with (at_next; refine wpList_next_x rfl rfl rfl HRX.out ?_ ?_)
            · intro hall
              have HP := Lib.hid ((pickL_all L HRX.out.nd HRX.out.lt hall).map (·.1))
              obtain ⟨Ak, ck, rfl, -, -⟩ := own_form HOX.out
              have hzx := HBX.out.size
              have hpl : (pickL L idx).length = L.length := by rw [pickL_len L idx HRX.out.lt]; have h1 := (pickL_all L HRX.out.nd HRX.out.lt hall).length_eq; rw [pickL_len L idx HRX.out.lt] at h1; exact h1
              have HSO2 := Lib.hid (sort_pairs _ _ w9.heap.size wx HOX.out (fun p hp => by obtain ⟨x, hx, rfl⟩ := List.mem_map.1 (HP.out.mem_iff.1 hp); exact HLB.out x hx) (HP.out.nodup_iff.2 HT9.out.map.nd) (by rw [List.length_map, hpl]; omega) hzx)
              obtain ⟨nk, hnk⟩ : ∃ nk, ((pickL L idx).map (·.1)).length = nk := ⟨_, rfl⟩
              have HNK := Lib.hid hnk
              rw [hnk] at HSO2
              rw [hnk]
              clear hnk hall hpl HRX HOX
              go_wp2_with fail
              refine HSO2.out.mono ?_; rintro e w11 ⟨rfl, ks, hpk, hok, hok2, b11⟩
              have HKS := Lib.hid (keys_of HD.out (hpk.trans HP.out) hok)
              have hkl : ks.length = nk := by rw [hpk.length_eq]; exact HNK.out
              have HKP := Lib.hid (hpk.trans HP.out)
              have HKO := Lib.hid (own_mono hok2 (show w.heap.size ≤ w9.heap.size from HK9.out.bel.size))
              have HKA := Lib.hid (show TwosAt w11 Ak ks from TwosAt.of_own (by have h := hok2; unfold OwnTwos at h; rw [hkl] at h; exact h))
              have b911 := HBX.out.trans b11
              have HT11 := Lib.hid (HT9.out.keep b911); have HK11 := Lib.hid (HK9.out.keep b911); have HBX11 := Lib.hid (HBX9.out.step b911); have HB11 := Lib.hid (Below.step (a := wo) HB9.out b911)
              clear hpk hok hok2 b11 b911 HT9 HK9 HBX9 HB9 HBX HSO2 HP
              have HIK : Hid (IK w B n cb sn g bn b0 bs wo.heap.size f (.slice A9 ns c9) vs ss L F (.slice Ak nk ck) ks w11 (.slice At NS ct) (.slice none 0 0) Ss ts (numL Ss) []) := Lib.hid ⟨HK11.out, HBX11.out, OwnArcs.nil _ _, HT11.out, HKO.out, HLOW.out, hzo, hbs0⟩
              have HCU : Hid (CurI m Ss ss S ks []) := Lib.hid (CurI.begin HI.out (by rw [HNS.out, HNSS.out]; exact hlt) (by rw [HNSS.out]; exact HSJ.out) HKS.out)
              have HKL := Lib.hid hkl
              have hns6 : ns + 1 ≤ 1000000 := by omega
              clear HK11 HBX11 HT11 HKO HKA hkl HKS HLB hzx hbr HRS
              go_wp2_with fail
              go_loopw [8, 10, 91] (fun tvv av iv wr => ∃ (r : Nat) (tv arv : Value) (Ss : List SetL) (ts : List Value) (cur : List ArcL), r ≤ nk ∧ iv = .int .i64 r ∧ tvv = tv ∧ av = .int .i64 (na + r : Nat) ∧ cur.length = r ∧ IK w B n cb sn g bn b0 bs wo.heap.size f (.slice A9 ns c9) vs ss L F (.slice Ak nk ck) ks wr tv arv Ss ts (numL Ss) cur ∧ CertI m WW Ss ss cur ∧ CurI m Ss ss S ks cur ∧ Ss.length ≤ 60 ∧ na + r ≤ 400) (fun _ _ iv _ => nk - (intOf iv).toNat)
              case atStart => exact ⟨0, _, _, Ss, ts, [], by omega, rfl, rfl, by simp, rfl, HIK.out, HI.out, HCU.out, by rw [HNS.out]; exact hl60, by omega⟩
              case round =>
                clear HIK HI HCU HNS hlt i1 rdt HSJ HSA0 hl60
                obtain ⟨r, tv, arv, Ss2, ts2, cur, hr, rfl, rfl, rfl, hcl, hK, hI, hC, h60, h400⟩ := hrel
                obtain ⟨wi, rfl⟩ : ∃ wo : World, wo = wr := ⟨_, rfl⟩
                have HCL := Lib.hid hcl; have HK := Lib.hid hK; have HI := Lib.hid hI; have HC := Lib.hid hC
                have r0 : (0 : Int) ≤ (r : Int) := by omega
                clear hcl hI hC
                by_cases hrl : r < nk
                · have r1 : (r : Int) < (nk : Int) := by omega
                  have hKA : TwosAt wi Ak ks := TwosAt.of_own (by have h := hK.ky; unfold OwnTwos at h; rw [HKL.out] at h; exact h)
                  have hkr : r < ks.length := by rw [HKL.out]; exact hrl
                  have d0 := hKA.c0 r hkr; have d1 := hKA.c1 r hkr
                  have rdk : Rdy Ak nk := by have := hKA.rdy; rwa [HKL.out] at this
                  have HKQ : Hid (ks[cur.length]? = some ks[r]) := Lib.hid (by rw [HCL.out]; exact List.getElem?_eq_getElem hkr)
                  obtain ⟨bb, hbb⟩ : ∃ bb, (ks[r], bb) ∈ L := by
                    obtain ⟨x, hx, e⟩ := List.mem_map.1 (HKP.out.mem_iff.1 (List.getElem_mem hkr))
                    exact ⟨x.2, by rw [← e]; exact hx⟩
                  have HBB := Lib.hid hbb
                  generalize ks[r] = k at *
                  have lk0 := World.block_lt_of_cell? _ _ d0
                  clear hKA hbb hK hkr
                  go_upto_region 30 with fail
                  have bk : Below wi.heap.size wi (wi.alloc (.cells #[.int .i64 k.1, .int .i64 k.2] 141)) := (Below.refl _ _).alloc (Nat.le_refl _) _
                  have BK := Lib.hid (Blk.new wi #[.int .i64 k.1, .int .i64 k.2] 141)
                  have HK2 := Lib.hid (HK.out.keep bk)
                  have hzi : wo.heap.size ≤ wi.heap.size := by have h1 := HK.out.bse.2; have h2 := HK.out.sb.lt; omega
                  generalize wi.alloc (.cells #[.int .i64 k.1, .int .i64 k.2] 141) = w12 at *
                  generalize wi.heap.size = gk at *
                  clear bk d0 d1 lk0 HK rdk
                  have hlk : (Instr.lookup 137 (.map (some b0)) (.agg #[.int .i64 k.1, .int .i64 k.2]) false).run Tryd.prog w12 = .ok (.map (some bb)) w12 := by
                    have e := run_lookup_x HK2.out.tb.map keyOkPair Tryd.underlying137 k false (zeroMapR w12)
                    rw [(mem_assoc HK2.out.tb.map.nd).1 HBB.out] at e
                    exact e
                  obtain ⟨t1, t2, t3⟩ := tab_inner HW.out hW HSO.out HML.out hsz HD.out HBB.out (HK2.out.tb.inn _ HBB.out).nd
                  have SET := Lib.hid (settle_any bb (F bb) w12 (HK2.out.tb.inn _ HBB.out) t1 t2 t3)
                  have kk := BK.out.cell; have lk := BK.out.lt
                  clear t1 t2 t3
                  go_wp2_with fail
                  refine SET.out.mono ?_; rintro e w13 ⟨least, A2, c2, T, rfl, hoT, hST, b13⟩
                  have HNX := Lib.hid (next_of HD.out HBB.out (HK2.out.tb.inn _ HBB.out).nd hST)
                  obtain ⟨⟨l0, l1⟩, hTne, hTb⟩ := HI.out.nextB HC.out HW.out HNX.out
                  have hWb : WW * (Ss2.length : Int) ≤ 10000000 * 60 := Int.mul_le_mul hW (by omega) (by omega) (by omega)
                  have HTB : Hid (∀ p ∈ T, p.1 < n ∧ 0 ≤ p.2 ∧ p.2 ≤ 600000000) := Lib.hid fun p hp => by have := hTb p hp; rw [HML.out] at this; omega
                  have hl9 : ¬ (1000000000 : Int) < least := by omega
                  have hTl : T.length ≤ 60 := Nat.le_trans (sorted_len n hST.srt fun p hp => (HTB.out p hp).1) hsz
                  have HOT := Lib.hid (own_mono hoT (show w.heap.size ≤ w12.heap.size from HK2.out.mem.bel.size))
                  have HK3 := Lib.hid (HK2.out.keep b13); have BK3 := Lib.hid (BK.out.step b13)
                  have hz13 : wo.heap.size ≤ w13.heap.size := by have h1 := HK3.out.bse.2; have h2 := HK3.out.sb.lt; omega
                  clear hoT hST b13 HK2 BK hTb l1 hWb hTne kk lk hlk SET
                  go_upto_region 33 with fail
                  have KY := Lib.hid (fun W (hb : Below w13.heap.size w13 W) => key_any A2 c2 T W (SetAt.below (SetAt.of_own HOT.out) hb (Nat.le_refl _)) (fun p hp => by have := HTB.out p hp; omega) (by omega) (HT.out.below (HK3.out.mem.bel.trans (hb.mono HK3.out.mem.bel.size))))
                  obtain ⟨ao, hao⟩ : ∃ ao, assoc (numL Ss2) (keyT T) = ao := ⟨_, rfl⟩
                  have HAO := Lib.hid hao
                  clear hao
                  go_cut [20, 21] (fun p kn wx => ∃ w14, Below w13.heap.size w13 w14 ∧ p = .pointer (some ⟨w14.heap.size, 0, none⟩) ∧ kn = .bool ao.isSome ∧ wx = w14.alloc (.cells #[.int .i64 (ao.getD 0 : Nat)] 133))
                  case first =>
                    go_wp2_with fail
                    refine (KY.out w13 (Below.refl _ _)).mono ?_; rintro e w14 ⟨rfl, b14⟩
                    have HB14 := Lib.hid b14
                    have hm14 := HK3.out.mem.nm.below b14 (Nat.le_refl _)
                    cases ao with
                    | none =>
                      have hln : (Instr.lookup 134 (.map (some bn)) (strC (keyT T)) true).run Tryd.prog w14 = .ok (.tuple #[.agg #[.int .i64 0], .bool false]) w14 := by
                        have e := run_lookup_x hm14 keyOkStrC Tryd.underlying134 (keyT T) true (zeroAt w14)
                        rw [HAO.out] at e; exact e
                      clear hm14 b14
                      go_wp2_with fail
                      go_meet
                      case rel => exact ⟨w14, HB14.out, rfl, rfl, rfl⟩
                    | some j =>
                      have hln : (Instr.lookup 134 (.map (some bn)) (strC (keyT T)) true).run Tryd.prog w14 = .ok (.tuple #[.agg #[.int .i64 j], .bool true]) w14 := by
                        have e := run_lookup_x hm14 keyOkStrC Tryd.underlying134 (keyT T) true (zeroAt w14)
                        rw [HAO.out] at e; exact e
                      clear hm14 b14
                      go_wp2_with fail
                      go_meet
                      case rel => exact ⟨w14, HB14.out, rfl, rfl, rfl⟩
                  case rest =>
                    obtain ⟨w14, hb14, rfl, rfl, rfl⟩ := hcut
                    obtain ⟨At2, ct2, rfl, -, -⟩ := own_form HK3.out.mem.td
                    have hn60 : Ss2.length + 1 ≤ 1000000 := by omega
                    have hgx : gk ≠ w14.heap.size := by have := BK3.out.lt; have := hb14.size; omega
                    have hbx : wo.heap.size ≤ w14.heap.size := by have := hb14.size; omega
                    have b15 : Below w13.heap.size w13 (w14.alloc (.cells #[.int .i64 (ao.getD 0 : Nat)] 133)) := hb14.alloc hb14.size _
                    have HK5 := Lib.hid (HK3.out.keep b15); have BK5 := Lib.hid (BK3.out.step b15); have BX5 := Lib.hid (Blk.new w14 #[.int .i64 (ao.getD 0 : Nat)] 133)
                    have HB5 := Lib.hid b15
                    have h13 : w13.heap.size ≤ w14.heap.size := hb14.size
                    generalize w14.alloc (.cells #[.int .i64 (ao.getD 0 : Nat)] 133) = w15 at *
                    generalize w14.heap.size = bx at *
                    clear b15 hb14 HK3 BK3
                    go_upto_region 34 with fail
                    go_cut [113] (fun sv wx => sv = .bool (!ao.isSome) ∧ wx = w15)
                    case first =>
                      go_wp2_with fail
                      go_meet
                      case rel => exact ⟨by simp, rfl⟩
                    case rest =>
                      obtain ⟨rfl, rfl⟩ := hcut
                      obtain ⟨w15, rfl⟩ : ∃ wx : World, wx = wc := ⟨_, rfl⟩
                      go_upto_if 113 with fail
                      go_cut [8] (fun tvv wx => ∃ (Ss3 : List SetL) (ts3 : List Value) (j : Nat), Blk wx bx #[.int .i64 (j : Int)] 133 ∧ Blk wx gk #[.int .i64 k.1, .int .i64 k.2] 141 ∧ IK w B n cb sn g bn b0 bs wo.heap.size f (.slice A9 ns c9) vs ss L F (.slice Ak nk ck) ks wx tvv arv Ss3 ts3 (numL Ss3) cur ∧ CertI m WW Ss3 ss (cur ++ [⟨k.1, k.2, least, (j : Int)⟩]) ∧ CurI m Ss3 ss S ks (cur ++ [⟨k.1, k.2, least, (j : Int)⟩]) ∧ Ss3.length ≤ 61)
                      case first =>
                        have HNN : Hid (∀ S ∈ Ss2, ∀ p ∈ S, 0 ≤ p.2) := Lib.hid fun S hS p hp => by
                          obtain ⟨j, hj, rfl⟩ := List.getElem_of_mem hS
                          exact ((HI.out.left j _ (List.getElem?_eq_getElem hj)).2 p hp).2.1
                        cases ao with
                        | some j =>
                          have HN2 := Lib.hid (HI.out.arcOld HC.out HW.out HNX.out (by rw [HKQ.out]) (numL_found HNN.out (fun p hp => (HTB.out p hp).2.1) HAO.out))
                          have h61 : Ss2.length ≤ 61 := by omega
                          go_wp2_with fail
                          go_meet
                          case rel => exact ⟨Ss2, ts2, j, BX5.out, BK5.out, HK5.out, HN2.out.1, HN2.out.2, h61⟩
                        | none =>
                          have HNO := Lib.hid (numL_none HAO.out)
                          have HN2 := Lib.hid (HI.out.arcNew HC.out HW.out HNX.out (by rw [HKQ.out]) HNO.out.2)
                          have h61 : (Ss2 ++ [T]).length ≤ 61 := by rw [List.length_append, List.length_singleton]; omega
                          have HL61 := Lib.hid h61
                          clear h61
                          have kx := BX5.out.cell; have lx := BX5.out.lt; have fx := BX5.out.froz
                          go_upto_region 36 with fail
                          have HK6 := Lib.hid (HK5.out.box BX5.out hbx (by decide) 0 (.int .i64 (Ss2.length : Int)))
                          have BX6 := Lib.hid ((BX5.out.put 0 (.int .i64 (Ss2.length : Int))).eq (cs' := #[.int .i64 (Ss2.length : Int)]) (by simp))
                          have BK6 := Lib.hid (BK5.out.far (a := ⟨bx, 0, none⟩) (by simpa using hgx) (.int .i64 (Ss2.length : Int)))
                          have HB6 : Hid (Below w13.heap.size w13 (w15.setCell ⟨bx, 0, none⟩ (.int .i64 (Ss2.length : Int)))) := Lib.hid (HB5.out.setCell (p := ⟨bx, 0, none⟩) h13 _)
                          clear kx lx fx HK5 BX5 BK5 HB5
                          generalize w15.setCell ⟨bx, 0, none⟩ (.int .i64 (Ss2.length : Int)) = w16 at *
                          have kx := BX6.out.cell; have lx := BX6.out.lt
                          go_region_law (first
                            | (go_simp; refine (KY.out _ HB6.out.drew).mono ?_; rintro e wn ⟨rfl, bn9⟩; have b9 := (Below.refl _ _).drew.trans bn9; have HKn := Lib.hid (HK6.out.keep b9); have BXn := Lib.hid (BX6.out.step b9); have BKn := Lib.hid (BK6.out.step b9); have kxn := BXn.out.cell; have lxn := BXn.out.lt; have hmu : (Instr.mapUpdate 134 (.map (some bn)) (strC (keyT T)) (.agg #[.int .i64 (Ss2.length : Int)])).run Tryd.prog wn = .ok () (setBlock wn bn (mapObj strC atV (mput (numL Ss2) (keyT T) Ss2.length))) := run_mapUpdate_x HKn.out.mem.nm keyOkStrC Tryd.underlying134 (keyT T) Ss2.length; have HOTn := Lib.hid (own_below HOT.out ((HB6.out.drew.trans (bn9.mono HB6.out.drew.size))) (Nat.le_refl _))))
                          all_goals
                            have HK7 := Lib.hid (HKn.out.putN (keyT T) Ss2.length)
                            have HBX7 := Lib.hid (BXn.out.setMap HKn.out.mem.nm (mapObj strC atV (mput (numL Ss2) (keyT T) Ss2.length)))
                            have HBK7 := Lib.hid (BKn.out.setMap HKn.out.mem.nm (mapObj strC atV (mput (numL Ss2) (keyT T) Ss2.length)))
                            have HOT7 := Lib.hid (World.ownsRow.kept HOTn.out (setBlock_grown (b := bn) (mapObj strC atV (mput (numL Ss2) (keyT T) Ss2.length))) (.inr (own_ne_cellsC HOTn.out (fun cur e' fz e => by rw [HKn.out.mem.nm.blk] at e; cases e))))
                            have ENL : Hid (mput (numL Ss2) (keyT T) Ss2.length = numL (Ss2 ++ [T])) := Lib.hid (by rw [numL_snoc, mput_new HNO.out.1])
                            clear hmu kx lx kxn lxn
                            generalize setBlock wn bn (mapObj strC atV (mput (numL Ss2) (keyT T) Ss2.length)) = w17 at *
                            have hz17 := HK7.out.mem.bel.size
                            go_wp2_with (at_builtin; refine wpList_app1 rfl _ _ rfl eltSet w.heap.size (.slice At2 Ss2.length ct2) Ss2.length ts2 rfl w17 HK7.out.mem.td #[.slice A2 T.length c2] rfl w17.heap.size rfl rfl rfl (by simp [Value.oneCell']) hn60 (by omega) hz17 ?_; intro g3 cap w18 ho18 hg18 hat18 hlt18)
                            have HK8 := HK7.out.addSet hg18 (by unfold OwnTwos; exact HOT7.out) ho18
                            rw [ENL.out] at HK8
                            have HK9' := Lib.hid HK8
                            have HBX8 := Lib.hid (HBX7.out.grown hg18 (fun e => ownT_ne HK7.out.mem.td HBX7.out (by decide) e.symm))
                            have HBK8 := Lib.hid (HBK7.out.grown hg18 (fun e => ownT_ne HK7.out.mem.td HBK7.out (by decide) e.symm))
                            clear HK8 ho18 hg18 hat18 hlt18
                            go_meet
                            case rel => exact ⟨Ss2 ++ [T], _, Ss2.length, HBX8.out, HBK8.out, HK9'.out, HN2.out.1, HN2.out.2, HL61.out⟩
                      case rest =>
                        obtain ⟨Ss3, ts3, j, hX, hY, hK, hI, hC, h61⟩ := hcut
                        obtain ⟨w19, rfl⟩ : ∃ wx : World, wx = wc := ⟨_, rfl⟩
                        obtain ⟨At3, ct3, rfl, -, -⟩ := own_form hK.mem.td
                        obtain ⟨Ar, cr, rfl, -, -⟩ := own_form hK.ar
                        have HX := Lib.hid hX; have HY := Lib.hid hY; have HK9 := Lib.hid hK; have HI3 := Lib.hid hI; have HC3 := Lib.hid hC
                        have hnl : (flatA ss ++ (cur ++ [(⟨k.1, k.2, least, (j : Int)⟩ : ArcL)])).length = na + r + 1 := by
                          rw [List.length_append, List.length_append, List.length_singleton, HNA.out, HCL.out]; omega
                        have HNL := Lib.hid hnl
                        clear hX hY hK hI hC hnl HK5 BK5 BX5 HB5 HI HC KY HOT HTB HNX HAO h60
                        obtain ⟨N3, hN3⟩ : ∃ N3, Ss3.length = N3 := ⟨_, rfl⟩
                        have HN3 := Lib.hid hN3
                        rw [hN3] at h61
                        rw [hN3]
                        clear hN3
                        by_cases hfull : 400 < na + r + 1 ∨ 60 < N3
                        · have HFUL : Hid (CertFull m WW) := Lib.hid ⟨Ss3, ss, _, S, ks, HI3.out, HC3.out, by rw [HNL.out, HN3.out]; exact hfull⟩
                          have kr := HK9.out.mem.rb.cell; have lr := HK9.out.mem.rb.lt; have fr := HK9.out.mem.rb.froz
                          have HRB := Lib.hid HK9.out.mem.rb
                          have HBL := Lib.hid HK9.out.mem.bel
                          clear HX HY HK9 HI3 HC3 HNL
                          by_cases z1 : 400 < na + r + 1
                          · have z2 : (400 : Int) < ((na + r : Nat) : Int) + 1 := by omega
                            clear hfull z1
                            go_wp2_with fail
                            have Z := ((HRB.out.put 0 (.int .i64 0)).put 1 (.slice none 0 0)).eq (show _ = #[.int .i64 0, .slice none 0 0] by simp)
                            have bz := (HBL.out.setCell (p := ⟨w.heap.size + 1, 0, none⟩) (Nat.le_succ _) (.int .i64 0)).setCell (p := ⟨w.heap.size + 1, 1, none⟩) (Nat.le_succ _) (.slice none 0 0)
                            clear kr lr fr
                            generalize (w19.setCell ⟨w.heap.size + 1, 0, none⟩ (.int .i64 0)).setCell ⟨w.heap.size + 1, 1, none⟩ (.slice none 0 0) = W' at *
                            have kz := Z.cell; have lz := Z.lt
                            refine bodyPost_ret (v := .tuple #[.agg #[.int .i64 0, .slice none 0 0], .int .i64 5]) (by simp [results, Tryd.results25, go_sem, *]) rfl ⟨.inl ⟨rfl, HFUL.out⟩, bz⟩
                          · have z2 : ¬ (400 : Int) < ((na + r : Nat) : Int) + 1 := by omega
                            have z3 : (60 : Int) < (N3 : Int) := by omega
                            clear hfull z1
                            go_wp2_with fail
                            have Z := ((HRB.out.put 0 (.int .i64 0)).put 1 (.slice none 0 0)).eq (show _ = #[.int .i64 0, .slice none 0 0] by simp)
                            have bz := (HBL.out.setCell (p := ⟨w.heap.size + 1, 0, none⟩) (Nat.le_succ _) (.int .i64 0)).setCell (p := ⟨w.heap.size + 1, 1, none⟩) (Nat.le_succ _) (.slice none 0 0)
                            clear kr lr fr
                            generalize (w19.setCell ⟨w.heap.size + 1, 0, none⟩ (.int .i64 0)).setCell ⟨w.heap.size + 1, 1, none⟩ (.slice none 0 0) = W' at *
                            have kz := Z.cell; have lz := Z.lt
                            refine bodyPost_ret (v := .tuple #[.agg #[.int .i64 0, .slice none 0 0], .int .i64 5]) (by simp [results, Tryd.results25, go_sem, *]) rfl ⟨.inl ⟨rfl, HFUL.out⟩, bz⟩
                        · have z2 : ¬ (400 : Int) < ((na + r : Nat) : Int) + 1 := by omega
                          have z3 : ¬ (60 : Int) < (N3 : Int) := by omega
                          have z4 : N3 ≤ 60 := by omega
                          have z5 : na + (r + 1) ≤ 400 := by omega
                          have hr6 : r + 1 ≤ 1000000 := by omega
                          clear hfull
                          go_upto_region 41 with fail
                          have kx := HX.out.cell; have lx := HX.out.lt; have ky := HY.out.cell; have ly := HY.out.lt; have ks' := HK9.out.sb.cell; have ls := HK9.out.sb.lt
                          have har := HK9.out.ar
                          unfold OwnArcs at har
                          rw [HCL.out] at har ks'
                          have HSB : Hid (Blk w19 bs #[.int .i64 f, .slice Ar r cr] 76) := Lib.hid (by have h := HK9.out.sb; rw [HCL.out] at h; exact h)
                          have HAR := Lib.hid har
                          have hzw : wo.heap.size ≤ w19.heap.size := by have h1 := HK9.out.bse.2; omega
                          clear har
                          go_wp2_with (at_builtin; refine wpList_app1 rfl _ _ rfl eltArc wo.heap.size (.slice Ar r cr) r (arcsCells cur) rfl w19 HAR.out #[.int .i64 k.1, .int .i64 k.2, .int .i64 least, .int .i64 (j : Int)] rfl w19.heap.size rfl rfl rfl (by simp [Value.oneCell']) hr6 (by omega) hzw ?_; intro g3 cap w20 ho20 hg20 hat20 hlt20; obtain ⟨y1, y2, y3⟩ := sb_far HSB.out HAR.out hg20)
                          have HKA := Lib.hid (HK9.out.arc (by rw [HCL.out]; exact hg20) ⟨k.1, k.2, least, (j : Int)⟩ (show r + 1 = cur.length + 1 by rw [HCL.out]) ho20)
                          have HCL2 : Hid ((cur ++ [(⟨k.1, k.2, least, (j : Int)⟩ : ArcL)]).length = r + 1) := Lib.hid (by rw [List.length_append, List.length_singleton, HCL.out])
                          have HZ4 : Hid (Ss3.length ≤ 60) := Lib.hid (by rw [HN3.out]; exact z4)
                          clear ho20 hg20 hat20 hlt20 HX HY HK9 HAR kx lx ky ly ks' ls
                          go_roundw
                          case rel => exact ⟨r + 1, .slice At3 Ss3.length ct3, .slice (some ⟨g3, 0, none⟩) (r + 1) cap, Ss3, ts3, cur ++ [⟨k.1, k.2, least, (j : Int)⟩], by omega, by go_num, by rw [HN3.out], congrArg (Value.int .i64) (by omega), HCL2.out, HKA.out, HI3.out, HC3.out, HZ4.out, z5⟩
                          case measure => simp [intOf]; omega
                · obtain rfl : r = nk := by omega
                  have HST := Lib.hid (HI.out.state HC.out (by rw [HCL.out, HKL.out]) HFX.out)
                  have HMM := Lib.hid HK.out.mem
                  have HAW := Lib.hid (HK.out.ar.mono hzo)
                  have HBS := Lib.hid HK.out.sb
                  have HFL : Hid ((flatA (ss ++ [⟨f, cur⟩])).length = na + r) := Lib.hid (by rw [flatA_snoc, List.length_append, HNA.out]; show na + cur.length = na + r; rw [HCL.out])
                  obtain ⟨Ar, cr, rfl, -, -⟩ := own_form HK.out.ar
                  have HH6 : Hid (Ss2.length ≤ 60) := Lib.hid h60
                  clear HK HI HC hK HKP HKL HNK h60 hr hrl
                  have kg := HMM.out.ob.cell; have lg := HMM.out.ob.lt; have ks' := HBS.out.cell; have ls := HBS.out.lt
                  have hrow := HMM.out.own.row
                  rw [HNSS.out] at hrow
                  rw [HCL.out] at ks' HAW
                  have HRW := Lib.hid hrow
                  have hzi := HMM.out.bel.size
                  clear hrow
                  go_wp2_with (at_builtin; refine wpList_app1 rfl _ _ rfl eltState w.heap.size (.slice A9 ns c9) ns (statesCells ((ss.map (·.final)).zip vs)) rfl wi HRW.out #[.int .i64 f, .slice Ar r cr] rfl wi.heap.size rfl rfl rfl (by simp [Value.oneCell']) hns6 (by omega) hzi ?_; intro g3 cap w21 ho21 hg21 hat21 hlt21; obtain ⟨y1, y2, y3⟩ := ob_far HMM.out.ob HRW.out hg21)
                  have HMZ := Lib.hid (HMM.out.addState (by simpa using hg21) ⟨f, cur⟩ (av := .slice Ar r cr) HAW.out (k := ns + 1) (by rw [HNSS.out]) ho21)
                  have HOZ := Lib.hid HMZ.out.outLen
                  have HNZ : Hid ((ss ++ [(⟨f, cur⟩ : StateL)]).length = ns + 1) := Lib.hid (by rw [List.length_append, List.length_singleton, HNSS.out])
                  clear ho21 hg21 hat21 hlt21 HRW HMM HAW HBS kg lg ks' ls
                  go_roundw
                  case rel => exact ⟨_, .slice (some ⟨g3, 0, none⟩) (ns + 1) cap, vs ++ [.slice Ar r cr], ss ++ [⟨f, cur⟩], Ss2, ts2, rfl, by rw [HFL.out]; exact congrArg (Value.int .i64) (by omega), HMZ.out, HST.out, HH6.out, by rw [HFL.out]; exact h400⟩
                  case measure =>
                    have h1 := HST.out.le; have h2 := HH6.out
                    rw [HNZ.out] at h1
                    rw [HOZ.out, HOL.out, HNZ.out]
                    omega
            · intro i hi w11 hni hR11 hg11 hz11 hen
              have HR11 := Lib.hid hR11
              have HPS := Lib.hid (pickL_snoc L idx i hi)
              have hlb := HLB.out L[i] (List.getElem_mem hi)
              obtain ⟨Ak, ck, rfl, -, -⟩ := own_form HOX.out
              have HO11 := Lib.hid (World.ownsRow.kept HOX.out hg11 (.inr (own_ne_cellsC HOX.out HRX.out.noC)))
              have hll : ((pickL L idx).map (·.1)).length ≤ 400 := by
                rw [List.length_map, pickL_len L idx HRX.out.lt]
                have := HRX.out.len; omega
              have HB11 : Hid (Below w9.heap.size w9 w11) := Lib.hid (HBX.out.grown hg11 HBX.out.size (fun j hj => by simp at hj; have := HRS.out; omega))
              generalize L[i] = x at *
              obtain ⟨⟨k1, k2⟩, bb⟩ := x
              simp only at hlb hen
              obtain ⟨L2, hL2⟩ : ∃ L2, (pickL L idx).map (·.1) = L2 := ⟨_, rfl⟩
              have HL2 := Lib.hid hL2
              rw [hL2] at hll HO11
              obtain ⟨nL, hnL⟩ : ∃ nL, L2.length = nL := ⟨_, rfl⟩
              have HNL := Lib.hid hnL
              rw [hnL] at hll HO11
              rw [hL2, hnL]
              have hll2 : nL + 1 ≤ 1000000 := by omega
              clear hL2 hnL hR11 hg11 hz11 hni hlb HOX
              go_upto_region 25 with fail
              clear hen
              have bk : Below w11.heap.size w11 (w11.alloc (.cells #[.int .i64 k1, .int .i64 k2] 141)) := (Below.refl _ _).alloc (Nat.le_refl _) _
              have BK := Lib.hid (Blk.new w11 #[.int .i64 k1, .int .i64 k2] 141)
              have HO12 := Lib.hid (own_below HO11.out bk (Nat.le_refl _)); have HR12 := Lib.hid (HR11.out.below bk (Nat.le_refl _)); have HB12 := Lib.hid (HB11.out.trans (bk.mono HB11.out.size))
              generalize w11.alloc (.cells #[.int .i64 k1, .int .i64 k2] 141) = w12 at *
              generalize w11.heap.size = gk at *
              clear bk HO11 HR11 HB11
              have kk := BK.out.cell; have lk := BK.out.lt; have hz12 := HB12.out.size
              go_wp2_with (at_builtin; refine wpList_app1 rfl _ _ rfl eltPair w9.heap.size (.slice Ak nL ck) nL (twosC L2) rfl w12 HO12.out #[.int .i64 k1, .int .i64 k2] rfl w12.heap.size rfl rfl rfl (by simp [Value.oneCell']) hll2 (by omega) hz12 ?_; intro g3 cap w13 ho13 hg13 hat13 hlt13)
              have HON : Hid (OwnTwos 141 w13 w9.heap.size (.slice (some ⟨g3, 0, none⟩) (nL + 1) cap) (L2 ++ [(k1, k2)])) := Lib.hid (by unfold OwnTwos; rw [twosC_snoc, List.length_append, HNL.out]; exact ho13)
              have hnb := own_base HO12.out (show b0 < w9.heap.size by have := HRS.out; omega)
              have hnr := own_ne_cellsC HO12.out HR12.out.noC
              have HRB := Lib.hid (HR12.out.kept hg13 (fun e => hnb e.symm) (fun e => hnr e.symm))
              have HB13 : Hid (Below w9.heap.size w9 w13) := Lib.hid (HB12.out.grown hg13 hz12 (fun j hj => (HO12.out.lt j hj).1))
              clear ho13 hg13 hat13 hlt13 hnb hnr HB12 HR12 kk lk BK
              go_roundw
              case rel => exact ⟨idx ++ [i], HRB.out, by rw [HPS.out, List.map_append, HL2.out]; exact HON.out, HB13.out⟩
              case measure =>
                have h1 := HRB.out.itLen; have h2 := HRX.out.itLen; have h3 := HRB.out.len
                rw [List.length_append, List.length_singleton] at h1 h3
                rw [h1, h2]; omega
    · have hEQ : ss.length = Ss.length := by have := HI.out.le; omega
      have HOK : Hid (CertOk m WW ⟨0, ss⟩) := Lib.hid ⟨rfl, Ss, HI.out, hEQ⟩
      have HVX := Lib.hid (certI_valid HV.out HW.out hW HI.out hEQ hl60 (by rw [HNA.out]; exact hl400))
      have HOM := Lib.hid HK.out.own
      have HRB := Lib.hid HK.out.rb
      have HBL := Lib.hid HK.out.bel
      have kr := HRB.out.cell; have lr := HRB.out.lt; have fr := HRB.out.froz
      obtain ⟨ns, hns⟩ : ∃ ns, ss.length = ns := ⟨_, rfl⟩
      have HNS := Lib.hid hns
      rw [← hEQ]
      rw [hns] at kg HOM
      rw [hns]
      clear hEQ hns HI HK hl60 hlt
      go_wp2_with fail
      have Z := ((HRB.out.put 0 (.int .i64 0)).put 1 (.slice A9 ns c9)).eq (show _ = #[.int .i64 0, .slice A9 ns c9] by simp)
      have bz := (HBL.out.setCell (p := ⟨w.heap.size + 1, 0, none⟩) (Nat.le_succ _) (.int .i64 0)).setCell (p := ⟨w.heap.size + 1, 1, none⟩) (Nat.le_succ _) (.slice A9 ns c9)
      have HO2 := Lib.hid ((HOM.out.setT HRB.out (by decide) (by decide) 0 (.int .i64 0)).setT (HRB.out.put 0 (.int .i64 0)) (by decide) (by decide) 1 (.slice A9 ns c9))
      clear kr lr fr kg lg km lm
      generalize (wo.setCell ⟨w.heap.size + 1, 0, none⟩ (.int .i64 0)).setCell ⟨w.heap.size + 1, 1, none⟩ (.slice A9 ns c9) = W' at *
      have kz := Z.cell; have lz := Z.lt
      refine bodyPost_ret (v := .tuple #[.agg #[.int .i64 0, .slice A9 ns c9], .int .i64 0]) (by simp [results, Tryd.results25, go_sem, *]) rfl ⟨.inr ⟨_, ⟨0, ss⟩, rfl, ⟨_, rfl, vs, HO2.out⟩, HOK.out, HVX.out⟩, bz⟩
end Go.Proofs.YtkmnacchiagipaaDoor
