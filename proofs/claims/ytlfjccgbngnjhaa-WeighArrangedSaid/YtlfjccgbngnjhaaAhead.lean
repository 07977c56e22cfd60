/- reach.Ahead. -/
/- reach.Ahead called. -/
import Derived.Test.YtlfjccgbngnjhaaFlood
import Derived.Test.YtlfjccgbngnjhaaCheck
namespace Go.Proofs.Ytlfjccgbngnjhaa
open Go.RowKit

def aheadOf (ss : List StateL) (q : Nat) : List Nat := match ss[q]? with
  | some s => s.arcs.map fun a => a.to.toNat
  | none => []
theorem aheadOf_eq (ss : List StateL) (q : Nat) (h : q < ss.length) : aheadOf ss q = ss[q].arcs.map fun a => a.to.toNat := by simp [aheadOf, h]

theorem below_of_grown' {w0 w W : World} {R : Option Nat} (hb : Below w0.heap.size w0 w) (hg : w.grownBy W R) (hR : ∀ b, R = some b → w0.heap.size ≤ b) : Below w0.heap.size w0 W :=
  hb.grown hg hb.size (fun k hk => hR k hk)

set_option maxRecDepth 100000 in
set_option maxHeartbeats 4000000 in
theorem ahead_next (w0 w : World) (R : Option Nat) (mb : Nat) (st : Int) (A : Option Addr) (c : Nat) (ss : List StateL) (hS : StatesAt w0 A ss) (hn : ss.length ≤ 60) (hv : ∀ s ∈ ss, ∀ a ∈ s.arcs, 0 ≤ a.to ∧ a.to < ss.length) (hl : ∀ s ∈ ss, s.arcs.length ≤ 400)
    (hb : Below w0.heap.size w0 w) (hR : ∀ b, R = some b → w0.heap.size ≤ b) (hm : Blk w mb #[.int .i64 st, .slice A ss.length c] 27) (hmR : some mb ≠ R) :
    NextOk w R ss.length 53 #[.pointer (some ⟨mb, 0, none⟩)] (aheadOf ss) := by
  intro W x tv q hq hF
  have HFS := Lib.hid hF
  have HS := Lib.hid hS
  have HV := Lib.hid (hv _ (List.getElem_mem hq))
  have HM := Lib.hid hm
  have hlq := hl _ (List.getElem_mem hq)
  have bW : Below w0.heap.size w0 W := below_of_grown' hb hF.grown hR
  have hmW := hm.grown hF.grown hmR
  have k1 := hmW.cell; have l1 := hmW.lt
  have hSW := hS.below bW (Nat.le_refl _)
  have rd := hSW.rdy
  obtain ⟨A', c', d1', hA'⟩ := hS.c1 q hq
  have d1 := cell_keep bW (Nat.le_refl _) d1'
  have lA := World.block_lt_of_cell? _ _ d1
  have rdA := hA'.rdy
  have HA := Lib.hid hA'
  have i0 : (0 : Int) ≤ ↑q := by omega
  have i1 : (↑q : Int) < ↑ss.length := by omega
  have e0 := aheadOf_eq ss q hq
  generalize ss[q] = s at *
  have E0 := Lib.hid e0
  clear hS hv hl hm hmW hSW hA' d1' hF e0 rd
  have rd : Rdy A ss.length := HS.out.rdy
  go_enter Try.func53, Try.ntmps53
  go_wp2_with fail
  clear k1
  go_loopw [14] (fun i wr => ∃ (k : Nat) (tv' : Value), k ≤ s.arcs.length ∧ i = .int .i64 k ∧ FS w wr R ss.length (visits x ((s.arcs.take k).map fun a => a.to.toNat)) tv') (fun i _ => s.arcs.length - (intOf i).toNat)
  case atStart => exact ⟨0, tv, by omega, rfl, by simpa [visits] using HFS.out⟩
  case round =>
    obtain ⟨k, tv', hk, rfl, hF⟩ := hrel
    by_cases hlt : k < s.arcs.length
    · have bwr : Below w0.heap.size w0 wr := below_of_grown' hb hF.grown hR
      have hAr := HA.out.below bwr (Nat.le_refl _)
      have f0 := hAr.c0 k hlt; have f1 := hAr.c1 k hlt; have f2 := hAr.c2 k hlt; have f3 := hAr.c3 k hlt
      have hva := HV.out _ (List.getElem_mem hlt)
      have ht : (s.arcs.take (k + 1)).map (fun a => a.to.toNat) = (s.arcs.take k).map (fun a => a.to.toNat) ++ [s.arcs[k].to.toNat] := by
        rw [List.take_succ_eq_append_getElem hlt, List.map_append]; rfl
      generalize s.arcs[k] = a at *
      obtain ⟨p, hp⟩ : ∃ p : Nat, a.to = p := ⟨a.to.toNat, by omega⟩
      have hp2 : a.to.toNat = p := by omega
      have hpn : p < ss.length := by omega
      rw [hp] at f3
      rw [hp2] at ht
      have HT := Lib.hid ht
      have HF := Lib.hid hF
      have lA' := World.block_lt_of_cell? _ _ f0
      clear hAr hva ht hF hp hp2
      go_wp2_with fail
      refine (visit_any w _ R ss.length _ tv' (HF.out.keep ((Below.refl _ _).alloc (Nat.le_refl _) _)) p hpn (by omega)).mono ?_
      rintro e w4 ⟨rfl, tv4, hF4⟩
      have HF4 := Lib.hid hF4
      clear hF4
      go_wp2_with fail
      go_roundw
      case rel => exact ⟨k + 1, tv4, by omega, by go_num, by rw [HT.out, visits_snoc]; exact HF4.out⟩
      case measure => simp [intOf]; omega
    · have hke : s.arcs.take k = s.arcs := List.take_of_length_le (by omega)
      rw [hke] at hF
      have HF := Lib.hid hF
      clear hF hke
      go_wp2_with fail
      go_end0
      exact ⟨rfl, tv', by rw [E0.out]; exact HF.out⟩
end Go.Proofs.Ytlfjccgbngnjhaa

namespace Go.Proofs.Ytlfjccgbngnjhaa
open Go.RowKit

def startOf (m : MachL) : List Nat := if 0 ≤ m.start then [m.start.toNat] else []
/-- a slice of bools of the call's own that tells what can be reached -/
structure SeenAt (w0 w : World) (v : Value) (n : Nat) (succ : Nat → List Nat) (from_ : List Nat) : Prop where
  ex : ∃ (b : Nat) (seen : List Bool), v = .slice (some ⟨b, 0, none⟩) n n ∧ Blk w b (bcells seen) 4 ∧ w0.heap.size ≤ b ∧ seen.length = n ∧ ∀ q, seen.getD q false = true ↔ Reach succ from_ q
theorem SeenAt.step {w0 w w' : World} {v : Value} {n : Nat} {succ : Nat → List Nat} {from_ : List Nat} (h : SeenAt w0 w v n succ from_) (hb : Below w.heap.size w w') : SeenAt w0 w' v n succ from_ := by
  obtain ⟨b, seen, e, hB, h1, h2, h3⟩ := h.ex
  exact ⟨b, seen, e, hB.step hb, h1, h2, h3⟩

theorem enterAhead (x : Array Value) (W : World) : (callFunc 53 x).run Try.prog W = .ok (.enter 53 x) W := by simp [go_sem]

theorem valid_to {m : MachL} (h : Valid m) : (∀ s ∈ m.states, ∀ a ∈ s.arcs, 0 ≤ a.to ∧ a.to < m.states.length) ∧ (∀ s ∈ m.states, s.arcs.length ≤ 400) :=
  ⟨fun s hs a ha => ⟨((h.st s hs).2 a ha).t0, ((h.st s hs).2 a ha).t1⟩, fun s hs => by
    have := h.arcs
    have h2 : s.arcs.length ≤ arcsOf m.states := by
      unfold arcsOf
      obtain ⟨l1, l2, e⟩ := List.append_of_mem hs
      rw [e]; simp; omega
    omega⟩

set_option maxRecDepth 100000 in
set_option maxHeartbeats 4000000 in
theorem Ahead_any (v : Value) (m : MachL) (w : World) (hm : MachAt w v m) (hv : Valid m) :
    Calls Try.prog 36 #[v] w fun e w' => ∃ sv, e = .returned (.tuple #[sv, .int .i64 0]) ∧ SeenAt w w' sv m.states.length (aheadOf m.states) (startOf m) ∧ Below w.heap.size w w' := by
  have CH := Lib.hid (fun W hb => Check_ok v m W (hm.below hb) hv)
  have hto := Lib.hid (valid_to hv).1
  have hle := Lib.hid (valid_to hv).2
  obtain ⟨A, c, rfl, hS⟩ := hm
  have hsz := hv.size
  have hs0 := hv.s0
  have hs1 := hv.s1
  have HS := Lib.hid hS
  have hSt : startOf m = if 0 ≤ m.start then [m.start.toNat] else [] := rfl
  have HSt := Lib.hid hSt
  have HA : Hid (∀ q, q < m.states.length → ∀ p ∈ aheadOf m.states q, p < m.states.length) := Lib.hid (fun q hq p hp => by
    rw [aheadOf_eq _ _ hq] at hp
    obtain ⟨a, ha, rfl⟩ := List.mem_map.1 hp
    have := (valid_to hv).1 _ (List.getElem_mem hq) a ha
    omega)
  clear hS hv hSt
  have hC := enterAhead
  generalize startOf m = fr at *
  generalize m.states = ss at *
  generalize m.start = st at *
  by_cases h0 : 0 ≤ st
  · obtain ⟨q, rfl⟩ : ∃ q : Nat, st = q := ⟨st.toNat, by omega⟩
    have hfr : fr = [q] := by rw [HSt.out]; simp
    have HFR := Lib.hid hfr
    clear hfr hs0
    go_enter Try.func36, Try.ntmps36
    go_wp2_with fail
    refine (CH.out _ (by repeat' (first | exact Below.refl _ _ | assumption | refine Below.drew ?_ | refine Below.alloc ?_ (by first | omega | (simp; done) | (simp; omega)) _ | refine Below.setCell ?_ (by first | omega | (simp; done) | (simp; omega)) _))).mono ?_
    rintro e w1 ⟨rfl, bel⟩
    have M1 : Hid (Blk w1 w.heap.size #[.int .i64 q, .slice A ss.length c] 27) := Lib.hid (Blk.step (Blk.new' (by simp)) bel)
    have b1 : Below w.heap.size w w1 := ((Below.refl _ _).alloc (Nat.le_refl _) _).trans (bel.mono (by simp))
    have k1 := M1.out.cell; have l1 := M1.out.lt
    clear bel CH
    go_wp2_with (at_builtin; refine wpList_app1 rfl _ _ rfl eltInt w1.heap.size (.slice none 0 0) 0 [] rfl w1 (World.ownsRow_nil _ _ _ _) #[.int .i64 q] rfl w1.heap.size rfl rfl rfl (by simp [Value.oneCell']) (by omega) (by omega) (Nat.le_refl _) ?_; intro g cap w3 ho3 hg3 hat3 hlt3; have b3 : Below w1.heap.size w1 w3 := Below.grown (Below.refl _ _) hg3 (Nat.le_refl _) (fun k hk => by simp [Value.ownBlock] at hk); have M3 := M1.out.below b3 l1; have k3 := M3.cell; have l3 := M3.lt)
    have hgb : w1.heap.size ≤ g := by
      rcases hat3 with h | h
      · simp [Value.ownBlock] at h
      · omega
    refine (flood_any w3 ss.length _ [q] 53 _ (aheadOf ss) (by omega) (by simp) (fun p hp => by simp at hp; omega) (own_mono (by simpa [ncells] using ho3) (Nat.zero_le _)) hC (ahead_next w w3 _ w.heap.size q A c ss HS.out hsz hto.out hle.out (b1.trans (b3.mono b1.size)) (fun b hb => ?_) M3 ?_) HA.out).mono ?_
    · simp only [Value.ownBlock, Option.some.injEq] at hb; have := b1.size; omega
    · simp only [Value.ownBlock, ne_eq, Option.some.injEq]; omega
    · rintro e w4 ⟨seen, rfl, hB, hl, hr, hg⟩
      have HB := Lib.hid hB; have HL := Lib.hid hl; have HR := Lib.hid hr
      have b4 : Below w.heap.size w w4 := (b1.trans (b3.mono b1.size)).grown hg (by have := b3.size; omega) (fun k hk => by simp [Value.ownBlock] at hk; omega)
      clear hB hl hr hg
      go_wp2_with fail
      go_ret2
      exact ⟨_, rfl, ⟨_, seen, rfl, HB.out, by have := b3.size; omega, HL.out, by rw [HFR.out]; exact HR.out⟩, b4⟩
  · have hfr : fr = [] := by rw [HSt.out, if_neg h0]
    have HFR := Lib.hid hfr
    clear hfr
    go_enter Try.func36, Try.ntmps36
    go_wp2_with fail
    refine (CH.out _ (by repeat' (first | exact Below.refl _ _ | assumption | refine Below.drew ?_ | refine Below.alloc ?_ (by first | omega | (simp; done) | (simp; omega)) _ | refine Below.setCell ?_ (by first | omega | (simp; done) | (simp; omega)) _))).mono ?_
    rintro e w1 ⟨rfl, bel⟩
    have M1 : Hid (Blk w1 w.heap.size #[.int .i64 st, .slice A ss.length c] 27) := Lib.hid (Blk.step (Blk.new' (by simp)) bel)
    have b1 : Below w.heap.size w w1 := ((Below.refl _ _).alloc (Nat.le_refl _) _).trans (bel.mono (by simp))
    have k1 := M1.out.cell; have l1 := M1.out.lt
    clear bel CH
    go_wp2_with fail
    refine (flood_any w1 ss.length _ [] 53 _ (aheadOf ss) (by omega) (by simp) (fun p hp => by simp at hp) (World.ownsRow_nil _ _ _ _) hC (ahead_next w w1 _ w.heap.size st A c ss HS.out hsz hto.out hle.out b1 (fun b hb => ?_) M1.out ?_) HA.out).mono ?_
    · simp [Value.ownBlock] at hb
    · simp [Value.ownBlock]
    · rintro e w4 ⟨seen, rfl, hB, hl, hr, hg⟩
      have HB := Lib.hid hB; have HL := Lib.hid hl; have HR := Lib.hid hr
      have b4 : Below w.heap.size w w4 := b1.grown hg b1.size (fun k hk => by simp [Value.ownBlock] at hk)
      clear hB hl hr hg
      go_wp2_with fail
      go_ret2
      exact ⟨_, rfl, ⟨_, seen, rfl, HB.out, b1.size, HL.out, by rw [HFR.out]; exact HR.out⟩, b4⟩
end Go.Proofs.Ytlfjccgbngnjhaa
