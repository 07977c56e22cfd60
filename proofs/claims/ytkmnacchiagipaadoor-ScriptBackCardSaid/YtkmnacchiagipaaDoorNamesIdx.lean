/- names.index: its maps, made once. -/
import Derived.Test.YtkmnacchiagipaaDoorNamesPlain
import Derived.Test.YtkmnacchiagipaaDoorOnce
import Derived.Test.YtkmnacchiagipaaDoorSlices
import Derived.Test.YtkmnacchiagipaaDoorBuild
import Derived.RegionTactic
import Derived.Deep.RegionLaw
import Derived.LoopTactic
import Derived.Deep.DeepCutAuto
import Derived.StillTailTactics
namespace Go.Proofs.YtkmnacchiagipaaDoor
open Go.RowKit
open Go.ChangeMaps (setBlock)

abbrev strV (s : Str) : Value := .string ⟨s.toArray⟩
theorem strV_beq (a b : Str) : ((⟨a.toArray⟩ : ByteArray) == ⟨b.toArray⟩) = decide (a = b) := by
  rw [Bool.eq_iff_iff, MapKept.bytes_beq, decide_eq_true_iff]
  constructor
  · intro h
    have h2 := congrArg (fun x : ByteArray => x.data.toList) h
    simpa using h2
  · intro h; rw [h]
theorem keyOkStr : KeyOk Tryd.prog 9 strV where
  chk e k w := by cases e <;> kernel_rfl
  eq a b w := by
    show (Op.equalIn 10000 _ _ _).run _ w = _
    rw [show (10000 : Nat) = 9999 + 1 from rfl, Op.equalIn]
    simp only [Sem.run_bind, run_underlying Tryd.underlying9, Result.andThen_ok, Sem.run_pure, strV_beq]
  stays a := by simp only [Instr.sameBits, strV_beq]; simp
  now a b := ⟨_, Tryd.underlying9, .inr (by simp only [Instr.sameNow, strV_beq])⟩
theorem keyOkInt : KeyOk Tryd.prog 3 intV where
  chk e k w := by cases e <;> kernel_rfl
  eq a b w := by
    show (Op.equalIn 10000 _ _ _).run _ w = _
    rw [show (10000 : Nat) = 9999 + 1 from rfl, Op.equalIn]
    simp only [Sem.run_bind, run_underlying Tryd.underlying3, Result.andThen_ok, if_true, Sem.run_pure]
    congr 1
  stays a := by simp [Instr.sameBits]
  now a b := ⟨_, Tryd.underlying3, .inr (by simp only [Instr.sameNow, if_true]; congr 1)⟩

def nameC (n : NameL) : List Value := [strV n.text, .int .i64 n.label]
def namesC (l : List NameL) : List Value := l.flatMap nameC
theorem namesC_len (l : List NameL) : (namesC l).length = l.length * 2 := by
  induction l with
  | nil => rfl
  | cons a l ih => simp only [namesC, List.flatMap_cons, List.length_append, List.length_cons] at *; rw [ih]; simp [nameC]; omega
/-- a slice of names reads as l -/
structure NamesAt (w : World) (A : Option Addr) (l : List NameL) : Prop where
  rdy : Rdy A l.length
  c0 : ∀ i (h : i < l.length), w.cell? ⟨blk A, ofs A + i * 2, none⟩ = some (strV l[i].text)
  c1 : ∀ i (h : i < l.length), w.cell? ⟨blk A, ofs A + i * 2 + 1, none⟩ = some (.int .i64 l[i].label)
theorem NamesAt.below {w w' : World} {A : Option Addr} {l : List NameL} (h : NamesAt w A l) {B : Nat} (hb : Below B w w') (hB : w.heap.size ≤ B) : NamesAt w' A l :=
  ⟨h.rdy, fun i hi => cell_keep hb hB (h.c0 i hi), fun i hi => cell_keep hb hB (h.c1 i hi)⟩
theorem NamesAt.of_own {w : World} {B : Nat} {A : Option Addr} {n c : Nat} {l : List NameL} (h : w.ownsRow B 37 2 (.slice A n c) n (namesC l)) : NamesAt w A l := by
  have hn : n = l.length := by have h1 := h.1; rw [namesC_len] at h1; omega
  subst hn
  have r := Rd.of_own h
  have q : ∀ i (hi : i < l.length) (j : Nat) (hj : j < 2), w.cell? ⟨blk A, ofs A + (i * 2 + j), none⟩ = (nameC l[i])[j]? := by
    intro i hi j hj
    have e := flatMap_at nameC 2 (fun _ => rfl) l i hi j hj
    have hs : (nameC l[i])[j]? = some ((nameC l[i])[j]'hj) := List.getElem?_eq_getElem hj
    rw [hs]
    exact r.at' (e.trans hs)
  exact ⟨r.rdy, fun i hi => q i hi 0 (by omega), fun i hi => q i hi 1 (by omega)⟩

/-- the index's block -/
abbrev idxC (A : Option Addr) (n c : Nat) (d s z : Int) (t l : Option Nat) : Array Value := #[.slice A n c, .int .u32 d, .int .i32 s, .int .u32 z, .map t, .map l]
/-- the index with its maps, in blocks bt and bl -/
structure IdxAt (w : World) (bx bt bl : Nat) (A : Option Addr) (c : Nat) (d s : Int) (l : List NameL) (k : Nat) : Prop where
  blk : Blk w bx (idxC A l.length c d s 0 (some bt) (some bl)) 103
  tm : MapB w bt strV intV (imapN (l.map (·.text)) k)
  lm : MapB w bl intV intV (imapN (l.map (·.label)) k)
  ne : bt ≠ bl
  n1 : bx < bt
  n2 : bx < bl
section
variable {w w' : World} {bx bt bl : Nat} {A : Option Addr} {c : Nat} {d s : Int} {l : List NameL} {k : Nat}
theorem IdxAt.keep (h : IdxAt w bx bt bl A c d s l k) (hb : Below w.heap.size w w') : IdxAt w' bx bt bl A c d s l k := ⟨h.blk.step hb, h.tm.below hb (Nat.le_refl _), h.lm.below hb (Nat.le_refl _), h.ne, h.n1, h.n2⟩
end
theorem IdxAt.putT {w : World} {bx bt bl : Nat} {A : Option Addr} {c : Nat} {d s : Int} {l : List NameL} {k : Nat} (h : IdxAt w bx bt bl A c d s l k) (hk : k < l.length) : MapB (setBlock w bt (mapObj strV intV (imapN (l.map (·.text)) (k + 1)))) bt strV intV (imapN (l.map (·.text)) (k + 1)) := by
  have := h.tm.put l[k].text (k : Int)
  have e : imapN (l.map (·.text)) (k + 1) = mput (imapN (l.map (·.text)) k) l[k].text (k : Int) := by rw [imapN_succ _ k (by simpa using hk)]; simp
  rw [← e] at this; exact this
theorem IdxAt.putL {w : World} {bl : Nat} {l : List NameL} {k : Nat} (h : MapB w bl intV intV (imapN (l.map (·.label)) k)) (hk : k < l.length) : MapB (setBlock w bl (mapObj intV intV (imapN (l.map (·.label)) (k + 1)))) bl intV intV (imapN (l.map (·.label)) (k + 1)) := by
  have := h.put l[k].label (k : Int)
  have e : imapN (l.map (·.label)) (k + 1) = mput (imapN (l.map (·.label)) k) l[k].label (k : Int) := by rw [imapN_succ _ k (by simpa using hk)]; simp
  rw [← e] at this; exact this
theorem Blk.mapped {w : World} {b bt : Nat} {cs : Array Value} {t : TypeId} {o : Obj} (h : Blk w b cs t) (hne : b ≠ bt) : Blk (setBlock w bt o) b cs t := h.kept (setBlock_ne hne)
theorem map_new2 (w : World) {κ ν : Type} (c : κ → Value) (d : ν → Value) : MapB ((w.alloc (.map #[] 0)).alloc (.map #[] 0)) w.heap.size c d [] ∧ MapB ((w.alloc (.map #[] 0)).alloc (.map #[] 0)) (w.heap.size + 1) c d [] :=
  ⟨(MapB.made w _ rfl c d).alloc _, MapB.made _ _ (by simp) c d⟩
theorem idx_new (w0 w : World) (bx x y : Nat) (A : Option Addr) (l : List NameL) (c : Nat) (d s : Int) (h0 : Below w0.heap.size w0 w) (hbx : w0.heap.size ≤ bx) (hx : Blk w bx (idxC A l.length c d s 0 none none) 103) (hxy : (x = w.heap.size ∧ y = w.heap.size + 1) ∨ (x = w.heap.size + 1 ∧ y = w.heap.size)) :
    IdxAt ((((w.setCell ⟨bx, 4, none⟩ (.map (some x))).setCell ⟨bx, 5, none⟩ (.map (some y))).alloc (.map #[] 0)).alloc (.map #[] 0)).drew bx x y A c d s l 0 ∧ Below w0.heap.size w0 ((((w.setCell ⟨bx, 4, none⟩ (.map (some x))).setCell ⟨bx, 5, none⟩ (.map (some y))).alloc (.map #[] 0)).alloc (.map #[] 0)).drew ∧ w.heap.size ≤ x ∧ w.heap.size ≤ y ∧ (∀ b cs t, t ≠ 103 → Blk w b cs t → Blk ((((w.setCell ⟨bx, 4, none⟩ (.map (some x))).setCell ⟨bx, 5, none⟩ (.map (some y))).alloc (.map #[] 0)).alloc (.map #[] 0)).drew b cs t) := by
  have hlt := hx.lt
  have hs : ((w.setCell ⟨bx, 4, none⟩ (.map (some x))).setCell ⟨bx, 5, none⟩ (.map (some y))).heap.size = w.heap.size := by simp [World.setCell]
  have hb : Blk ((w.setCell ⟨bx, 4, none⟩ (.map (some x))).setCell ⟨bx, 5, none⟩ (.map (some y))) bx (idxC A l.length c d s 0 (some x) (some y)) 103 := ((hx.put 4 _).put 5 _).eq (by simp)
  have hw : Below w0.heap.size w0 ((w.setCell ⟨bx, 4, none⟩ (.map (some x))).setCell ⟨bx, 5, none⟩ (.map (some y))) := (h0.setCell (by simpa using hbx) _).setCell (by simpa using hbx) _
  have hk : ∀ b cs t, t ≠ 103 → Blk w b cs t → Blk ((w.setCell ⟨bx, 4, none⟩ (.map (some x))).setCell ⟨bx, 5, none⟩ (.map (some y))) b cs t := fun b cs t ht h => by
    have hne : b ≠ bx := fun e => by
      subst e; unfold Blk at h hx; rw [hx] at h; injection h with h; injection h with _ h2; exact ht h2.symm
    exact (h.far hne _).far hne _
  generalize (w.setCell ⟨bx, 4, none⟩ (.map (some x))).setCell ⟨bx, 5, none⟩ (.map (some y)) = W at *
  have hm1 := map_new2 W strV intV; have hm2 := map_new2 W intV intV
  rw [hs] at hm1 hm2
  have e1 : imapN (l.map (·.text)) 0 = [] := rfl
  have e2 : imapN (l.map (·.label)) 0 = [] := rfl
  refine ⟨⟨((hb.alloc _).alloc _).drew, ?_, ?_, by omega, by omega, by omega⟩, ?_, by omega, by omega, fun b cs t ht h => (((hk b cs t ht h).alloc _).alloc _).drew⟩
  · rw [e1]; rcases hxy with ⟨rfl, rfl⟩ | ⟨rfl, rfl⟩
    · exact hm1.1.drew
    · exact hm1.2.drew
  · rw [e2]; rcases hxy with ⟨rfl, rfl⟩ | ⟨rfl, rfl⟩
    · exact hm2.2.drew
    · exact hm2.1.drew
  · have := h0.size
    exact ((hw.alloc (by omega) _).alloc (by simp; omega) _).drew

set_option maxRecDepth 100000 in
set_option maxHeartbeats 4000000 in
theorem made1_any (w0 w : World) (pl bx : Nat) (A : Option Addr) (l : List NameL) (c : Nat) (d s : Int) (hT : NamesAt w0 A l) (h0 : Below w0.heap.size w0 w) (hbx : w0.heap.size ≤ bx) (hp : Blk w pl #[.pointer (some ⟨bx, 0, none⟩)] 87) (hx : Blk w bx (idxC A l.length c d s 0 none none) 103) (hl : l.length ≤ 1000) :
    Calls Tryd.prog 77 #[.pointer (some ⟨pl, 0, none⟩)] w fun e w' => e = .returned (.tuple #[]) ∧ ∃ bt bl, IdxAt w' bx bt bl A c d s l l.length ∧ Below w0.heap.size w0 w' ∧ w.heap.size ≤ bt ∧ w.heap.size ≤ bl ∧ (∀ b cs t, t ≠ 103 → Blk w b cs t → Blk w' b cs t) := by
  have hmm := @run_makeMap Tryd.prog
  have HT := Lib.hid hT; have H0 := Lib.hid h0
  have kp := hp.cell; have lp := hp.lt; have kx := hx.cell; have lx := hx.lt; have fx := hx.froz
  have rd := hT.rdy
  have HP := Lib.hid hp; have HX := Lib.hid hx
  clear hT h0 hp hx
  go_enter Tryd.func77, Tryd.ntmps77
  go_upto_region 0 with fail
  go_cut [] (fun wx => ∃ bt bl, IdxAt wx bx bt bl A c d s l 0 ∧ Below w0.heap.size w0 wx ∧ w.heap.size ≤ bt ∧ w.heap.size ≤ bl ∧ (∀ b cs t, t ≠ 103 → Blk w b cs t → Blk wx b cs t))
  case first =>
    go_region
    all_goals
      go_wp2_with fail
      go_meet
    case rel => exact ⟨_, _, idx_new w0 w bx _ _ A l c d s H0.out hbx HX.out (.inl ⟨rfl, rfl⟩)⟩
    case rel => exact ⟨_, _, idx_new w0 w bx _ _ A l c d s H0.out hbx HX.out (.inr ⟨rfl, rfl⟩)⟩
  case rest =>
    obtain ⟨bt, bl, hI, hB, hbt, hbl, hK⟩ := hcut
    have hp1 := hK pl _ _ (by decide) HP.out
    have HI := Lib.hid hI; have HB := Lib.hid hB; have HK := Lib.hid hK
    have kp := hp1.cell; have lp := hp1.lt; have kx := hI.blk.cell; have lx := hI.blk.lt
    have HP1 := Lib.hid hp1
    have hxp : bx < w.heap.size := HX.out.lt
    clear hI hB hK hp1 HX
    go_upto_region 2 with fail
    clear kp lp kx lx
    go_loopw [16] (fun iv wr => ∃ k : Nat, k ≤ l.length ∧ iv = .int .i64 k ∧ IdxAt wr bx bt bl A c d s l k ∧ Below w0.heap.size w0 wr ∧ (∀ b cs t, t ≠ 103 → Blk w b cs t → Blk wr b cs t)) (fun iv _ => l.length - (intOf iv).toNat)
    case atStart => exact ⟨0, by omega, rfl, HI.out, HB.out, HK.out⟩
    case round =>
      clear HI HB HK HP1
      obtain ⟨k, hk, rfl, hI, hB, hK⟩ := hrel
      obtain ⟨wo, rfl⟩ : ∃ wo : World, wo = wr := ⟨_, rfl⟩
      have HI := Lib.hid hI; have HB := Lib.hid hB; have HK := Lib.hid hK
      clear hI hB hK
      have i0 : (0 : Int) ≤ (k : Int) := by omega
      by_cases hlt : k < l.length
      · have i1 : (k : Int) < (l.length : Int) := by omega
        have hTr := HT.out.below HB.out (Nat.le_refl _)
        have d0 := hTr.c0 k hlt; have d1 := hTr.c1 k hlt
        have HPT := Lib.hid (fun W (h : IdxAt W bx bt bl A c d s l k) => h.putT hlt)
        have HPL := Lib.hid (fun W (h : MapB W bl intV intV (imapN (l.map (·.label)) k)) => IdxAt.putL h hlt)
        have het : imapN (l.map (·.text)) (k + 1) = mput (imapN (l.map (·.text)) k) l[k].text (k : Int) := by rw [imapN_succ _ k (by simpa using hlt)]; simp
        have hel : imapN (l.map (·.label)) (k + 1) = mput (imapN (l.map (·.label)) k) l[k].label (k : Int) := by rw [imapN_succ _ k (by simpa using hlt)]; simp
        have HET := Lib.hid het; have HEL := Lib.hid hel
        clear het hel hTr
        generalize l[k] = n at *
        have lA := World.block_lt_of_cell? _ _ d0
        go_upto_region 4 with fail
        have bn : Below wo.heap.size wo (wo.alloc (.cells #[strV n.text, .int .i64 n.label] 37)) := (by repeat' (first | exact Below.refl _ _ | assumption | refine Below.drew ?_ | refine Below.alloc ?_ (by first | omega | (simp; done) | (simp; omega)) _ | refine Below.setCell ?_ (by first | omega | (simp; done) | (simp; omega)) _))
        have BN : Hid (Blk (wo.alloc (.cells #[strV n.text, .int .i64 n.label] 37)) wo.heap.size #[strV n.text, .int .i64 n.label] 37) := Lib.hid (Blk.new _ _ _)
        have HI1 := Lib.hid (HI.out.keep bn)
        have HB1 := Lib.hid (HB.out.trans (bn.mono HB.out.size))
        have HK1 : Hid (∀ b cs t, t ≠ 103 → Blk w b cs t → Blk (wo.alloc (.cells #[strV n.text, .int .i64 n.label] 37)) b cs t) := Lib.hid fun b cs t ht h => (HK.out b cs t ht h).alloc _
        generalize wo.alloc (.cells #[strV n.text, .int .i64 n.label] 37) = w1 at *
        generalize wo.heap.size = gn at *
        have hp1 := HK1.out pl _ _ (by decide) HP.out
        have kp := hp1.cell; have lp := hp1.lt; have kx := HI1.out.blk.cell; have lx := HI1.out.blk.lt; have kn := BN.out.cell; have ln := BN.out.lt
        clear d0 d1 bn lA HI HB HK hp1
        go_still_tail 7, (by kernel_rfl)
        change wpList _ _ _ _ _ w1.drew
        clear kp lp kx lx kn ln
        have hmu : (Instr.mapUpdate 100 (.map (some bt)) (strV n.text) (.int .i64 (k : Int))).run Tryd.prog w1.drew = .ok () (setBlock w1.drew bt (mapObj strV intV (imapN (l.map (·.text)) (k + 1)))) := by
          have := run_mapUpdate_x HI1.out.tm.drew keyOkStr Tryd.underlying100 n.text (k : Int)
          rw [HET.out]; exact this
        have hdr : Below w1.heap.size w1 w1.drew := (Below.refl _ _).drew
        have hI2 := HI1.out.keep hdr
        have hn1 := hI2.n1; have hn2 := hI2.n2; have hne := hI2.ne
        have hg2 : w1.drew.grownBy (setBlock w1.drew bt (mapObj strV intV (imapN (l.map (·.text)) (k + 1)))) (some bt) := setBlock_grown _
        have hT2 := HPT.out _ hI2
        have hX2 := hI2.blk.mapped (o := mapObj strV intV (imapN (l.map (·.text)) (k + 1))) (show bx ≠ bt by omega)
        have hL2 := hI2.lm.grown hg2 (by simpa using fun e => hne e.symm)
        have hN2 := (BN.out.step hdr).grown hg2 (fun e => by
          injection e with e; subst e
          have h1 := (BN.out.step hdr); have h2 := hI2.tm.blk
          unfold Blk at h1; rw [h2] at h1; cases h1)
        have hB2 := (HB1.out.trans (hdr.mono HB1.out.size)).grown hg2 (Nat.le_trans HB1.out.size hdr.size) (fun j hj => by simp at hj; omega)
        have hK2 : ∀ b cs t, t ≠ 103 → Blk w b cs t → Blk (setBlock w1.drew bt (mapObj strV intV (imapN (l.map (·.text)) (k + 1)))) b cs t := fun b cs t ht h => by
          have h1 := (HK1.out b cs t ht h).step hdr
          exact h1.mapped fun e => by subst e; have h2 := hI2.tm.blk; unfold Blk at h1; rw [h2] at h1; cases h1
        have HX2 := Lib.hid hX2; have HT2 := Lib.hid hT2; have HL2 := Lib.hid hL2; have HN2 := Lib.hid hN2; have HB2 := Lib.hid hB2; have HK2 := Lib.hid hK2
        clear hX2 hT2 hL2 hN2 hB2 hK2 hg2 hI2 hdr HB1 HK1 HI1
        go_upto_region 5 with fail
        clear hmu
        generalize setBlock w1.drew bt (mapObj strV intV (imapN (l.map (·.text)) (k + 1))) = w2 at *
        have hp1 := HK2.out pl _ _ (by decide) HP.out
        have kp := hp1.cell; have lp := hp1.lt; have kx := HX2.out.cell; have lx := HX2.out.lt; have kn := HN2.out.cell; have ln := HN2.out.lt
        clear hp1
        go_still_tail 7, (by kernel_rfl)
        change wpList _ _ _ _ _ w2.drew
        clear kp lp kx lx kn ln
        have hmu : (Instr.mapUpdate 101 (.map (some bl)) (.int .i64 n.label) (.int .i64 (k : Int))).run Tryd.prog w2.drew = .ok () (setBlock w2.drew bl (mapObj intV intV (imapN (l.map (·.label)) (k + 1)))) := by
          have := run_mapUpdate_x HL2.out.drew keyOkInt Tryd.underlying101 n.label (k : Int)
          rw [HEL.out]; exact this
        have hdr : Below w2.heap.size w2 w2.drew := (Below.refl _ _).drew
        have hg3 : w2.drew.grownBy (setBlock w2.drew bl (mapObj intV intV (imapN (l.map (·.label)) (k + 1)))) (some bl) := setBlock_grown _
        have hL3 := HPL.out _ HL2.out.drew
        have hX3 := (HX2.out.step hdr).mapped (o := mapObj intV intV (imapN (l.map (·.label)) (k + 1))) (show bx ≠ bl by omega)
        have hT3 := HT2.out.drew.grown hg3 (by simpa using hne)
        have hB3 := (HB2.out.trans (hdr.mono HB2.out.size)).grown hg3 (Nat.le_trans HB2.out.size hdr.size) (fun j hj => by simp at hj; omega)
        have hK3 : ∀ b cs t, t ≠ 103 → Blk w b cs t → Blk (setBlock w2.drew bl (mapObj intV intV (imapN (l.map (·.label)) (k + 1)))) b cs t := fun b cs t ht h => by
          have h1 := (HK2.out b cs t ht h).step hdr
          exact h1.mapped fun e => by subst e; have h2 := HL2.out.drew.blk; unfold Blk at h1; rw [h2] at h1; cases h1
        have HI3 : Hid (IdxAt (setBlock w2.drew bl (mapObj intV intV (imapN (l.map (·.label)) (k + 1)))) bx bt bl A c d s l (k + 1)) := Lib.hid ⟨hX3, hT3, hL3, hne, hn1, hn2⟩
        have HB3 := Lib.hid hB3; have HK3 := Lib.hid hK3
        clear hX3 hT3 hL3 hB3 hK3 hg3 hdr HX2 HT2 HL2 HN2 HB2 HK2
        go_wp2_with fail
        go_roundw
        case rel => exact ⟨k + 1, by omega, by go_num, HI3.out, HB3.out, HK3.out⟩
        case measure => simp [intOf]; omega
      · obtain rfl : k = l.length := by omega
        go_wp2_with fail
        go_end0
        exact ⟨rfl, bt, bl, HI.out, HB.out, hbt, hbl, HK.out⟩
end Go.Proofs.YtkmnacchiagipaaDoor
