/- certain: the text that stands for a set. -/
import Derived.Test.YtkmnacchiagipaaDoorCertKeyPl
import Derived.Test.YtkmnacchiagipaaDoorWeightText
import Derived.Test.YtkmnacchiagipaaDoorLayJ
import Derived.Shelf.Strings.BuilderK
import Derived.Deep.RegionHeld3
namespace Go.Proofs.YtkmnacchiagipaaDoor
open Go.RowKit

def OthersC (b : Nat) (w w' : World) : Prop := ∀ k cs t, k ≠ b → t ≠ 5 → Blk w k cs t → Blk w' k cs t
theorem extraC : Builder.Extra Tryd.prog Tryd.lays156_ren := {
  sizeBuilder := by kernel_rfl
  liesBuilder := by kernel_rfl
  t5 := Tryd.underlying5
  a5 := Tryd.isAgg5
  z5 := Tryd.sizeOf5
  v5 := Tryd.zeroValue5
  infoByte := by kernel_rfl
  cellsByte := by kernel_rfl
  sizeByte := by kernel_rfl
  neB5 := by decide }
abbrev IsBc (b : Nat) (l : List UInt8) (w : World) : Prop := Lib.IsBuilderF 108 5 b b (Lib.byteCells l) w
theorem bc_keep {b : Nat} {l : List UInt8} {w w' : World} (h : IsBc b l w) (hb : Below w.heap.size w w') : IsBc b l w' := by
  have key : ∀ p, Lib.BuilderAtF 108 5 b b p (Lib.byteCells l) w → Lib.BuilderAtF 108 5 b b p (Lib.byteCells l) w' := by
    rintro p ⟨h1, v, h2, h3, h4⟩
    have hlt : b < w.heap.size := by
      rcases Nat.lt_or_ge b w.heap.size with h' | h'
      · exact h'
      · simp [Array.getElem?_eq_none h'] at h2
    exact ⟨h1, v, (hb.block b hlt).trans h2, h3.kept (grown_of_below hb none) (by cases h : v.ownBlock <;> simp), h4⟩
  exact h.imp (key _) (key _)
theorem bc_new (w : World) : IsBc w.heap.size [] (w.alloc (.cells #[.pointer none, .slice none 0 0] 108)) :=
  .inl ⟨Nat.le_refl _, .slice none 0 0, heap_alloc_new w _, World.ownsRowF_nil _ _ _ _, by simp [Value.ownBlock]⟩
theorem bc_string (b : Nat) (l s : List UInt8) (w : World) (h : IsBc b l w) (hlen : l.length + s.length ≤ 1000000) (hb : b ≤ w.heap.size) :
    Calls Tryd.prog 38 #[.pointer (some ⟨b, 0, none⟩), .string ⟨s.toArray⟩] w fun e w' => (∃ n, e = .returned (.tuple #[.int .i64 n, .nilIface])) ∧ IsBc b (l ++ s) w' ∧ Below b w w' ∧ OthersC b w w' := by
  refine (Any.Builder_WriteString_k { Tryd.lays156 with } extraC b b (Lib.byteCells l) ⟨s.toArray⟩ w h (by rw [Lib.byteCells_length]; show _ + s.length ≤ _; omega) hb).mono ?_
  rintro e w' ⟨rfl, h2, h3, h4⟩
  refine ⟨⟨_, rfl⟩, .inr ?_, h3, fun k cs t hk ht hbk => h4 k _ hbk (by simpa using hk) (fun c fz e => by injection e with _ e2; exact ht e2)⟩
  have e : Lib.byteCells l ++ Lib.strCells ⟨s.toArray⟩ = Lib.byteCells (l ++ s) := by simp [Lib.byteCells, Lib.strCells]
  rw [← e]; exact h2
theorem bc_text (b : Nat) (l : List UInt8) (w : World) (h : IsBc b l w) (hb : b ≤ w.heap.size) : Calls Tryd.prog 39 #[.pointer (some ⟨b, 0, none⟩)] w fun e w' => e = .returned (.string ⟨l.toArray⟩) ∧ Below b w w' :=
  (Any.Builder_String_any_f { Tryd.lays156 with } extraC b b l w h hb).mono fun _ _ h => ⟨h.1, h.2.2⟩
theorem itoa_c (n : Int) (h0 : 0 ≤ n) (h1 : n ≤ 10000000000) (w : World) (ht : TabP w) : Calls Tryd.prog 33 #[.int .i64 n] w fun e w' => e = .returned (.string ⟨(Lib.decDigits n.toNat).toArray⟩) ∧ Below w.heap.size w w' := by
  obtain ⟨k, rfl⟩ : ∃ k : Nat, n = k := ⟨n.toNat, by omega⟩
  exact itoa_any k (by omega) w ht
theorem bytes_c {a : ByteArray} {l : List UInt8} (h : a.data.toList = l) : (⟨l.toArray⟩ : ByteArray) = a := by subst h; rfl
set_option maxRecDepth 100000 in
set_option maxHeartbeats 8000000 in
theorem key_any (A : Option Addr) (c : Nat) (S : SetL) (w : World) (hS : SetAt w A S) (hok : ∀ p ∈ S, p.1 < 1000 ∧ 0 ≤ p.2 ∧ p.2 < 10000000000) (hl : S.length ≤ 1000) (ht : TabP w) :
    Calls Tryd.prog 53 #[.slice A S.length c] w fun e w' => e = .returned (strC (keyT S)) ∧ Below w.heap.size w w' := by
  have HS := Lib.hid hS; have HT := Lib.hid ht; have HOK := Lib.hid hok
  have rd := hS.rdy
  have HLL : Hid (∀ i, (keyT (S.take i)).length ≤ 20000) := Lib.hid fun i => by
    have h1 := keyT_len (S := S.take i) fun p hp => ⟨(hok p (List.mem_of_mem_take hp)).1, (hok p (List.mem_of_mem_take hp)).2.2⟩
    rw [List.length_take] at h1; omega
  have HZ : Hid (keyT (S.take 0) = []) := Lib.hid (by simp [keyT])
  have HSS : Hid (∀ i (h : i < S.length), keyT (S.take (i + 1)) = keyT (S.take i) ++ partT S[i]) := Lib.hid fun i h => by rw [List.take_succ_eq_append_getElem h, keyT_snoc]
  have HA : Hid (keyT (S.take S.length) = keyT S) := Lib.hid (by rw [List.take_length])
  clear hS ht hok
  go_enter Tryd.func53, Tryd.ntmps53
  go_wp2_with fail
  have SB := Lib.hid (bc_new w)
  have bl1 : Below w.heap.size w (w.alloc (.cells #[.pointer none, .slice none 0 0] 108)) := (Below.refl _ _).alloc (Nat.le_refl _) _
  have hlt1 : w.heap.size < (w.alloc (.cells #[.pointer none, .slice none 0 0] 108)).heap.size := by simp
  generalize w.alloc (.cells #[.pointer none, .slice none 0 0] 108) = w2 at *
  go_loopw [8] (fun qv wr => ∃ (q : Nat), q ≤ S.length ∧ qv = .int .i64 q ∧ IsBc w.heap.size (keyT (S.take q)) wr ∧ Below w.heap.size w wr ∧ w.heap.size < wr.heap.size) (fun qv _ => S.length - (intOf qv).toNat)
  case atStart => exact ⟨0, by omega, rfl, by rw [HZ.out]; exact SB.out, bl1, hlt1⟩
  case round =>
    obtain ⟨q, hq, rfl, sq, bel, hbq⟩ := hrel
    have SQ := Lib.hid sq; clear sq SB bl1 hlt1
    have i0 : (0 : Int) ≤ ↑q := by omega
    by_cases hlt : q < S.length
    · have i1 : (↑q : Int) < ↑S.length := by omega
      have hNr := HS.out.below bel (Nat.le_refl _)
      have d0 := hNr.c0 q hlt; have d1 := hNr.c1 q hlt
      have hpo := HOK.out _ (List.getElem_mem hlt)
      have HSQ := Lib.hid (HSS.out q hlt); have HLQ := Lib.hid (HLL.out q)
      generalize S[q] = p at *
      obtain ⟨s, l⟩ := p
      simp only at d0 d1 hpo
      obtain ⟨p0, p1, p2⟩ := hpo
      have lA := World.block_lt_of_cell? _ _ d0
      clear hNr
      obtain ⟨wo, rfl⟩ : ∃ wo : World, wo = wr := ⟨_, rfl⟩
      go_upto_block 1 with fail
      go_cut [] (fun wx => IsBc w.heap.size (keyT (S.take (q + 1))) wx ∧ Below w.heap.size w wx ∧ w.heap.size < wx.heap.size)
      case first =>
        go_upto_region 5 with fail
        have X5 := Blk.new wo #[.int .i64 (s : Int), .int .i64 l] 130
        have b5 : Below wo.heap.size wo (wo.alloc (.cells #[.int .i64 (s : Int), .int .i64 l] 130)) := (Below.refl _ _).alloc (Nat.le_refl _) _
        have S5 := Lib.hid (bc_keep SQ.out b5)
        have bel5 := bel.trans (b5.mono bel.size)
        have hb5 := b5.size
        generalize wo.alloc (.cells #[.int .i64 (s : Int), .int .i64 l] 130) = w5 at *
        generalize hbs : wo.heap.size = bs at *
        have X5d : Blk w5.drew bs #[.int .i64 (s : Int), .int .i64 l] 130 := X5.drew
        have SD : Hid (IsBc w.heap.size (keyT (S.take q)) w5.drew) := Lib.hid (bc_keep S5.out (Below.refl _ _).drew)
        have BELD : Hid (Below w.heap.size w w5.drew) := Lib.hid bel5.drew
        have hdz : w5.drew.heap.size = w5.heap.size := rfl
        have TD := Lib.hid (HT.out.below BELD.out)
        clear X5 b5 S5 d0 d1 lA bel bel5 SQ
        have n4 := dec_len (u := s) (k := 2) (by omega)
        have n5 := dec_len (u := l.toNat) (k := 9) (by omega)
        have n1 : (9223372036854775807 < (Lib.decDigits s).length + 1) = False := by simp; omega
        have n2 : (9223372036854775807 < (Lib.decDigits s).length + 1 + (Lib.decDigits l.toNat).length) = False := by simp; omega
        have n3 : (9223372036854775807 < (Lib.decDigits s).length + 1 + (Lib.decDigits l.toNat).length + 1) = False := by simp; omega
        have HE : Hid (((⟨(Lib.decDigits s).toArray⟩ : ByteArray) ++ ⟨#[58]⟩ ++ ⟨(Lib.decDigits l.toNat).toArray⟩ ++ ⟨#[32]⟩) = ⟨(partT (s, l)).toArray⟩) := Lib.hid (bytes_c (by unfold partT; simp)).symm
        have HPL := Lib.hid (partT_len (p := (s, l)) p0 p2)
        refine wp_region_noPanic ?_
        refine wp_region_held_drew (S := fun W => W.cell? ⟨bs, 0, none⟩ = some (.int .i64 (s : Int)) ∧ W.cell? ⟨bs, 1, none⟩ = some (.int .i64 l)) (by kernel_rfl) ⟨X5d.cell 0, X5d.cell 1⟩ (fun hHeld => ?_)
        generalize w5.drew = w6 at *
        have HX := Lib.hid X5d
        have I5 := Lib.hid (itoa_any s (by omega) w6 TD.out)
        have I6 := Lib.hid (fun W (hb : Below w6.heap.size w6 W) => itoa_c l p1 (by omega) W (TD.out.below hb))
        refine wpAnyH_take (i := 0) (v := ?v0) (by simp only [List.getElem?_toArray, List.getElem?_cons_zero]; rfl) (by kernel_rfl) (by kernel_rfl) (by kernel_rfl) (fun _ _ _ h => h) (Or.inl ⟨by rfl, ?h0⟩) hHeld ?r0
        case h0 => intro w hSw; (try dsimp only at hSw); go_simp; with_reducible rfl
        simp only [Act.put, List.setIfInBounds_toArray, List.set_cons_zero, List.set_cons_succ]
        refine wpAnyH_take (i := 1) (v := ?v1) (by simp only [List.getElem?_toArray, List.getElem?_cons_succ, List.getElem?_cons_zero]; rfl) (by kernel_rfl) (by kernel_rfl) (by kernel_rfl) (fun _ _ _ h => h) (Or.inl ⟨by rfl, ?h1⟩) hHeld ?r1
        case h1 => intro w hSw; (try dsimp only at hSw); go_simp; with_reducible rfl
        simp only [Act.put, List.setIfInBounds_toArray, List.set_cons_zero, List.set_cons_succ]
        refine wpAnyH_take (i := 4) (v := ?v4) (by simp only [List.getElem?_toArray, List.getElem?_cons_succ, List.getElem?_cons_zero]; rfl) (by kernel_rfl) (by kernel_rfl) (by kernel_rfl) (fun _ _ _ h => h) (Or.inl ⟨by rfl, ?h4⟩) hHeld ?r4
        case h4 => intro w hSw; (try dsimp only at hSw); go_simp; with_reducible rfl
        simp only [Act.put, List.setIfInBounds_toArray, List.set_cons_zero, List.set_cons_succ]
        refine wpAnyH_take (i := 5) (v := ?v5) (by simp only [List.getElem?_toArray, List.getElem?_cons_succ, List.getElem?_cons_zero]; rfl) (by kernel_rfl) (by kernel_rfl) (by kernel_rfl) (fun _ _ _ h => h) (Or.inl ⟨by rfl, ?h5⟩) hHeld ?r5
        case h5 => intro w hSw; (try dsimp only at hSw); go_simp; with_reducible rfl
        simp only [Act.put, List.setIfInBounds_toArray, List.set_cons_zero, List.set_cons_succ]
        refine wpAnyH_ready (rs := [2]) (by kernel_rfl) (by simp) (AllReadyH.cons (by simp only [List.getElem?_toArray, List.getElem?_cons_succ, List.getElem?_cons_zero]; rfl) (fun K hK => ?_) AllReadyH.nil)
        go_simp
        refine I5.out.mono ?_; rintro e w7 ⟨rfl, b7⟩
        go_wp2_with fail
        refine hK.out _ _ ⟨(HX.out.step b7).cell 0, (HX.out.step b7).cell 1⟩ (fun hHeld => ?_)
        clear hK K
        (try simp only [Act.put, List.setIfInBounds_toArray, List.set_cons_zero, List.set_cons_succ])
        refine wpAnyH_take (i := 3) (v := ?v3) (by simp only [List.getElem?_toArray, List.getElem?_cons_succ, List.getElem?_cons_zero]; rfl) (by kernel_rfl) (by kernel_rfl) (by kernel_rfl) (fun _ _ _ h => h) (Or.inl ⟨by rfl, ?h3⟩) hHeld ?r3
        case h3 => intro w hSw; (try dsimp only at hSw); go_simp; with_reducible rfl
        simp only [Act.put, List.setIfInBounds_toArray, List.set_cons_zero, List.set_cons_succ]
        refine wpAnyH_ready (rs := [6]) (by kernel_rfl) (by simp) (AllReadyH.cons (by simp only [List.getElem?_toArray, List.getElem?_cons_succ, List.getElem?_cons_zero]; rfl) (fun K hK => ?_) AllReadyH.nil)
        go_simp
        refine (I6.out _ b7).mono ?_; rintro e w8 ⟨rfl, b8⟩
        have b78 := b7.trans (b8.mono b7.size)
        go_wp2_with fail
        refine hK.out _ _ ⟨(HX.out.step b78).cell 0, (HX.out.step b78).cell 1⟩ (fun hHeld => ?_)
        clear hK K
        (try simp only [Act.put, List.setIfInBounds_toArray, List.set_cons_zero, List.set_cons_succ])
        refine wpAnyH_take (i := 7) (v := ?v7) (by simp only [List.getElem?_toArray, List.getElem?_cons_succ, List.getElem?_cons_zero]; rfl) (by kernel_rfl) (by kernel_rfl) (by kernel_rfl) (fun _ _ _ h => h) (Or.inl ⟨by rfl, ?h7⟩) hHeld ?r7
        case h7 => intro w hSw; (try dsimp only at hSw); go_simp; with_reducible rfl
        simp only [Act.put, List.setIfInBounds_toArray, List.set_cons_zero, List.set_cons_succ]
        refine wpAnyH_take (i := 8) (v := ?v8) (by simp only [List.getElem?_toArray, List.getElem?_cons_succ, List.getElem?_cons_zero]; rfl) (by kernel_rfl) (by kernel_rfl) (by kernel_rfl) (fun _ _ _ h => h) (Or.inl ⟨by rfl, ?h8⟩) hHeld ?r8
        case h8 => intro w hSw; (try dsimp only at hSw); go_simp; with_reducible rfl
        simp only [Act.put, List.setIfInBounds_toArray, List.set_cons_zero, List.set_cons_succ]
        refine wpAnyH_ready (rs := [9]) (by kernel_rfl) (by simp) (AllReadyH.cons (by simp only [List.getElem?_toArray, List.getElem?_cons_succ, List.getElem?_cons_zero]; rfl) (fun K hK => ?_) AllReadyH.nil)
        have WS := Lib.hid (bc_string w.heap.size (keyT (S.take q)) (partT (s, l)) w8 (bc_keep SD.out b78) (by have := HLQ.out; have := HPL.out; omega) (by have := b78.size; omega))
        go_simp
        rw [HE.out]
        refine WS.out.mono ?_; rintro e w9 ⟨⟨n, rfl⟩, s9, b9, o9⟩
        have X9 := o9 _ _ _ (by omega) (by decide) (HX.out.step b78)
        rw [← HSQ.out] at s9
        have H9 : Hid (IsBc w.heap.size (keyT (S.take (q + 1))) w9 ∧ Below w.heap.size w w9 ∧ w.heap.size < w9.heap.size) := Lib.hid ⟨s9, (BELD.out.trans (b78.mono BELD.out.size)).trans (b9.mono (by omega)), by have := b78.size; have := b9.size; omega⟩
        clear s9 b9 o9
        go_wp2_with fail
        refine hK.out _ _ ⟨X9.cell 0, X9.cell 1⟩ (fun hHeld => ?_)
        clear hK K
        refine wpAnyH_done (by kernel_rfl) ?_ _
        refine NoPanic.normal ?_
        go_wp2_with fail
        go_meet
        case rel => exact H9.out
      case rest =>
        obtain ⟨hs9, hb9, hl9⟩ := hcut
        have HS9 := Lib.hid hs9; clear hs9
        go_wp2_with fail
        go_roundw
        case rel => exact ⟨q + 1, by omega, by go_num, HS9.out, hb9, hl9⟩
        case measure => simp [intOf]; omega
    · obtain rfl : q = S.length := by omega
      have i1 : ¬ (↑S.length : Int) < ↑S.length := by omega
      have HTX := Lib.hid (bc_text w.heap.size (keyT S) wr (by rw [← HA.out]; exact SQ.out) (by omega))
      go_wp2_with fail
      refine HTX.out.mono ?_; rintro e w9 ⟨rfl, b9⟩
      have HB9 := Lib.hid (bel.trans b9)
      clear b9
      go_wp2_with fail
      go_ret
      exact ⟨rfl, HB9.out⟩
end Go.Proofs.YtkmnacchiagipaaDoor
