/- names.Show: the text of a table of names. -/
import Derived.Test.YtkmnacchiagipaaDoorNamesCheck
import Derived.Test.YtkmnacchiagipaaDoorTextUse
import Derived.Test.YtkmnacchiagipaaDoorLines
import Derived.Shelf.Strings.BuilderK
import Derived.Test.YtkmnacchiagipaaDoorShowMach
namespace Go.Proofs.YtkmnacchiagipaaDoor
open Go.RowKit

/-- a name's line -/
def nameT (n : NameL) : List UInt8 := n.text ++ [32] ++ Lib.decDigits n.label.toNat ++ [10]
def namesT (l : List NameL) : List UInt8 := l.flatMap nameT
abbrev IsBd (b : Nat) (l : List UInt8) (w : World) : Prop := Lib.IsBuilderF 108 5 b b (Lib.byteCells l) w
theorem builder_keepB {b : Nat} {l : List UInt8} {w w' : World} (h : IsBd b l w) (hb : Below w.heap.size w w') : IsBd b l w' := by
  have key : ∀ p, Lib.BuilderAtF 108 5 b b p (Lib.byteCells l) w → Lib.BuilderAtF 108 5 b b p (Lib.byteCells l) w' := by
    rintro p ⟨h1, v, h2, h3, h4⟩
    have hlt : b < w.heap.size := by
      rcases Nat.lt_or_ge b w.heap.size with h' | h'
      · exact h'
      · simp [Array.getElem?_eq_none h'] at h2
    exact ⟨h1, v, (hb.block b hlt).trans h2, h3.kept (grown_of_below hb none) (by cases h : v.ownBlock <;> simp), h4⟩
  exact h.imp (key _) (key _)
theorem bd_new (w : World) : IsBd w.heap.size [] (w.alloc (.cells #[.pointer none, .slice none 0 0] 108)) :=
  .inl ⟨Nat.le_refl _, .slice none 0 0, heap_alloc_new w _, World.ownsRowF_nil _ _ _ _, by simp [Value.ownBlock]⟩
theorem bd_string (b : Nat) (l s : List UInt8) (w : World) (h : IsBd b l w) (hlen : l.length + s.length ≤ 1000000) (hb : b ≤ w.heap.size) :
    Calls Tryd.prog 38 #[.pointer (some ⟨b, 0, none⟩), .string ⟨s.toArray⟩] w fun e w' => (∃ n, e = .returned (.tuple #[.int .i64 n, .nilIface])) ∧ IsBd b (l ++ s) w' ∧ Below b w w' ∧ OthersB b w w' := by
  refine (Any.Builder_WriteString_k { Tryd.lays156 with } extraB b b (Lib.byteCells l) ⟨s.toArray⟩ w h (by rw [Lib.byteCells_length]; show _ + s.length ≤ _; omega) hb).mono ?_
  rintro e w' ⟨rfl, h2, h3, h4⟩
  refine ⟨⟨_, rfl⟩, .inr ?_, h3, fun k cs t hk ht hbk => h4 k _ hbk (by simpa using hk) (fun c fz e => by injection e with _ e2; exact ht e2)⟩
  have e : Lib.byteCells l ++ Lib.strCells ⟨s.toArray⟩ = Lib.byteCells (l ++ s) := by simp [Lib.byteCells, Lib.strCells]
  rw [← e]; exact h2
theorem bd_text (b : Nat) (l : List UInt8) (w : World) (h : IsBd b l w) (hb : b ≤ w.heap.size) : Calls Tryd.prog 39 #[.pointer (some ⟨b, 0, none⟩)] w fun e w' => e = .returned (.string ⟨l.toArray⟩) ∧ Below b w w' :=
  (Any.Builder_String_any_f { Tryd.lays156 with } extraB b b l w h hb).mono fun _ _ h => ⟨h.1, h.2.2⟩
theorem nameT_len {n : NameL} (h : WordOk n.text) (h1 : 1 ≤ n.label ∧ n.label ≤ 1000) : (nameT n).length ≤ 30 := by
  have h2 := h.2.1
  have h3 := dec_10 (n := n.label) (by omega)
  unfold nameT; simp; omega
theorem namesT_len {l : List NameL} (h : NamesOk l) (q : Nat) : (namesT (l.take q)).length ≤ 3000 := by
  have h1 := sum_le nameT 30 (l.take q) fun n hn => nameT_len (h.word n (List.mem_of_mem_take hn)) (h.lab n (List.mem_of_mem_take hn))
  have h2 := h.len
  rw [List.length_take] at h1
  unfold namesT; omega

set_option maxRecDepth 100000 in
set_option maxHeartbeats 8000000 in
theorem names_ok (A : Option Addr) (l : List NameL) (c : Nat) (w : World) (hT : NamesAt w A l) (hok : NamesOk l) (ht : TabP w) :
    Calls Tryd.prog 15 #[.slice A l.length c] w fun e w' => e = .returned (.tuple #[.string ⟨(namesT l).toArray⟩, .int .i64 0]) ∧ Below w.heap.size w w' := by
  have CH : Hid (Calls Tryd.prog 14 #[.slice A l.length c] w fun e w' => e = .returned (.int .i64 0) ∧ Below w.heap.size w w') := Lib.hid ((NCheck_any A l c w hT).mono fun e w' ⟨er, h1, h2, h3⟩ => ⟨by rw [h1, h2.1.2 hok], h3⟩)
  have HT := Lib.hid ht; have HN := Lib.hid hT; have HOK := Lib.hid hok
  have h100 := hok.len
  have rd := hT.rdy
  have HL := Lib.hid (fun q => namesT_len hok q)
  have HZ : Hid (namesT (l.take 0) = []) := Lib.hid (by simp [namesT])
  have HS : Hid (∀ q (h : q < l.length), namesT (l.take (q + 1)) = namesT (l.take q) ++ nameT l[q]) := Lib.hid (fun q h => by unfold namesT; rw [List.take_succ_eq_append_getElem h, List.flatMap_append]; simp)
  have HA : Hid (namesT (l.take l.length) = namesT l) := Lib.hid (by simp)
  clear hT hok ht
  go_enter Tryd.func15, Tryd.ntmps15
  go_wp2_with fail
  refine CH.out.mono ?_; rintro e w1 ⟨rfl, b1⟩
  have hb1 := b1.size
  have SB := Lib.hid (bd_new w1)
  have bl1 : Below w.heap.size w (w1.alloc (.cells #[.pointer none, .slice none 0 0] 108)) := b1.alloc (by omega) _
  have hlt1 : w1.heap.size < (w1.alloc (.cells #[.pointer none, .slice none 0 0] 108)).heap.size := by simp
  go_wp2_with fail
  generalize w1.alloc (.cells #[.pointer none, .slice none 0 0] 108) = w2 at *
  generalize w1.heap.size = b at *
  clear b1
  go_loopw [15] (fun qv wr => ∃ (q : Nat), q ≤ l.length ∧ qv = .int .i64 q ∧ IsBd b (namesT (l.take q)) wr ∧ Below w.heap.size w wr ∧ b < wr.heap.size) (fun qv _ => l.length - (intOf qv).toNat)
  case atStart => exact ⟨0, by omega, rfl, by rw [HZ.out]; exact SB.out, bl1, hlt1⟩
  case round =>
    obtain ⟨q, hq, rfl, sq, bel, hbq⟩ := hrel
    have SQ := Lib.hid sq; clear sq SB bl1 hlt1
    have i0 : (0 : Int) ≤ ↑q := by omega
    by_cases hlt : q < l.length
    · have i1 : (↑q : Int) < ↑l.length := by omega
      have hNr := HN.out.below bel (Nat.le_refl _)
      have d0 := hNr.c0 q hlt; have d1 := hNr.c1 q hlt
      have hlb := HOK.out.lab _ (List.getElem_mem hlt)
      have HSQ := Lib.hid (HS.out q hlt); have HLQ := Lib.hid (HL.out q); have HNL := Lib.hid (And.intro (nameT_len (HOK.out.word _ (List.getElem_mem hlt)) hlb) (HOK.out.word _ (List.getElem_mem hlt)).2.1)
      generalize l[q] = nm at *
      have lA := World.block_lt_of_cell? _ _ d0
      unfold strV at d0
      clear hNr
      obtain ⟨wo, rfl⟩ : ∃ wo : World, wo = wr := ⟨_, rfl⟩
      go_upto_block 1 with fail
      go_cut [] (fun wx => IsBd b (namesT (l.take (q + 1))) wx ∧ Below w.heap.size w wx ∧ b < wx.heap.size)
      case first =>
        go_upto_region 8 with fail
        have X5 := Blk.new wo #[.string ⟨nm.text.toArray⟩, .int .i64 nm.label] 37
        have b5 : Below wo.heap.size wo (wo.alloc (.cells #[.string ⟨nm.text.toArray⟩, .int .i64 nm.label] 37)) := (Below.refl _ _).alloc (Nat.le_refl _) _
        have S5 := Lib.hid (builder_keepB SQ.out b5)
        have bel5 := bel.trans (b5.mono bel.size)
        have hb5 := b5.size
        generalize wo.alloc (.cells #[.string ⟨nm.text.toArray⟩, .int .i64 nm.label] 37) = w5 at *
        generalize hbs : wo.heap.size = bs at *
        have X5d : Blk w5.drew bs #[.string ⟨nm.text.toArray⟩, .int .i64 nm.label] 37 := X5.drew
        have SD : Hid (IsBd b (namesT (l.take q)) w5.drew) := Lib.hid (builder_keepB S5.out (Below.refl _ _).drew)
        have BELD : Hid (Below w.heap.size w w5.drew) := Lib.hid bel5.drew
        have hdz : w5.drew.heap.size = w5.heap.size := rfl
        have TD := Lib.hid (HT.out.below BELD.out)
        clear X5 b5 S5 d0 d1 lA bel bel5 SQ
        have n0 : nm.text.length ≤ 12 := HNL.out.2
        have n4 := dec_10 (n := nm.label) (by omega)
        have n2 : (9223372036854775807 < List.length nm.text + 1 + (Lib.decDigits nm.label.toNat).length) = False := by simp; omega
        have n3 : (9223372036854775807 < List.length nm.text + 1 + (Lib.decDigits nm.label.toNat).length + 1) = False := by simp; omega
        have HE : Hid (((⟨nm.text.toArray⟩ : ByteArray) ++ ⟨#[32]⟩ ++ ⟨(Lib.decDigits nm.label.toNat).toArray⟩ ++ ⟨#[10]⟩) = ⟨(nameT nm).toArray⟩) := Lib.hid (bytes_of (by unfold nameT; simp)).symm
        have n1 : (9223372036854775807 < List.length nm.text + 1) = False := by simp; omega
        refine wp_region_noPanic ?_
        refine wp_region_held_drew (S := fun W => W.cell? ⟨bs, 0, none⟩ = some (.string ⟨nm.text.toArray⟩) ∧ W.cell? ⟨bs, 1, none⟩ = some (.int .i64 nm.label)) (by kernel_rfl) ⟨X5d.cell 0, X5d.cell 1⟩ (fun hHeld => ?_)
        generalize w5.drew = w6 at *
        have HX := Lib.hid X5d
        have I5 := Lib.hid (itoa_to nm.label (by omega) (by omega) w6 w6 (Below.refl _ _) TD.out)
        refine wpAnyH_take (i := 0) (v := ?v0) (by simp only [List.getElem?_toArray, List.getElem?_cons_zero]; rfl) (by kernel_rfl) (by kernel_rfl) (by kernel_rfl) (fun _ _ _ h => h) (Or.inl ⟨by rfl, ?h0⟩) hHeld ?r0
        case h0 => intro w hSw; (try dsimp only at hSw); go_simp; with_reducible rfl
        simp only [Act.put, List.setIfInBounds_toArray, List.set_cons_zero, List.set_cons_succ]
        refine wpAnyH_take (i := 1) (v := ?v1) (by simp only [List.getElem?_toArray, List.getElem?_cons_succ, List.getElem?_cons_zero]; rfl) (by kernel_rfl) (by kernel_rfl) (by kernel_rfl) (fun _ _ _ h => h) (Or.inl ⟨by rfl, ?h1⟩) hHeld ?r1
        case h1 => intro w hSw; (try dsimp only at hSw); go_simp; with_reducible rfl
        simp only [Act.put, List.setIfInBounds_toArray, List.set_cons_zero, List.set_cons_succ]
        refine wpAnyH_take (i := 2) (v := ?v2) (by simp only [List.getElem?_toArray, List.getElem?_cons_succ, List.getElem?_cons_zero]; rfl) (by kernel_rfl) (by kernel_rfl) (by kernel_rfl) (fun _ _ _ h => h) (Or.inl ⟨by rfl, ?h2⟩) hHeld ?r2
        case h2 => intro w hSw; (try dsimp only at hSw); go_simp; with_reducible rfl
        simp only [Act.put, List.setIfInBounds_toArray, List.set_cons_zero, List.set_cons_succ]
        refine wpAnyH_take (i := 3) (v := ?v3) (by simp only [List.getElem?_toArray, List.getElem?_cons_succ, List.getElem?_cons_zero]; rfl) (by kernel_rfl) (by kernel_rfl) (by kernel_rfl) (fun _ _ _ h => h) (Or.inl ⟨by rfl, ?h3⟩) hHeld ?r3
        case h3 => intro w hSw; (try dsimp only at hSw); go_simp; with_reducible rfl
        simp only [Act.put, List.setIfInBounds_toArray, List.set_cons_zero, List.set_cons_succ]
        refine wpAnyH_take (i := 4) (v := ?v4) (by simp only [List.getElem?_toArray, List.getElem?_cons_succ, List.getElem?_cons_zero]; rfl) (by kernel_rfl) (by kernel_rfl) (by kernel_rfl) (fun _ _ _ h => h) (Or.inl ⟨by rfl, ?h4⟩) hHeld ?r4
        case h4 => intro w hSw; (try dsimp only at hSw); go_simp; with_reducible rfl
        simp only [Act.put, List.setIfInBounds_toArray, List.set_cons_zero, List.set_cons_succ]
        refine wpAnyH_ready (rs := [5]) (by kernel_rfl) (by simp) (AllReadyH.cons (by simp only [List.getElem?_toArray, List.getElem?_cons_succ, List.getElem?_cons_zero]; rfl) (fun K hK => ?_) AllReadyH.nil)
        go_simp
        refine I5.out.mono ?_; rintro e w7 ⟨rfl, b7⟩
        go_wp2_with fail
        refine hK.out _ _ ⟨(HX.out.step b7).cell 0, (HX.out.step b7).cell 1⟩ (fun hHeld => ?_)
        clear hK K
        (try simp only [Act.put, List.setIfInBounds_toArray, List.set_cons_zero, List.set_cons_succ])
        refine wpAnyH_take (i := 6) (v := ?v6) (by simp only [List.getElem?_toArray, List.getElem?_cons_succ, List.getElem?_cons_zero]; rfl) (by kernel_rfl) (by kernel_rfl) (by kernel_rfl) (fun _ _ _ h => h) (Or.inl ⟨by rfl, ?h6⟩) hHeld ?r6
        case h6 => intro w hSw; (try dsimp only at hSw); go_simp; with_reducible rfl
        simp only [Act.put, List.setIfInBounds_toArray, List.set_cons_zero, List.set_cons_succ]
        refine wpAnyH_take (i := 7) (v := ?v7) (by simp only [List.getElem?_toArray, List.getElem?_cons_succ, List.getElem?_cons_zero]; rfl) (by kernel_rfl) (by kernel_rfl) (by kernel_rfl) (fun _ _ _ h => h) (Or.inl ⟨by rfl, ?h7⟩) hHeld ?r7
        case h7 => intro w hSw; (try dsimp only at hSw); go_simp; with_reducible rfl
        simp only [Act.put, List.setIfInBounds_toArray, List.set_cons_zero, List.set_cons_succ]
        refine wpAnyH_ready (rs := [8]) (by kernel_rfl) (by simp) (AllReadyH.cons (by simp only [List.getElem?_toArray, List.getElem?_cons_succ, List.getElem?_cons_zero]; rfl) (fun K hK => ?_) AllReadyH.nil)
        have WS := Lib.hid (bd_string b (namesT (l.take q)) (nameT nm) w7 (builder_keepB SD.out b7) (by have := HLQ.out; have := HNL.out.1; omega) (by have := b7.size; omega))
        go_simp
        rw [HE.out]
        refine WS.out.mono ?_; rintro e w8 ⟨⟨n, rfl⟩, s8, b8, o8⟩
        have X8 := o8 _ _ _ (by omega) (by decide) (HX.out.step b7)
        rw [← HSQ.out] at s8
        have H8 : Hid (IsBd b (namesT (l.take (q + 1))) w8 ∧ Below w.heap.size w w8 ∧ b < w8.heap.size) := Lib.hid ⟨s8, (BELD.out.trans (b7.mono BELD.out.size)).trans (b8.mono (by omega)), by have := b7.size; have := b8.size; omega⟩
        clear s8 b8 o8
        go_wp2_with fail
        refine hK.out _ _ ⟨X8.cell 0, X8.cell 1⟩ (fun hHeld => ?_)
        clear hK K
        refine wpAnyH_done (by kernel_rfl) ?_ _
        refine NoPanic.normal ?_
        go_wp2_with fail
        go_meet
        case rel => exact H8.out
      case rest =>
        obtain ⟨hs9, hb9, hl9⟩ := hcut
        have HS9 := Lib.hid hs9; clear hs9
        go_wp2_with fail
        go_roundw
        case rel => exact ⟨q + 1, by omega, by go_num, HS9.out, hb9, hl9⟩
        case measure => simp [intOf]; omega
    · obtain rfl : q = l.length := by omega
      have i1 : ¬ (↑l.length : Int) < ↑l.length := by omega
      have HTX := Lib.hid (bd_text b (namesT l) wr (by rw [← HA.out]; exact SQ.out) (by omega))
      go_wp2_with fail
      refine HTX.out.mono ?_; rintro e w9 ⟨rfl, b9⟩
      go_wp2_with fail
      go_ret2
      exact ⟨rfl, bel.trans (b9.mono (by omega))⟩
end Go.Proofs.YtkmnacchiagipaaDoor
