/- The walk of ComposeOnce. -/
import Derived.Test.YtfikkpgigicepaaChain
import Derived.Test.YtfikkpgigicepaaSameInts
import Derived.Test.YtfikkpgigicepaaIntArg
import Derived.IntWalk
namespace Go.Proofs.Ytfikkpgigicepaa
open Go.RowKit

/-- a chain in a box, as the law reads it -/
structure ChBox (w : World) (b : Nat) (A : Option Addr) (c : Nat) (L : List ArcL) : Prop where
  box : Blk w b #[.int .i64 0, .slice A (L.length + 1) c] 28
  at_ : StatesAt w A (chainM L).states
section
variable {w w' : World} {b : Nat} {A : Option Addr} {c : Nat} {L : List ArcL}
theorem ChBox.step (h : ChBox w b A c L) (hb : Below w.heap.size w w') : ChBox w' b A c L := ⟨h.box.step hb, h.at_.below hb (Nat.le_refl _)⟩
theorem ChBox.alloc (h : ChBox w b A c L) (o : Obj) : ChBox (w.alloc o) b A c L := h.step ((Below.refl _ _).alloc (Nat.le_refl _) o)
theorem ChBox.mach (h : ChBox w b A c L) : MachAt w (.agg #[.int .i64 0, .slice A (L.length + 1) c]) (chainM L) := ⟨A, c, by rw [chain_len]; rfl, h.at_⟩
theorem ChBox.cells (h : ChBox w b A c L) (q : Nat) (hq : q < L.length) : Rdy A (L.length + 1) ∧ ∃ A' c', w.cell? ⟨blk A, ofs A + q * 2 + 1, none⟩ = some (.slice A' 1 c') ∧ Rdy A' 1 ∧ w.cell? ⟨blk A', ofs A', none⟩ = some (.int .i64 L[q].inn) ∧ w.cell? ⟨blk A', ofs A' + 1, none⟩ = some (.int .i64 L[q].out) := by
  have hs : (chainM L).states[q]? = some ⟨1000000001, [L[q]]⟩ := chain_at (List.getElem?_eq_getElem hq)
  obtain ⟨hl, he⟩ := List.getElem?_eq_some_iff.1 hs
  have hr := h.at_.rdy
  rw [chain_len] at hr
  obtain ⟨A', c', h1, h2⟩ := h.at_.c1 q hl
  rw [he] at h1 h2
  have h3 := h2.c0 0 (by simp); have h4 := h2.c1 0 (by simp)
  simp only [Nat.zero_mul, Nat.add_zero] at h3 h4
  exact ⟨hr, A', c', h1, h2.rdy, h3, h4⟩
end
theorem outW_take {L : List ArcL} {k : Nat} (h : k < L.length) : outW (L.take (k + 1)) = outW (L.take k) ++ pre L[k].out := by
  unfold outW; rw [List.take_succ_eq_append_getElem h, List.flatMap_append]; simp
theorem inW_take {L : List ArcL} {k : Nat} (h : k < L.length) : inW (L.take (k + 1)) = inW (L.take k) ++ pre L[k].inn := by
  unfold inW; rw [List.take_succ_eq_append_getElem h, List.flatMap_append]; simp
theorem pre_len (a : Int) : (pre a).length ≤ 1 := by unfold pre; split <;> simp
theorem outW_len : ∀ (L : List ArcL), (outW L).length ≤ L.length := by
  intro L
  induction L with
  | nil => simp [outW]
  | cons a L ih => have := pre_len a.out; unfold outW at *; rw [List.flatMap_cons, List.length_append, List.length_cons]; omega
theorem inW_len : ∀ (L : List ArcL), (inW L).length ≤ L.length := by
  intro L
  induction L with
  | nil => simp [inW]
  | cons a L ih => have := pre_len a.inn; unfold inW at *; rw [List.flatMap_cons, List.length_append, List.length_cons]; omega

namespace composeOnce
set_option maxRecDepth 100000 in
set_option maxHeartbeats 8000000 in
theorem walk {w : World} (A1 : Option Addr) (l1 : List ArcL) (k1 : Nat) (hx : EdgesArg w A1 l1) (A2 : Option Addr) (l2 : List ArcL) (k2 : Nat) (hy : EdgesArg w A2 l2) :
    Calls Try.prog 9 #[.slice A1 l1.length k1, .slice A2 l2.length k2] w fun e w' => e = .returned (.bool true) ∧ Below w.heap.size w w' := by
  have hN1 : chN l1 6 ≤ 6 := by unfold chN; omega
  have hN2 : chN l2 6 ≤ 6 := by unfold chN; omega
  have HC1 := Lib.hid (fun W (hb : Below w.heap.size w W) => chain_any A1 k1 l1 W (hx.below hb))
  have HC2 := Lib.hid (fun W (hb : Below w.heap.size w W) => chain_any A2 k2 l2 W (hy.below hb))
  have HV1 := Lib.hid (chain_ok l1 _ hN1); have HV2 := Lib.hid (chain_ok l2 _ hN2)
  have HS1 := Lib.hid (chL_steps l1 (chN l1 6)); have HS2 := Lib.hid (chL_steps l2 (chN l2 6))
  have HE1 := Lib.hid (chE_ok l1 (chN l1 6)); have HE2 := Lib.hid (chE_ok l2 (chN l2 6))
  have hl1 : (chL l1 (chN l1 6)).length ≤ 6 := by simpa [chL] using hN1
  have hl2 : (chL l2 (chN l2 6)).length ≤ 6 := by simpa [chL] using hN2
  clear hN1 hN2 hx hy
  generalize chL l1 (chN l1 6) = L at *
  generalize chL l2 (chN l2 6) = K at *
  go_enter Try.func9, Try.ntmps9
  go_wp2_with fail
  refine (HC1.out _ (Below.refl _ _)).mono ?_; rintro e w1 ⟨mv1, rfl, o1, q1⟩
  have b1 : Below w.heap.size w w1 := q1
  obtain ⟨A3, c3, rfl, s1⟩ := own_open o1
  have X1 : Hid (ChBox (w1.alloc (.cells #[.int .i64 0, .slice A3 (L.length + 1) c3] 28)) w1.heap.size A3 c3 L) := Lib.hid ⟨Blk.new _ _ _, s1.below ((Below.refl _ _).alloc (Nat.le_refl _) _) (Nat.le_refl _)⟩
  have hst : (chainM L).start = 0 := rfl
  have hst2 : (chainM K).start = 0 := rfl
  rw [hst, chain_len]
  clear o1 s1 HC1 q1
  go_upto_region 2 with fail
  have b1a := b1.alloc b1.size (.cells #[.int .i64 0, .slice A3 (L.length + 1) c3] 28)
  generalize w1.alloc (.cells #[.int .i64 0, .slice A3 (L.length + 1) c3] 28) = w1a at *
  generalize w1.heap.size = ba at *
  go_wp2_with fail
  refine (HC2.out _ b1a).mono ?_; rintro e w2 ⟨mv2, rfl, o2, q2⟩
  have b2 : Below w.heap.size w w2 := b1a.trans (q2.mono b1a.size)
  replace X1 := Lib.hid (X1.out.step q2)
  obtain ⟨A4, c4, rfl, s2⟩ := own_open o2
  have X2 : Hid (ChBox (w2.alloc (.cells #[.int .i64 0, .slice A4 (K.length + 1) c4] 28)) w2.heap.size A4 c4 K) := Lib.hid ⟨Blk.new _ _ _, s2.below ((Below.refl _ _).alloc (Nat.le_refl _) _) (Nat.le_refl _)⟩
  rw [hst2, chain_len]
  clear o2 s2 HC2 q2
  go_upto_region 3 with fail
  replace X1 := Lib.hid (X1.out.alloc (.cells #[.int .i64 0, .slice A4 (K.length + 1) c4] 28))
  have b2a := b2.alloc b2.size (.cells #[.int .i64 0, .slice A4 (K.length + 1) c4] 28)
  generalize w2.alloc (.cells #[.int .i64 0, .slice A4 (K.length + 1) c4] 28) = w2a at *
  generalize w2.heap.size = bb at *
  go_wp2_with fail
  go_loopw [7, 8] (fun v i wr => ∃ k : Nat, k ≤ L.length ∧ i = .int .i64 k ∧ wr.ownsRow w2a.heap.size 3 1 v (outW (L.take k)).length (icells (outW (L.take k))) ∧ Below w2a.heap.size w2a wr) (fun _ i _ => L.length - (intOf i).toNat)
  case atStart => exact ⟨0, by omega, rfl, by simpa [outW] using World.ownsRow_nil _ _ _ _, Below.refl _ _⟩
  case round =>
    obtain ⟨k, hk, rfl, hown, bel⟩ := hrel
    have kb := (X1.out.step bel).box.cell; have lb := (X1.out.step bel).box.lt
    have hwr : IntKind.i64.wrap (((L.length + 1 : Nat) : Int) - 1) = (L.length : Int) := by rw [IntWalk.i64_in _ (by omega)]; omega
    by_cases hlt : k < L.length
    · obtain ⟨hr, A', c', d1, hr', -, d2⟩ := (X1.out.step bel).cells k hlt
      have hbd := (HE1.out L[k] (List.getElem_mem hlt)).2.1
      have HT := Lib.hid (outW_take hlt)
      have hol := outW_len (L.take k)
      rw [List.length_take] at hol
      generalize L[k] = e at *
      have g1 : (k : Int) < (L.length : Int) := by omega
      have g2 : (k : Int) < (L.length : Int) + 1 := by omega
      have hsz := bel.size
      have lA := World.block_lt_of_cell? _ _ d1
      have lA' := World.block_lt_of_cell? _ _ d2
      obtain ⟨nn, hnn⟩ : ∃ nn, (outW (L.take k)).length = nn := ⟨_, rfl⟩
      rw [hnn] at hown hol
      have HNN := Lib.hid hnn
      clear hnn
      by_cases ho : e.out = 0
      · have hp : pre e.out = [] := by unfold pre; rw [if_pos ho]
        have HP := Lib.hid hp
        have ho1 : ¬ (0 : Int) < e.out := by omega
        have HOWN := Lib.hid hown
        clear hp ho hown
        go_wp2_with fail
        go_roundw
        case rel => exact ⟨k + 1, by omega, by go_num, by rw [HT.out, HP.out, List.append_nil, HNN.out]; exact HOWN.out, bel⟩
        case measure => simp [intOf]; omega
      · have hp : pre e.out = [e.out] := by unfold pre; rw [if_neg ho]
        have HP := Lib.hid hp
        have ho1 : (0 : Int) < e.out := by omega
        clear hp ho
        go_wp2_with (first
          | (at_builtin; refine wpList_app1 rfl _ _ rfl eltInt w2a.heap.size _ nn _ rfl wr hown _ rfl wr.heap.size rfl rfl rfl (by simp [Value.oneCell']) (by omega) (by omega) hsz ?_; intro g cap w3 hown1 hg1 hat hlt3))
        have bel1 := below_app bel hown hg1 (Nat.le_refl _) hsz
        clear hg1 bel hown
        have HO1 := Lib.hid hown1
        clear hown1
        go_roundw
        case rel => exact ⟨k + 1, by omega, by go_num, by rw [HT.out, HP.out, List.length_append, HNN.out]; simpa using HO1.out, bel1⟩
        case measure => simp [intOf]; omega
    · obtain rfl : k = L.length := by omega
      rw [List.take_length] at hown
      obtain ⟨AV, cV, rfl, -, -⟩ := own_form hown
      have RV := Lib.hid (Rd.of_own hown)
      replace X1 := Lib.hid (X1.out.step bel)
      replace X2 := Lib.hid (X2.out.step bel)
      have b3 : Below w.heap.size w wr := b2a.trans (bel.mono b2a.size)
      clear hown b2a bel
      go_upto_region 10 with fail
      clear kb lb hwr
      obtain ⟨w3, rfl⟩ : ∃ w3 : World, w3 = wr := ⟨_, rfl⟩
      go_wp2_with fail
      go_loopw [10, 11] (fun v i wr => ∃ k : Nat, k ≤ K.length ∧ i = .int .i64 k ∧ wr.ownsRow w3.heap.size 3 1 v (inW (K.take k)).length (icells (inW (K.take k))) ∧ Below w3.heap.size w3 wr) (fun _ i _ => K.length - (intOf i).toNat)
      case atStart => exact ⟨0, by omega, rfl, by simpa [inW] using World.ownsRow_nil _ _ _ _, Below.refl _ _⟩
      case round =>
        obtain ⟨k, hk, rfl, hown, bel⟩ := hrel
        have kb := (X2.out.step bel).box.cell; have lb := (X2.out.step bel).box.lt
        have hwr : IntKind.i64.wrap (((K.length + 1 : Nat) : Int) - 1) = (K.length : Int) := by rw [IntWalk.i64_in _ (by omega)]; omega
        by_cases hlt : k < K.length
        · obtain ⟨hr, A', c', d1, hr', d2, -⟩ := (X2.out.step bel).cells k hlt
          have hbd := (HE2.out K[k] (List.getElem_mem hlt)).1
          have HT := Lib.hid (inW_take hlt)
          have hol := inW_len (K.take k)
          rw [List.length_take] at hol
          generalize K[k] = e at *
          have g1 : (k : Int) < (K.length : Int) := by omega
          have g2 : (k : Int) < (K.length : Int) + 1 := by omega
          have hsz := bel.size
          have lA := World.block_lt_of_cell? _ _ d1
          have lA' := World.block_lt_of_cell? _ _ d2
          obtain ⟨nn, hnn⟩ : ∃ nn, (inW (K.take k)).length = nn := ⟨_, rfl⟩
          rw [hnn] at hown hol
          have HNN := Lib.hid hnn
          clear hnn
          by_cases ho : e.inn = 0
          · have hp : pre e.inn = [] := by unfold pre; rw [if_pos ho]
            have HP := Lib.hid hp
            have ho1 : ¬ (0 : Int) < e.inn := by omega
            have HOWN := Lib.hid hown
            clear hp ho hown
            go_wp2_with fail
            go_roundw
            case rel => exact ⟨k + 1, by omega, by go_num, by rw [HT.out, HP.out, List.append_nil, HNN.out]; exact HOWN.out, bel⟩
            case measure => simp [intOf]; omega
          · have hp : pre e.inn = [e.inn] := by unfold pre; rw [if_neg ho]
            have HP := Lib.hid hp
            have ho1 : (0 : Int) < e.inn := by omega
            clear hp ho
            go_wp2_with (first
              | (at_builtin; refine wpList_app1 rfl _ _ rfl eltInt w3.heap.size _ nn _ rfl wr hown _ rfl wr.heap.size rfl rfl rfl (by simp [Value.oneCell']) (by omega) (by omega) hsz ?_; intro g cap w4 hown1 hg1 hat hlt3))
            have bel1 := below_app bel hown hg1 (Nat.le_refl _) hsz
            clear hg1 bel hown
            have HO1 := Lib.hid hown1
            clear hown1
            go_roundw
            case rel => exact ⟨k + 1, by omega, by go_num, by rw [HT.out, HP.out, List.length_append, HNN.out]; simpa using HO1.out, bel1⟩
            case measure => simp [intOf]; omega
        · obtain rfl : k = K.length := by omega
          rw [List.take_length] at hown
          obtain ⟨AW, cW, rfl, -, -⟩ := own_form hown
          have RW := Lib.hid (Rd.of_own hown)
          replace X1 := Lib.hid (X1.out.step bel)
          replace X2 := Lib.hid (X2.out.step bel)
          replace RV := Lib.hid (RV.out.below bel rfl)
          have b4 : Below w.heap.size w wr := b3.trans (bel.mono b3.size)
          clear hown b3 bel
          have HOL := Lib.hid (outW_len L)
          have HCO := Lib.hid (fun va vb W h1 h2 => once_comp va vb L K W h1 h2 HS1.out HS2.out HV1.out.1 HV2.out.1 HV1.out.2 HV2.out.2)
          go_upto_region 17 with fail
          clear kb lb hwr
          obtain ⟨w4, rfl⟩ : ∃ w4 : World, w4 = wr := ⟨_, rfl⟩
          have k_X1 := X1.out.box.cell; have l_X1 := X1.out.box.lt
          have k_X2 := X2.out.box.cell; have l_X2 := X2.out.box.lt
          go_wp2_with fail
          clear k_X2 l_X2 k_X1 l_X1
          refine (HCO.out _ _ _ X1.out.mach X2.out.mach).mono ?_; rintro e w6 ⟨⟨C1, kk1, m1, er1, rfl, hco⟩, q6⟩
          have b6 : Below w.heap.size w w6 := b4.trans (q6.mono b4.size)
          replace RV := Lib.hid (RV.out.below q6 rfl)
          replace RW := Lib.hid (RW.out.below q6 rfl)
          have Y1 := Lib.hid (Blk.new w6 #[.int .i64 0, .slice C1 m1 kk1] 28)
          have E1 := Lib.hid (hco.alloc (.cells #[.int .i64 0, .slice C1 m1 kk1] 28))
          clear hco X1 X2
          go_upto_region 18 with fail
          have bx : Below w6.heap.size w6 (w6.alloc (.cells #[.int .i64 0, .slice C1 m1 kk1] 28)) := (Below.refl _ _).alloc (Nat.le_refl _) _
          replace RV := Lib.hid (RV.out.below bx rfl)
          replace RW := Lib.hid (RW.out.below bx rfl)
          have b6a := b6.alloc b6.size (.cells #[.int .i64 0, .slice C1 m1 kk1] 28)
          clear bx
          generalize w6.alloc (.cells #[.int .i64 0, .slice C1 m1 kk1] 28) = w6a at *
          generalize w6.heap.size = y1 at *
          rcases E1.out.full with ⟨rfl, rfl, rfl, rfl⟩ | ⟨rfl, c, hc⟩
          · have k_Y1 := Y1.out.cell; have l_Y1 := Y1.out.lt
            go_wp2_with fail
            go_ret
            exact ⟨rfl, b6a⟩
          have H1 := Lib.hid hc
          clear hc E1
          have k_Y1 := Y1.out.cell; have l_Y1 := Y1.out.lt
          have hpos : (0 : Int) < (m1 : Int) := by have := H1.out.pos; omega
          go_wp2_with fail
          clear k_Y1 l_Y1
          refine (Trim_any _ c _ H1.out.mach H1.out.v).mono ?_; rintro e w7 ⟨mv7, rfl, o7, q7⟩
          have b7 : Below w.heap.size w w7 := b6a.trans (q7.mono b6a.size)
          replace RV := Lib.hid (RV.out.below q7 rfl)
          replace RW := Lib.hid (RW.out.below q7 rfl)
          replace Y1 := Lib.hid (Y1.out.step q7)
          have htv := trim_valid H1.out.v
          have HP := Lib.hid (fun va W hm => once_paths va (trimM c) W hm htv (decide (outW L = inW K)) (by rw [H1.out.ex]; simp) H1.out.line)
          clear htv
          generalize trimM c = t at *
          obtain ⟨A5, c5, rfl, s5⟩ := own_open o7
          have Z1 := Lib.hid (MBox.new (c := c5) s5)
          clear o7 s5
          go_upto_region 21 with fail
          have bx : Below w7.heap.size w7 (w7.alloc (.cells #[.int .i64 t.start, .slice A5 t.states.length c5] 28)) := (Below.refl _ _).alloc (Nat.le_refl _) _
          replace RV := Lib.hid (RV.out.below bx rfl)
          replace RW := Lib.hid (RW.out.below bx rfl)
          replace Y1 := Lib.hid (Y1.out.alloc (.cells #[.int .i64 t.start, .slice A5 t.states.length c5] 28))
          have b7a := b7.alloc b7.size (.cells #[.int .i64 t.start, .slice A5 t.states.length c5] 28)
          clear bx
          generalize w7.alloc (.cells #[.int .i64 t.start, .slice A5 t.states.length c5] 28) = w7a at *
          generalize w7.heap.size = y2 at *
          have k_Z1 := Z1.out.blk.cell; have l_Z1 := Z1.out.blk.lt
          go_wp2_with fail
          clear k_Z1 l_Z1
          refine (HP.out _ _ Z1.out.mach).mono ?_; rintro e w8 ⟨rfl, q8⟩
          have b8 : Below w.heap.size w w8 := b7a.trans (q8.mono b7a.size)
          replace RV := Lib.hid (RV.out.below q8 rfl)
          replace RW := Lib.hid (RW.out.below q8 rfl)
          replace Y1 := Lib.hid (Y1.out.step q8)
          have k_Y1 := Y1.out.cell; have l_Y1 := Y1.out.lt
          have HSI := Lib.hid (fun W hx hy => sameInts_any AV AW cV cW (outW L) (inW K) W hx hy (by have := HOL.out; omega))
          generalize outW L = x at *
          generalize inW K = y at *
          have hm0 : ((m1 : Int) == 0) = false := by simp; omega
          by_cases hxy : x = y
          · have hd : decide (x = y) = true := by simp [hxy]
            rw [hd] at HSI ⊢
            clear hxy hd
            go_wp2_with fail
            refine (HSI.out _ RV.out RW.out).mono ?_; rintro e w9 ⟨rfl, q9⟩
            have b9 : Below w.heap.size w w9 := b8.trans (q9.mono b8.size)
            go_wp2_with fail
            go_ret
            exact ⟨rfl, b9⟩
          · have hd : decide (x = y) = false := by simp [hxy]
            rw [hd] at HSI ⊢
            clear hxy hd
            go_wp2_with fail
            refine (HSI.out _ RV.out RW.out).mono ?_; rintro e w9 ⟨rfl, q9⟩
            have b9 : Below w.heap.size w w9 := b8.trans (q9.mono b8.size)
            go_wp2_with fail
            go_ret
            exact ⟨rfl, b9⟩
end composeOnce
end Go.Proofs.Ytfikkpgigicepaa
