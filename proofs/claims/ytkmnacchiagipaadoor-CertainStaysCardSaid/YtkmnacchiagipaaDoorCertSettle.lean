/- certain.settle: the least cost, and what is left. -/
import Derived.Test.YtkmnacchiagipaaDoorCertSort
import Derived.LoopTactic
import Derived.Deep.DeepCutAuto
namespace Go.Proofs.YtkmnacchiagipaaDoor
open Go.RowKit

theorem own_ne_cellsC {w : World} {base : Nat} {e : TypeId} {size n : Nat} {v : Value} {xs : List Value} (h : w.ownsRow base e size v n xs) {r : Nat} (hr : ∀ cur e' fz, w.heap[r]? ≠ some (.cells cur e' fz)) : v.ownBlock ≠ some r := by
  rcases h.2 with ⟨rfl, _⟩ | ⟨g, cap, cur, rfl, _, hg, _⟩
  · simp [Value.ownBlock]
  · intro e2
    simp [Value.ownBlock] at e2
    subst e2
    exact hr _ _ _ hg
theorem MapR.noC {κ ν : Type} {w : World} {b r : Nat} {c : κ → Value} {d : ν → Value} {l : List (κ × ν)} {idx : List Nat} (h : MapR w b r c d l idx) : ∀ cur e' fz, w.heap[r]? ≠ some (.cells cur e' fz) := by
  obtain ⟨c0, h1, -⟩ := h.it
  intro cur e' fz h2; rw [h1] at h2; cases h2
def MinJ (T : List (Nat × Int)) (m : Int) : Prop := (m = -1 ∧ T = []) ∨ (0 ≤ m ∧ (∃ x ∈ T, x.2 = m) ∧ ∀ x ∈ T, m ≤ x.2)
theorem MinJ.less {T : List (Nat × Int)} {m : Int} (h : MinJ T m) {x : Nat × Int} (h0 : 0 ≤ x.2) (hx : m < 0 ∨ x.2 < m) : MinJ (T ++ [x]) x.2 := by
  refine .inr ⟨h0, ⟨x, by simp, rfl⟩, fun y hy => ?_⟩
  rcases List.mem_append.1 hy with hy | hy
  · rcases h with ⟨-, rfl⟩ | ⟨h1, -, h2⟩
    · cases hy
    · have := h2 y hy; omega
  · simp only [List.mem_singleton] at hy; subst hy; exact Int.le_refl _
theorem MinJ.keep {T : List (Nat × Int)} {m : Int} (h : MinJ T m) {x : Nat × Int} (h1 : ¬ m < 0) (hx : ¬ x.2 < m) : MinJ (T ++ [x]) m := by
  rcases h with ⟨h2, -⟩ | ⟨h2, ⟨y, hy, h3⟩, h4⟩
  · omega
  · refine .inr ⟨h2, ⟨y, List.mem_append_left _ hy, h3⟩, fun z hz => ?_⟩
    rcases List.mem_append.1 hz with hz | hz
    · exact h4 z hz
    · simp only [List.mem_singleton] at hz; subst hz; omega
/-- what settle answers -/
structure SetR (l : List (Nat × Int)) (w : Int) (T : SetL) : Prop where
  srt : SortedS T
  mem : ∀ q v, (q, v) ∈ T ↔ (q, v + w) ∈ l
  zero : ∃ q, (q, 0) ∈ T
  nn : ∀ p ∈ T, 0 ≤ p.2
  w0 : 0 ≤ w
def leftI (m : Int) (x : Nat × Int) : Int × Int := ((x.1 : Int), x.2 - m)
theorem setR_of {l T0 : List (Nat × Int)} (hp0 : T0.Perm l) (nd : (l.map (·.1)).Nodup) (hne : l ≠ []) {m : Int} (hm : MinJ T0 m) {l' : List (Int × Int)} (hp : l'.Perm (T0.map (leftI m))) (hs : l'.Pairwise (fun a b => a.1 ≤ b.1)) :
    ∃ S : SetL, setI S = l' ∧ SetR l m S := by
  have hn0 : ∀ p ∈ l', 0 ≤ p.1 := fun p hp' => by
    obtain ⟨x, -, rfl⟩ := List.mem_map.1 (hp.mem_iff.1 hp')
    simp only [leftI]; omega
  have hmm : 0 ≤ m ∧ (∃ x ∈ l, x.2 = m) ∧ ∀ x ∈ l, m ≤ x.2 := by
    rcases hm with ⟨-, rfl⟩ | ⟨h1, ⟨x, hx, h2⟩, h3⟩
    · exact absurd (List.perm_nil.1 hp0.symm) hne
    · exact ⟨h1, ⟨x, hp0.mem_iff.1 hx, h2⟩, fun y hy => h3 y (hp0.mem_iff.2 hy)⟩
  have hmem : ∀ a b : Int, (a, b) ∈ l' ↔ ∃ q : Nat, a = q ∧ (q, b + m) ∈ l := fun a b => by
    rw [hp.mem_iff, List.mem_map]
    constructor
    · rintro ⟨x, hx, e⟩
      simp only [leftI, Prod.mk.injEq] at e
      refine ⟨x.1, e.1.symm, ?_⟩
      rw [show b + m = x.2 by omega]
      exact hp0.mem_iff.1 hx
    · rintro ⟨q, rfl, h⟩
      exact ⟨(q, b + m), hp0.mem_iff.2 h, Prod.ext rfl (by simp only [leftI]; omega)⟩
  have hnd : (l'.map (·.1)).Nodup := by
    have h1 := hp.map (·.1)
    refine (h1.nodup_iff).2 ?_
    have h2 := (hp0.map (·.1)).nodup_iff.2 nd
    rw [List.map_map]
    have e : ((·.1) ∘ leftI m) = (fun q : Nat => (q : Int)) ∘ (fun x : Nat × Int => x.1) := rfl
    rw [e, ← List.map_map]
    exact List.pairwise_map.2 (h2.imp fun h e => h (by exact_mod_cast e))
  have e0 : setI (l'.map fun p => (p.1.toNat, p.2)) = l' := by
    unfold setI
    rw [List.map_map]
    conv => rhs; rw [← List.map_id l']
    refine List.map_congr_left fun p hp' => ?_
    have := hn0 p hp'
    exact Prod.ext (by simp only [Function.comp]; show ((p.1.toNat : Nat) : Int) = p.1; omega) rfl
  have hmT : ∀ (q : Nat) (v : Int), (q, v) ∈ (l'.map fun p => (p.1.toNat, p.2)) ↔ (q, v + m) ∈ l := fun q v => by
    rw [List.mem_map]
    constructor
    · rintro ⟨p, hp', e⟩
      obtain ⟨a, b⟩ := p
      simp only [Prod.mk.injEq] at e
      obtain ⟨q', h1, h2⟩ := (hmem a b).1 hp'
      have : q' = q := by omega
      rw [← this, ← e.2]; exact h2
    · intro h
      exact ⟨((q : Int), v), (hmem _ _).2 ⟨q, rfl, h⟩, by simp⟩
  refine ⟨_, e0, ⟨?_, hmT, ?_, ?_, hmm.1⟩⟩
  · unfold SortedS
    refine List.pairwise_map.2 ?_
    have h3 : l'.Pairwise (fun a b => a.1 ≠ b.1) := List.pairwise_map.1 hnd
    refine ((hs.and h3).and (List.pairwise_of_forall_mem_list fun a ha b hb => And.intro (hn0 a ha) (hn0 b hb))).imp fun {a b} h => ?_
    obtain ⟨⟨h4, h5⟩, h6, h7⟩ := h
    simp only
    omega
  · obtain ⟨x, hx, e⟩ := hmm.2.1
    exact ⟨x.1, (hmT _ _).2 (by rw [show (0 : Int) + m = x.2 by omega]; exact hx)⟩
  · rintro ⟨q, v⟩ hp'
    have := hmm.2.2 _ ((hmT q v).1 hp')
    simp only at this ⊢
    omega
set_option maxRecDepth 100000 in
set_option maxHeartbeats 8000000 in
theorem settle_any (b : Nat) (l : List (Nat × Int)) (w : World) (hm : MapB w b natV intV l) (hne : l ≠ []) (hb : ∀ x ∈ l, 0 ≤ x.2 ∧ x.2 ≤ 1000000000) (hl : l.length ≤ 1000) :
    Calls Tryd.prog 59 #[.map (some b)] w fun e w' => ∃ least A c S, e = .returned (.tuple #[.int .i64 least, .slice A (List.length S) c]) ∧ OwnTwos 130 w' w.heap.size (.slice A S.length c) (setI S) ∧ SetR l least S ∧ Below w.heap.size w w' := by
  have HNE := Lib.hid hne; have HBD := Lib.hid hb; have HM := Lib.hid hm
  have hbl := hm.lt
  have HND := Lib.hid hm.nd
  clear hm hne hb
  go_enter Tryd.func59, Tryd.ntmps59
  go_wp2_with (at_range; refine wpList_range_x rfl rfl Tryd.underlying101 rfl HM.out ?_; intro w6 hR6 b6 z6)
  go_frame
  have HR6 := Lib.hid hR6; have B6 := Lib.hid b6
  obtain ⟨r, hr⟩ : ∃ r, w.heap.size = r := ⟨_, rfl⟩
  have HRS := Lib.hid hr
  rw [hr] at HR6
  rw [hr]
  clear hR6 b6 z6 hr
  go_loopw [4] (fun mv wr => ∃ (idx : List Nat) (mn : Int), mv = .int .i64 mn ∧ MapR wr b r natV intV l idx ∧ MinJ (pickL l idx) mn ∧ Below w.heap.size w wr) (fun _ wr => l.length - itLen wr r)
  case atStart => exact ⟨[], -1, rfl, HR6.out, .inl ⟨rfl, rfl⟩, B6.out⟩
  case round =>
    clear HR6 B6
    obtain ⟨idx, mn, rfl, hR, hJ, hB⟩ := hrel
    obtain ⟨wx, rfl⟩ : ∃ wo : World, wo = wr := ⟨_, rfl⟩
    have HRX := Lib.hid hR; have HJ := Lib.hid hJ; have HB := Lib.hid hB
    clear hR hJ hB
    go_wp2_with (at_next; refine wpList_next_x rfl rfl rfl HRX.out ?_ ?_)
    · intro hall
      have HP0 := Lib.hid (pickL_all l HRX.out.nd HRX.out.lt hall)
      have HMX := Lib.hid HRX.out.map
      have hbx := HB.out.size
      obtain ⟨T0, hT0⟩ : ∃ T0, pickL l idx = T0 := ⟨_, rfl⟩
      rw [hT0] at HJ HP0
      clear hall hT0 HRX
      have hmn : 0 ≤ mn ∧ mn ≤ 1000000000 := by
        rcases HJ.out with ⟨-, h⟩ | ⟨h1, ⟨x, hx, h2⟩, -⟩
        · have h3 := HP0.out; rw [h] at h3; exact absurd (List.perm_nil.1 h3.symm) HNE.out
        · have := HBD.out x (HP0.out.mem_iff.1 hx); omega
      obtain ⟨m0, m1⟩ := hmn
      go_wp2_with (at_range; refine wpList_range_x rfl rfl Tryd.underlying101 rfl HMX.out ?_; intro w7 hR7 b7 z7)
      go_frame
      have HR7 := Lib.hid hR7; have B7 := Lib.hid (HB.out.trans (b7.mono hbx))
      obtain ⟨r2, hr2⟩ : ∃ r, wx.heap.size = r := ⟨_, rfl⟩
      have HRS2 := Lib.hid hr2
      rw [hr2] at HR7
      rw [hr2]
      clear hR7 b7 z7 hr2
      go_loopw [7] (fun sv wr => ∃ (idx : List Nat), MapR wr b r2 natV intV l idx ∧ OwnTwos 130 wr w.heap.size sv ((pickL l idx).map (leftI mn)) ∧ Below w.heap.size w wr) (fun _ wr => l.length - itLen wr r2)
      case atStart => exact ⟨[], HR7.out, World.ownsRow_nil _ _ _ _, B7.out⟩
      case round =>
        clear HR7 B7
        obtain ⟨idx2, hR, hO, hB⟩ := hrel
        obtain ⟨wy, rfl⟩ : ∃ wo : World, wo = wr := ⟨_, rfl⟩
        have HRY := Lib.hid hR; have HO := Lib.hid hO; have HBY := Lib.hid hB
        clear hR hO hB
        go_wp2_with (at_next; refine wpList_next_x rfl rfl rfl HRY.out ?_ ?_)
        · intro hall
          have HP := Lib.hid (pickL_all l HRY.out.nd HRY.out.lt hall)
          have hby := HBY.out.size
          obtain ⟨A9, c9, rfl, -, -⟩ := own_form HO.out
          have hlen : (pickL l idx2).length = l.length := HP.out.length_eq
          have HSO := Lib.hid (sort_parts _ _ w.heap.size wy HO.out (fun e => by
            have h1 := congrArg List.length e
            rw [List.length_map, hlen] at h1
            exact HNE.out (List.eq_nil_of_length_eq_zero h1)) (by rw [List.length_map, hlen]; omega) hby)
          clear hall hlen
          have HP2 : Hid (((pickL l idx2).map (leftI mn)).Perm (T0.map (leftI mn))) := Lib.hid ((HP.out.trans HP0.out.symm).map _)
          generalize (pickL l idx2).map (leftI mn) = ps at *
          obtain ⟨np, hnp⟩ : ∃ n, ps.length = n := ⟨_, rfl⟩
          have HNP := Lib.hid hnp
          rw [hnp] at HSO
          rw [hnp]
          clear hnp HO
          go_wp2_with fail
          refine HSO.out.mono ?_; rintro e w9 ⟨rfl, l', hp9, hs9, ho9, b9⟩
          obtain ⟨S, hS1, hS2⟩ := setR_of HP0.out HND.out HNE.out HJ.out (hp9.trans HP2.out) hs9
          have hSl : S.length = np := by rw [← HNP.out, ← hp9.length_eq, ← hS1, setI_len]
          have HOS := Lib.hid ho9; have HBS := Lib.hid (HBY.out.trans b9); have HSR := Lib.hid hS2; have HS1 := Lib.hid hS1
          have HSL := Lib.hid hSl
          clear hp9 hs9 ho9 b9 hS1 hS2 hSl
          go_wp2_with fail
          refine bodyPost_ret (v := .tuple #[.int .i64 mn, .slice A9 np c9]) (by simp [results, Tryd.results59, go_sem]) rfl ⟨mn, A9, c9, S, by rw [HSL.out], ?_, HSR.out, HBS.out⟩
          have h := HOS.out
          rw [← HS1.out] at h
          unfold OwnTwos at h ⊢
          rw [HSL.out]; rw [setI_len, HSL.out] at *
          exact h
        · intro i hi w7 hni hR7 hg7 hz7 hen
          have HR7 := Lib.hid hR7; have HNI := Lib.hid hni
          have HPS := Lib.hid (pickL_snoc l idx2 i hi)
          have hlb := HBD.out l[i] (List.getElem_mem hi)
          obtain ⟨A8, c8, rfl, -, -⟩ := own_form HO.out
          have HO7 := Lib.hid (World.ownsRow.kept HO.out hg7 (.inr (own_ne_cellsC HO.out HRY.out.noC)))
          have hll : ((pickL l idx2).map (leftI mn)).length ≤ 1000 := by
            rw [List.length_map, pickL_len l idx2 HRY.out.lt]
            have := HRY.out.len; omega
          have HB7 : Hid (Below w.heap.size w w7) := Lib.hid (HBY.out.grown hg7 HBY.out.size (fun j hj => by simp at hj; have := HRS2.out; omega))
          have hz := HB7.out.size
          have w2 : IntKind.i64.wrap (l[i].2 - mn) = l[i].2 - mn := IntWalk.i64_in _ (by omega)
          generalize l[i] = x at *
          obtain ⟨L2, hL2⟩ : ∃ L2, (pickL l idx2).map (leftI mn) = L2 := ⟨_, rfl⟩
          have HL2 := Lib.hid hL2
          rw [hL2] at hll HO7
          obtain ⟨nL, hnL⟩ : ∃ nL, L2.length = nL := ⟨_, rfl⟩
          have HNL := Lib.hid hnL
          rw [hnL] at hll HO7
          rw [hL2, hnL]
          have hll2 : nL + 1 ≤ 1000000 := by omega
          clear hL2 hnL hR7 hg7 hz7 hni HO hlb
          go_wp2_with (at_builtin; refine wpList_app1 rfl _ _ rfl eltPart w.heap.size (.slice A8 nL c8) nL (twosC L2) rfl w7 HO7.out #[.int .i64 (x.1 : Int), .int .i64 (x.2 - mn)] rfl w7.heap.size rfl rfl rfl (by simp [Value.oneCell']) hll2 (by omega) hz ?_; intro g3 cap w9 ho9 hg9 hat9 hlt9)
          have HON : Hid (OwnTwos 130 w9 w.heap.size (.slice (some ⟨g3, 0, none⟩) (nL + 1) cap) (L2 ++ [leftI mn x])) := Lib.hid (by unfold OwnTwos; rw [twosC_snoc, List.length_append, HNL.out]; exact ho9)
          have hnb := own_base HO7.out hbl
          have hnr := own_ne_cellsC HO7.out HR7.out.noC
          have HRB := Lib.hid (HR7.out.kept hg9 (fun e => hnb e.symm) (fun e => hnr e.symm))
          have HB9 : Hid (Below w.heap.size w w9) := Lib.hid (HB7.out.grown hg9 hz (fun j hj => (HO7.out.lt j hj).1))
          clear ho9 hg9 hat9 hlt9 hnb hnr HB7 HR7
          go_roundw
          case rel => exact ⟨idx2 ++ [i], HRB.out, by rw [HPS.out, List.map_append, HL2.out]; exact HON.out, HB9.out⟩
          case measure =>
            have h1 := HRB.out.itLen; have h2 := HRY.out.itLen; have h3 := HRB.out.len
            rw [List.length_append, List.length_singleton] at h1 h3
            rw [h1, h2]; omega
    · intro i hi w7 hni hR7 hg7 hz7 hen
      have HR7 := Lib.hid hR7
      have HPS := Lib.hid (pickL_snoc l idx i hi)
      have hlb := HBD.out l[i] (List.getElem_mem hi)
      have HB7 : Hid (Below w.heap.size w w7) := Lib.hid (HB.out.grown hg7 HB.out.size (fun j hj => by simp at hj; have := HRS.out; omega))
      generalize l[i] = x at *
      obtain ⟨q, v⟩ := x
      simp only at hlb hen
      obtain ⟨v0, v1⟩ := hlb
      clear hR7 hg7 hz7 hni
      by_cases z1 : mn < 0
      · have HJ2 := Lib.hid (HJ.out.less (x := (q, v)) v0 (.inl z1))
        go_wp2_with fail
        go_roundw
        case rel => exact ⟨idx ++ [i], v, rfl, HR7.out, by rw [HPS.out]; exact HJ2.out, HB7.out⟩
        case measure =>
            have h1 := HR7.out.itLen; have h2 := HRX.out.itLen; have h3 := HR7.out.len
            rw [List.length_append, List.length_singleton] at h1 h3
            rw [h1, h2]; omega
      · by_cases z2 : v < mn
        · have HJ2 := Lib.hid (HJ.out.less (x := (q, v)) v0 (.inr z2))
          go_wp2_with fail
          go_roundw
          case rel => exact ⟨idx ++ [i], v, rfl, HR7.out, by rw [HPS.out]; exact HJ2.out, HB7.out⟩
          case measure =>
            have h1 := HR7.out.itLen; have h2 := HRX.out.itLen; have h3 := HR7.out.len
            rw [List.length_append, List.length_singleton] at h1 h3
            rw [h1, h2]; omega
        · have HJ2 := Lib.hid (HJ.out.keep (x := (q, v)) z1 z2)
          go_wp2_with fail
          go_roundw
          case rel => exact ⟨idx ++ [i], mn, rfl, HR7.out, by rw [HPS.out]; exact HJ2.out, HB7.out⟩
          case measure =>
            have h1 := HR7.out.itLen; have h2 := HRX.out.itLen; have h3 := HR7.out.len
            rw [List.length_append, List.length_singleton] at h1 h3
            rw [h1, h2]; omega
end Go.Proofs.YtkmnacchiagipaaDoor
