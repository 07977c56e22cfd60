/- The law's own chain: a machine with one path. -/
/- Compose, Trim and Paths of two chains, as ComposeOnce calls them. -/
import Derived.Test.YtfikkpgigicepaaMade
import Derived.Test.YtfikkpgigicepaaBuild
import Derived.Test.YtfikkpgigicepaaOncePlain
import Derived.Test.YtfikkpgigicepaaPaths
import Derived.Test.YtfikkpgigicepaaCompUse
import Derived.Test.YtfikkpgigicepaaTrim
namespace Go.Proofs.Ytfikkpgigicepaa
open Go.ChangeShapes Go.WideShapes Go.ChangeAt Go.RowKit

structure EdgesArg (w : World) (A : Option Addr) (l : List ArcL) : Prop where
  at_ : ArcsAt w A l
  len : l.length ≤ 9223372036854775807
  bd : ∀ a ∈ l, I64 a.inn ∧ I64 a.out ∧ I64 a.wt ∧ I64 a.to
theorem EdgesArg.below {w w' : World} {A : Option Addr} {l : List ArcL} (h : EdgesArg w A l) (hb : Below w.heap.size w w') : EdgesArg w' A l := ⟨h.at_.below hb (Nat.le_refl _), h.len, h.bd⟩
set_option maxRecDepth 100000 in
theorem open_edges_arg {H : Type} {enc : TypeId × Value → H} {W : World} {base : Nat} {v : Value} {d : DataW H} {p : List MemPlace}
    (hv : Value.okWide Try.prog W .any base 54 v) (h : DataW.Trod enc Try.prog W 0 (fun _ => true) true 54 v d p) :
    ∃ A c l, v = .slice A l.length c ∧ EdgesArg W A l := by
  obtain ⟨A, n, c, rfl⟩ := okWide_slice Try.underlying54 hv
  obtain ⟨fuel, hf⟩ := h
  obtain ⟨A, c, l, e, h1, h2, h3⟩ := open_edges hf
  exact ⟨A, c, l, e, h2, h1, h3⟩
def chE (l : List ArcL) (i : Nat) : ArcL := ⟨pick (l.getD i ⟨0, 0, 0, 0⟩).inn 3, pick (l.getD i ⟨0, 0, 0, 0⟩).out 3, pick (l.getD i ⟨0, 0, 0, 0⟩).wt 10, (i : Int) + 1⟩
def chL (l : List ArcL) (k : Nat) : List ArcL := (List.range k).map (chE l)
def chN (l : List ArcL) (m : Nat) : Nat := min l.length m
theorem chL_steps (l : List ArcL) (k : Nat) : Steps (chL l k) := fun i e h => by
  unfold chL at h
  rw [List.getElem?_map] at h
  obtain ⟨j, hj, rfl⟩ := Option.map_eq_some_iff.1 h
  rw [List.getElem?_range (by
    rcases Nat.lt_or_ge i k with h1 | h1
    · exact h1
    · rw [List.getElem?_eq_none (by simpa using h1)] at hj; cases hj)] at hj
  cases hj
  show ((i : Int) + 1).toNat = i + 1
  omega

set_option maxRecDepth 100000 in
set_option maxHeartbeats 8000000 in
theorem chain_any (A : Option Addr) (c : Nat) (l : List ArcL) (w : World) (h : EdgesArg w A l) :
    Calls Try.prog 25 #[.slice A l.length c, .int .i64 6] w fun e w' => ∃ mv, e = .returned mv ∧ OwnMach w' w.heap.size mv (chainM (chL l (chN l 6))) ∧ Below w.heap.size w w' := by
  have HA := Lib.hid h
  have rdA := h.at_.rdy
  have hlen := h.len
  have hN : chN l 6 ≤ l.length ∧ chN l 6 ≤ 6 := by unfold chN; omega
  have HN : Hid (chN l 6 = min l.length 6) := Lib.hid rfl
  have HCM : Hid (chainM (chL l (chN l 6)) = ⟨0, (chL l (chN l 6)).map (fun e => ⟨1000000001, [e]⟩) ++ [⟨0, []⟩]⟩) := Lib.hid rfl
  clear h
  generalize chN l 6 = N at *
  go_enter Try.func25, Try.ntmps25
  go_upto_region 2 with fail
  have Z0 : Blk ((w.alloc (.cells #[.int .i64 0, .slice none 0 0] 28)).alloc (.cells #[.int .i64 0, .slice none 0 0] 28)) w.heap.size #[.int .i64 0, .slice none 0 0] _ := (Blk.new _ _ _).alloc _
  have Z1 : Blk ((w.alloc (.cells #[.int .i64 0, .slice none 0 0] 28)).alloc (.cells #[.int .i64 0, .slice none 0 0] 28)) (w.heap.size + 1) #[.int .i64 0, .slice none 0 0] _ := Blk.new' (by simp)
  have b1 : Below w.heap.size w ((w.alloc (.cells #[.int .i64 0, .slice none 0 0] 28)).alloc (.cells #[.int .i64 0, .slice none 0 0] 28)) := (by repeat' (first | exact Below.refl _ _ | assumption | refine Below.drew ?_ | refine Below.alloc ?_ (by first | omega | (simp; done) | (simp; omega)) _ | refine Below.setCell ?_ (by first | omega | (simp; done) | (simp; omega)) _))
  generalize (w.alloc (.cells #[.int .i64 0, .slice none 0 0] 28)).alloc (.cells #[.int .i64 0, .slice none 0 0] 28) = w1 at *
  have M0 := MB.start (w1 := w1) (g := w.heap.size + 1) (st := 0) (by simpa using Z1.cell 0) (by simpa using Z1.cell 1) (Z1.froz 0) (Z1.froz 1)
  have HZ0 := Lib.hid Z0
  have sz1 : w.heap.size + 1 < w1.heap.size := Z1.lt
  clear Z0 Z1
  go_wp2_with fail
  go_loopw [6] (fun iv wr => ∃ (k : Nat) (sv : Value) (vs : List Value), k ≤ N ∧ iv = .int .i64 k ∧ MB w1 wr (w.heap.size + 1) 0 sv vs ((chL l k).map (fun e => ⟨1000000001, [e]⟩))) (fun iv _ => N - (intOf iv).toNat)
  case atStart => exact ⟨0, _, _, by omega, rfl, M0⟩
  case round =>
    obtain ⟨k, sv, vs, hk, rfl, hM⟩ := hrel
    have HM := Lib.hid hM
    have bw := hM.below b1 (by omega)
    by_cases hlt : k < N
    · have hwr : IntKind.i64.wrap ((k : Int) + 1) = (k : Int) + 1 := IntWalk.i64_in _ (by omega)
      have lm := hM.lt
      have hkl : k < l.length := by omega
      have hAw := (HA.out.below bw).at_
      have d0 := hAw.c0 k hkl; have d1 := hAw.c1 k hkl; have d2 := hAw.c2 k hkl
      obtain ⟨⟨y1, y2⟩, ⟨y3, y4⟩, ⟨y5, y6⟩, -⟩ := HA.out.bd l[k] (List.getElem_mem hkl)
      have hce : chE l k = ⟨pick l[k].inn 3, pick l[k].out 3, pick l[k].wt 10, (k : Int) + 1⟩ := by
        unfold chE
        have : l.getD k ⟨0, 0, 0, 0⟩ = l[k] := by simp [hkl]
        rw [this]
      have HCE := Lib.hid hce
      have hsn : (chL l (k + 1)).map (fun e => (⟨1000000001, [e]⟩ : StateL)) = (chL l k).map (fun e => ⟨1000000001, [e]⟩) ++ [⟨1000000001, [chE l k]⟩] := by simp [chL, List.range_succ]
      have HSN := Lib.hid hsn
      generalize l[k] = e at *
      have lA := World.block_lt_of_cell? _ _ d0
      have g1 : (k : Int) < (l.length : Int) := by omega
      have g2 : (k : Int) < 6 := by omega
      have g3 : (0 : Int) ≤ (k : Int) := by omega
      clear hce hsn hAw
      go_upto_region 5 with fail
      go_cut [7] (fun s7 wx => s7 = .pointer (some ⟨wr.heap.size, 0, none⟩) ∧ ArcBox wx wr.heap.size ⟨pick e.inn 3, pick e.out 3, pick e.wt 10, (k : Int) + 1⟩ ∧ Below wr.heap.size wr wx ∧ wr.heap.size < wx.heap.size)
      case first =>
        go_region_held3 (fun w' => w'.cell? ⟨blk A, ofs A + k * 4, none⟩ = some (.int .i64 e.inn) ∧ w'.cell? ⟨blk A, ofs A + k * 4 + 1, none⟩ = some (.int .i64 e.out) ∧ w'.cell? ⟨blk A, ofs A + k * 4 + 2, none⟩ = some (.int .i64 e.wt)) (go_keep) (first | (go_at_call 18; refine (picked_any _ _ _ (by omega) (by omega) (by omega) (by omega)).mono ?_; rintro e w' ⟨rfl, rfl⟩))
        all_goals
          go_wp2_with fail
          go_meet
          case rel => exact ⟨rfl, ⟨by simp [go_sem], by simp [go_sem], by simp [go_sem], by simp [go_sem], by simp [go_sem]⟩, (by repeat' (first | exact Below.refl _ _ | assumption | refine Below.drew ?_ | refine Below.alloc ?_ (by first | omega | (simp; done) | (simp; omega)) _ | refine Below.setCell ?_ (by first | omega | (simp; done) | (simp; omega)) _)), by simp⟩
      case rest =>
        obtain ⟨rfl, hX, bc, s1⟩ := hcut
        obtain ⟨w5, rfl⟩ : ∃ wx : World, wx = wc := ⟨_, rfl⟩
        obtain ⟨x0, x1, x2, x3, xf⟩ := hX
        clear d0 d1 d2 y1 y2 y3 y4 y5 y6
        have hM5 := HM.out.keep bc
        generalize pick e.inn 3 = p0 at *
        generalize pick e.out 3 = p1 at *
        generalize pick e.wt 10 = p2 at *
        have hM6 := hM5.keep (wx := w5.alloc (.cells #[.int .i64 p0, .int .i64 p1, .int .i64 p2, .int .i64 ((k : Int) + 1)] 44)) (by repeat' (first | exact Below.refl _ _ | assumption | refine Below.drew ?_ | refine Below.alloc ?_ (by first | omega | (simp; done) | (simp; omega)) _ | refine Below.setCell ?_ (by first | omega | (simp; done) | (simp; omega)) _))
        have HMi := Lib.hid hM6
        have hRow := hM6.own.row
        have hln : ((chL l k).map (fun e => (⟨1000000001, [e]⟩ : StateL))).length = k := by simp [chL]
        rw [hln] at hRow
        have HRW := Lib.hid hRow
        have y1 := hM5.m1; have y2 := hM5.f1; have y3 := hM5.lt
        have z1 := hM6.m1; have z2 := hM6.f1; have z3 := hM6.lt
        have zs := hM6.grown.size
        have zt := hM5.grown.size
        have hq1 : k + 1 ≤ 1000000 := by omega
        have hAO : OwnArcs (w5.alloc (.cells #[.int .i64 p0, .int .i64 p1, .int .i64 p2, .int .i64 ((k : Int) + 1)] 44)) w1.heap.size (.slice (some ⟨w5.heap.size, 0, none⟩) 1 1) [⟨p0, p1, p2, (k : Int) + 1⟩] :=
          World.ownsRow_lit (base := w1.heap.size) (e := 44) (size := 4) w5 #[.int .i64 p0, .int .i64 p1, .int .i64 p2, .int .i64 ((k : Int) + 1)] 1 zt (by simp [maxLen]) rfl
        have HAO := Lib.hid hAO
        clear hRow hM hM5 hM6 hAO bc
        go_wp2_with (at_builtin; refine wpList_app1 rfl _ _ rfl eltState w1.heap.size sv k _ rfl (w5.alloc (.cells #[.int .i64 p0, .int .i64 p1, .int .i64 p2, .int .i64 ((k : Int) + 1)] 44)) HRW.out #[.int .i64 1000000001, .slice (some ⟨w5.heap.size, 0, none⟩) 1 1] rfl (w5.alloc (.cells #[.int .i64 p0, .int .i64 p1, .int .i64 p2, .int .i64 ((k : Int) + 1)] 44)).heap.size rfl (by simp [go_sem]) rfl (by simp [Value.oneCell']) hq1 (by omega) zs ?_; intro g4 cap w6 hown4 hg4 hat hlt4; obtain ⟨e1, e2, e3⟩ := HMi.out.far hg4)
        have hM2 := HMi.out.app ⟨1000000001, [chE l k]⟩ (av := .slice (some ⟨w5.heap.size, 0, none⟩) 1 1) (by rw [HCE.out]; exact HAO.out) (k := k + 1) (by simp [chL]) hg4 hown4
        rw [← HSN.out] at hM2
        have HM2 := Lib.hid hM2
        clear hM2 hown4 hg4
        go_roundw
        case rel => exact ⟨k + 1, _, _, by omega, by go_num, HM2.out⟩
        case measure => simp [intOf]; omega
    · obtain rfl : k = N := by omega
      have hng : ¬ ((k : Int) < (l.length : Int) ∧ (k : Int) < 6) := by have := HN.out; omega
      have hsn : (chainM (chL l k)).states = (chL l k).map (fun e => ⟨1000000001, [e]⟩) ++ [⟨0, []⟩] := by rw [HCM.out]
      have HSN := Lib.hid hsn
      have hst : (chainM (chL l k)).start = 0 := rfl
      have hln : ((chL l k).map (fun e => (⟨1000000001, [e]⟩ : StateL))).length = k := by simp [chL]
      have hRow := hM.own.row
      rw [hln] at hRow
      have HRW := Lib.hid hRow
      have z1 := hM.m1; have z2 := hM.f1; have z3 := hM.lt
      have zs := hM.grown.size
      have hq1 : k + 1 ≤ 1000000 := by omega
      clear hRow hM hsn
      go_upto_region 7 with fail
      all_goals
        go_upto_region 8 with (at_builtin; refine wpList_app1 rfl _ _ rfl eltState w1.heap.size sv k _ rfl wr HRW.out #[.int .i64 0, .slice none 0 0] rfl wr.heap.size rfl rfl rfl (by simp [Value.oneCell']) hq1 (by omega) zs ?_; intro g4 cap w6 hown4 hg4 hat hlt4; obtain ⟨e1, e2, e3⟩ := HM.out.far hg4)
        have hM2 := HM.out.app ⟨0, []⟩ (av := .slice none 0 0) (OwnArcs.nil _ _) (k := k + 1) (by simp [chL]) hg4 hown4
        rw [← HSN.out] at hM2
        clear hown4 hg4 e1 e2 e3
        generalize w6.setCell ⟨w.heap.size + 1, 1, none⟩ (.slice (some ⟨g4, 0, none⟩) (k + 1) cap) = w7 at *
        have z0' := hM2.m0; have z1' := hM2.m1; have z3' := hM2.lt
        have HM2 := Lib.hid hM2
        have Z0 := HZ0.out.grown hM2.grown (by simp)
        have k0 := Z0.cell; have f0 := Z0.froz; have l0 := Z0.lt
        have b7 := hM2.below b1 (by omega)
        clear hM2 z1 z2 z3
        go_wp2_with fail
        refine bodyPost_ret (v := .agg #[.int .i64 0, .slice (some ⟨g4, 0, none⟩) (k + 1) cap]) (by simp [results, Try.results25, go_sem, *]) rfl ⟨_, rfl, ?_, ?_⟩
        · exact ⟨_, rfl, _, ((HM2.out.own.setCell (a := ⟨w.heap.size, 0, none⟩) (by simp; omega) _).setCell (a := ⟨w.heap.size, 1, none⟩) (by simp; omega) _).mono (by omega)⟩
        · exact (b7.setCell (by simp) _).setCell (by simp) _
end Go.Proofs.Ytfikkpgigicepaa

namespace Go.Proofs.Ytfikkpgigicepaa
open Go.RowKit

section
variable {L : List ArcL}
theorem chain_len : (chainM L).states.length = L.length + 1 := by simp [chainM]
theorem chain_mem {s : StateL} (h : s ∈ (chainM L).states) : (∃ e ∈ L, s = ⟨1000000001, [e]⟩) ∨ s = ⟨0, []⟩ := by
  unfold chainM at h
  rcases List.mem_append.1 h with h | h
  · obtain ⟨e, he, rfl⟩ := List.mem_map.1 h
    exact .inl ⟨e, he, rfl⟩
  · simp at h; exact .inr h
end
theorem chE_ok (l : List ArcL) (k : Nat) : ∀ e ∈ chL l k, (0 ≤ e.inn ∧ e.inn ≤ 2) ∧ (0 ≤ e.out ∧ e.out ≤ 2) ∧ (0 ≤ e.wt ∧ e.wt ≤ 9) ∧ (0 ≤ e.to ∧ e.to ≤ k) := fun e he => by
  unfold chL at he
  obtain ⟨i, hi, rfl⟩ := List.mem_map.1 he
  have hi := List.mem_range.1 hi
  unfold chE
  have a1 := pick_lo (l.getD i ⟨0, 0, 0, 0⟩).inn 3 (by omega); have a2 := pick_hi (l.getD i ⟨0, 0, 0, 0⟩).inn 3 (by omega)
  have a3 := pick_lo (l.getD i ⟨0, 0, 0, 0⟩).out 3 (by omega); have a4 := pick_hi (l.getD i ⟨0, 0, 0, 0⟩).out 3 (by omega)
  have a5 := pick_lo (l.getD i ⟨0, 0, 0, 0⟩).wt 10 (by omega); have a6 := pick_hi (l.getD i ⟨0, 0, 0, 0⟩).wt 10 (by omega)
  refine ⟨⟨a1, ?_⟩, ⟨a3, ?_⟩, ⟨a5, ?_⟩, ?_, ?_⟩ <;> simp only <;> omega
theorem chain_ok (l : List ArcL) (k : Nat) (hk : k ≤ 6) : Valid (chainM (chL l k)) ∧ Wt (chainM (chL l k)) 9 := by
  have hl : (chainM (chL l k)).states.length = k + 1 := by rw [chain_len]; simp [chL]
  refine ⟨⟨by omega, ?_, by simp [chainM], by rw [hl]; simp [chainM], fun s hs => ?_⟩, fun s hs e he => ?_, fun s hs hf => ?_, by omega⟩
  · have h1 := sum_map_le (fun s : StateL => s.arcs.length) 1 (chainM (chL l k)).states (fun s hs => by rcases chain_mem hs with ⟨e, _, rfl⟩ | rfl <;> simp)
    unfold arcsOf; omega
  · rcases chain_mem hs with ⟨e, he, rfl⟩ | rfl
    · refine ⟨.inr rfl, fun a ha => ?_⟩
      simp at ha; subst ha
      obtain ⟨⟨h1, h2⟩, ⟨h3, h4⟩, ⟨h5, h6⟩, h7, h8⟩ := chE_ok l k a he
      exact ⟨h1, by omega, h3, by omega, h5, by omega, h7, by rw [hl]; omega⟩
    · exact ⟨.inl ⟨by simp, by simp⟩, fun a ha => by cases ha⟩
  · rcases chain_mem hs with ⟨a, ha, rfl⟩ | rfl
    · simp at he; subst he
      exact (chE_ok l k e ha).2.2.1.2
    · cases he
  · rcases chain_mem hs with ⟨a, ha, rfl⟩ | rfl
    · exact absurd rfl hf
    · simp

structure OnceC (L K : List ArcL) (w' : World) (A : Option Addr) (n k : Nat) (c : MachL) : Prop where
  at_ : StatesAt w' A c.states
  len : c.states.length = n
  st : c.start = 0
  v : Valid c
  pos : 0 < n
  ex : 0 < (trimM c).states.length ↔ outW L = inW K
  line : 0 < (trimM c).states.length → LineM (trimM c)
structure OnceE (L K : List ArcL) (w' : World) (A : Option Addr) (n k : Nat) (er : Int) : Prop where
  full : (er = 5 ∧ n = 0 ∧ A = none ∧ k = 0) ∨ (er = 0 ∧ ∃ c, OnceC L K w' A n k c)
section
variable {L K : List ArcL} {w' w'' : World} {A : Option Addr} {n k : Nat} {er : Int} {c : MachL}
theorem OnceC.step (h : OnceC L K w' A n k c) (hb : Below w'.heap.size w' w'') : OnceC L K w'' A n k c := ⟨h.at_.below hb (Nat.le_refl _), h.len, h.st, h.v, h.pos, h.ex, h.line⟩
theorem OnceE.step (h : OnceE L K w' A n k er) (hb : Below w'.heap.size w' w'') : OnceE L K w'' A n k er := ⟨h.full.imp id (fun ⟨h1, c, h2⟩ => ⟨h1, c, h2.step hb⟩)⟩
theorem OnceE.alloc (h : OnceE L K w' A n k er) (o : Obj) : OnceE L K (w'.alloc o) A n k er := h.step ((Below.refl _ _).alloc (Nat.le_refl _) o)
theorem OnceC.mach (h : OnceC L K w' A n k c) : MachAt w' (.agg #[.int .i64 0, .slice A n k]) c := ⟨A, k, by rw [h.st, h.len], h.at_⟩
end
theorem once_comp (va vb : Value) (L K : List ArcL) (w : World) (ha : MachAt w va (chainM L)) (hb : MachAt w vb (chainM K)) (hL : Steps L) (hK : Steps K) (vA : Valid (chainM L)) (vB : Valid (chainM K)) (wA : Wt (chainM L) 9) (wB : Wt (chainM K) 9) :
    Calls Try.prog 16 #[va, vb] w fun e w' => (∃ A k n er, e = .returned (.tuple #[.agg #[.int .i64 0, .slice A n k], .int .i64 er]) ∧ OnceE L K w' A n k er) ∧ Below w.heap.size w w' :=
  (Compose_any va vb _ _ 9 9 w ha hb vA vB (Int.le_refl 0) (Int.le_refl 0) (wA.ok wB (by omega))).mono (by
    rintro e w' ⟨h, hbl⟩
    refine ⟨?_, hbl⟩
    rcases h with ⟨h, -⟩ | ⟨mv, c, T, rfl, ho, hc, hs, hA⟩
    · exact ⟨none, 0, 0, 5, h, ⟨.inl ⟨rfl, rfl, rfl, rfl⟩⟩⟩
    · have hv := (comp_valid vA vB (wA.ok wB (by omega)) hc hs hA).1
      obtain ⟨A, k, rfl, h1⟩ := ho.at_
      have h2 := once_law hL hK hc hv
      refine ⟨A, k, c.states.length, 0, by rw [hc.start], ⟨.inr ⟨rfl, c, ⟨h1, rfl, hc.start, hv, comp_pos hc, h2.1, h2.2⟩⟩⟩⟩)
/-- how many paths are left -/
theorem once_paths (v : Value) (t : MachL) (w : World) (hm : MachAt w v t) (hv : Valid t) (b : Bool) (hex : 0 < t.states.length ↔ b = true) (hl : 0 < t.states.length → LineM t) :
    Calls Try.prog 27 #[v] w fun e w' => e = .returned (.tuple #[.int .i64 (if b = true then 1 else 0), .int .i64 0]) ∧ Below w.heap.size w w' := by
  rcases Nat.eq_zero_or_pos t.states.length with h0 | h0
  · have hb : ¬ b = true := fun h => by have := hex.2 h; omega
    rw [if_neg hb]
    refine Paths_zero v t w hm hv h0 (fun S ⟨⟨q, h1⟩, h2⟩ => ?_)
    have := (h2 q h1).1
    omega
  · rw [if_pos (hex.1 h0)]
    have hlm := hl h0
    obtain ⟨h1, h2⟩ := line_counts hlm
    refine (Paths_any v t w hm hv 0 hlm.s0 _ h1 (fun q _ => by omega) (by omega) (line_stuck hlm)).mono ?_
    rintro e w' ⟨rfl, hb⟩
    rw [h2]
    exact ⟨rfl, hb⟩
end Go.Proofs.Ytfikkpgigicepaa
