/- (*taker).machine: a machine of bytes, or none. -/
import Derived.Test.YtajbfhdkghofbaaGreatDoorPackMem
import Derived.Test.YtajbfhdkghofbaaGreatDoorRegionLast
import Derived.Deep.RegionLaw
import Derived.RegionTactic
namespace Go.Proofs.YtajbfhdkghofbaaGreatDoor
open Go.RowKit

theorem TK.grownO {w w' : World} {tb g o c : Nat} {l : List Int} (h : TK w tb g o c l) {row : Option Nat} (hg : w.grownBy w' row) (h1 : row ≠ some tb) (h2 : row ≠ some g) (hlt : g < w.heap.size) : TK w' tb g o c l := by
  refine ⟨(hg.block tb h.blk.lt (fun e => h1 e.symm)).trans h.blk, h.cap, fun i hi => ?_, h.ok, h.ne⟩
  rw [World.cell?_of_block (hg.block g hlt (fun e => h2 e.symm))]; exact h.ce i hi
theorem TK.set {w : World} {tb g o c : Nat} {l : List Int} (h : TK w tb g o c l) (b i : Nat) (v : Value) (h1 : b ≠ tb) (h2 : b ≠ g) (hlt : g < w.heap.size) : TK (w.setCell ⟨b, i, none⟩ v) tb g o c l :=
  h.grownO (grown_set w b i v) (by simpa using h1) (by simpa using h2) hlt
theorem manyP_len {α : Type} (f : List Int → Option (α × List Int)) : ∀ (n : Nat) (l l' : List Int) (xs : List α), manyP f n l = some (xs, l') → xs.length = n
  | 0, l, l', xs, h => by injection h with h; injection h with h1 h2; subst h1; rfl
  | n + 1, l, l', xs, h => by
    unfold manyP at h
    obtain ⟨⟨xs1, l1⟩, h1, h⟩ := Option.bind_eq_some_iff.1 h
    obtain ⟨⟨a, l2⟩, h2, h⟩ := Option.map_eq_some_iff.1 h
    injection h with e1 e2
    subst e1
    have := manyP_len f n l l1 xs1 h1
    simp [this]

theorem manyP_none {α : Type} (f : List Int → Option (α × List Int)) {k : Nat} {l l' : List Int} {xs : List α} (h : manyP f k l = some (xs, l')) (hf : f l' = none) : ∀ n, k < n → manyP f n l = none
  | 0, hk => absurd hk (by omega)
  | n + 1, hk => by
    unfold manyP
    by_cases e : k = n
    · subst e; rw [h]; simp [hf]
    · rw [manyP_none f h hf n (by omega)]; rfl
theorem takeP_none {k : Nat} {l : List Int} (h : l.length < k) : takeP k l = none := by unfold takeP; rw [if_neg (by omega)]
theorem takeP_left {k : Nat} {l l1 : List Int} {n : Int} (h : takeP k l = some (n, l1)) : l1.length + k = l.length := by
  unfold takeP at h
  split at h
  · injection h with h; injection h with _ h2; subst h2; simp; omega
  · cases h
theorem arcP_none {l : List Int} (h : l.length < 9) : arcP l = none := by
  unfold arcP
  cases h1 : takeP 2 l with
  | none => rfl
  | some p1 =>
    simp only [Option.bind_some]
    have e1 := takeP_left (l1 := p1.2) (n := p1.1) h1
    cases h2 : takeP 2 p1.2 with
    | none => rfl
    | some p2 =>
      simp only [Option.bind_some]
      have e2 := takeP_left (l1 := p2.2) (n := p2.1) h2
      cases h3 : takeP 4 p2.2 with
      | none => rfl
      | some p3 =>
        simp only [Option.bind_some]
        have e3 := takeP_left (l1 := p3.2) (n := p3.1) h3
        rw [takeP_none (by omega)]; rfl

def MachP (w : World) (tb : Nat) (l : List Int) (e : Ending) (w' : World) : Prop :=
  ∃ st A n c b, e = .returned (.tuple #[.agg #[.int .i64 st, .slice A n c], .bool b]) ∧ (b = true → ∃ m, machP l = some (m, []) ∧ OwnMach w' w.heap.size (.agg #[.int .i64 st, .slice A n c]) m) ∧ (b = false → ∀ m, machP l ≠ some (m, [])) ∧ w.grownBy w' (some tb)

def QP (k : Nat) (ch : List PanicEntry) (a : Act) (S : World → Prop) (W : World) : Prop :=
  ch = [shortE false] ∧ a.defers = [{ target := .fn (.func 37) #[.pointer (some ⟨k + 1, 0, none⟩)], args := #[] }] ∧ a.tmps[2]? = some (.pointer (some ⟨k, 0, none⟩)) ∧ a.tmps[3]? = some (.pointer (some ⟨k + 1, 0, none⟩)) ∧ S W
theorem QP.put {k : Nat} {ch : List PanicEntry} {a : Act} {S : World → Prop} {W : World} {d : Nat} {v : Value} (h2 : d ≠ 2) (h3 : d ≠ 3) (h : QP k ch (a.put (some d) v) S W) : QP k ch a S W := by
  obtain ⟨h4, h5, h6, h7, h8⟩ := h
  refine ⟨h4, h5, ?_, ?_, h8⟩
  · rw [← h6]; simp [Act.put, Array.getElem?_setIfInBounds_ne h2]
  · rw [← h7]; simp [Act.put, Array.getElem?_setIfInBounds_ne h3]
def guardD (k : Nat) : Deferred := { target := .fn (.func 37) #[.pointer (some ⟨k, 0, none⟩)], args := #[] }

theorem grown_new {w w' : World} {tb : Nat} (h : w.grownBy w' (some tb)) (k i : Nat) (hk : w.heap.size ≤ k) (v : Value) : w.grownBy (w'.setCell ⟨k, i, none⟩ v) (some tb) := by
  refine ⟨h.os, h.tape, h.output, by rw [size_setCell]; exact h.size, fun j hj hne => ?_⟩
  rw [Below.heap_setCell _ _ _ _ (by simp; omega)]; exact h.block j hj hne
theorem grown_alloc {w w' : World} {tb : Nat} (h : w.grownBy w' (some tb)) (o : Obj) : w.grownBy (w'.alloc o) (some tb) :=
  grown_then h (grown_of_below ((Below.refl _ _).alloc (Nat.le_refl _) _) _)

set_option maxRecDepth 100000 in
set_option maxHeartbeats 1000000 in
theorem machine_door {w W : World} {tb : Nat} {st : Int} {sv : Value} {vs : List Value} {ss : List StateL} (l : List Int) (hN : ∀ m, machP l ≠ some (m, [])) (h : MT w W tb st sv vs ss) (t : Array Value) (h2 : t[2]? = some (.pointer (some ⟨w.heap.size, 0, none⟩))) (h3 : t[3]? = some (.pointer (some ⟨w.heap.size + 1, 0, none⟩))) :
    Leaves Tryz.prog Tryz.f20 t (MachP w tb l) [guardD (w.heap.size + 1)] (.panicking [shortE false]) W := by
  obtain ⟨A, c, rfl, -, -⟩ := h.form
  have m0 := h.m0; have m1 := h.m1; have k0 := h.k0; have kf := h.kf; have lt := h.lt
  refine leaves_cons (f := 37) (args := #[.pointer (some ⟨w.heap.size + 1, 0, none⟩)]) (by simp) (by simp [go_sem]) ?_
  refine (guard_panicking (w.heap.size + 1) false W k0 kf lt).mono ?_
  rintro e u' w'' ⟨rfl, rfl, rfl⟩
  have hg := h.grown
  have bw : Below (W.setCell ⟨w.heap.size + 1, 0, none⟩ (.bool false)).heap.size _ ((W.setCell ⟨w.heap.size + 1, 0, none⟩ (.bool false)).alloc (.cells #[] 96)) := (Below.refl _ _).alloc (Nat.le_refl _) _
  have y0 := cellB bw (show (W.setCell ⟨w.heap.size + 1, 0, none⟩ (.bool false)).cell? ⟨w.heap.size, 0, none⟩ = some (.int .i64 st) by rw [World.cell?_setCell_other _ _ _ _ (by intro e; injection e with e1; omega)]; exact m0)
  have y1 := cellB bw (show (W.setCell ⟨w.heap.size + 1, 0, none⟩ (.bool false)).cell? ⟨w.heap.size, 1, none⟩ = some (.slice A ss.length c) by rw [World.cell?_setCell_other _ _ _ _ (by intro e; injection e with e1; omega)]; exact m1)
  have y2 := cellB bw (World.cell?_setCell_same _ ⟨w.heap.size + 1, 0, none⟩ (.bool false) k0)
  have hg2 : w.grownBy ((W.setCell ⟨w.heap.size + 1, 0, none⟩ (.bool false)).alloc (.cells #[] 96)) (some tb) := grown_alloc (grown_new hg _ _ (by omega) _) _
  generalize (W.setCell ⟨w.heap.size + 1, 0, none⟩ (.bool false)).alloc (.cells #[] 96) = W2 at *
  show ∃ v, _ ∧ MachP _ _ _ _ _
  refine ⟨.tuple #[.agg #[.int .i64 st, .slice A ss.length c], .bool false], ?_, st, A, ss.length, c, false, rfl, by simp, fun _ => hN, hg2⟩
  clear m0 m1 k0 kf bw h
  simp [results, Tryz.results20, go_sem, *]

theorem TK.step {w : World} {tb g o c : Nat} {l : List Int} (h : TK w tb g o c l) (k : Nat) (hk0 : 1 ≤ k) (hk4 : k ≤ 4) (hk : k ≤ l.length) (hl : l.length ≤ 8000) :
    ∃ n l1 V o' c', takeP k l = some (n, l1) ∧ 0 ≤ n ∧ n < 256 ^ k ∧ l1.length ≤ 8000 ∧ TK (w.setCell ⟨tb, 0, none⟩ V) tb g o' c' l1 ∧
      Hid (Calls Tryz.prog 19 #[.pointer (some ⟨tb, 0, none⟩), .int .i64 k] w fun e w' => e = .returned (.int .i64 n) ∧ w' = w.setCell ⟨tb, 0, none⟩ V) := by
  have hn := valB_b (l.take k) (fun x hx => h.ok x (List.mem_of_mem_take hx))
  rw [show (l.take k).length = k by simp; omega] at hn
  refine ⟨valB (l.take k), l.drop k, _, o + k, c - k, by unfold takeP; rw [if_pos hk], hn.1, hn.2, by simp; omega, h.took k hk, Lib.hid ?_⟩
  refine (take_ok tb g o c k l w h hk0 hk4 hk (by omega)).mono ?_; rintro e w1 ⟨rfl, rfl⟩
  exact ⟨rfl, rfl⟩
theorem takeP_no {k : Nat} {l : List Int} (h : l.length < k) : takeP k l = none := by unfold takeP; rw [if_neg (by omega)]
theorem takeP_len {k : Nat} {l l1 : List Int} {n : Int} (h : takeP k l = some (n, l1)) : l1.length + k = l.length := by
  unfold takeP at h
  split at h
  · injection h with h; injection h with _ h2; subst h2; simp; omega
  · cases h
theorem MT.begin {w wr : World} {tb : Nat} {st : Int} {sv : Value} {vs : List Value} {ss : List StateL} (h : MT w wr tb st sv vs ss) (st' : Int) : MT w (wr.setCell ⟨w.heap.size, 0, none⟩ (.int .i64 st')) tb st' sv vs ss := by
  obtain ⟨w1, h1, h2, h3, h4, h5⟩ := h.ex
  refine ⟨⟨w1, ⟨h1.own.setCell (a := ⟨w.heap.size, 0, none⟩) h1.gB _, World.cell?_setCell_same _ _ _ h1.m0, ?_, by rw [World.frozen?_setCell]; exact h1.f0, by rw [World.frozen?_setCell]; exact h1.f1, grown_then h1.grown (grown_set wr _ 0 _), h1.gB⟩, h2, h3, h4, h5⟩, h.tb⟩
  rw [World.cell?_setCell_other _ _ _ _ (by intro e; injection e with e1 e2; omega)]; exact h1.m1

set_option maxRecDepth 100000 in
set_option maxHeartbeats 4000000 in
theorem machine_any (tb sg o c : Nat) (l : List Int) (w : World) (h : TK w tb sg o c l) (hsg : sg < w.heap.size) (hl : l.length ≤ 8000) :
    Calls Tryz.prog 20 #[.pointer (some ⟨tb, 0, none⟩)] w (MachP w tb l) := by
  have hmf : ∀ (fn : Fn) (first cap : Array Value) (w : World), (Instr.makeFunc fn first cap).run Tryz.prog w = .ok (.func fn first cap) w := fun _ _ _ _ => rfl
  have HTK := Lib.hid h
  have ltb := h.blk.lt
  clear h
  go_enter_defers Tryz.func20, Tryz.ntmps20
  go_wp2_with fail
  have bl : Below w.heap.size w ((w.alloc (.cells #[.int .i64 0, .slice none 0 0] 27)).alloc (.cells #[.bool false] 4)) := (by repeat' (first | exact Below.refl _ _ | assumption | refine Below.drew ?_ | refine Below.alloc ?_ (by first | omega | (simp; done) | (simp; omega)) _ | refine Below.setCell ?_ (by first | omega | (simp; done) | (simp; omega)) _))
  have M0 : MT w ((w.alloc (.cells #[.int .i64 0, .slice none 0 0] 27)).alloc (.cells #[.bool false] 4)) tb 0 (.slice none 0 0) [] [] :=
    ⟨⟨_, MB.start (by simp [go_sem]) (by simp [go_sem]) (by simp [go_sem]) (by simp [go_sem]), grown_of_below bl _, by simp, by simp [go_sem], by simp [go_sem]⟩, ltb⟩
  have T0 := HTK.out.keep bl
  generalize (w.alloc (.cells #[.int .i64 0, .slice none 0 0] 27)).alloc (.cells #[.bool false] 4) = wl at *
  clear bl
  by_cases c1 : l.length < 1
  · have hN : ∀ m, machP l ≠ some (m, []) := fun m => by unfold machP; rw [takeP_none c1]; simp
    refine (take_short tb sg o c 1 l wl T0 (by omega) c1 (by omega)).mono ?_; rintro e w1 ⟨rfl, rfl⟩
    exact machine_door l hN M0 _ rfl rfl
  obtain ⟨n, l1, V, o1, c1', P1, n0, n1, hl1, T1, HC⟩ := T0.step 1 (by omega) (by omega) (by omega) hl
  have M1 := M0.both V
  refine HC.out.mono ?_; rintro e w1 ⟨rfl, rfl⟩
  generalize wl.setCell ⟨tb, 0, none⟩ V = w1 at *
  clear T0 M0 HC c1
  go_wp2_with fail
  by_cases c2 : l1.length < 1
  · have hN : ∀ m, machP l ≠ some (m, []) := fun m => by unfold machP; rw [P1]; simp only [Option.bind_some]; rw [takeP_none c2]; simp
    refine (take_short tb sg o1 c1' 1 l1 w1 T1 (by omega) c2 (by omega)).mono ?_; rintro e w2 ⟨rfl, rfl⟩
    exact machine_door l hN M1 _ rfl rfl
  obtain ⟨s1, l2, V, o2, c2', P2, s0, s1', hl2, T2, HC⟩ := T1.step 1 (by omega) (by omega) (by omega) hl1
  have M2 := M1.both V
  refine HC.out.mono ?_; rintro e w2 ⟨rfl, rfl⟩
  generalize w1.setCell ⟨tb, 0, none⟩ V = w2 at *
  clear T1 M1 HC c2
  have HMP : Hid (∀ ss, manyP stateP n.toNat l2 = some (ss, []) → machP l = some (⟨s1 - 1, ss⟩, [])) := Lib.hid fun ss hs => by
    unfold machP; rw [P1]; simp only [Option.bind_some]; rw [P2]; simp only [Option.bind_some]; rw [hs]; rfl
  have HNO : Hid ((∀ ss, manyP stateP n.toNat l2 ≠ some (ss, [])) → ∀ m, machP l ≠ some (m, [])) := Lib.hid fun hs m hm => by
    unfold machP at hm; rw [P1] at hm; simp only [Option.bind_some] at hm; rw [P2] at hm; simp only [Option.bind_some] at hm
    obtain ⟨⟨ss, l9⟩, h9, h8⟩ := Option.map_eq_some_iff.1 hm
    injection h8 with _ h7
    simp only at h7
    subst h7
    exact hs ss h9
  clear P1 P2
  have m0 := M2.m0; have f0 := M2.f0; have lm := M2.lt
  have hw1 : IntKind.i64.wrap (s1 - 1) = s1 - 1 := IntWalk.i64_in _ (by omega)
  have lt2 := T2.blk.lt
  have MX := Lib.hid (M2.begin (s1 - 1))
  have TX := Lib.hid (T2.set w.heap.size 0 (.int .i64 (s1 - 1)) (by omega) (by omega) (by omega))
  clear M2 T2
  go_upto_region 5 with fail
  obtain ⟨N, rfl⟩ : ∃ N : Nat, n = N := ⟨n.toNat, by omega⟩
  rw [Int.toNat_natCast] at HMP HNO
  have hN : N < 256 := by have : (256 : Int) ^ 1 = 256 := rfl; omega
  have mx := MX.out; have tx := TX.out
  generalize w2.setCell ⟨w.heap.size, 0, none⟩ (.int .i64 (s1 - 1)) = w3 at *
  generalize s1 - 1 = st at *
  clear MX TX m0 f0 lm hw1 lt2 s0 s1' n0 n1 hl1
  go_loopw [14] (fun iv wr => ∃ (k : Nat) (sv : Value) (vs : List Value) (ss : List StateL) (l' : List Int) (o' c' : Nat), k ≤ N ∧ iv = .int .i64 k ∧ Hid (manyP stateP k l2 = some (ss, l')) ∧ MT w wr tb st sv vs ss ∧ TK wr tb sg o' c' l' ∧ l'.length ≤ 8000) (fun iv _ => N - (intOf iv).toNat)
  case atStart => exact ⟨0, _, _, _, _, _, _, by omega, rfl, Lib.hid rfl, mx, tx, hl2⟩
  case round =>
    obtain ⟨k, sv, vs, ss, l', o', c', hk, rfl, HS, hM, hT, hl'⟩ := hrel
    clear mx tx hl2
    by_cases hlt : k < N
    · have HNS : Hid (stateP l' = none → ∀ m, machP l ≠ some (m, [])) := Lib.hid fun hs => HNO.out fun ss => by rw [manyP_none _ HS.out hs N hlt]; simp
      have i1 : (k : Int) < (N : Int) := by omega
      go_wp2_with fail
      by_cases c1 : l'.length < 4
      · refine (take_short tb sg o' c' 4 l' wr hT (by omega) c1 (by omega)).mono ?_; rintro e w4 ⟨rfl, rfl⟩
        exact machine_door l (HNS.out (by unfold stateP; rw [takeP_none c1]; rfl)) hM _ rfl rfl
      obtain ⟨fin, l3, V, o3, c3, P3, f0, f1, hl3, T3, HC⟩ := hT.step 4 (by omega) (by omega) (by omega) hl'
      have M3 := hM.both V
      refine HC.out.mono ?_; rintro e w4 ⟨rfl, rfl⟩
      generalize wr.setCell ⟨tb, 0, none⟩ V = w4 at *
      clear hT hM HC c1
      go_wp2_with fail
      have A4 : AT w (w4.alloc (.cells #[.int .i64 fin, .slice none 0 0] 51)) tb w4.heap.size st sv vs ss fin (.slice none 0 0) [] :=
        ⟨w4, _, M3, (Below.refl _ _).alloc (Nat.le_refl _) _, Nat.le_refl _, AB.start (by simp [go_sem]) (by simp [go_sem]) (by simp [go_sem]) (by simp [go_sem]), by simp⟩
      have T4 := T3.keep ((Below.refl _ _).alloc (Nat.le_refl _) (.cells #[.int .i64 fin, .slice none 0 0] 51))
      have hb4 := M3.lt
      generalize w4.alloc (.cells #[.int .i64 fin, .slice none 0 0] 51) = w5 at *
      generalize w4.heap.size = b at *
      clear T3 M3 f0 f1
      by_cases c2 : l3.length < 2
      · refine (take_short tb sg o3 c3 2 l3 w5 T4 (by omega) c2 (by omega)).mono ?_; rintro e w6 ⟨rfl, rfl⟩
        exact machine_door l (HNS.out (by unfold stateP; rw [P3]; simp only [Option.bind_some]; rw [takeP_none c2]; rfl)) A4.mt _ rfl rfl
      obtain ⟨na, l4, V, o4, c4, P4, a0, a1, hl4, T5, HC⟩ := T4.step 2 (by omega) (by omega) (by omega) hl3
      have A5 := A4.both V
      refine HC.out.mono ?_; rintro e w6 ⟨rfl, rfl⟩
      generalize w5.setCell ⟨tb, 0, none⟩ V = w6 at *
      clear T4 A4 HC c2
      obtain ⟨NA, rfl⟩ : ∃ NA : Nat, na = NA := ⟨na.toNat, by omega⟩
      have hNA : NA < 65536 := by have : (256 : Int) ^ 2 = 65536 := rfl; omega
      have HSP : Hid (∀ xs l'', manyP arcP NA l4 = some (xs, l'') → stateP l' = some (⟨fin, xs⟩, l'')) := Lib.hid fun xs l'' hs => by
        unfold stateP; rw [P3]; simp only [Option.bind_some]; rw [P4]; simp only [Option.bind_some]; rw [Int.toNat_natCast, hs]; rfl
      have HSN : Hid (manyP arcP NA l4 = none → stateP l' = none) := Lib.hid fun hs => by
        unfold stateP; rw [P3]; simp only [Option.bind_some]; rw [P4]; simp only [Option.bind_some]; rw [Int.toNat_natCast, hs]; rfl
      clear P3 P4 a0 a1
      go_upto_region 8 with fail
      go_loopw [21] (fun jv wi => ∃ (j : Nat) (av : Value) (xs : List ArcL) (l'' : List Int) (o'' c'' : Nat), j ≤ NA ∧ jv = .int .i64 j ∧ Hid (manyP arcP j l4 = some (xs, l'')) ∧ AT w wi tb b st sv vs ss fin av xs ∧ TK wi tb sg o'' c'' l'' ∧ l''.length ≤ 8000) (fun jv _ => NA - (intOf jv).toNat)
      case atStart => exact ⟨0, _, _, _, _, _, by omega, rfl, Lib.hid rfl, A5, T5, hl4⟩
      case round =>
        obtain ⟨j, av, xs, l'', o'', c'', hj, rfl, HA, hA, hT, hl''⟩ := hrel
        clear A5 T5
        by_cases hlt2 : j < NA
        · have i2 : (j : Int) < (NA : Int) := by omega
          obtain ⟨A9, c9, hav, -, -⟩ := hA.form
          have hj' := manyP_len _ _ _ _ _ HA.out
          rw [hj'] at hav
          subst hav
          have s1 := hA.s1
          by_cases c9' : 9 ≤ l''.length
          · have h0 := hT.keep (show Below wr.heap.size wr wr.drew from (Below.refl _ _).drew)
            have hA0 := hA.keep (show Below wr.heap.size wr wr.drew from (Below.refl _ _).drew)
            obtain ⟨x1, y1, V1, o5, c5, P1, p1, q1, hy1, T1, C1⟩ := h0.step 2 (by omega) (by omega) (by omega) hl''
            have e1 := takeP_len P1
            have hA1 := hA0.both V1
            obtain ⟨x2, y2, V2, o6, c6, P2, p2, q2, hy2, T2, C2⟩ := T1.step 2 (by omega) (by omega) (by omega) hy1
            have e2 := takeP_len P2
            have hA2 := hA1.both V2
            obtain ⟨x3, y3, V3, o7, c7, P3, p3, q3, hy3, T3, C3⟩ := T2.step 4 (by omega) (by omega) (by omega) hy2
            have e3 := takeP_len P3
            have hA3 := hA2.both V3
            obtain ⟨x4, y4, V4, o8, c8, P4, p4, q4, hy4, T4, C4⟩ := T3.step 1 (by omega) (by omega) (by omega) hy3
            have hA4 := hA3.both V4
            have HAP : Hid (manyP arcP (j + 1) l4 = some (xs ++ [⟨x1, x2, x3, x4⟩], y4)) := Lib.hid (by
              unfold manyP; rw [HA.out]; simp only [Option.bind_some]
              unfold arcP
              rw [P1]; simp only [Option.bind_some]; rw [P2]; simp only [Option.bind_some]; rw [P3]; simp only [Option.bind_some]; rw [P4]; rfl)
            have u1 := hA1.s1; have u2 := hA2.s1; have u3 := hA3.s1; have u4 := hA4.s1
            have HA4 := Lib.hid hA4; have HT4 := Lib.hid T4
            clear P1 P2 P3 P4 hA0 hA1 hA2 hA3 hA4 T1 T2 T3 T4 h0 hA hT HA p1 p2 p3 p4 q1 q2 q3 q4 e1 e2 e3 hy1 hy2 hy3
            go_upto_region 9 with fail
            refine wp_region_noPanic ?_
            refine wp_region_last_drew3 (fun W => W.cell? ⟨b, 1, none⟩ = some (.slice A9 j c9)) (by kernel_rfl) (by simp only [List.back?_toArray, List.getLast?_cons_cons, List.getLast?_singleton]; rfl) (by simp only [List.pop_toArray, List.dropLast_cons_cons, List.dropLast_singleton]; rfl) (by kernel_rfl) s1 (fun hHeld => ?_)
            refine wpAnyH_take (i := 0) (v := ?v0) (by simp only [List.getElem?_toArray, List.getElem?_cons_zero]; rfl) (by kernel_rfl) (by kernel_rfl) (by kernel_rfl) (fun _ _ _ h => h) (Or.inl ⟨by rfl, ?h0⟩) hHeld ?r0
            case h0 => intro w hSw; (try dsimp only at hSw); go_simp; with_reducible rfl
            simp only [Act.put, List.setIfInBounds_toArray, List.set_cons_zero, List.set_cons_succ]
            refine wpAnyH_take (i := 1) (v := ?v1) (by simp only [List.getElem?_toArray, List.getElem?_cons_succ, List.getElem?_cons_zero]; rfl) (by kernel_rfl) (by kernel_rfl) (by kernel_rfl) (fun _ _ _ h => h) (Or.inl ⟨by rfl, ?h1⟩) hHeld ?r1
            case h1 => intro w hSw; (try dsimp only at hSw); go_simp; with_reducible rfl
            simp only [Act.put, List.setIfInBounds_toArray, List.set_cons_zero, List.set_cons_succ]
            refine wpAnyH_take (i := 2) (v := ?v2) (by simp only [List.getElem?_toArray, List.getElem?_cons_succ, List.getElem?_cons_zero]; rfl) (by kernel_rfl) (by kernel_rfl) (by kernel_rfl) (fun _ _ _ h => h) (Or.inl ⟨by rfl, ?h2⟩) hHeld ?r2
            case h2 => intro w hSw; (try dsimp only at hSw); go_simp; with_reducible rfl
            simp only [Act.put, List.setIfInBounds_toArray, List.set_cons_zero, List.set_cons_succ]
            refine wpAnyH_take (i := 4) (v := ?v4) (by simp only [List.getElem?_toArray, List.getElem?_cons_succ, List.getElem?_cons_zero]; rfl) (by kernel_rfl) (by kernel_rfl) (by kernel_rfl) (fun _ _ _ h => h) (Or.inl ⟨by rfl, ?h4⟩) hHeld ?r4
            case h4 => intro w hSw; (try dsimp only at hSw); go_simp; with_reducible rfl
            simp only [Act.put, List.setIfInBounds_toArray, List.set_cons_zero, List.set_cons_succ]
            refine wpAnyH_take (i := 6) (v := ?v6) (by simp only [List.getElem?_toArray, List.getElem?_cons_succ, List.getElem?_cons_zero]; rfl) (by kernel_rfl) (by kernel_rfl) (by kernel_rfl) (fun _ _ _ h => h) (Or.inl ⟨by rfl, ?h6⟩) hHeld ?r6
            case h6 => intro w hSw; (try dsimp only at hSw); go_simp; with_reducible rfl
            simp only [Act.put, List.setIfInBounds_toArray, List.set_cons_zero, List.set_cons_succ]
            refine wpAnyH_take (i := 8) (v := ?v8) (by simp only [List.getElem?_toArray, List.getElem?_cons_succ, List.getElem?_cons_zero]; rfl) (by kernel_rfl) (by kernel_rfl) (by kernel_rfl) (fun _ _ _ h => h) (Or.inl ⟨by rfl, ?h8⟩) hHeld ?r8
            case h8 => intro w hSw; (try dsimp only at hSw); go_simp; with_reducible rfl
            simp only [Act.put, List.setIfInBounds_toArray, List.set_cons_zero, List.set_cons_succ]
            refine wpAnyH_ready (rs := [3]) (by kernel_rfl) (by simp) (AllReadyH.cons (by simp only [List.getElem?_toArray, List.getElem?_cons_succ, List.getElem?_cons_zero]; rfl) (fun K hK => ?s3) AllReadyH.nil)
            go_simp
            refine C1.out.mono ?_; rintro e wz ⟨rfl, rfl⟩
            go_wp2_with fail
            refine hK.out _ _ u1 (fun hHeld => ?_)
            clear hK K
            (try simp only [Act.put, List.setIfInBounds_toArray, List.set_cons_zero, List.set_cons_succ])
            refine wpAnyH_ready (rs := [5]) (by kernel_rfl) (by simp) (AllReadyH.cons (by simp only [List.getElem?_toArray, List.getElem?_cons_succ, List.getElem?_cons_zero]; rfl) (fun K hK => ?s5) AllReadyH.nil)
            go_simp
            refine C2.out.mono ?_; rintro e wz ⟨rfl, rfl⟩
            go_wp2_with fail
            refine hK.out _ _ u2 (fun hHeld => ?_)
            clear hK K
            (try simp only [Act.put, List.setIfInBounds_toArray, List.set_cons_zero, List.set_cons_succ])
            refine wpAnyH_ready (rs := [7]) (by kernel_rfl) (by simp) (AllReadyH.cons (by simp only [List.getElem?_toArray, List.getElem?_cons_succ, List.getElem?_cons_zero]; rfl) (fun K hK => ?s7) AllReadyH.nil)
            go_simp
            refine C3.out.mono ?_; rintro e wz ⟨rfl, rfl⟩
            go_wp2_with fail
            refine hK.out _ _ u3 (fun hHeld => ?_)
            clear hK K
            (try simp only [Act.put, List.setIfInBounds_toArray, List.set_cons_zero, List.set_cons_succ])
            refine wpAnyH_ready (rs := [9]) (by kernel_rfl) (by simp) (AllReadyH.cons (by simp only [List.getElem?_toArray, List.getElem?_cons_succ, List.getElem?_cons_zero]; rfl) (fun K hK => ?s9) AllReadyH.nil)
            go_simp
            refine C4.out.mono ?_; rintro e wz ⟨rfl, rfl⟩
            go_wp2_with fail
            refine hK.out _ _ u4 (fun hHeld => ?_)
            clear hK K
            (try simp only [Act.put, List.setIfInBounds_toArray, List.set_cons_zero, List.set_cons_succ])
            refine wpAnyH_take (i := 10) (v := ?v10) (by simp only [List.getElem?_toArray, List.getElem?_cons_succ, List.getElem?_cons_zero]; rfl) (by kernel_rfl) (by kernel_rfl) (by kernel_rfl) (fun _ _ _ h => h) (Or.inl ⟨by rfl, ?h10⟩) hHeld ?r10
            case h10 => intro w hSw; (try dsimp only at hSw); go_simp; with_reducible rfl
            simp only [Act.put, List.setIfInBounds_toArray, List.set_cons_zero, List.set_cons_succ]
            have HA9 : Hid (AT w ((((wr.setCell ⟨tb, 0, none⟩ V1).setCell ⟨tb, 0, none⟩ V2).setCell ⟨tb, 0, none⟩ V3).setCell ⟨tb, 0, none⟩ V4).drew tb b st sv vs ss fin (.slice A9 j c9) xs) := HA4
            have HT9 : Hid (TK ((((wr.setCell ⟨tb, 0, none⟩ V1).setCell ⟨tb, 0, none⟩ V2).setCell ⟨tb, 0, none⟩ V3).setCell ⟨tb, 0, none⟩ V4).drew tb sg o8 c8 y4) := HT4
            refine wpAnyH_ready (rs := [11]) (by kernel_rfl) (by simp) (AllReadyH.cons (by simp only [List.getElem?_toArray, List.getElem?_cons_succ, List.getElem?_cons_zero]; rfl) (fun K hK => ?s11) AllReadyH.nil)
            generalize ((((wr.setCell ⟨tb, 0, none⟩ V1).setCell ⟨tb, 0, none⟩ V2).setCell ⟨tb, 0, none⟩ V3).setCell ⟨tb, 0, none⟩ V4).drew = w9 at *
            clear HA4 HT4 C1 C2 C3 C4
            have v1 := HA9.out.s1
            have hrow0 : w9.ownsRow (b + 1) 54 4 (.slice A9 j c9) j (arcsCells xs) := by have := HA9.out.own; unfold OwnArcs at this; rwa [hj'] at this
            have hrow := Lib.hid hrow0
            have hbt := HA9.out.bt
            have hlb := HA9.out.lt
            have hrb : some b ≠ (Value.slice A9 j c9).ownBlock := fun e => own_base hrow0 (by omega) e.symm
            have hnt : Hid ((Value.slice A9 j c9).ownBlock ≠ some tb) := Lib.hid (own_base hrow0 (by omega))
            have hns : Hid ((Value.slice A9 j c9).ownBlock ≠ some sg) := Lib.hid (own_base hrow0 (by omega))
            clear hrow0
            have y0 : (w9.alloc (.cells #[.int .i64 x1, .int .i64 x2, .int .i64 x3, .int .i64 x4] 54)).cell? ⟨b, 1, none⟩ = some (.slice A9 j c9) := cellB ((Below.refl _ _).alloc (Nat.le_refl _) _) v1
            go_simp
            refine hK.out _ _ y0 (fun hHeld => ?_)
            clear hK K
            (try simp only [Act.put, List.setIfInBounds_toArray, List.set_cons_zero, List.set_cons_succ])
            refine wpAnyH_ready (rs := [12]) (by kernel_rfl) (by simp) (AllReadyH.cons (by simp only [List.getElem?_toArray, List.getElem?_cons_succ, List.getElem?_cons_zero]; rfl) (fun K hK => ?s12) AllReadyH.nil)
            refine step_app1 (by rfl) _ _ (by rfl) eltArc (b + 1) (.slice A9 j c9) j _ (by rfl) (hrow.out.alloc _) w9.heap.size #[.int .i64 x1, .int .i64 x2, .int .i64 x3, .int .i64 x4] (heap_alloc_new w9 _) (by rfl) (by rfl) (by simp [Value.oneCell']) (by omega) (by omega) (by simp; omega) ?_; intro g3 cap w8 ho8 hg8 hat8 hlt8; have z8 := hg8.cell hHeld hrb
            refine hK.out _ _ z8 (fun hHeld => ?_)
            clear hK K
            (try simp only [Act.put, List.setIfInBounds_toArray, List.set_cons_zero, List.set_cons_succ])
            refine wpAnyH_take (i := 13) (v := ?v13) (by simp only [List.getElem?_toArray, List.getElem?_cons_succ, List.getElem?_cons_zero]; rfl) (by kernel_rfl) (by kernel_rfl) (by kernel_rfl) (fun _ _ _ h => h) (Or.inl ⟨by rfl, ?h13⟩) hHeld ?r13
            case h13 => intro w hSw; (try dsimp only at hSw); go_simp; with_reducible rfl
            simp only [Act.put, List.setIfInBounds_toArray, List.set_cons_zero, List.set_cons_succ]
            refine wpAnyH_done (by kernel_rfl) ?_ _
            show Oper.wp _ _ _ _ _ _
            have hbA : Below w9.heap.size w9 (w9.alloc (.cells #[.int .i64 x1, .int .i64 x2, .int .i64 x3, .int .i64 x4] 54)) := (Below.refl _ _).alloc (Nat.le_refl _) _
            have hAN := HA9.out.keep hbA
            obtain ⟨f1, f2, f3⟩ := hAN.far hg8
            have hz := hAN.app ⟨x1, x2, x3, x4⟩ (by rw [hj']) hg8 ho8
            have hsz := hg8.size
            have ltw := HA9.out.mt.lt
            have tz := ((HT9.out.keep hbA).grownO hg8 hnt.out hns.out (by have := hbA.size; omega)).set b 1 (.slice (some ⟨g3, 0, none⟩) (j + 1) cap) (by omega) (by omega) (by have := hbA.size; omega)
            have HZ := Lib.hid hz; have TZ := Lib.hid tz
            clear hz tz hAN hbA
            go_simp
            refine NoPanic.normal ?_
            go_wp2_with fail
            go_roundw
            case rel => exact ⟨j + 1, _, _, _, _, _, by omega, by go_num, HAP, HZ.out, TZ.out, hy4⟩
            case measure => simp [intOf]; omega
          · have h0 := hT.keep (show Below wr.heap.size wr wr.drew from (Below.refl _ _).drew)
            have hA0 := hA.keep (show Below wr.heap.size wr wr.drew from (Below.refl _ _).drew)
            have hNN : ∀ m, machP l ≠ some (m, []) := HNS.out (HSN.out (manyP_none _ HA.out (arcP_none (by omega)) NA hlt2))
            have hd2 : ∀ ch a W, QP (w.heap.size) ch a (fun W => MT w W tb st sv vs ss) W → Leaves Tryz.prog Tryz.f20 a.tmps (MachP w tb l) a.defers (.panicking ch) W := by
              rintro ch a W ⟨rfl, h1, h2, h3, h4⟩
              rw [h1]; exact machine_door l hNN h4 _ h2 h3
            have HD := Lib.hid hd2
            clear hd2
            go_upto_region 9 with fail
            refine Code.wp_mono (Q := fun e a W => match e with | .panic ch => QP (w.heap.size) ch a (fun W => MT w W tb st sv vs ss) W | _ => False) (fun e a W hq => ?_) ?_
            · cases e <;> first | exact hq.elim | exact HD.out _ _ _ hq
            refine wp_region_held_drew (S := fun W => W.cell? ⟨b, 1, none⟩ = some (.slice A9 j c9)) (by kernel_rfl) s1 (fun hHeld => ?_)
            refine wpAnyH_take (i := 0) (v := ?v0p) (by simp only [List.getElem?_toArray, List.getElem?_cons_zero]; rfl) (by kernel_rfl) (by kernel_rfl) (by kernel_rfl) (by intro _ _ _ h; refine QP.put ?_ ?_ h <;> decide) (Or.inl ⟨by rfl, ?h0p⟩) hHeld ?r0p
            case h0p => intro w hSw; (try dsimp only at hSw); go_simp; with_reducible rfl
            simp only [Act.put, List.setIfInBounds_toArray, List.set_cons_zero, List.set_cons_succ]
            refine wpAnyH_take (i := 1) (v := ?v1p) (by simp only [List.getElem?_toArray, List.getElem?_cons_succ, List.getElem?_cons_zero]; rfl) (by kernel_rfl) (by kernel_rfl) (by kernel_rfl) (by intro _ _ _ h; refine QP.put ?_ ?_ h <;> decide) (Or.inl ⟨by rfl, ?h1p⟩) hHeld ?r1p
            case h1p => intro w hSw; (try dsimp only at hSw); go_simp; with_reducible rfl
            simp only [Act.put, List.setIfInBounds_toArray, List.set_cons_zero, List.set_cons_succ]
            refine wpAnyH_take (i := 2) (v := ?v2p) (by simp only [List.getElem?_toArray, List.getElem?_cons_succ, List.getElem?_cons_zero]; rfl) (by kernel_rfl) (by kernel_rfl) (by kernel_rfl) (by intro _ _ _ h; refine QP.put ?_ ?_ h <;> decide) (Or.inl ⟨by rfl, ?h2p⟩) hHeld ?r2p
            case h2p => intro w hSw; (try dsimp only at hSw); go_simp; with_reducible rfl
            simp only [Act.put, List.setIfInBounds_toArray, List.set_cons_zero, List.set_cons_succ]
            refine wpAnyH_take (i := 4) (v := ?v4p) (by simp only [List.getElem?_toArray, List.getElem?_cons_succ, List.getElem?_cons_zero]; rfl) (by kernel_rfl) (by kernel_rfl) (by kernel_rfl) (by intro _ _ _ h; refine QP.put ?_ ?_ h <;> decide) (Or.inl ⟨by rfl, ?h4p⟩) hHeld ?r4p
            case h4p => intro w hSw; (try dsimp only at hSw); go_simp; with_reducible rfl
            simp only [Act.put, List.setIfInBounds_toArray, List.set_cons_zero, List.set_cons_succ]
            refine wpAnyH_take (i := 6) (v := ?v6p) (by simp only [List.getElem?_toArray, List.getElem?_cons_succ, List.getElem?_cons_zero]; rfl) (by kernel_rfl) (by kernel_rfl) (by kernel_rfl) (by intro _ _ _ h; refine QP.put ?_ ?_ h <;> decide) (Or.inl ⟨by rfl, ?h6p⟩) hHeld ?r6p
            case h6p => intro w hSw; (try dsimp only at hSw); go_simp; with_reducible rfl
            simp only [Act.put, List.setIfInBounds_toArray, List.set_cons_zero, List.set_cons_succ]
            refine wpAnyH_take (i := 8) (v := ?v8p) (by simp only [List.getElem?_toArray, List.getElem?_cons_succ, List.getElem?_cons_zero]; rfl) (by kernel_rfl) (by kernel_rfl) (by kernel_rfl) (by intro _ _ _ h; refine QP.put ?_ ?_ h <;> decide) (Or.inl ⟨by rfl, ?h8p⟩) hHeld ?r8p
            case h8p => intro w hSw; (try dsimp only at hSw); go_simp; with_reducible rfl
            simp only [Act.put, List.setIfInBounds_toArray, List.set_cons_zero, List.set_cons_succ]
            refine wpAnyH_ready (rs := [3]) (by kernel_rfl) (by simp) (AllReadyH.cons (by simp only [List.getElem?_toArray, List.getElem?_cons_succ, List.getElem?_cons_zero]; rfl) (fun K hK => ?s3p) AllReadyH.nil)
            go_simp
            by_cases d1 : l''.length < 2
            · refine (take_short tb sg o'' c'' 2 l'' _ h0 (by omega) d1 (by omega)).mono ?_; rintro e wz ⟨rfl, rfl⟩
              exact ⟨rfl, rfl, rfl, rfl, hA0.mt⟩
            obtain ⟨x1, y1, V1, o5, c5, P1, -, -, hy1, T1, C1⟩ := h0.step 2 (by omega) (by omega) (by omega) hl''
            have e1 := takeP_len P1
            have hA1 := hA0.both V1
            have u1 := hA1.s1
            refine C1.out.mono ?_; rintro e wz ⟨rfl, rfl⟩
            go_wp2_with fail
            refine hK.out _ _ u1 (fun hHeld => ?_)
            clear hK K
            (try simp only [Act.put, List.setIfInBounds_toArray, List.set_cons_zero, List.set_cons_succ])
            refine wpAnyH_ready (rs := [5]) (by kernel_rfl) (by simp) (AllReadyH.cons (by simp only [List.getElem?_toArray, List.getElem?_cons_succ, List.getElem?_cons_zero]; rfl) (fun K hK => ?s5p) AllReadyH.nil)
            go_simp
            by_cases d2 : y1.length < 2
            · refine (take_short tb sg o5 c5 2 y1 _ T1 (by omega) d2 (by omega)).mono ?_; rintro e wz ⟨rfl, rfl⟩
              exact ⟨rfl, rfl, rfl, rfl, hA1.mt⟩
            obtain ⟨x2, y2, V2, o6, c6, P2, -, -, hy2, T2, C2⟩ := T1.step 2 (by omega) (by omega) (by omega) hy1
            have e2 := takeP_len P2
            have hA2 := hA1.both V2
            have u2 := hA2.s1
            refine C2.out.mono ?_; rintro e wz ⟨rfl, rfl⟩
            go_wp2_with fail
            refine hK.out _ _ u2 (fun hHeld => ?_)
            clear hK K
            (try simp only [Act.put, List.setIfInBounds_toArray, List.set_cons_zero, List.set_cons_succ])
            refine wpAnyH_ready (rs := [7]) (by kernel_rfl) (by simp) (AllReadyH.cons (by simp only [List.getElem?_toArray, List.getElem?_cons_succ, List.getElem?_cons_zero]; rfl) (fun K hK => ?s7p) AllReadyH.nil)
            go_simp
            by_cases d3 : y2.length < 4
            · refine (take_short tb sg o6 c6 4 y2 _ T2 (by omega) d3 (by omega)).mono ?_; rintro e wz ⟨rfl, rfl⟩
              exact ⟨rfl, rfl, rfl, rfl, hA2.mt⟩
            obtain ⟨x3, y3, V3, o7, c7, P3, -, -, hy3, T3, C3⟩ := T2.step 4 (by omega) (by omega) (by omega) hy2
            have e3 := takeP_len P3
            have hA3 := hA2.both V3
            have u3 := hA3.s1
            refine C3.out.mono ?_; rintro e wz ⟨rfl, rfl⟩
            go_wp2_with fail
            refine hK.out _ _ u3 (fun hHeld => ?_)
            clear hK K
            (try simp only [Act.put, List.setIfInBounds_toArray, List.set_cons_zero, List.set_cons_succ])
            refine wpAnyH_ready (rs := [9]) (by kernel_rfl) (by simp) (AllReadyH.cons (by simp only [List.getElem?_toArray, List.getElem?_cons_succ, List.getElem?_cons_zero]; rfl) (fun K hK => ?s9p) AllReadyH.nil)
            go_simp
            refine (take_short tb sg o7 c7 1 y3 _ T3 (by omega) (by omega) (by omega)).mono ?_; rintro e wz ⟨rfl, rfl⟩
            exact ⟨rfl, rfl, rfl, rfl, hA3.mt⟩
        · obtain rfl : j = NA := by omega
          have s0 := hA.s0; have s1 := hA.s1
          have hM := hA.mt
          have m1 := hM.m1; have fm := hM.f1
          have hbt := hA.bt
          have hlA := hA.lt
          obtain ⟨A8, c8, hsv, -, -⟩ := hM.form
          obtain ⟨A9, c9, hav, -, -⟩ := hA.form
          have hk' := manyP_len _ _ _ _ _ HS.out
          rw [hk'] at hsv
          subst hsv; subst hav
          have HM := Lib.hid hM; have HAT := Lib.hid hA; have HTT := Lib.hid hT
          have hrow0 := hM.own.row
          rw [hk'] at hrow0
          have hrow := Lib.hid hrow0
          have hnt := Lib.hid hM.fresh
          have hns : Hid ((Value.slice A8 k c8).ownBlock ≠ some sg) := Lib.hid (own_base hM.own.row (by omega))
          have hbase : w.heap.size + 2 ≤ wr.heap.size := hM.base
          have ltb2 := hM.tb
          clear hM hA hT hrow0
          go_wp2_with (at_builtin; refine wpList_app1 rfl _ _ rfl eltState (w.heap.size + 2) (.slice A8 k c8) k _ rfl wr hrow.out #[.int .i64 fin, .slice A9 xs.length c9] rfl wr.heap.size rfl rfl rfl (by simp [Value.oneCell']) (by omega) (by omega) hbase ?_; intro g4 cap w7 hown4 hg4 hat hlt4; obtain ⟨e1, e2, e3⟩ := HM.out.far hg4)
          have M7 := HM.out.app ⟨fin, xs⟩ (OwnArcs.mono (l := xs) HAT.out.own (by omega)) (by rw [hk']) hg4 hown4
          have T7 := (HTT.out.grownO hg4 hnt.out hns.out (by omega)).set w.heap.size 1 (.slice (some ⟨g4, 0, none⟩) (k + 1) cap) (by omega) (by omega) (Nat.lt_of_lt_of_le hsg (by have := hg4.size; omega))
          have HS7 : Hid (manyP stateP (k + 1) l2 = some (ss ++ [⟨fin, xs⟩], l'')) := Lib.hid (by
            unfold manyP; rw [HS.out]; simp only [Option.bind_some]; rw [HSP.out _ _ HA.out]; rfl)
          have HM7 := Lib.hid M7; have HT7 := Lib.hid T7
          clear M7 T7
          go_roundw
          case rel => exact ⟨k + 1, _, _, _, _, _, _, by omega, by go_num, HS7, HM7.out, HT7.out, hl''⟩
          case measure => simp [intOf]; omega
    · obtain rfl : k = N := by omega
      obtain ⟨A8, c8, hsv, -, -⟩ := hM.form
      have hk' := manyP_len _ _ _ _ _ HS.out
      subst hsv
      have m0 := hM.m0; have m1 := hM.m1; have k0 := hM.k0; have kf := hM.kf; have f0 := hM.f0; have f1 := hM.f1; have lt := hM.lt
      have kb := hT.blk.cell; have lb := hT.blk.lt
      have HM := Lib.hid hM; have HTT := Lib.hid hT
      clear hM hT
      have kb0 : wr.cell? ⟨tb, 0, none⟩ = some (.slice (some ⟨sg, o', none⟩) l'.length c') := by simpa using kb 0
      clear kb
      go_upto_region 13 with fail
      go_region
      go_wp2_with fail
      refine leaves_cons (f := 37) (args := #[.pointer (some ⟨w.heap.size + 1, 0, none⟩)]) (by simp) (by simp [go_sem]) ?_
      refine (guard_idle (w.heap.size + 1) _).mono ?_
      rintro e u' w'' ⟨rfl, rfl, rfl⟩
      have hke : (((l'.length : Int) == 0) = true) → l' = [] := fun h => List.eq_nil_of_length_eq_zero (by simpa using h)
      have hkn : (((l'.length : Int) == 0) = false) → l' ≠ [] := fun h e => by rw [e] at h; simp at h
      generalize ((l'.length : Int) == 0) = bb at *
      show ∃ v, _ ∧ MachP _ _ _ _ _
      refine ⟨.tuple #[.agg #[.int .i64 st, .slice A8 k c8], .bool bb], by simp [results, Tryz.results20, go_sem, *], st, A8, k, c8, bb, rfl, fun hb => ⟨_, HMP.out ss (by rw [HS.out, hke hb]), ?_⟩, fun hb => HNO.out fun ss' => by rw [HS.out]; intro e; injection e with e; injection e with _ e2; exact hkn hb e2, ?_⟩
      · have ho := ((HM.out.own.setCell (a := ⟨w.heap.size, 0, none⟩) (show w.heap.size < _ by omega) (.int .i64 st)).setCell (a := ⟨w.heap.size, 1, none⟩) (show w.heap.size < _ by omega) (.slice A8 ss.length c8)).setCell (a := ⟨w.heap.size + 1, 0, none⟩) (show w.heap.size + 1 < _ by omega) (.bool bb)
        rw [hk'] at ho
        exact ⟨_, rfl, vs, (ho.below ((Below.refl _ _).drew) (Nat.le_refl _)).mono (by omega)⟩
      · have hg := grown_new (grown_new (grown_new HM.out.grown w.heap.size 0 (by omega) (.int .i64 st)) w.heap.size 1 (by omega) (.slice A8 ss.length c8)) (w.heap.size + 1) 0 (by omega) (.bool bb)
        rw [hk'] at hg
        exact ⟨hg.os, hg.tape, hg.output, hg.size, hg.block⟩
end Go.Proofs.YtajbfhdkghofbaaGreatDoor
