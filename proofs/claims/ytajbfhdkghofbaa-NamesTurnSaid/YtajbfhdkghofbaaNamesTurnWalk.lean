/- The walk of NamesTurn. -/
import Derived.Test.YtajbfhdkghofbaaNamesFind
import Derived.Test.YtajbfhdkghofbaaNamesTable
namespace Go.Proofs.Ytajbfhdkghofbaa
open Go.RowKit

/-- what Find and Of answer -/
def FindOut (l : List NameL) (s : Str) (f er : Int) : Prop := (s ∈ l.map (·.text) ∧ er = 0) ∨ (s ∉ l.map (·.text) ∧ f = 0 ∧ er = 12)
def OfOut (l : List NameL) (n : Int) (u : Str) (er : Int) : Prop := (n ∈ l.map (·.label) ∧ er = 0) ∨ (n ∉ l.map (·.label) ∧ u = [] ∧ er = 12)
theorem Find_out (A : Option Addr) (l : List NameL) (c : Nat) (s : Str) (w : World) (hT : NamesAt w A l) (hok : NamesOk l) :
    Calls Try.prog 8 #[.slice A l.length c, strV s] w fun e w' => ∃ f er, e = .returned (.tuple #[.int .i64 f, .int .i64 er]) ∧ FindOut l s f er ∧ Below w.heap.size w w' := by
  by_cases h : s ∈ l.map (·.text)
  · obtain ⟨n, hn, rfl⟩ := List.mem_map.1 h
    obtain ⟨i, hi, rfl⟩ := List.getElem_of_mem hn
    exact (Find_yes A l c i w hT hok hi).mono fun _ _ ⟨h1, h2⟩ => ⟨_, _, h1, .inl ⟨h, rfl⟩, h2⟩
  · exact (Find_no A l c s w hT hok h).mono fun _ _ ⟨h1, h2⟩ => ⟨_, _, h1, .inr ⟨h, rfl, rfl⟩, h2⟩
theorem Of_out (A : Option Addr) (l : List NameL) (c : Nat) (s : Int) (w : World) (hT : NamesAt w A l) (hok : NamesOk l) :
    Calls Try.prog 9 #[.slice A l.length c, .int .i64 s] w fun e w' => ∃ u er, e = .returned (.tuple #[strV u, .int .i64 er]) ∧ OfOut l s u er ∧ Below w.heap.size w w' := by
  by_cases h : s ∈ l.map (·.label)
  · obtain ⟨n, hn, rfl⟩ := List.mem_map.1 h
    obtain ⟨i, hi, rfl⟩ := List.getElem_of_mem hn
    exact (Of_yes A l c i w hT hok hi).mono fun _ _ ⟨h1, h2⟩ => ⟨_, _, h1, .inl ⟨h, rfl⟩, h2⟩
  · exact (Of_no A l c s w hT hok h).mono fun _ _ ⟨h1, h2⟩ => ⟨_, _, h1, .inr ⟨h, rfl, rfl⟩, h2⟩
/-- has one of the first k keys been met? -/
def hadK {α : Type} [DecidableEq α] (ks : List α) (x : α) (k : Nat) : Bool := decide (x ∈ ks.take k)
theorem hadK_zero {α : Type} [DecidableEq α] (ks : List α) (x : α) : hadK ks x 0 = false := by simp [hadK]
theorem hadK_yes {α : Type} [DecidableEq α] {ks : List α} {x : α} {k : Nat} (h : k < ks.length) (e : ks[k] = x) : hadK ks x (k + 1) = true := by
  unfold hadK; rw [List.take_succ_eq_append_getElem h]; simp [e]
theorem hadK_no {α : Type} [DecidableEq α] {ks : List α} {x : α} {k : Nat} (h : k < ks.length) (e : ks[k] ≠ x) : hadK ks x (k + 1) = hadK ks x k := by
  unfold hadK
  rw [decide_eq_decide, List.take_succ_eq_append_getElem h, List.mem_append]
  exact ⟨fun hx => hx.resolve_right fun hm => e (List.mem_singleton.1 hm).symm, .inl⟩
theorem hadK_keep {α : Type} [DecidableEq α] {ks : List α} {x : α} {k : Nat} (h : hadK ks x k = true) : hadK ks x (k + 1) = true := by
  unfold hadK at *
  simp only [decide_eq_true_eq] at *
  exact (List.take_subset_take_left _ (by omega)) h
theorem hadK_all {α : Type} [DecidableEq α] (ks : List α) (x : α) (k : Nat) (h : k = ks.length) : hadK ks x k = true ↔ x ∈ ks := by unfold hadK; rw [h, List.take_length, decide_eq_true_iff]

namespace namesTurn
set_option maxRecDepth 100000 in
set_option maxHeartbeats 8000000 in
theorem walk {w : World} (A1 : Option Addr) (n1 k1 : Nat) (xs : List Int) (hx : IntArg w A1 n1 xs) (at_ : Int) (hat : (Lit.int .i64 at_).wf = true) (sb : ByteArray) (_hs : sb.size ≤ 9223372036854775807) (lab : Int) (_hlab : (Lit.int .i64 lab).wf = true) :
    Calls Try.prog 4 #[.slice A1 n1 k1, .int .i64 at_, .string sb, .int .i64 lab] w fun e w' => e = .returned (.bool true) ∧ Below w.heap.size w w' := by
  obtain ⟨a1, a2⟩ := wf_i64 hat
  have HTB := Lib.hid (table_names A1 n1 k1 xs w hx)
  have HOK := Lib.hid (tab_ok xs)
  have hlen := (tab_ok xs).len
  obtain ⟨s, hs⟩ : ∃ s : Str, sb = ⟨s.toArray⟩ := ⟨sb.data.toList, rfl⟩
  have HSB := Lib.hid hs
  have HSL : Hid (sb.toList = s) := Lib.hid (by rw [hs, Lib.toList_data])
  generalize tabL xs = l at *
  have HF := Lib.hid (fun A c W h => Find_out A l c s W h HOK.out)
  rw [show strV s = Value.string sb by rw [hs]] at HF
  have HO := Lib.hid (fun A c n W h => Of_out A l c n W h HOK.out)
  clear hx hs hat
  go_enter Try.func4, Try.ntmps4
  go_wp2_with fail
  refine HTB.out.mono ?_; rintro e w1 ⟨v, rfl, hO1, b1⟩
  obtain ⟨A, c, rfl, -, -⟩ := own_form hO1
  have HT := Lib.hid (NamesAt.of_own hO1)
  have rd := HT.out.rdy
  clear hO1 HTB
  go_wp2_with fail
  refine (HF.out A c w1 HT.out).mono ?_; rintro e w2 ⟨f, er, rfl, hfo, b2⟩
  have HFO := Lib.hid hfo
  replace HT := Lib.hid (HT.out.below b2 (Nat.le_refl _))
  clear hfo
  go_wp2_with fail
  refine (HO.out A c lab w2 HT.out).mono ?_; rintro e w3 ⟨u, er2, rfl, hoo, b3⟩
  have HOO := Lib.hid hoo
  replace HT := Lib.hid (HT.out.below b3 (Nat.le_refl _))
  have bw := (b1.trans (b2.mono b1.size)).trans (b3.mono (Nat.le_trans b1.size b2.size))
  have HBW := Lib.hid bw
  clear hoo b1 b2 b3 bw
  go_upto_region 7 with fail
  obtain ⟨N, hN⟩ : ∃ N, l.length = N := ⟨_, rfl⟩
  have HN := Lib.hid hN
  rw [hN] at rd hlen
  rw [hN]
  clear hN
  go_loopw [14, 15, 16] (fun kv nv iv wr => ∃ k : Nat, k ≤ N ∧ iv = .int .i64 k ∧ kv = .bool (hadK (l.map (·.text)) s k) ∧ nv = .bool (hadK (l.map (·.label)) lab k) ∧ wr = w3) (fun _ _ iv _ => N - (intOf iv).toNat)
  case atStart => exact ⟨0, by omega, rfl, by rw [hadK_zero], by rw [hadK_zero], rfl⟩
  case round =>
    obtain ⟨k, hk, rfl, rfl, rfl, rfl⟩ := hrel
    have i0 : (0 : Int) ≤ (k : Int) := by omega
    by_cases hlt : k < N
    · have i1 : (k : Int) < (N : Int) := by omega
      have hkl : k < l.length := by rw [HN.out]; exact hlt
      have d0 := HT.out.c0 k hkl; have d1 := HT.out.c1 k hkl
      have e1 : (l.map (·.text))[k]'(by simpa using hkl) = l[k].text := by simp
      have e2 : (l.map (·.label))[k]'(by simpa using hkl) = l[k].label := by simp
      have HYT := Lib.hid (fun (h : l[k].text = s) => hadK_yes (ks := l.map (·.text)) (x := s) (k := k) (by simpa using hkl) (e1.trans h))
      have HNT := Lib.hid (fun (h : l[k].text ≠ s) => hadK_no (ks := l.map (·.text)) (x := s) (k := k) (by simpa using hkl) (by rw [e1]; exact h))
      have HKT := Lib.hid (fun h => hadK_keep (ks := l.map (·.text)) (x := s) (k := k) h)
      have HYL := Lib.hid (fun (h : l[k].label = lab) => hadK_yes (ks := l.map (·.label)) (x := lab) (k := k) (by simpa using hkl) (e2.trans h))
      have HNL := Lib.hid (fun (h : l[k].label ≠ lab) => hadK_no (ks := l.map (·.label)) (x := lab) (k := k) (by simpa using hkl) (by rw [e2]; exact h))
      have HKL := Lib.hid (fun h => hadK_keep (ks := l.map (·.label)) (x := lab) (k := k) h)
      obtain ⟨tb, htb⟩ : ∃ tb : ByteArray, (⟨l[k].text.toArray⟩ : ByteArray) = tb := ⟨_, rfl⟩
      have hteq : tb.toList = l[k].text := by rw [← htb, Lib.toList_data]
      rw [show strV l[k].text = Value.string tb by rw [← htb]] at d0
      have HTE := Lib.hid hteq
      clear e1 e2 htb hteq
      generalize l[k].text = tx at *
      generalize l[k].label = lb at *
      obtain ⟨h1', hh1⟩ : ∃ b, hadK (l.map (·.text)) s (k + 1) = b := ⟨_, rfl⟩
      obtain ⟨h2', hh2⟩ : ∃ b, hadK (l.map (·.label)) lab (k + 1) = b := ⟨_, rfl⟩
      rw [hh1] at HYT HNT HKT
      rw [hh2] at HYL HNL HKL
      have HH1 := Lib.hid hh1; have HH2 := Lib.hid hh2
      clear hh1 hh2
      generalize hadK (l.map (·.text)) s k = h1 at *
      generalize hadK (l.map (·.label)) lab k = h2 at *
      have lA := World.block_lt_of_cell? _ _ d0
      have HA1 : Hid (h1' = (h1 || (tb.toList == sb.toList))) := Lib.hid (by
        rw [HTE.out, HSL.out]
        by_cases e : tx = s
        · rw [HYT.out e]; simp [e]
        · cases h1 with
          | true => rw [HKT.out rfl]; rfl
          | false => rw [HNT.out e]; simp [e])
      have HA2 : Hid (h2' = (h2 || (lb == lab))) := Lib.hid (by
        by_cases e : lb = lab
        · rw [HYL.out e]; simp [e]
        · cases h2 with
          | true => rw [HKL.out rfl]; rfl
          | false => rw [HNL.out e]; simp [e])
      clear HYT HNT HKT HYL HNL HKL HTE
      cases h1 with
      | true =>
        cases h2 with
        | true =>
          go_wp2_with fail
          go_roundw
          case rel => exact ⟨k + 1, by omega, by go_num, by rw [HH1.out, HA1.out]; rfl, by rw [HH2.out, HA2.out]; rfl, by trivial⟩
          case measure => simp [intOf]; omega
        | false =>
          go_wp2_with fail
          go_roundw
          case rel => exact ⟨k + 1, by omega, by go_num, by rw [HH1.out, HA1.out]; rfl, by rw [HH2.out, HA2.out]; simp, by trivial⟩
          case measure => simp [intOf]; omega
      | false =>
        cases h2 with
        | true =>
          go_wp2_with fail
          go_roundw
          case rel => exact ⟨k + 1, by omega, by go_num, by rw [HH1.out, HA1.out]; simp, by rw [HH2.out, HA2.out]; rfl, by trivial⟩
          case measure => simp [intOf]; omega
        | false =>
          go_wp2_with fail
          go_roundw
          case rel => exact ⟨k + 1, by omega, by go_num, by rw [HH1.out, HA1.out]; simp, by rw [HH2.out, HA2.out]; simp, by trivial⟩
          case measure => simp [intOf]; omega
    · obtain rfl : k = N := by omega
      have hka := hadK_all (l.map (·.text)) s k (by simp [HN.out])
      have hkb := hadK_all (l.map (·.label)) lab k (by simp [HN.out])
      obtain ⟨q1, hq1⟩ : ∃ b, hadK (l.map (·.text)) s k = b := ⟨_, rfl⟩
      obtain ⟨q2, hq2⟩ : ∃ b, hadK (l.map (·.label)) lab k = b := ⟨_, rfl⟩
      rw [hq1, hq2]
      rw [hq1] at hka; rw [hq2] at hkb
      have HQ1 := Lib.hid hka; have HQ2 := Lib.hid hkb
      clear hka hkb i0 hlt hk hq1 hq2
      obtain ⟨w4, hw4⟩ : ∃ x : World, wr = x := ⟨_, rfl⟩
      subst hw4
      have HYF := Lib.hid (fun A c i W (h : NamesAt W A l) (hi : i < l.length) => Find_yes A l c i W h HOK.out hi)
      have HYO := Lib.hid (fun A c i W (h : NamesAt W A l) (hi : i < l.length) => Of_yes A l c i W h HOK.out hi)
      have HPK := Lib.hid (fun W (h : 1 ≤ k) => picked_any at_ k W a1 a2 (by omega) (by omega))
      have hp0 := fun (h : 1 ≤ k) => pick_lo at_ (k : Int) (by omega); have hp1 := fun (h : 1 ≤ k) => pick_hi at_ (k : Int) (by omega)
      have HP := Lib.hid (And.intro hp0 hp1)
      clear hp0 hp1
      by_cases hk0 : k = 0
      · subst hk0
        have hl0 : l = [] := List.eq_nil_of_length_eq_zero HN.out
        subst hl0
        have h1 : er = 12 := by rcases HFO.out with ⟨h, _⟩ | ⟨_, _, h⟩; cases h; exact h
        have h2 : f = 0 := by rcases HFO.out with ⟨h, _⟩ | ⟨_, h, _⟩; cases h; exact h
        have h3 : er2 = 12 := by rcases HOO.out with ⟨h, _⟩ | ⟨_, _, h⟩; cases h; exact h
        have h4 : u = [] := by rcases HOO.out with ⟨h, _⟩ | ⟨_, h, _⟩; cases h; exact h
        have h5 : q1 = false := by
          cases q1 with
          | false => rfl
          | true => cases HQ1.out.1 rfl
        have h6 : q2 = false := by
          cases q2 with
          | false => rfl
          | true => cases HQ2.out.1 rfl
        subst h1; subst h2; subst h3; subst h4; subst h5; subst h6
        clear HFO HOO HQ1 HQ2
        go_wp2_with fail
        go_ret
        exact ⟨by rfl, HBW.out⟩
      · have hk1 : 1 ≤ k := by omega
        have e9 : ((k : Int) == 0) = false := by simp; omega
        obtain ⟨hp0, hp1⟩ := HP.out
        replace hp0 := hp0 hk1; replace hp1 := hp1 hk1
        have HPC := Lib.hid (fun W => HPK.out W hk1)
        obtain ⟨i, hi⟩ : ∃ i : Nat, pick at_ (k : Int) = i := ⟨(pick at_ k).toNat, by omega⟩
        rw [hi] at HPC hp0 hp1
        have hik : i < l.length := by rw [HN.out]; omega
        have d0 := HT.out.c0 i hik; have d1 := HT.out.c1 i hik
        have HYF2 := Lib.hid (fun A c W (h : NamesAt W A l) => HYF.out A c i W h hik)
        have HYO2 := Lib.hid (fun A c W (h : NamesAt W A l) => HYO.out A c i W h hik)
        rw [HN.out] at HYF2 HYO2
        clear HYF HYO HPK HP hi hk0
        generalize l[i] = x at *
        clear hik
        have lA := World.block_lt_of_cell? _ _ d0
        have HKN : Hid ((q1 = true ∧ er = 0) ∨ (q1 = false ∧ f = 0 ∧ er = 12)) := Lib.hid (by
          rcases HFO.out with ⟨h, h2⟩ | ⟨h, h2, h3⟩
          · exact .inl ⟨HQ1.out.2 h, h2⟩
          · exact .inr ⟨by cases q1 with
              | false => rfl
              | true => exact absurd (HQ1.out.1 rfl) h, h2, h3⟩)
        have HKO : Hid ((q2 = true ∧ er2 = 0) ∨ (q2 = false ∧ u = [] ∧ er2 = 12)) := Lib.hid (by
          rcases HOO.out with ⟨h, h2⟩ | ⟨h, h2, h3⟩
          · exact .inl ⟨HQ2.out.2 h, h2⟩
          · exact .inr ⟨by cases q2 with
              | false => rfl
              | true => exact absurd (HQ2.out.1 rfl) h, h2, h3⟩)
        clear HFO HOO HQ1 HQ2
        have hkn := HKN.out; have hko := HKO.out
        clear HKN HKO
        rcases hkn with ⟨rfl, rfl⟩ | ⟨rfl, rfl, rfl⟩ <;> rcases hko with ⟨rfl, rfl⟩ | ⟨rfl, rfl, rfl⟩
        all_goals
          go_wp2_with fail
          refine (HPC.out _).mono ?_; rintro e w_ ⟨rfl, rfl⟩
          go_upto_region 16 with fail
          have bx : Below wr.heap.size wr (wr.alloc (.cells #[strV x.text, .int .i64 x.label] 40)) := (by repeat' (first | exact Below.refl _ _ | assumption | refine Below.drew ?_ | refine Below.alloc ?_ (by first | omega | (simp; done) | (simp; omega)) _ | refine Below.setCell ?_ (by first | omega | (simp; done) | (simp; omega)) _))
          have BX : Hid (Blk (wr.alloc (.cells #[strV x.text, .int .i64 x.label] 40)) wr.heap.size #[strV x.text, .int .i64 x.label] 40) := Lib.hid (Blk.new _ _ _)
          have HT5 := Lib.hid (HT.out.below bx (Nat.le_refl _))
          have HB5 := Lib.hid (HBW.out.trans (bx.mono HBW.out.size))
          clear bx d0 d1 lA
          generalize wr.alloc (.cells #[strV x.text, .int .i64 x.label] 40) = w5 at *
          generalize wr.heap.size = gx at *
          have kx := BX.out.cell; have lx := BX.out.lt
          go_wp2_with fail
          refine (HYF2.out A c w5 HT5.out).mono ?_; rintro e w6 ⟨rfl, b6⟩
          have HT6 := Lib.hid (HT5.out.below b6 (Nat.le_refl _))
          have BX6 := Lib.hid (BX.out.step b6)
          have HB6 := Lib.hid (HB5.out.trans (b6.mono HB5.out.size))
          clear b6 kx lx BX HT5 HB5
          have kx := BX6.out.cell; have lx := BX6.out.lt
          go_wp2_with fail
          refine (HYO2.out A c w6 HT6.out).mono ?_; rintro e w7 ⟨rfl, b7⟩
          have BX7 := Lib.hid (BX6.out.step b7)
          have HB7 := Lib.hid (HB6.out.trans (b7.mono HB6.out.size))
          clear b7 kx lx BX6 HT6 HB6
          have kx := BX7.out.cell; have lx := BX7.out.lt
          go_wp2_with fail
          go_ret
          exact ⟨by first | rfl | simp, HB7.out⟩
end namesTurn
end Go.Proofs.Ytajbfhdkghofbaa
