/- weight.Show and weight.Read. -/
import Derived.Test.YtkmnacchiagipaaDoorDigits
import Derived.Test.YtkmnacchiagipaaDoorLayW
import Derived.Test.YtkmnacchiagipaaDoorPick
import Derived.Lib.SmallJoins
import Derived.Lib.AppendIntMem
import Derived.Lib.AtoiErrMem
import Derived.WalkKit
import Derived.IntWalk
import Derived.PlainAid
import Derived.Lib.LaidTab
import Derived.Stop.LaidErr
import Derived.Deep.DeepCutAuto
import Derived.Deep.CutBlock
namespace Go.Proofs.YtkmnacchiagipaaDoor
open Go.RowKit

/-- the table of powers of ten reads as it was laid -/
def TabP (W : World) : Prop := Lib.TabIs Tryd.prog W ((Rows.weightBackRow.laid.map (·.1)).getD 2 "") .u64 Lib.pow10Tab
theorem TabP.below {w w' : World} (h : TabP w) (hb : Below w.heap.size w w') : TabP w' := Go.Joins.tab_stays (g := 4) (by kernel_rfl) h hb (Nat.le_refl _)
theorem tabP_of {W : World} {a b : String × DataW Unit} {rest : List (String × DataW Unit)} (h : laidMet Tryd.prog (a :: b :: ((Rows.weightBackRow.laid.map (·.1)).getD 2 "", Rows.laid_internal_strconv_uint64pow10) :: rest) W) : TabP W :=
  Lib.tabIs_of_head (g := 4) (t := 275) (e := 226) (n := 20) (by kernel_rfl) (by kernel_rfl) Tryd.underlying275 Tryd.underlying226 (by kernel_rfl) (by kernel_rfl) h.tail.tail
theorem itoa_nat (n : Nat) : Lib.itoa (n : Int) = Lib.decDigits n := by
  unfold Lib.itoa; rw [if_neg (by omega)]; rfl
theorem itoa_any (n : Nat) (hn : n ≤ 9223372036854775807) (w : World) (ht : TabP w) : Calls Tryd.prog 33 #[.int .i64 n] w fun e w' => e = .returned (.string ⟨(Lib.decDigits n).toArray⟩) ∧ Below w.heap.size w w' :=
  (Any.strconv_Itoa Tryd.laysM171 (n : Int) (by omega) (by omega) w ht).mono (by
    rintro e w' ⟨rfl, k, os, rfl⟩
    rw [itoa_nat]
    exact ⟨rfl, Lib.below_grow _ _ (Nat.le_refl _) _ _⟩)
theorem trim_any (s : ByteArray) (hs : s.size ≤ 9223372036854775807) (w : World) : Calls Tryd.prog 34 #[.string s, .string ⟨#[48, 49, 50, 51, 52, 53, 54, 55, 56, 57]⟩] w fun e w' => e = .returned (.string ⟨(Lib.trimS s.data.toList digs).toArray⟩) ∧ Below w.heap.size w w' :=
  Any.strings_Trim_laid Tryd.lays160 (by kernel_rfl) s ⟨#[48, 49, 50, 51, 52, 53, 54, 55, 56, 57]⟩ w hs (by decide) (ascii_of_all (by decide))
theorem atoi_ok (s : ByteArray) (n : Int) (hl : s.size ≤ 18) (h : Lib.atoi s.data.toList = some n) (w : World) : Calls Tryd.prog 35 #[.string s] w fun e w' => e = .returned (.tuple #[.int .i64 n, .nilIface]) ∧ Below w.heap.size w w' :=
  (Any.strconv_Atoi Tryd.lays172 s n hl h w).mono (by
    rintro e w' ⟨rfl, t, rfl⟩
    exact ⟨rfl, Lib.bytesWorld_below _ _ _⟩)

theorem may_in (n : Int) (w : World) (h0 : 0 ≤ n) (h1 : n ≤ 1000000001) : Calls Tryd.prog 32 #[.int .i64 n] w fun e w' => e = .returned (.bool true) ∧ w = w' := by
  go_enter Tryd.func32, Tryd.ntmps32
  go_wp2
  go_ret
  exact ⟨rfl, rfl⟩
def infB : List UInt8 := [105, 110, 102]
def showL (n : Int) : List UInt8 := if n = 1000000001 then infB else Lib.decDigits n.toNat
set_option maxRecDepth 100000 in
theorem Show_any (n : Int) (h0 : 0 ≤ n) (h1 : n ≤ 1000000001) (w : World) (ht : TabP w) : Calls Tryd.prog 11 #[.int .i64 n] w fun e w' => e = .returned (.tuple #[.string ⟨(showL n).toArray⟩, .int .i64 0]) ∧ Below w.heap.size w w' := by
  by_cases hi : n = 1000000001
  · subst hi
    have e : (⟨(showL 1000000001).toArray⟩ : ByteArray) = ⟨#[105, 110, 102]⟩ := rfl
    rw [e]
    go_enter Tryd.func11, Tryd.ntmps11
    go_wp2_with (go_at_call 32; refine (may_in _ _ (by omega) (by omega)).mono ?_; rintro e w' ⟨rfl, rfl⟩)
    go_ret2
    exact ⟨rfl, Below.refl _ _⟩
  · obtain ⟨k, rfl⟩ : ∃ k : Nat, n = k := ⟨n.toNat, by omega⟩
    have e1 : ((k : Int) == 1000000001) = false := by simpa using hi
    have hs : showL k = Lib.decDigits k := by unfold showL; rw [if_neg hi]; rfl
    rw [hs]
    have IT := Lib.hid (fun W hb => itoa_any k (by omega) W (ht.below hb))
    clear hs hi ht
    go_enter Tryd.func11, Tryd.ntmps11
    go_wp2_with (go_at_call 32; refine (may_in _ _ (by omega) (by omega)).mono ?_; rintro e w' ⟨rfl, rfl⟩)
    refine (IT.out _ (Below.refl _ _)).mono ?_; rintro e w1 ⟨rfl, b1⟩
    go_wp2_with fail
    go_ret2
    exact ⟨rfl, b1⟩

/-- what Read answers -/
structure ReadR (l : List UInt8) (v er : Int) : Prop where
  bad : er ≠ 0 → v = 0 ∧ ∀ n, 0 ≤ n → n ≤ 1000000001 → l ≠ showL n
  good : er = 0 → (0 ≤ v ∧ v ≤ 1000000001) ∧ l = showL v
theorem showL_inj {n m : Int} (h0 : 0 ≤ n) (h2 : 0 ≤ m) (h : showL n = showL m) : n = m := by
  have key : ∀ k : Nat, infB ≠ Lib.decDigits k := fun k e => by
    have := dec_digs k 105 (by rw [← e]; simp [infB])
    unfold IsDig at this
    exact absurd this.2 (by decide)
  unfold showL at h
  split at h <;> split at h
  · omega
  · exact absurd h (key _)
  · exact absurd h.symm (key _)
  · have e := congrArg (Lib.decFrom 0) h
    rw [dec_from, dec_from] at e
    have := Option.some.inj e
    omega
set_option maxRecDepth 100000 in
set_option maxHeartbeats 2000000 in
theorem Read_any (s : ByteArray) (hs : s.size ≤ 9223372036854775807) (w : World) : Calls Tryd.prog 12 #[.string s] w fun e w' => ∃ v er, e = .returned (.tuple #[.int .i64 v, .int .i64 er]) ∧ ReadR s.data.toList v er ∧ Below w.heap.size w w' := by
  have htl : s.toList = s.data.toList := Lib.toList_data s
  have hsz : s.size = s.data.toList.length := Lib.size_eq s
  obtain ⟨t, ht, TR⟩ : ∃ t : ByteArray, t.toList = Lib.trimS s.data.toList digs ∧ Hid (∀ W, Calls Tryd.prog 34 #[.string s, .string ⟨#[48, 49, 50, 51, 52, 53, 54, 55, 56, 57]⟩] W fun e w' => e = .returned (.string t) ∧ Below W.heap.size W w') :=
    ⟨⟨(Lib.trimS s.data.toList digs).toArray⟩, by rw [Lib.toList_data], Lib.hid (fun W => trim_any s hs W)⟩
  have hshow : ∀ n, 0 ≤ n → n ≤ 1000000001 → (showL n).length ≤ 10 := fun n h0 h1 => by
    unfold showL
    split
    · simp [infB]
    · exact dec_len (k := 9) (by omega)
  have HSH := Lib.hid hshow
  have HTL := Lib.hid htl; have HT := Lib.hid ht
  clear hshow ht
  by_cases hi : s.data.toList = infB
  · have HR : Hid (ReadR s.data.toList 1000000001 0) := Lib.hid ⟨fun h => absurd rfl h, fun _ => ⟨by omega, hi⟩⟩
    have e1 : (s.toList == [105, 110, 102]) = true := by rw [htl, hi]; rfl
    clear hi htl hsz
    go_enter Tryd.func12, Tryd.ntmps12
    go_wp2
    go_ret2
    exact ⟨_, _, rfl, HR.out, Below.refl _ _⟩
  have e1 : (s.toList == [105, 110, 102]) = false := by rw [htl]; simpa [infB] using hi
  have HI := Lib.hid hi
  clear hi
  by_cases hl : 12 < s.size
  · have HR : Hid (ReadR s.data.toList 0 1) := Lib.hid ⟨fun _ => ⟨rfl, fun n h0 h1 e => by have := HSH.out n h0 h1; rw [← e] at this; omega⟩, fun h => absurd h (by decide)⟩
    have e2 : (12 : Int) < (s.size : Int) := by omega
    clear htl hsz
    go_enter Tryd.func12, Tryd.ntmps12
    go_wp2
    go_ret2
    exact ⟨_, _, rfl, HR.out, Below.refl _ _⟩
  have e2 : ¬ (12 : Int) < (s.size : Int) := by omega
  by_cases hn : s.data.toList = []
  · have HR : Hid (ReadR s.data.toList 0 3) := Lib.hid ⟨fun _ => ⟨rfl, fun n h0 h1 e => by
      rw [hn] at e
      unfold showL at e
      split at e
      · cases e
      · exact dec_ne _ e.symm⟩, fun h => absurd h (by decide)⟩
    have e3 : (s.toList == []) = true := by rw [htl, hn]; rfl
    clear htl hsz hn
    go_enter Tryd.func12, Tryd.ntmps12
    go_wp2
    go_ret2
    exact ⟨_, _, rfl, HR.out, Below.refl _ _⟩
  have e3 : (s.toList == []) = false := by rw [htl]; simpa using hn
  by_cases hd : ∀ b ∈ s.data.toList, IsDig b
  case neg =>
    have HR : Hid (ReadR s.data.toList 0 3) := Lib.hid ⟨fun _ => ⟨rfl, fun n h0 h1 e => by
      unfold showL at e
      split at e
      · exact HI.out e
      · rw [e] at hd; exact hd (dec_digs _)⟩, fun h => absurd h (by decide)⟩
    have e4 : (t.toList == []) = false := by rw [HT.out]; simpa using fun h => hd ((trim_digs _).1 h)
    clear htl hsz hn hd
    go_enter Tryd.func12, Tryd.ntmps12
    go_wp2_with (go_at_call 34; refine (TR.out _).mono ?_; rintro e w1 ⟨rfl, b1⟩)
    go_ret2
    exact ⟨_, _, rfl, HR.out, b1⟩
  have e4 : (t.toList == []) = true := by rw [HT.out, (trim_digs _).2 hd]; rfl
  have HD := Lib.hid hd
  clear hd
  have hpos : 0 < s.size := by rw [hsz]; exact List.length_pos_iff.2 hn
  have hbt := Go.PlainAid.get_bt s
  have hb0 : s.data.toList[0]? = some 48 ↔ Go.PlainAid.bt s 0 = 48 := by
    have h1 : s.data.toList[0]? = some (s[0]'hpos) := by
      rw [List.getElem?_eq_getElem (by rw [← hsz]; exact hpos)]; rfl
    rw [h1, ← hbt 0 hpos]
    constructor
    · intro h; rw [Option.some.inj h]; rfl
    · intro h
      have : (s[0]'hpos).toNat = (48 : UInt8).toNat := by
        have : (48 : UInt8).toNat = 48 := rfl
        omega
      rw [UInt8.toNat_inj.1 this]
  by_cases hz : s.data.toList[0]? = some 48 ∧ s.data.toList ≠ [48]
  · have HR : Hid (ReadR s.data.toList 0 3) := Lib.hid ⟨fun _ => ⟨rfl, fun n h0 h1 e => by
      unfold showL at e
      split at e
      · exact HI.out e
      · rw [e] at hz
        have := (dec_head _).1 hz.1
        rw [this] at hz
        exact hz.2 ((dec_small (u := 0) (by omega)).trans rfl)⟩, fun h => absurd h (by decide)⟩
    have e5 : (Go.PlainAid.bt s 0 == 48) = true := by rw [hb0.1 hz.1]; rfl
    have e6 : (s.toList == [48]) = false := by rw [htl]; simpa using hz.2
    clear htl hsz hn hb0 hz
    go_enter Tryd.func12, Tryd.ntmps12
    go_wp2_with (go_at_call 34; refine (TR.out _).mono ?_; rintro e w1 ⟨rfl, b1⟩)
    go_ret2
    exact ⟨_, _, rfl, HR.out, b1⟩
  have e56 : (Go.PlainAid.bt s 0 == 48) = false ∨ ((Go.PlainAid.bt s 0 == 48) = true ∧ (s.toList == [48]) = true) := by
    by_cases h : Go.PlainAid.bt s 0 = 48
    · right
      refine ⟨by rw [h]; rfl, ?_⟩
      rw [htl]
      have := Classical.not_and_iff_not_or_not.1 hz
      rcases this with h1 | h1
      · exact absurd (hb0.2 h) h1
      · simpa using h1
    · left; simpa using h
  obtain ⟨n, hf, -, hn2⟩ := from_some s.data.toList 0 HD.out
  have hat : Lib.atoi s.data.toList = some (n : Int) := by rw [atoi_digs hn HD.out, hf]; rfl
  have hlen : s.data.toList.length = (s.data.toList.length - 1) + 1 := by have := List.length_pos_iff.2 hn; omega
  have hcan : Lib.decDigits n = s.data.toList := (dec_canon _ _ hlen HD.out (fun h => by
    have := Classical.not_and_iff_not_or_not.1 hz
    rcases this with h1 | h1
    · exact absurd h h1
    · have h2 : s.data.toList = [48] := by simpa using h1
      rw [h2]; rfl) n hf).1
  have AT := Lib.hid (fun W => atoi_ok s n (by omega) hat W)
  have hnb : n < 10 ^ 12 := by
    have h1 : (0 + 1) * 10 ^ s.data.toList.length ≤ 10 ^ 12 := by rw [Nat.zero_add, Nat.one_mul]; exact Nat.pow_le_pow_right (by omega) (by omega)
    omega
  have HC := Lib.hid hcan
  clear hat hf hn2 hcan hb0 hlen
  by_cases hbig : 1000000000 < n
  · have HR : Hid (ReadR s.data.toList 0 4) := Lib.hid ⟨fun _ => ⟨rfl, fun m h0 h1 e => by
      rw [← HC.out] at e
      unfold showL at e
      split at e
      · have := HI.out; rw [← HC.out] at this; exact this e
      · have e2 := congrArg (Lib.decFrom 0) e
        rw [dec_from, dec_from] at e2
        have := Option.some.inj e2
        omega⟩, fun h => absurd h (by decide)⟩
    have e7 : (1000000000 : Int) < (n : Int) := by omega
    clear htl hsz hn hz
    rcases e56 with e5 | ⟨e5, e6⟩
    · go_enter Tryd.func12, Tryd.ntmps12
      go_wp2_with (first | (go_at_call 34; refine (TR.out _).mono ?_; rintro e w1 ⟨rfl, b1⟩) | (go_at_call 35; refine (AT.out _).mono ?_; rintro e w2 ⟨rfl, b2⟩))
      go_ret2
      exact ⟨_, _, rfl, HR.out, b1.trans (b2.mono b1.size)⟩
    · go_enter Tryd.func12, Tryd.ntmps12
      go_wp2_with (first | (go_at_call 34; refine (TR.out _).mono ?_; rintro e w1 ⟨rfl, b1⟩) | (go_at_call 35; refine (AT.out _).mono ?_; rintro e w2 ⟨rfl, b2⟩))
      go_ret2
      exact ⟨_, _, rfl, HR.out, b1.trans (b2.mono b1.size)⟩
  · have HR : Hid (ReadR s.data.toList (n : Int) 0) := Lib.hid ⟨fun h => absurd rfl h, fun _ => ⟨by omega, by
      unfold showL
      rw [if_neg (by omega)]
      exact HC.out.symm⟩⟩
    have e7 : ¬ (1000000000 : Int) < (n : Int) := by omega
    clear htl hsz hn hz
    rcases e56 with e5 | ⟨e5, e6⟩
    · go_enter Tryd.func12, Tryd.ntmps12
      go_wp2_with (first | (go_at_call 34; refine (TR.out _).mono ?_; rintro e w1 ⟨rfl, b1⟩) | (go_at_call 35; refine (AT.out _).mono ?_; rintro e w2 ⟨rfl, b2⟩))
      go_ret2
      exact ⟨_, _, rfl, HR.out, b1.trans (b2.mono b1.size)⟩
    · go_enter Tryd.func12, Tryd.ntmps12
      go_wp2_with (first | (go_at_call 34; refine (TR.out _).mono ?_; rintro e w1 ⟨rfl, b1⟩) | (go_at_call 35; refine (AT.out _).mono ?_; rintro e w2 ⟨rfl, b2⟩))
      go_ret2
      exact ⟨_, _, rfl, HR.out, b1.trans (b2.mono b1.size)⟩
end Go.Proofs.YtkmnacchiagipaaDoor
