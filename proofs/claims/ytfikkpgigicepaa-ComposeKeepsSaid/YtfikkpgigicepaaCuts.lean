/- Words cut; both. -/
import Derived.Test.YtfikkpgigicepaaCostMade
import Derived.Deep.RegionHeld3
import Derived.Deep.DeepCutAuto
import Derived.LoopTactic
import Derived.IntWalk
namespace Go.Proofs.Ytfikkpgigicepaa
open Go.RowKit

theorem rd_take {w : World} {A : Option Addr} {x : List Int} (h : Rd w A x.length 1 (icells x)) (i : Nat) (hi : i ≤ x.length) : Rd w A i 1 (icells (x.take i)) := by
  refine ⟨by simp; omega, fun h0 => h.rdy (by omega), fun j hj => ?_⟩
  simp at hj
  rw [h.cell j (by simp; omega)]
  simp
def loAddr (A : Option Addr) (c i : Nat) : Option Addr := if c = i then A else A.map (·.add (i * 1))
theorem rd_drop {w : World} {A : Option Addr} {x : List Int} (h : Rd w A x.length 1 (icells x)) (c i : Nat) (hc : x.length ≤ c) (hi : i ≤ x.length) : Rd w (loAddr A c i) (x.length - i) 1 (icells (x.drop i)) := by
  by_cases h0 : i < x.length
  · have hA := h.rdy (by omega)
    have e : loAddr A c i = some ⟨blk A, ofs A + i, none⟩ := by
      unfold loAddr
      rw [if_neg (by omega), hA]
      simp [addr_add, blk, ofs]
    rw [e]
    refine ⟨by simp, rdy_some _ _ _, fun j hj => ?_⟩
    simp at hj
    have := h.cell (i + j) (by simp; omega)
    simp only [blk_some, ofs_some, Nat.add_assoc]
    rw [this]
    simp
  · have e : x.length - i = 0 := by omega
    rw [e, List.drop_of_length_le (by omega)]
    exact Rd.nil _ _ _
set_option maxRecDepth 100000 in
theorem slice_hi (A : Option Addr) (n c i : Nat) (hi : i ≤ n) (hc : n ≤ c) (W : World) : (Instr.slice 25 (.slice A n c) none (some (.int .i64 i)) (some (.int .i64 i))).run Try.prog W = .ok (.slice A i i) W := by
  rw [run_slice_hm W _ _ _ _ Try.underlying25 _ _ _ _ (by omega) (by omega) (by omega), show Try.prog.elem 25 = 3 from by kernel_rfl, Try.sizeOf3]
  cases A with
  | none => simp [sliced]
  | some a => obtain ⟨b, o, s⟩ := a; simp [sliced, Addr.add]
set_option maxRecDepth 100000 in
theorem slice_lo (A : Option Addr) (n c i : Nat) (hi : i ≤ n) (W : World) : (Instr.slice 25 (.slice A n c) (some (.int .i64 i)) none none).run Try.prog W = .ok (.slice (loAddr A c i) (n - i) (c - i)) W := by
  rw [run_slice_l W _ _ _ _ Try.underlying25 _ _ (by omega) (by omega), show Try.prog.elem 25 = 3 from by kernel_rfl, Try.sizeOf3]
  simp [sliced, loAddr]

def bothV (c d : Int) : Int := if c = 1000000001 ∨ d = 1000000001 then 1000000001 else c + d
theorem both2_any (c d : Int) (w : World) (hc : 0 ≤ c ∧ c ≤ 1000000001) (hd : 0 ≤ d ∧ d ≤ 1000000001) : Calls Try.prog 22 #[.int .i64 c, .int .i64 d] w fun e w' => e = .returned (.int .i64 (bothV c d)) ∧ w = w' := by
  have hwr : IntKind.i64.wrap (c + d) = c + d := IntWalk.i64_in _ (by omega)
  unfold bothV
  by_cases h1 : c = 1000000001
  · have e1 : (c == 1000000001) = true := by simp [h1]
    rw [if_pos (.inl h1)]
    clear h1
    go_enter Try.func22, Try.ntmps22
    go_wp2_with fail
    go_ret
    exact ⟨rfl, rfl⟩
  · have e1 : (c == 1000000001) = false := by simpa using h1
    by_cases h2 : d = 1000000001
    · have e2 : (d == 1000000001) = true := by simp [h2]
      rw [if_pos (.inr h2)]
      clear h1 h2
      go_enter Try.func22, Try.ntmps22
      go_wp2_with fail
      go_ret
      exact ⟨rfl, rfl⟩
    · have e2 : (d == 1000000001) = false := by simpa using h2
      rw [if_neg (by omega)]
      clear h1 h2
      go_enter Try.func22, Try.ntmps22
      go_wp2_with fail
      go_ret
      exact ⟨rfl, rfl⟩

/-- the least of costs, with room for a sum of two -/
def BestB (T : Int → Prop) (r : Int) : Prop := (r = INF ∧ ∀ c, ¬ T c) ∨ (T r ∧ (∀ c, T c → r ≤ c) ∧ r ≤ 1000000000)
theorem Best.toB {T : Int → Prop} {r : Int} (h : Best T r) : BestB T r := h.imp id (fun ⟨h1, h2, h3⟩ => ⟨h1, h2, by omega⟩)
theorem BestB.eq {T : Int → Prop} {r r' : Int} (h : BestB T r) (h' : BestB T r') : r = r' := by
  rcases h with ⟨h1, h2⟩ | ⟨h1, h2, -⟩
  · rcases h' with ⟨k1, k2⟩ | ⟨k1, k2, -⟩
    · exact h1.trans k1.symm
    · exact absurd k1 (h2 _)
  · rcases h' with ⟨k1, k2⟩ | ⟨k1, k2, -⟩
    · exact absurd h1 (k2 _)
    · have := h2 _ k1; have := k2 _ h1; omega
theorem BestB.congr {T T' : Int → Prop} {r : Int} (h : BestB T r) (e : ∀ c, T c ↔ T' c) : BestB T' r := by
  rcases h with ⟨h1, h2⟩ | ⟨h1, h2, h3⟩
  · exact .inl ⟨h1, fun c hc => h2 c ((e c).2 hc)⟩
  · exact .inr ⟨(e _).1 h1, fun c hc => h2 c ((e c).2 hc), h3⟩
theorem BestB.le {T : Int → Prop} {r : Int} (h : BestB T r) : r ≤ 1000000001 := by
  rcases h with ⟨h1, _⟩ | ⟨_, _, h3⟩
  · rw [h1]; decide
  · omega
theorem Best.both {T1 T2 : Int → Prop} {c d : Int} (h1 : Best T1 c) (h2 : Best T2 d) : BestB (fun e => ∃ c1 c2, T1 c1 ∧ T2 c2 ∧ e = c1 + c2) (bothV c d) := by
  have hi : INF = 1000000001 := rfl
  unfold bothV
  rcases h1 with ⟨a1, a2⟩ | ⟨a1, a2, a3⟩
  · rw [if_pos (.inl (by omega))]
    exact .inl ⟨rfl, fun e ⟨c1, _, hc, _⟩ => a2 c1 hc⟩
  · rcases h2 with ⟨b1, b2⟩ | ⟨b1, b2, b3⟩
    · rw [if_pos (.inr (by omega))]
      exact .inl ⟨rfl, fun e ⟨_, c2, _, hc, _⟩ => b2 c2 hc⟩
    · rw [if_neg (by omega)]
      exact .inr ⟨⟨c, d, a1, b1, rfl⟩, fun e ⟨c1, c2, k1, k2, k3⟩ => by have := a2 c1 k1; have := b2 c2 k2; omega, by omega⟩
theorem BestB.or {T1 T2 : Int → Prop} {r1 r2 : Int} (h1 : BestB T1 r1) (h2 : BestB T2 r2) : BestB (fun c => T1 c ∨ T2 c) (min r1 r2) := by
  have hi : INF = 1000000001 := rfl
  rcases h1 with ⟨a1, a2⟩ | ⟨a1, a2, a3⟩
  · rcases h2 with ⟨b1, b2⟩ | ⟨b1, b2, b3⟩
    · left
      exact ⟨by omega, fun c hc => by rcases hc with h | h; exact a2 c h; exact b2 c h⟩
    · right
      have : min r1 r2 = r2 := by omega
      rw [this]
      exact ⟨.inr b1, fun c hc => by rcases hc with h | h; exact absurd h (a2 c); exact b2 c h, b3⟩
  · rcases h2 with ⟨b1, b2⟩ | ⟨b1, b2, b3⟩
    · right
      have : min r1 r2 = r1 := by omega
      rw [this]
      exact ⟨.inl a1, fun c hc => by rcases hc with h | h; exact a2 c h; exact absurd h (b2 c), a3⟩
    · right
      rcases Int.le_total r1 r2 with hh | hh
      · have : min r1 r2 = r1 := by omega
        rw [this]
        exact ⟨.inl a1, fun c hc => by rcases hc with h | h; exact a2 c h; have := b2 c h; omega, a3⟩
      · have : min r1 r2 = r2 := by omega
        rw [this]
        exact ⟨.inr b1, fun c hc => by rcases hc with h | h; have := a2 c h; omega; exact b2 c h, b3⟩
end Go.Proofs.Ytfikkpgigicepaa
