/- What ways from a place to an end cost. -/
import Derived.Test.YtphoioejhdjbaaaCost
namespace Go.Proofs.Ytphoioejhdjbaaa

/-- what ways from a place to an end cost -/
inductive Acc (m : MachL) (x y : List Int) (any : Bool) : Pl → Int → Prop
  | fin {p : Pl} : endsP x y any p = true → finalP m p ≠ INF → Acc m x y any p (finalP m p)
  | arc {p : Pl} {a : ArcL} {q : Pl} {c : Int} : a ∈ arcsP m p → nextP x y any p a = some q → Acc m x y any q c → Acc m x y any p (a.wt + c)
theorem acc_start {m : MachL} {x y : List Int} {any : Bool} {p : Pl} {d : Int} (h : RW m x y any p d) : ∀ c, Acc m x y any p c → 0 ≤ m.start ∧ Acc m x y any (m.start.toNat, 0, 0) (d + c) := by
  induction h with
  | start h0 => intro c hc; rw [Int.zero_add]; exact ⟨h0, hc⟩
  | step _ ha hn ih => intro c hc; rw [Int.add_assoc]; exact ih _ (.arc ha hn hc)
theorem acc_tot {m : MachL} {x y : List Int} {any : Bool} {p : Pl} {c : Int} (h : Acc m x y any p c) : ∀ d, RW m x y any p d → Tot m x y any (d + c) := by
  induction h with
  | fin he hf => intro d hr; exact ⟨_, d, hr, he, hf, rfl⟩
  | arc ha hn _ ih => intro d hr; rw [← Int.add_assoc]; exact ih _ (hr.step ha hn)
theorem tot_acc {m : MachL} {x y : List Int} {any : Bool} {c : Int} : Tot m x y any c ↔ 0 ≤ m.start ∧ Acc m x y any (m.start.toNat, 0, 0) c := by
  constructor
  · rintro ⟨p, d, hr, he, hf, rfl⟩
    exact acc_start hr _ (.fin he hf)
  · rintro ⟨h0, h⟩
    have := acc_tot h 0 (.start h0)
    rwa [Int.zero_add] at this

end Go.Proofs.Ytphoioejhdjbaaa
