/- Methods found through a pointer in an interface value. -/
import Derived.Test.YtndajklppipckaaSlices
namespace Go.Proofs.Ytndajklppipckaa
open Go.RowKit

theorem info_method {P : Program} {t : TypeId} {name : String} {f : FuncId} {pr : Bool} (h : (P.info? t).map (fun i => (i.methods.find? (·.name == name)).map (fun m => (m.path, m.func))) = some (some (#[], some (f, pr)))) : ∃ i m, P.info? t = some i ∧ i.methods.find? (·.name == name) = some m ∧ m.path = #[] ∧ m.func = some (f, pr) := by
  cases hi : P.info? t with
  | none => rw [hi] at h; cases h
  | some i =>
    rw [hi] at h
    simp only [Option.map_some, Option.some.injEq] at h
    cases hm : i.methods.find? (·.name == name) with
    | none => rw [hm] at h; cases h
    | some m =>
      rw [hm] at h
      simp only [Option.map_some, Option.some.injEq, Prod.mk.injEq] at h
      exact ⟨i, m, rfl, hm, h.1, h.2⟩
theorem run_wrapChk {P : Program} (w : World) (t u : TypeId) (a : Addr) (s m : ByteArray) : (Builtin.ssaWrapNilChk_ #[t] u #[.pointer (some a), .string s, .string m]).run P w = .ok (.pointer (some a)) w := rfl
/-- a method whose receiver is a value, through a pointer -/
theorem method_val {P : Program} {t el : TypeId} {name : String} {f : FuncId} (h : (P.info? t).map (fun i => (i.methods.find? (·.name == name)).map (fun m => (m.path, m.func))) = some (some (#[], some (f, false)))) (hu : P.underlying t = some (.pointer el))
    (fuel : Nat) {W : World} {a : Addr} {v : Value} (hl : (loadVar el a).run P W = .ok v W) : (method (fuel + 1) t (.pointer (some a)) name).run P W = .ok (f, v) W := by
  obtain ⟨i, m, h1, h2, h3, h4⟩ := info_method h
  rw [method]
  simp [typeInfo, h1, h2, h3, h4, follow, receiverAt, run_underlying hu]
  simp [Place.get, run_wrapChk, strVal, asAddr, hl]
/-- one whose receiver is the pointer -/
theorem method_ptr {P : Program} {t el : TypeId} {name : String} {f : FuncId} (h : (P.info? t).map (fun i => (i.methods.find? (·.name == name)).map (fun m => (m.path, m.func))) = some (some (#[], some (f, true)))) (hu : P.underlying t = some (.pointer el))
    (fuel : Nat) {W : World} {a : Addr} : (method (fuel + 1) t (.pointer (some a)) name).run P W = .ok (f, .pointer (some a)) W := by
  obtain ⟨i, m, h1, h2, h3, h4⟩ := info_method h
  rw [method]
  simp [typeInfo, h1, h2, h3, h4, follow, receiverAt, run_underlying hu]
  simp [Place.get]
end Go.Proofs.Ytndajklppipckaa
