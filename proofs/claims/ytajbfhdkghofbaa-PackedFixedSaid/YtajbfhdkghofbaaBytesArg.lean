/- An argument that is a slice of bytes, opened; append of a slice of bytes of any length to nil. -/
import Derived.Test.YtajbfhdkghofbaaPackPlain
import Derived.Test.YtajbfhdkghofbaaPick
import Derived.ProofKit
import Derived.OpenShut
import Derived.SizedLaws
namespace Go.Proofs.Ytajbfhdkghofbaa
open Go.ChangeShapes Go.WideShapes Go.ChangeAt Go.RowKit

/-- what a walk is told of a slice of bytes that came in -/
def BytesArg (w : World) (A : Option Addr) (n : Nat) (xs : List Int) : Prop :=
  xs.length = n ∧ n ≤ 140737488355328 ∧ (n = 0 ∨ ∃ b off, A = some ⟨b, off, none⟩ ∧ ∀ i, i < n → w.cell? ⟨b, off + i, none⟩ = some (.int .u8 (xs.getD i 0))) ∧ BOk xs

theorem wf_byte {a : Int} (h : (Lit.int .u8 a).wf = true) : 0 ≤ a ∧ a < 256 := by
  have : 0 ≤ a ∧ a ≤ 255 := by simpa [Lit.wf, IntKind.min, IntKind.max, IntKind.signed, IntKind.bits] using h
  omega
theorem bytesByte : Try.prog.bytesOf 5 = 1 := by kernel_rfl

set_option maxRecDepth 100000 in
theorem open_bytes_arg {H : Type} {enc : TypeId × Value → H} {W : World} {base : Nat} {v : Value} {d : DataW H} {p : List MemPlace}
    (hv : Value.okWide Try.prog W .any base 22 v) (h : DataW.Trod enc Try.prog W 0 (fun _ => true) true 22 v d p)
    (hsz : ∀ elems spare, d = .slice elems spare → (elems.length + spare.length) * Try.prog.bytesOf 5 ≤ reachBytes) :
    ∃ A n c xs, v = .slice A n c ∧ BytesArg W A n xs := by
  obtain ⟨A, n, c, rfl⟩ := okWide_slice Try.underlying22 hv
  obtain ⟨fuel, hf⟩ := h
  rcases open_ints Try.underlying22 Try.underlying5 (by kernel_rfl) hf with ⟨hcs, _⟩ | ⟨x, l, c', zs, hcs, _, hl, hm, hz, hx, hcell, hwz⟩
  · simp [Value.cells] at hcs
    obtain ⟨rfl, rfl, rfl⟩ := hcs
    exact ⟨none, 0, 0, [], rfl, rfl, by omega, .inl rfl, fun i hi => by simp at hi⟩
  · simp [Value.cells] at hcs
    obtain ⟨rfl, rfl, rfl⟩ := hcs
    simp at hz
    simp only [Prod.mk.injEq] at hx
    have hr := hsz _ _ hx.1
    rw [bytesByte, Nat.mul_one] at hr
    have hlz : (lits (H := H) .u8 (zs.take n)).length = n := by simp [lits]; omega
    have hrb := reachBytes_lt
    have h47 : (2 : Nat) ^ 47 = 140737488355328 := rfl
    have htake : ∀ i, (zs.take n).getD i 0 = if i < n then zs.getD i 0 else 0 := by
      intro i
      simp only [List.getD, List.getElem?_take]
      split <;> simp
    refine ⟨some x, n, c, zs.take n, rfl, by simp; omega, by omega, ?_, fun u hu => wf_byte (hwz u (List.mem_of_mem_take hu))⟩
    by_cases hn : n = 0
    · exact .inl hn
    · right
      obtain ⟨b, off, spot⟩ := x
      have h0 := hcell 0 (by omega)
      have hspot : spot = none := by simpa [Addr.add] using World.cell?_spot h0
      subst hspot
      refine ⟨b, off, rfl, fun i hi => ?_⟩
      have hi' := hcell i (by omega)
      rw [htake, if_pos hi]
      rw [← hi']
      congr 1
      unfold Addr.add
      split
      · subst_vars; rfl
      · rfl

theorem BytesArg.rd {w : World} {A : Option Addr} {n : Nat} {xs : List Int} (h : BytesArg w A n xs) : Rd w A n 1 (ucells xs) := by
  obtain ⟨hl, _, h, _⟩ := h
  refine ⟨by simp [ucells]; omega, fun hn => ?_, fun j hj => ?_⟩
  · rcases h with h | ⟨b, off, rfl, _⟩
    · omega
    · exact rdy_some _ _ _ hn
  · have hj2 : j < n := by simp [ucells] at hj; omega
    rcases h with h | ⟨b, off, rfl, hc⟩
    · omega
    · simp only [blk_some, ofs_some]
      rw [hc j hj2]
      simp [ucells, List.getD, List.getElem?_eq_getElem (show j < xs.length by omega)]

/-- append(nil, b..) -/
theorem run_copy (w : World) (ty : TypeId) (A : Option Addr) (m c : Nat) (xs : List Int) (h : BytesArg w A m xs) :
    ∃ v' w', (Builtin.append_ #[22, 22] ty #[.slice none 0 0, .slice A m c]).run Try.prog w = .ok v' w' ∧ w'.ownsRow w.heap.size 5 1 v' m (ucells xs) ∧ w.grownBy w' none := by
  have hr := h.rd
  have hm47 := h.2.1
  have h1 : ∀ u ∈ ucells xs, u.oneCell' = true := by simp [ucells, Value.oneCell']
  by_cases hm : m ≤ 1000000
  · obtain ⟨v', w', e1, e2, e3, _⟩ := run_appR w eltByte ty w.heap.size (.slice none 0 0) 0 [] (World.ownsRow_nil _ _ _ _) A m c (ucells xs) hr h1 (by omega) (by omega) (Nat.le_refl _)
    exact ⟨v', w', e1, by simpa using e2, e3⟩
  · obtain ⟨i, hi, hz0, hz1, hz2⟩ := info_parts eltByte.info
    obtain ⟨hl, _, h2, _⟩ := h
    rcases h2 with h2 | ⟨b, off, rfl, hc⟩
    · omega
    · have hcells : ∀ j u, (ucells xs)[j]? = some u → w.cell? ((⟨b, off, none⟩ : Addr).add j) = some u := by
        intro j u hu
        have hj : j < (ucells xs).length := by
          rcases Nat.lt_or_ge j (ucells xs).length with h | h
          · exact h
          · rw [List.getElem?_eq_none h] at hu; cases hu
        have hcj := hr.cell j hj
        simp only [blk_some, ofs_some] at hcj
        rw [addr_add]
        rw [List.getElem?_eq_getElem hj] at hu
        rw [← hu]
        exact hcj
      obtain ⟨v', w', hrun, h3, h4, _, h5⟩ := run_append_own_at (P := Try.prog) w w.heap.size 22 ty 5 i (.int .u8 0) 1 1 eltByte.ht hi hz0 hz1 hz2 eltByte.hz eltByte.pos (.slice none 0 0) 0 [] (World.ownsRow_nil _ _ _ _) ⟨b, off, none⟩ m c (ucells xs) hr.len hcells h1 (by simp only [maxLen]; omega) (by omega) (Nat.le_refl _)
      exact ⟨v', w', hrun, by simpa using h3, h4⟩
theorem wpList_copy {w : World} {ops : Array Oper} {rest : List Oper} {o : Oper} {a : Act} {Q : Exit → Act → World → Prop} (hgd : o.guard = none) (s x : Operand) (ho : o.op = .call { callee := .builtin .append, args := #[s, x], argTypes := #[22, 22] })
    (hs : a.eval s = .slice none 0 0) (A : Option Addr) (m c : Nat) (xs : List Int) (hx : a.eval x = .slice A m c) (hA : BytesArg w A m xs)
    (h : ∀ v' w', w'.ownsRow w.heap.size 5 1 v' m (ucells xs) → w.grownBy w' none → wpList Try.prog ops Q rest (a.put o.dst v') w') : wpList Try.prog ops Q (o :: rest) a w :=
  wpList_plain hgd fun _ hK => by
    obtain ⟨v', w', hrun, h2, h3⟩ := run_copy w o.type A m c xs hA
    unfold Oper.wp execOp
    simp only [ho, resolve, invoke, builtin, Sem.run_bind, Sem.run_pure, Result.andThen_ok, List.map_toArray, List.map_cons, List.map_nil, hs, hx, hrun]
    exact hK _ _ (h v' w' h2 h3)
end Go.Proofs.Ytajbfhdkghofbaa
