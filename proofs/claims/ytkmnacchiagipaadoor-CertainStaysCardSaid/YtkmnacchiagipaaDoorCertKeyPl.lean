/- The text that stands for a set of states (plain): two sets have two texts. -/
import Derived.Test.YtkmnacchiagipaaDoorCertPlain
import Derived.Test.YtkmnacchiagipaaDoorDigits
namespace Go.Proofs.YtkmnacchiagipaaDoor
open Go.RowKit Go.Lib

def partT (p : Nat × Int) : List UInt8 := decDigits p.1 ++ (58 :: (decDigits p.2.toNat ++ [32]))
def keyT (S : SetL) : List UInt8 := S.flatMap partT
theorem digs_split : ∀ {l l' : List UInt8} {b b' : UInt8} {r r' : List UInt8}, (∀ x ∈ l, IsDig x) → (∀ x ∈ l', IsDig x) → ¬ IsDig b → ¬ IsDig b' → l ++ b :: r = l' ++ b' :: r' → l = l' ∧ b = b' ∧ r = r'
  | [], [], b, b', r, r', _, _, _, _, h => by
    simp only [List.nil_append, List.cons.injEq] at h
    exact ⟨rfl, h.1, h.2⟩
  | [], x :: l', b, b', r, r', _, h2, h3, _, h => by
    simp only [List.nil_append, List.cons_append, List.cons.injEq] at h
    exact absurd (h.1 ▸ h2 x (by simp)) h3
  | x :: l, [], b, b', r, r', h1, _, _, h4, h => by
    simp only [List.nil_append, List.cons_append, List.cons.injEq] at h
    exact absurd (h.1 ▸ h1 x (by simp)) h4
  | x :: l, y :: l', b, b', r, r', h1, h2, h3, h4, h => by
    simp only [List.cons_append, List.cons.injEq] at h
    obtain ⟨g1, g2, g3⟩ := digs_split (fun z hz => h1 z (by simp [hz])) (fun z hz => h2 z (by simp [hz])) h3 h4 h.2
    exact ⟨by rw [h.1, g1], g2, g3⟩
theorem dec_inj {u v : Nat} (h : decDigits u = decDigits v) : u = v := by
  have h1 := dec_from u
  rw [h, dec_from v] at h1
  exact (Option.some.inj h1).symm
theorem partT_split {p q : Nat × Int} (hp : 0 ≤ p.2) (hq : 0 ≤ q.2) {r r' : List UInt8} (h : partT p ++ r = partT q ++ r') : p = q ∧ r = r' := by
  have n1 : ¬ IsDig 58 := by unfold IsDig; decide
  have n2 : ¬ IsDig 32 := by unfold IsDig; decide
  unfold partT at h
  simp only [List.append_assoc, List.cons_append, List.nil_append] at h
  obtain ⟨h1, -, h2⟩ := digs_split (dec_digs _) (dec_digs _) n1 n1 h
  obtain ⟨h3, -, h4⟩ := digs_split (dec_digs _) (dec_digs _) n2 n2 h2
  have e1 := dec_inj h1; have e2 := dec_inj h3
  refine ⟨Prod.ext e1 ?_, h4⟩
  have : (p.2.toNat : Int) = q.2.toNat := by omega
  omega
theorem partT_ne (p : Nat × Int) : partT p ≠ [] := by unfold partT; simp
theorem keyT_inj : ∀ {S T : SetL}, (∀ p ∈ S, 0 ≤ p.2) → (∀ p ∈ T, 0 ≤ p.2) → keyT S = keyT T → S = T
  | [], [], _, _, _ => rfl
  | [], q :: T, _, _, h => by
    simp only [keyT, List.flatMap_nil, List.flatMap_cons] at h
    have := partT_ne q
    exact absurd (List.append_eq_nil_iff.1 h.symm).1 this
  | p :: S, [], _, _, h => by
    simp only [keyT, List.flatMap_nil, List.flatMap_cons] at h
    have := partT_ne p
    exact absurd (List.append_eq_nil_iff.1 h).1 this
  | p :: S, q :: T, h1, h2, h => by
    simp only [keyT, List.flatMap_cons] at h
    obtain ⟨rfl, h3⟩ := partT_split (h1 p (by simp)) (h2 q (by simp)) h
    rw [keyT_inj (fun x hx => h1 x (by simp [hx])) (fun x hx => h2 x (by simp [hx])) h3]
theorem keyT_snoc (S : SetL) (p : Nat × Int) : keyT (S ++ [p]) = keyT S ++ partT p := by simp [keyT]
theorem partT_len {p : Nat × Int} (h1 : p.1 < 1000) (h2 : p.2 < 10000000000) : (partT p).length ≤ 20 := by
  have g1 := dec_len (u := p.1) (k := 2) (by omega)
  have g2 := dec_len (u := p.2.toNat) (k := 9) (by omega)
  unfold partT; simp; omega
theorem keyT_len : ∀ {S : SetL}, (∀ p ∈ S, p.1 < 1000 ∧ p.2 < 10000000000) → (keyT S).length ≤ 20 * S.length
  | [], _ => by simp [keyT]
  | p :: S, h => by
    have h1 := partT_len (h p (by simp)).1 (h p (by simp)).2
    have h2 := keyT_len fun q hq => h q (List.mem_cons_of_mem _ hq)
    simp only [keyT, List.flatMap_cons, List.length_append, List.length_cons] at *
    omega
end Go.Proofs.YtkmnacchiagipaaDoor
