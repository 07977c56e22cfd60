/- empties.Remove (plain): what holds while a state's near ones are looked at. -/
import Derived.Test.YtlfjccgbngnjhaaRemovePlain
import Derived.Test.YtlfjccgbngnjhaaMapRange
namespace Go.Proofs.Ytlfjccgbngnjhaa
open Go.RowKit

abbrev K3 : Type := Int × Int × Int
def ky (b : ArcL) : K3 := (b.inn, b.out, b.to)
def arcOf (p : K3 × Int) : ArcL := ⟨p.1.1, p.1.2.1, p.2, p.1.2.2⟩
theorem alike3_ky {a b : ArcL} : alike3 a b = true ↔ ky a = ky b := by
  rw [alike3_iff]; unfold ky; simp
theorem ky_arcOf (p : K3 × Int) : ky (arcOf p) = p.1 := rfl

def FInv (m : MachL) (l : List Int) (k : Nat) (f : Int) : Prop :=
  (f = INF ∧ ∀ p, p < k → 0 ≤ cg l p → finQ m p = INF) ∨ (f ≠ INF ∧ (∃ p, 0 ≤ cg l p ∧ finQ m p ≠ INF ∧ f = cg l p + finQ m p) ∧ ∀ p, p < k → 0 ≤ cg l p → finQ m p ≠ INF → f ≤ cg l p + finQ m p)
section
variable {m : MachL} {l : List Int} {k : Nat} {f : Int}
theorem FInv.start (m : MachL) (l : List Int) : FInv m l 0 INF := .inl ⟨rfl, fun _ h => absurd h (by omega)⟩
theorem FInv.skip (h : FInv m l k f) (hn : cg l k < 0 ∨ finQ m k = INF) : FInv m l (k + 1) f := by
  rcases h with ⟨h1, h2⟩ | ⟨h1, h2, h3⟩
  · refine .inl ⟨h1, fun p hp h0 => ?_⟩
    by_cases e : p = k
    · subst e; rcases hn with hn | hn
      · omega
      · exact hn
    · exact h2 p (by omega) h0
  · refine .inr ⟨h1, h2, fun p hp h0 hf => ?_⟩
    by_cases e : p = k
    · subst e; rcases hn with hn | hn
      · omega
      · exact absurd hn hf
    · exact h3 p (by omega) h0 hf
theorem FInv.keep (h : FInv m l k f) (hf : f ≠ INF) (hl : f ≤ cg l k + finQ m k) : FInv m l (k + 1) f := by
  rcases h with ⟨h1, _⟩ | ⟨h1, h2, h3⟩
  · exact absurd h1 hf
  · refine .inr ⟨h1, h2, fun p hp h0 hf => ?_⟩
    by_cases e : p = k
    · subst e; exact hl
    · exact h3 p (by omega) h0 hf
theorem FInv.set (h : FInv m l k f) (h0 : 0 ≤ cg l k) (hq : finQ m k ≠ INF) (hb : cg l k + finQ m k < INF) (hl : f = INF ∨ cg l k + finQ m k < f) : FInv m l (k + 1) (cg l k + finQ m k) := by
  refine .inr ⟨by omega, ⟨k, h0, hq, rfl⟩, fun p hp hp0 hf => ?_⟩
  by_cases e : p = k
  · subst e; exact Int.le_refl _
  · rcases h with ⟨h1, h2⟩ | ⟨h1, h2, h3⟩
    · exact absurd (h2 p (by omega) hp0) hf
    · have := h3 p (by omega) hp0 hf
      rcases hl with hl | hl <;> omega
theorem FInv.done {q : Nat} (h : FInv m l k f) (hN : Near m q l) (hk : m.states.length ≤ k) : FinR m q f := by
  have hlt : ∀ p c, EP m q p c → 0 ≤ cg l p ∧ p < k := fun p c hp => by
    rcases Int.lt_or_le (cg l p) 0 with h1 | h1
    · exact absurd hp ((hN.no p h1).2 c)
    · have := cg_out h1; have := hN.len; exact ⟨h1, by omega⟩
  rcases h with ⟨h1, h2⟩ | ⟨h1, ⟨p, h2, h3, h4⟩, h5⟩
  · exact .inl ⟨h1, fun p c hp => h2 p (hlt p c hp).2 (hlt p c hp).1⟩
  · refine .inr ⟨h1, ⟨p, _, (hN.yes p h2).1, h3, h4⟩, fun p c hp hf => ?_⟩
    obtain ⟨k1, k2⟩ := hlt p c hp
    have := h5 p k2 k1 hf; have := (hN.yes p k1).2 c hp; omega
theorem FInv.bound {n : Nat} {WW F : Int} (h : FInv m l k f) (hl : ∀ p, cg l p ≤ n * WW) (hf : ∀ p, finQ m p ≠ INF → 0 ≤ finQ m p ∧ finQ m p ≤ F) : f = INF ∨ (0 ≤ f ∧ f ≤ n * WW + F) := by
  rcases h with ⟨h1, _⟩ | ⟨_, ⟨p, h2, h3, h4⟩, _⟩
  · exact .inl h1
  · have := hl p; have := hf p h3; omega
end

/-- what a map of keys and weights holds when the states below k and t arcs of k have been looked at -/
structure SInv (m : MachL) (l : List Int) (k t : Nat) (es : List (K3 × Int)) : Prop where
  src : ∀ x w, assoc es x = some w → ∃ p b, 0 ≤ cg l p ∧ b ∈ arcsQ m p ∧ emptyA b = false ∧ ky b = x ∧ w = cg l p + b.wt
  all : ∀ p b, 0 ≤ cg l p → b ∈ arcsQ m p → (p < k ∨ (p = k ∧ b ∈ (arcsQ m p).take t)) → emptyA b = false → ∃ w, assoc es (ky b) = some w ∧ w ≤ cg l p + b.wt
section
variable {m : MachL} {l : List Int} {k t : Nat} {es : List (K3 × Int)}
theorem SInv.start (m : MachL) (l : List Int) : SInv m l 0 0 [] :=
  ⟨fun _ _ h => by simp [assoc] at h, fun p b _ _ h => by rcases h with h | ⟨rfl, h⟩ <;> simp at h⟩
theorem SInv.next (h : SInv m l k t es) (ht : (arcsQ m k).length ≤ t) : SInv m l (k + 1) 0 es := by
  refine ⟨h.src, fun p b h0 hb hp he => h.all p b h0 hb ?_ he⟩
  rcases hp with hp | ⟨_, hp⟩
  · by_cases e : p = k
    · subst e; exact .inr ⟨rfl, by rw [List.take_of_length_le ht]; exact hb⟩
    · exact .inl (by omega)
  · simp at hp
theorem SInv.skip (h : SInv m l k 0 es) (hn : cg l k < 0) : SInv m l (k + 1) 0 es := by
  refine ⟨h.src, fun p b h0 hb hp he => h.all p b h0 hb ?_ he⟩
  rcases hp with hp | ⟨_, hp⟩
  · by_cases e : p = k
    · subst e; omega
    · exact .inl (by omega)
  · simp at hp
theorem take_or (l : List ArcL) (t : Nat) (ht : t < l.length) {b : ArcL} (h : b ∈ l.take (t + 1)) : b ∈ l.take t ∨ b = l[t] := by
  rw [List.take_succ_eq_append_getElem ht] at h
  rcases List.mem_append.1 h with h | h
  · exact .inl h
  · exact .inr (by simpa using h)
theorem SInv.keep (h : SInv m l k t es) (ht : t < (arcsQ m k).length) (hn : emptyA (arcsQ m k)[t] = false → ∃ w, assoc es (ky (arcsQ m k)[t]) = some w ∧ w ≤ cg l k + (arcsQ m k)[t].wt) : SInv m l k (t + 1) es := by
  refine ⟨h.src, fun p b h0 hb hp he => ?_⟩
  rcases hp with hp | ⟨rfl, hp⟩
  · exact h.all p b h0 hb (.inl hp) he
  · rcases take_or _ _ ht hp with hp | rfl
    · exact h.all p b h0 hb (.inr ⟨rfl, hp⟩) he
    · exact hn he
theorem SInv.put (h : SInv m l k t es) (ht : t < (arcsQ m k).length) (h0 : 0 ≤ cg l k) (he : emptyA (arcsQ m k)[t] = false) (hl : ∀ w, assoc es (ky (arcsQ m k)[t]) = some w → cg l k + (arcsQ m k)[t].wt ≤ w) :
    SInv m l k (t + 1) (mput es (ky (arcsQ m k)[t]) (cg l k + (arcsQ m k)[t].wt)) := by
  refine ⟨fun x w hx => ?_, fun p b hp0 hb hp hbe => ?_⟩
  · rw [assoc_mput] at hx
    split at hx
    · rename_i e; injection hx with hx
      exact ⟨k, _, h0, List.getElem_mem ht, he, e.symm, hx.symm⟩
    · exact h.src x w hx
  · rw [assoc_mput]
    have key : b = (arcsQ m k)[t] ∧ p = k ∨ ∃ w, assoc es (ky b) = some w ∧ w ≤ cg l p + b.wt := by
      rcases hp with hp | ⟨rfl, hp⟩
      · exact .inr (h.all p b hp0 hb (.inl hp) hbe)
      · rcases take_or _ _ ht hp with hp | rfl
        · exact .inr (h.all p b hp0 hb (.inr ⟨rfl, hp⟩) hbe)
        · exact .inl ⟨rfl, rfl⟩
    rcases key with ⟨rfl, rfl⟩ | ⟨w, h1, h2⟩
    · rw [if_pos rfl]; exact ⟨_, rfl, Int.le_refl _⟩
    · split
      · rename_i e; rw [e] at h1; have := hl w h1; exact ⟨_, rfl, by omega⟩
      · exact ⟨w, h1, h2⟩
theorem assoc_in {es : List (K3 × Int)} (nd : (es.map (·.1)).Nodup) {x : K3} {w : Int} : (x, w) ∈ es ↔ assoc es x = some w := by
  induction es with
  | nil => simp [assoc]
  | cons p es ih =>
    rw [List.map_cons, List.nodup_cons] at nd
    simp only [assoc, List.mem_cons]
    by_cases e : x = p.1
    · rw [if_pos e]
      constructor
      · rintro (h | h)
        · rw [← h]
        · exact absurd (List.mem_map.2 ⟨_, h, by exact e⟩) nd.1
      · intro h; injection h with h; left; rw [e, ← h]
    · rw [if_neg e]
      constructor
      · rintro (h | h)
        · exact absurd (by rw [← h]) e
        · exact (ih nd.2).1 h
      · intro h; exact .inr ((ih nd.2).2 h)
theorem SInv.done {q : Nat} (h : SInv m l k 0 es) (hN : Near m q l) (hk : m.states.length ≤ k) (nd : (es.map (·.1)).Nodup) {L : List (K3 × Int)} (hp : L.Perm es) : ArcU m q (L.map arcOf) := by
  refine ⟨?_, fun a ha => ?_, fun p c b h1 h2 h3 => ?_⟩
  · have nd2 : (L.map (·.1)).Nodup := (hp.map (·.1)).nodup_iff.2 nd
    rw [List.pairwise_map]
    rw [List.nodup_iff_pairwise_ne, List.pairwise_map] at nd2
    refine nd2.imp fun {x y} hne => ?_
    cases e : alike3 (arcOf y) (arcOf x) with
    | false => rfl
    | true => exact absurd (alike3_ky.1 e).symm hne
  · obtain ⟨⟨x, w⟩, hx, rfl⟩ := List.mem_map.1 ha
    obtain ⟨p, b, g1, g2, g3, g4, g5⟩ := h.src x w ((assoc_in nd).1 (hp.mem_iff.1 hx))
    exact ⟨p, _, b, (hN.yes p g1).1, g2, g3, alike3_ky.2 g4.symm, g5⟩
  · rcases Int.lt_or_le (cg l p) 0 with g1 | g1
    · exact absurd h1 ((hN.no p g1).2 c)
    · have g2 := cg_out g1; have g3 := hN.len
      obtain ⟨w, g4, g5⟩ := h.all p b g1 h2 (.inl (by omega)) h3
      have g6 := (hN.yes p g1).2 c h1
      exact ⟨_, List.mem_map.2 ⟨(ky b, w), hp.mem_iff.2 ((assoc_in nd).2 g4), rfl⟩, alike3_ky.2 rfl, by show w ≤ _; omega⟩
theorem SInv.bound {n : Nat} {WW : Int} (h : SInv m l k t es) (hl : ∀ p, cg l p ≤ n * WW) (hw : ∀ p, ∀ a ∈ arcsQ m p, 0 ≤ a.wt ∧ a.wt ≤ WW) {x : K3} {w : Int} (hx : assoc es x = some w) : 0 ≤ w ∧ w ≤ n * WW + WW := by
  obtain ⟨p, b, g1, g2, g3, g4, g5⟩ := h.src x w hx
  have := hl p; have := hw p b g2; omega
end

/-! ### how many there are -/
def code3 (n : Nat) (a : ArcL) : Nat := (a.inn.toNat * 3 + a.out.toNat) * n + a.to.toNat
theorem code3_inj {n : Nat} {a b : ArcL} (ha : (0 ≤ a.inn ∧ a.inn ≤ 2) ∧ (0 ≤ a.out ∧ a.out ≤ 2) ∧ 0 ≤ a.to ∧ a.to < n) (hb : (0 ≤ b.inn ∧ b.inn ≤ 2) ∧ (0 ≤ b.out ∧ b.out ≤ 2) ∧ 0 ≤ b.to ∧ b.to < n) (h : code3 n a = code3 n b) : alike3 a b = true := by
  unfold code3 at h
  have key : ∀ (x y u v : Nat), u < n → v < n → x * n + u = y * n + v → x = y ∧ u = v := by
    intro x y u v hu hv e
    have h1 : (x * n + u) / n = x := by rw [Nat.mul_comm, Nat.mul_add_div (by omega), Nat.div_eq_of_lt hu]; omega
    have h2 : (y * n + v) / n = y := by rw [Nat.mul_comm, Nat.mul_add_div (by omega), Nat.div_eq_of_lt hv]; omega
    have h3 : x = y := by rw [← h1, e, h2]
    subst h3; exact ⟨rfl, by omega⟩
  obtain ⟨h1, h2⟩ := key _ _ _ _ (by omega) (by omega) h
  exact alike3_iff.2 ⟨by omega, by omega, by omega⟩
theorem few_arcs {n : Nat} {l : List ArcL} (nd : l.Pairwise fun x y => alike3 y x = false) (hl : ∀ a ∈ l, (0 ≤ a.inn ∧ a.inn ≤ 2) ∧ (0 ≤ a.out ∧ a.out ≤ 2) ∧ 0 ≤ a.to ∧ a.to < n) : l.length ≤ 9 * n := by
  have h1 : (l.map (code3 n)).Nodup := by
    rw [List.nodup_iff_pairwise_ne, List.pairwise_map]
    refine (List.pairwise_iff_forall_sublist.2 fun {x y} hs => ?_)
    have hx := hl x (hs.subset (by simp)); have hy := hl y (hs.subset (by simp))
    intro e
    have := List.pairwise_iff_forall_sublist.1 nd hs
    rw [alike3_symm (code3_inj hx hy e)] at this; cases this
  have h2 := nodup_subR (l.map (code3 n)) (List.range (9 * n)) h1 fun c hc => by
    obtain ⟨a, ha, rfl⟩ := List.mem_map.1 hc
    obtain ⟨⟨_, _⟩, ⟨_, _⟩, _, _⟩ := hl a ha
    rw [List.mem_range]
    unfold code3
    have : a.inn.toNat * 3 + a.out.toNat ≤ 8 := by omega
    have h3 : (a.inn.toNat * 3 + a.out.toNat) * n ≤ 8 * n := Nat.mul_le_mul_right _ this
    omega
  simpa using h2
end Go.Proofs.Ytlfjccgbngnjhaa
