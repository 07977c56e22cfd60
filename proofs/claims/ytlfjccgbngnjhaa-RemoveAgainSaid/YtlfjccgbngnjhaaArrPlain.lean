/- Machines whose states' arcs are arranged (plain). -/
import Derived.Test.YtlfjccgbngnjhaaSortPlain
import Derived.Test.YtlfjccgbngnjhaaCostMade
namespace Go.Proofs.Ytlfjccgbngnjhaa
open Go.RowKit

/-- with each state's arcs done something to -/
def arrM (f : List ArcL → List ArcL) (m : MachL) : MachL := ⟨m.start, m.states.map fun s => ⟨s.final, f s.arcs⟩⟩
theorem arrM_len (f : List ArcL → List ArcL) (m : MachL) : (arrM f m).states.length = m.states.length := by simp [arrM]
theorem arcsP_arr {f : List ArcL → List ArcL} (f0 : f [] = []) (m : MachL) (p : Pl) : arcsP (arrM f m) p = f (arcsP m p) := by
  unfold arcsP arrM
  simp only [List.getElem?_map]
  cases m.states[p.1]? <;> simp [f0]
theorem finalP_arr (f : List ArcL → List ArcL) (m : MachL) (p : Pl) : finalP (arrM f m) p = finalP m p := by
  unfold finalP arrM
  simp only [List.getElem?_map]
  cases m.states[p.1]? <;> simp
theorem sum_le {f g : StateL → Nat} : ∀ l : List StateL, (∀ s ∈ l, f s ≤ g s) → (l.map f).sum ≤ (l.map g).sum
  | [], _ => by simp
  | a :: l, h => by
    have h1 := h a (by simp)
    have h2 := sum_le l fun s hs => h s (by simp [hs])
    simp only [List.map_cons, List.sum_cons]; omega
/-- f takes no arc in, and not more of them -/
structure Drops (f : List ArcL → List ArcL) : Prop where
  nil : f [] = []
  mem : ∀ l a, a ∈ f l → a ∈ l
  len : ∀ l, (f l).length ≤ l.length
theorem drops_sort (k : ArcL → List Int) : Drops (sortK k) := ⟨sortK_nil k, fun l a h => (sortK_mem k l a).1 h, fun l => by rw [sortK_len]; exact Nat.le_refl _⟩
theorem drops_merge : Drops mergeL := ⟨mergeL_nil, fun _ _ h => mergeL_mem h, mergeL_len⟩
theorem arrM_valid {f : List ArcL → List ArcL} (hf : Drops f) {m : MachL} (h : Valid m) : Valid (arrM f m) := by
  have hl := arrM_len f m
  refine ⟨by rw [hl]; exact h.size, ?_, h.s0, by rw [hl]; exact h.s1, ?_⟩
  · have : arcsOf (arrM f m).states ≤ arcsOf m.states := by
      unfold arcsOf arrM
      rw [List.map_map]
      exact sum_le _ fun s _ => hf.len _
    have := h.arcs; omega
  · intro s hs
    rw [hl]
    obtain ⟨s0, h0, rfl⟩ := List.mem_map.1 hs
    have := h.st s0 h0
    exact ⟨this.1, fun a ha => this.2 a (hf.mem _ _ ha)⟩
theorem arrM_little {f : List ArcL → List ArcL} (hf : Drops f) {m : MachL} {n AA : Nat} (h : Little m n AA) : Little (arrM f m) n AA := by
  refine ⟨by rw [arrM_len]; exact h.len, fun s hs a ha => ?_, fun s hs => ?_, fun s hs => ?_⟩
  · obtain ⟨s0, h0, rfl⟩ := List.mem_map.1 hs
    exact h.wt s0 h0 a (hf.mem _ _ ha)
  · obtain ⟨s0, h0, rfl⟩ := List.mem_map.1 hs
    exact h.fin s0 h0
  · obtain ⟨s0, h0, rfl⟩ := List.mem_map.1 hs
    exact Nat.le_trans (hf.len _) (h.arcs s0 h0)

theorem arr_rw {f : List ArcL → List ArcL} (hf : Drops f) {m : MachL} {x y : List Int} {any : Bool} {p : Pl} {c : Int} (h : RW (arrM f m) x y any p c) : RW m x y any p c := by
  induction h with
  | start h0 => exact RW.start (m := m) h0
  | @step p c a q _ ha hn ih => rw [arcsP_arr hf.nil] at ha; exact RW.step ih (hf.mem _ _ ha) hn
theorem arr_tot {f : List ArcL → List ArcL} (hf : Drops f) {m : MachL} {x y : List Int} {any : Bool} {c : Int} (h : Tot (arrM f m) x y any c) : Tot m x y any c := by
  obtain ⟨p, d, hr, he, hn, rfl⟩ := h
  rw [finalP_arr] at *
  exact ⟨p, d, arr_rw hf hr, he, hn, rfl⟩
theorem arr_rw_of {f : List ArcL → List ArcL} (hf : Drops f) (hL : ∀ l a, a ∈ l → ∃ b ∈ f l, alike3 a b = true ∧ b.wt ≤ a.wt) {m : MachL} {x y : List Int} {any : Bool} {p : Pl} {c : Int} (h : RW m x y any p c) :
    ∃ d, d ≤ c ∧ RW (arrM f m) x y any p d := by
  induction h with
  | start h0 => exact ⟨0, Int.le_refl _, RW.start (m := arrM f m) h0⟩
  | @step p c a q _ ha hn ih =>
    obtain ⟨d, hd, hr⟩ := ih
    obtain ⟨b, hb, hab, hw⟩ := hL _ a ha
    obtain ⟨h1, h2, h3⟩ := alike3_iff.1 hab
    refine ⟨d + b.wt, by omega, RW.step hr (by rw [arcsP_arr hf.nil]; exact hb) ?_⟩
    unfold nextP at *
    rw [← h1, ← h2, ← h3]; exact hn
theorem arr_tot_of {f : List ArcL → List ArcL} (hf : Drops f) (hL : ∀ l a, a ∈ l → ∃ b ∈ f l, alike3 a b = true ∧ b.wt ≤ a.wt) {m : MachL} {x y : List Int} {any : Bool} {c : Int} (h : Tot m x y any c) :
    ∃ d, d ≤ c ∧ Tot (arrM f m) x y any d := by
  obtain ⟨p, d, hr, he, hn, rfl⟩ := h
  obtain ⟨e, hle, hr'⟩ := arr_rw_of hf hL hr
  exact ⟨e + finalP m p, by omega, p, e, hr', he, by rw [finalP_arr]; exact hn, by rw [finalP_arr]⟩
/-- costs of which the least are the same -/
theorem Best.least {T T' : Int → Prop} {r r' : Int} (h : Best T r) (h' : Best T' r') (e : ∀ c, T' c → T c) (e' : ∀ c, T c → ∃ d, d ≤ c ∧ T' d) : r = r' := by
  rcases h with ⟨h1, h2⟩ | ⟨h1, h2, -⟩
  · rcases h' with ⟨k1, k2⟩ | ⟨k1, k2, -⟩
    · exact h1.trans k1.symm
    · exact absurd (e _ k1) (h2 _)
  · rcases h' with ⟨k1, k2⟩ | ⟨k1, k2, -⟩
    · obtain ⟨d, _, hd⟩ := e' _ h1; exact absurd hd (k2 _)
    · obtain ⟨d, hd, hd'⟩ := e' _ h1
      have := h2 _ (e _ k1); have := k2 _ hd'; omega
theorem arr_best {f : List ArcL → List ArcL} (hf : Drops f) (hL : ∀ l a, a ∈ l → ∃ b ∈ f l, alike3 a b = true ∧ b.wt ≤ a.wt) {m : MachL} {x y : List Int} {r r' : Int} (h : Best (Tot m x y false) r) (h' : Best (Tot (arrM f m) x y false) r') : r' = r :=
  (Best.least h h' (fun _ => arr_tot hf) (fun _ => arr_tot_of hf hL)).symm
theorem sort_keeps (k : ArcL → List Int) (l : List ArcL) (a : ArcL) (h : a ∈ l) : ∃ b ∈ sortK k l, alike3 a b = true ∧ b.wt ≤ a.wt := ⟨a, (sortK_mem k l a).2 h, alike3_self a, Int.le_refl _⟩
theorem merge_keeps (l : List ArcL) (a : ArcL) (h : a ∈ l) : ∃ b ∈ mergeL l, alike3 a b = true ∧ b.wt ≤ a.wt := mergeL_light h
theorem arr_again {k : ArcL → List Int} (h : ArcKey k) (m : MachL) : arrM (sortK k) (arrM (sortK k) m) = arrM (sortK k) m := by
  unfold arrM
  simp only [List.map_map]
  congr 1
  refine List.map_congr_left fun s _ => ?_
  simp only [Function.comp]; rw [sortK_again h]
end Go.Proofs.Ytlfjccgbngnjhaa
