/- best.Costs' loop, plain: what it holds over any beginnings. -/
import Derived.Test.YtndajklppipckaaCheapPlain
namespace Go.Proofs.Ytndajklppipckaa

structure CI (b : Begs) (n : Nat) (WW : Int) (Pn : List Nat → Nat → Prop) (O EN ex Dr ps : List (List Nat)) (v : Int) (seen : List Nat) : Prop where
  cov0 : b.V [] → [] ∈ O ∨ [] ∈ ex ∨ [] ∈ Dr
  cov : ∀ p ∈ ex, ∀ i, b.V (i :: p) → ¬ Pn p i → (i :: p) ∈ O ∨ (i :: p) ∈ ex ∨ (i :: p) ∈ Dr
  cove : ∀ p ∈ ex, b.E (b.q p) → p ∈ EN ∨ p ∈ ps
  drop : ∀ p ∈ Dr, ∃ xs : List (List Nat), xs.Nodup ∧ xs.length = n ∧ ∀ x ∈ xs, x ∈ ex ∧ b.q x = b.q p ∧ b.c x ≤ b.c p
  lo : ∀ p ∈ O, v ≤ b.c p + b.d (b.q p)
  loe : ∀ p ∈ EN, v ≤ b.cost p
  hi : ∀ p ∈ ps, b.cost p ≤ v
  vx : ∀ p ∈ ex, b.V p
  vO : ∀ p ∈ O, b.V p
  en : ∀ p, p ∈ EN ∨ p ∈ ps → p ∈ ex ∧ b.E (b.q p)
  nde : EN.Nodup
  ndp : ps.Nodup
  dip : ∀ p ∈ EN, p ∉ ps
  ndO : O.Nodup
  ndx : ex.Nodup
  dis : ∀ p ∈ O, p ∉ ex
  par : ∀ i p, (i :: p) ∈ O ∨ (i :: p) ∈ ex ∨ (i :: p) ∈ Dr → p ∈ ex ∧ ¬ Pn p i
  xv : ∀ x ∈ ex, b.c x + b.d (b.q x) ≤ v
  cnt : ∀ q, q < seen.length → ex.countP (fun x => b.q x == q) = min (seen.getD q 0) n
  cb : ∀ p ∈ O, 0 ≤ b.c p ∧ b.c p ≤ ex.length * WW
  cbx : ∀ p ∈ ex, 0 ≤ b.c p ∧ b.c p + WW ≤ ex.length * WW
  len : ps.length ≤ n
  srt : ps.Pairwise (fun x y => b.cost x ≤ b.cost y)
section
variable {b : Begs} {n : Nat} {WW : Int} {Pn : List Nat → Nat → Prop} {O EN ex Dr ps : List (List Nat)} {v : Int} {seen : List Nat}
theorem CI.perm (h : CI b n WW Pn O EN ex Dr ps v seen) {O' EN' : List (List Nat)} (hO : O.Perm O') (hE : EN.Perm EN') : CI b n WW Pn O' EN' ex Dr ps v seen := by
  have mO : ∀ {p}, p ∈ O' ↔ p ∈ O := fun {p} => hO.symm.mem_iff
  have mE : ∀ {p}, p ∈ EN' ↔ p ∈ EN := fun {p} => hE.symm.mem_iff
  constructor
  case cov0 => simpa only [mO] using h.cov0
  case cov => simpa only [mO] using h.cov
  case cove => simpa only [mE] using h.cove
  case drop => exact h.drop
  case lo => simpa only [mO] using h.lo
  case loe => simpa only [mE] using h.loe
  case hi => exact h.hi
  case vx => exact h.vx
  case vO => simpa only [mO] using h.vO
  case en => simpa only [mE] using h.en
  case nde => exact hE.nodup_iff.1 h.nde
  case ndp => exact h.ndp
  case dip => simpa only [mE] using h.dip
  case ndO => exact hO.nodup_iff.1 h.ndO
  case ndx => exact h.ndx
  case dis => simpa only [mO] using h.dis
  case par => simpa only [mO] using h.par
  case xv => exact h.xv
  case cnt => exact h.cnt
  case cb => simpa only [mO] using h.cb
  case cbx => exact h.cbx
  case len => exact h.len
  case srt => exact h.srt
/-- an ended way is taken out -/
theorem CI.emit {p : List Nat} (h : CI b n WW Pn O (p :: EN) ex Dr ps v seen) (h1 : ∀ x ∈ O, b.cost p ≤ b.c x + b.d (b.q x)) (h2 : ∀ x ∈ EN, b.cost p ≤ b.cost x) (hl : ps.length < n) :
    CI b n WW Pn O EN ex Dr (ps ++ [p]) (b.cost p) seen := by
  have hv := h.loe p (by simp)
  have hn := List.nodup_cons.1 h.nde
  have hp := h.dip p (by simp)
  constructor
  case cov0 => exact h.cov0
  case cov => exact h.cov
  case cove =>
    intro x hx he
    rcases h.cove x hx he with g | g
    · rcases List.mem_cons.1 g with rfl | g
      · right; simp
      · exact .inl g
    · right; simp [g]
  case drop => exact h.drop
  case lo => exact h1
  case loe => exact h2
  case hi =>
    intro x hx
    rcases List.mem_append.1 hx with g | g
    · have := h.hi x g; omega
    · rw [List.mem_singleton.1 g]; omega
  case vx => exact h.vx
  case vO => exact h.vO
  case en =>
    intro x hx
    rcases hx with g | g
    · exact h.en x (.inl (by simp [g]))
    · rcases List.mem_append.1 g with g | g
      · exact h.en x (.inr g)
      · rw [List.mem_singleton.1 g]; exact h.en p (.inl (by simp))
  case nde => exact hn.2
  case ndp =>
    refine List.nodup_append.2 ⟨h.ndp, by simp, ?_⟩
    intro a ha c hc he
    rw [List.mem_singleton.1 hc] at he
    rw [he] at ha
    exact hp ha
  case dip =>
    intro x hx hx2
    rcases List.mem_append.1 hx2 with g | g
    · exact h.dip x (by simp [hx]) g
    · rw [List.mem_singleton.1 g] at hx; exact hn.1 hx
  case ndO => exact h.ndO
  case ndx => exact h.ndx
  case dis => exact h.dis
  case par => exact h.par
  case xv => intro x hx; have := h.xv x hx; omega
  case cnt => exact h.cnt
  case cb => exact h.cb
  case cbx => exact h.cbx
  case len => rw [List.length_append, List.length_singleton]; omega
  case srt =>
    refine List.pairwise_append.2 ⟨h.srt, List.pairwise_singleton _ _, ?_⟩
    intro x hx y hy
    rw [List.mem_singleton.1 hy]
    have := h.hi x hx; omega
theorem getD_set_nat (l : List Nat) (q k x : Nat) (hq : q < l.length) : (l.set q x).getD k 0 = if k = q then x else l.getD k 0 := by
  simp only [List.getD_eq_getElem?_getD, List.getElem?_set]
  by_cases h : q = k
  · subst h; simp [hq]
  · rw [if_neg h, if_neg (fun e => h e.symm)]
/-- a beginning is dropped: n are led on already from its state -/
theorem CI.drop1 {p : List Nat} (h : CI b n WW Pn (p :: O) EN ex Dr ps v seen) (hq : b.q p < seen.length) (hs : n ≤ seen.getD (b.q p) 0)
    (h1 : ∀ x ∈ O, b.c p + b.d (b.q p) ≤ b.c x + b.d (b.q x)) (h2 : ∀ x ∈ EN, b.c p + b.d (b.q p) ≤ b.cost x) :
    CI b n WW Pn O EN ex (p :: Dr) ps (b.c p + b.d (b.q p)) (seen.set (b.q p) (seen.getD (b.q p) 0 + 1)) := by
  have hv := h.lo p (by simp)
  have hn := List.nodup_cons.1 h.ndO
  constructor
  case cov0 =>
    intro g
    rcases h.cov0 g with g | g | g
    · rcases List.mem_cons.1 g with g | g
      · right; right; simp [g]
      · exact .inl g
    · exact .inr (.inl g)
    · right; right; simp [g]
  case cov =>
    intro x hx i g g2
    rcases h.cov x hx i g g2 with g | g | g
    · rcases List.mem_cons.1 g with g | g
      · right; right; simp [g]
      · exact .inl g
    · exact .inr (.inl g)
    · right; right; simp [g]
  case cove => exact h.cove
  case drop =>
    intro x hx
    rcases List.mem_cons.1 hx with rfl | hx
    · refine ⟨ex.filter (fun y => b.q y == b.q x), h.ndx.sublist List.filter_sublist, ?_, ?_⟩
      · rw [← List.countP_eq_length_filter, h.cnt _ hq]; omega
      · intro y hy
        obtain ⟨g1, g2⟩ := List.mem_filter.1 hy
        have g3 : b.q y = b.q x := by simpa using g2
        have g4 := h.xv y g1
        refine ⟨g1, g3, ?_⟩
        rw [g3] at g4; omega
    · exact h.drop x hx
  case lo => exact h1
  case loe => exact h2
  case hi => intro x hx; have := h.hi x hx; omega
  case vx => exact h.vx
  case vO => intro x hx; exact h.vO x (by simp [hx])
  case en => exact h.en
  case nde => exact h.nde
  case ndp => exact h.ndp
  case dip => exact h.dip
  case ndO => exact hn.2
  case ndx => exact h.ndx
  case dis => intro x hx; exact h.dis x (by simp [hx])
  case par =>
    intro i x hx
    refine h.par i x ?_
    rcases hx with g | g | g
    · left; simp [g]
    · exact .inr (.inl g)
    · rcases List.mem_cons.1 g with g | g
      · left; simp [g]
      · exact .inr (.inr g)
  case xv => intro x hx; have := h.xv x hx; omega
  case cnt =>
    intro q hq2
    rw [List.length_set] at hq2
    rw [h.cnt q hq2, getD_set_nat _ _ _ _ hq]
    split
    · rename_i e; subst e; omega
    · rfl
  case cb => intro x hx; exact h.cb x (by simp [hx])
  case cbx => exact h.cbx
  case len => exact h.len
  case srt => exact h.srt
/-- a beginning is led on: an end first -/
theorem CI.lead {p : List Nat} (h : CI b n WW (fun _ _ => False) (p :: O) EN ex Dr ps v seen) (hq : b.q p < seen.length) (hs : seen.getD (b.q p) 0 < n) (hW : 0 ≤ WW)
    (h1 : ∀ x ∈ O, b.c p + b.d (b.q p) ≤ b.c x + b.d (b.q x)) (h2 : ∀ x ∈ EN, b.c p + b.d (b.q p) ≤ b.cost x) {EN' : List (List Nat)} (hE1 : b.E (b.q p) → EN' = p :: EN) (hE2 : ¬ b.E (b.q p) → EN' = EN) :
    CI b n WW (fun x j => x = p ∧ 0 ≤ j) O EN' (p :: ex) Dr ps (b.c p + b.d (b.q p)) (seen.set (b.q p) (seen.getD (b.q p) 0 + 1)) := by
  classical
  have hv := h.lo p (by simp)
  have hn := List.nodup_cons.1 h.ndO
  have hpx := h.dis p (by simp)
  have hV := h.vO p (by simp)
  have m1 : ∀ x, x ∈ EN' → x ∈ EN ∨ (x = p ∧ b.E (b.q p)) := fun x hx => by
    by_cases hE : b.E (b.q p)
    · rw [hE1 hE] at hx
      rcases List.mem_cons.1 hx with g | g
      · exact .inr ⟨g, hE⟩
      · exact .inl g
    · rw [hE2 hE] at hx; exact .inl hx
  have m2 : ∀ x ∈ EN, x ∈ EN' := fun x hx => by
    by_cases hE : b.E (b.q p)
    · rw [hE1 hE]; simp [hx]
    · rw [hE2 hE]; exact hx
  have hpE : p ∉ EN := fun g => hpx (h.en p (.inl g)).1
  have hpp : p ∉ ps := fun g => hpx (h.en p (.inr g)).1
  have hlen : ((p :: ex).length : Int) * WW = ex.length * WW + WW := by
    rw [List.length_cons, Int.natCast_add, Int.add_mul]; simp
  have hcb := h.cb p (by simp)
  constructor
  case cov0 =>
    intro g
    rcases h.cov0 g with g | g | g
    · rcases List.mem_cons.1 g with g | g
      · right; left; simp [g]
      · exact .inl g
    · right; left; simp [g]
    · exact .inr (.inr g)
  case cov =>
    intro x hx i g g2
    rcases List.mem_cons.1 hx with rfl | hx
    · exact absurd ⟨rfl, Nat.zero_le _⟩ g2
    · rcases h.cov x hx i g (fun f => f) with g | g | g
      · rcases List.mem_cons.1 g with g | g
        · right; left; simp [g]
        · exact .inl g
      · right; left; simp [g]
      · exact .inr (.inr g)
  case cove =>
    intro x hx he
    rcases List.mem_cons.1 hx with rfl | hx
    · left; rw [hE1 he]; simp
    · rcases h.cove x hx he with g | g
      · exact .inl (m2 x g)
      · exact .inr g
  case drop =>
    intro x hx
    obtain ⟨xs, g1, g2, g3⟩ := h.drop x hx
    exact ⟨xs, g1, g2, fun y hy => by obtain ⟨f1, f2⟩ := g3 y hy; exact ⟨by simp [f1], f2⟩⟩
  case lo => exact h1
  case loe =>
    intro x hx
    rcases m1 x hx with g | ⟨rfl, g⟩
    · exact h2 x g
    · exact b.low [] _ hV g
  case hi => intro x hx; have := h.hi x hx; omega
  case vx =>
    intro x hx
    rcases List.mem_cons.1 hx with rfl | hx
    · exact hV
    · exact h.vx x hx
  case vO => intro x hx; exact h.vO x (by simp [hx])
  case en =>
    intro x hx
    rcases hx with g | g
    · rcases m1 x g with g | ⟨rfl, g⟩
      · have := h.en x (.inl g); exact ⟨by simp [this.1], this.2⟩
      · exact ⟨by simp, g⟩
    · have := h.en x (.inr g); exact ⟨by simp [this.1], this.2⟩
  case nde =>
    by_cases hE : b.E (b.q p)
    · rw [hE1 hE]; exact List.nodup_cons.2 ⟨hpE, h.nde⟩
    · rw [hE2 hE]; exact h.nde
  case ndp => exact h.ndp
  case dip =>
    intro x hx
    rcases m1 x hx with g | ⟨rfl, g⟩
    · exact h.dip x g
    · exact hpp
  case ndO => exact hn.2
  case ndx => exact List.nodup_cons.2 ⟨hpx, h.ndx⟩
  case dis =>
    intro x hx hx2
    rcases List.mem_cons.1 hx2 with rfl | hx2
    · exact hn.1 hx
    · exact h.dis x (by simp [hx]) hx2
  case par =>
    intro i x hx
    have g : x ∈ ex ∨ ((i :: x) = p ∧ (i :: x) ∈ p :: O) := by
      rcases hx with g | g | g
      · exact .inl (h.par i x (.inl (by simp [g]))).1
      · rcases List.mem_cons.1 g with g | g
        · exact .inl (h.par i x (.inl (by simp [g]))).1
        · exact .inl (h.par i x (.inr (.inl g))).1
      · exact .inl (h.par i x (.inr (.inr g))).1
    rcases g with g | ⟨g, g2⟩
    · exact ⟨by simp [g], fun f => hpx (f.1 ▸ g)⟩
    · have := (h.par i x (.inl g2)).1
      exact ⟨by simp [this], fun f => hpx (f.1 ▸ this)⟩
  case xv =>
    intro x hx
    rcases List.mem_cons.1 hx with rfl | hx
    · omega
    · have := h.xv x hx; omega
  case cnt =>
    intro q hq2
    rw [List.length_set] at hq2
    rw [List.countP_cons, h.cnt q hq2, getD_set_nat _ _ _ _ hq]
    by_cases e : q = b.q p
    · subst e; rw [if_pos rfl, if_pos (by simp)]; omega
    · rw [if_neg e, if_neg (by simpa using fun e2 => e e2.symm)]; omega
  case cb => intro x hx; have := h.cb x (by simp [hx]); rw [hlen]; omega
  case cbx =>
    intro x hx
    rw [hlen]
    rcases List.mem_cons.1 hx with rfl | hx
    · omega
    · have := h.cbx x hx; omega
  case len => exact h.len
  case srt => exact h.srt
/-- one arc further -/
theorem CI.skip {p : List Nat} {k : Nat} (h : CI b n WW (fun x j => x = p ∧ k ≤ j) O EN ex Dr ps v seen) (hV : ¬ b.V (k :: p)) : CI b n WW (fun x j => x = p ∧ k + 1 ≤ j) O EN ex Dr ps v seen := by
  refine { h with cov := ?_, par := ?_ }
  · intro x hx i g g2
    refine h.cov x hx i g (fun f => g2 ⟨f.1, ?_⟩)
    rcases Nat.lt_or_ge k i with g3 | g3
    · omega
    · obtain rfl : i = k := by omega
      rw [f.1] at g; exact absurd g hV
  · intro i x hx
    obtain ⟨g1, g2⟩ := h.par i x hx
    exact ⟨g1, fun f => g2 ⟨f.1, by omega⟩⟩
theorem CI.push {p : List Nat} {k : Nat} (h : CI b n WW (fun x j => x = p ∧ k ≤ j) O EN ex Dr ps v seen) (hp : p ∈ ex) (hV : b.V (k :: p)) (hl : v ≤ b.c (k :: p) + b.d (b.q (k :: p))) (hc : b.c p ≤ b.c (k :: p) ∧ b.c (k :: p) ≤ b.c p + WW) :
    CI b n WW (fun x j => x = p ∧ k + 1 ≤ j) ((k :: p) :: O) EN ex Dr ps v seen := by
  have hno : (k :: p) ∉ O ∧ (k :: p) ∉ ex := ⟨fun g => (h.par k p (.inl g)).2 ⟨rfl, Nat.le_refl _⟩, fun g => (h.par k p (.inr (.inl g))).2 ⟨rfl, Nat.le_refl _⟩⟩
  have hcx := h.cbx p hp
  refine { h with cov0 := ?_, cov := ?_, par := ?_, lo := ?_, vO := ?_, ndO := ?_, dis := ?_, cb := ?_ }
  · intro g
    exact (h.cov0 g).imp_left (fun g => by simp [g])
  · intro x hx i g g2
    by_cases e : x = p ∧ i = k
    · left; rw [e.1, e.2]; simp
    · refine (h.cov x hx i g (fun f => g2 ⟨f.1, ?_⟩)).imp_left (fun g => by simp [g])
      have : i ≠ k := fun e2 => e ⟨f.1, e2⟩
      have := f.2
      omega
  · intro x hx
    rcases List.mem_cons.1 hx with rfl | hx
    · exact hl
    · exact h.lo x hx
  · intro x hx
    rcases List.mem_cons.1 hx with rfl | hx
    · exact hV
    · exact h.vO x hx
  · exact List.nodup_cons.2 ⟨hno.1, h.ndO⟩
  · intro x hx
    rcases List.mem_cons.1 hx with rfl | hx
    · exact hno.2
    · exact h.dis x hx
  · intro i x hx
    by_cases e : (i :: x) = (k :: p)
    · obtain ⟨rfl, rfl⟩ := List.cons.inj e
      exact ⟨hp, fun f => by omega⟩
    · obtain ⟨g1, g2⟩ := h.par i x (hx.imp_left (fun g => (List.mem_cons.1 g).resolve_left e))
      exact ⟨g1, fun f => g2 ⟨f.1, by omega⟩⟩
  · intro x hx
    rcases List.mem_cons.1 hx with rfl | hx
    · omega
    · exact h.cb x hx
theorem CI.rest {p : List Nat} {k : Nat} (h : CI b n WW (fun x j => x = p ∧ k ≤ j) O EN ex Dr ps v seen) (hV : ∀ i, k ≤ i → ¬ b.V (i :: p)) : CI b n WW (fun _ _ => False) O EN ex Dr ps v seen := by
  refine { h with cov := ?_, par := ?_ }
  · intro x hx i g _
    exact h.cov x hx i g (fun f => hV i f.2 (f.1 ▸ g))
  · intro i x hx
    exact ⟨(h.par i x hx).1, fun f => f⟩
theorem CI.init (hn : seen = List.replicate seen.length 0) (h0 : O = [[]] ∧ b.V [] ∧ b.c [] = 0 ∧ v = b.d (b.q []) ∨ O = [] ∧ ¬ b.V []) : CI b n WW (fun _ _ => False) O [] [] [] [] v seen := by
  have hO : ∀ p ∈ O, p = [] ∧ b.V [] ∧ b.c [] = 0 ∧ v = b.d (b.q []) := fun p hp => by
    rcases h0 with ⟨rfl, h1⟩ | ⟨rfl, h1⟩
    · exact ⟨by simpa using hp, h1⟩
    · cases hp
  constructor
  case cov0 =>
    intro g
    rcases h0 with ⟨rfl, h1⟩ | ⟨rfl, h1⟩
    · simp
    · exact absurd g h1
  case lo => intro p hp; obtain ⟨rfl, -, h2, h3⟩ := hO p hp; omega
  case vO => intro p hp; obtain ⟨rfl, h1, -⟩ := hO p hp; exact h1
  case ndO =>
    rcases h0 with ⟨rfl, h1⟩ | ⟨rfl, h1⟩ <;> simp
  case par =>
    intro i p hp
    rcases hp with hp | hp | hp
    · cases (hO _ hp).1
    · cases hp
    · cases hp
  case cnt =>
    intro q hq
    have e : seen.getD q 0 = 0 := by rw [hn, List.getD_eq_getElem?_getD, List.getElem?_replicate]; split <;> rfl
    rw [e]; simp
  case cb => intro p hp; obtain ⟨rfl, -, h2, -⟩ := hO p hp; rw [h2]; simp
  case en => intro p hp; rcases hp with hp | hp <;> cases hp
  case dis => intro p hp hp2; cases hp2
  all_goals first | exact List.nodup_nil | exact List.Pairwise.nil | (intro p hp; cases hp) | simp
theorem count_sum {α : Type} (f : α → Nat) (n : Nat) : ∀ (S : Nat) (l : List α), (∀ x ∈ l, f x < S) → (∀ q, q < S → l.countP (fun x => f x == q) ≤ n) → l.length ≤ n * S := by
  intro S
  induction S with
  | zero =>
    intro l h _
    cases l with
    | nil => simp
    | cons a l => exact absurd (h a (by simp)) (by omega)
  | succ S ih =>
    intro l h1 h2
    have h3 := ih (l.filter (fun x => !(f x == S))) (fun x hx => by
      obtain ⟨g1, g2⟩ := List.mem_filter.1 hx
      have := h1 x g1
      have : f x ≠ S := by simpa using g2
      omega) (fun q hq => by
      refine Nat.le_trans ?_ (h2 q (by omega))
      exact List.filter_sublist.countP_le)
    have h4 := h2 S (by omega)
    have h5 := List.length_eq_countP_add_countP (fun x => f x == S) (l := l)
    have h6 : (l.filter (fun x => !(f x == S))).length = l.countP (fun a => decide ¬(f a == S) = true) := by
      rw [← List.countP_eq_length_filter]
      congr 1
      funext a
      cases hh : (f a == S) <;> simp
    rw [Nat.mul_succ]
    omega
theorem CI.exlen (h : CI b n WW Pn O EN ex Dr ps v seen) (hq : ∀ p, b.V p → b.q p < seen.length) : ex.length ≤ n * seen.length :=
  count_sum b.q n _ _ (fun x hx => hq x (h.vx x hx)) (fun q hq => by rw [h.cnt q hq]; omega)
/-- at the end -/
theorem CI.cheap (h : CI b n WW (fun _ _ => False) O EN ex Dr ps v seen) (hend : (O = [] ∧ EN = []) ∨ ps.length = n) : Cheap (fun p => b.V p ∧ b.E (b.q p)) b.cost n ps := by
  have hC : CInv b n O EN ex Dr ps v := ⟨h.cov0, fun p hp i hv => h.cov p hp i hv (fun f => f), h.cove, h.drop, h.lo, h.loe, h.hi, h.vx, h.ndp, h.len⟩
  refine ⟨h.ndp, fun p hp => ?_, h.len, h.srt, fun x hx => ?_⟩
  · obtain ⟨g1, g2⟩ := h.en p (.inr hp)
    exact ⟨h.vx p g1, g2⟩
  · have g1 := hC.told hend x.length x [] (Nat.le_refl _) (by simpa using hx.1) (by simpa using hx.2) (h.cov0 (b.back x [] (by simpa using hx.1)))
    rw [List.append_nil] at g1
    exact g1
end
end Go.Proofs.Ytndajklppipckaa
