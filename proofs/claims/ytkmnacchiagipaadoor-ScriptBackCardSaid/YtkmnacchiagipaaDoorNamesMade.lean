/- names.index made: sync.Once around its maps. -/
import Derived.Test.YtkmnacchiagipaaDoorNamesIdx
namespace Go.Proofs.YtkmnacchiagipaaDoor
open Go.RowKit
open Go.ChangeMaps (setBlock)

section
variable {w w' : World} {bx bt bl : Nat} {A : Option Addr} {c n : Nat} {d s : Int} {l : List NameL} {k : Nat} {t1 t2 : Option Nat}
theorem idx_done (h : Blk w bx (idxC A n c d s 0 t1 t2) 103) (d' : Int) : Blk (w.setCell ⟨bx, 1, none⟩ (.int .u32 d')) bx (idxC A n c d' s 0 t1 t2) 103 := (h.put 1 _).eq (by simp)
theorem idx_lock (h : Blk w bx (idxC A n c d s 0 t1 t2) 103) (s' : Int) : Blk (w.setCell ⟨bx, 2, none⟩ (.int .i32 s')) bx (idxC A n c d s' 0 t1 t2) 103 := (h.put 2 _).eq (by simp)
theorem idx_c1 (h : Blk w bx (idxC A n c d s 0 t1 t2) 103) : w.cell? ⟨bx, 1, none⟩ = some (.int .u32 d) := by rw [h.cell 1]; rfl
theorem idx_c2 (h : Blk w bx (idxC A n c d s 0 t1 t2) 103) : w.cell? ⟨bx, 2, none⟩ = some (.int .i32 s) := by rw [h.cell 2]; rfl
theorem IdxAt.done (h : IdxAt w bx bt bl A c d s l k) (d' : Int) : IdxAt (w.setCell ⟨bx, 1, none⟩ (.int .u32 d')) bx bt bl A c d' s l k :=
  ⟨idx_done h.blk d', h.tm.setCell (by simp; have := h.n1; omega) _, h.lm.setCell (by simp; have := h.n2; omega) _, h.ne, h.n1, h.n2⟩
theorem IdxAt.lock (h : IdxAt w bx bt bl A c d s l k) (s' : Int) : IdxAt (w.setCell ⟨bx, 2, none⟩ (.int .i32 s')) bx bt bl A c d s' l k :=
  ⟨idx_lock h.blk s', h.tm.setCell (by simp; have := h.n1; omega) _, h.lm.setCell (by simp; have := h.n2; omega) _, h.ne, h.n1, h.n2⟩
end
/-- what was no index is kept -/
def KeptN (w w' : World) : Prop := ∀ b cs t, t ≠ 103 → Blk w b cs t → Blk w' b cs t
theorem KeptN.trans {a b c : World} (h : KeptN a b) (k : KeptN b c) : KeptN a c := fun x cs t ht hb => k x cs t ht (h x cs t ht hb)
theorem KeptN.set {w : World} {bx : Nat} {cs : Array Value} (h : Blk w bx cs 103) (o : Nat) (u : Value) : KeptN w (w.setCell ⟨bx, o, none⟩ u) := fun b cs' t ht hb => hb.far (fun e => by
  simp only at e; subst e; unfold Blk at h hb; rw [hb] at h; injection h with h; injection h with _ h2; exact ht h2) _
/-- the index, made -/
def MadeN (w0 w w' : World) (bx : Nat) (A : Option Addr) (c : Nat) (l : List NameL) : Prop := ∃ bt bl, IdxAt w' bx bt bl A c 1 0 l l.length ∧ Below w0.heap.size w0 w' ∧ KeptN w w'

set_option maxRecDepth 100000 in
set_option maxHeartbeats 4000000 in
theorem slow_any (w0 w : World) (pl bx : Nat) (A : Option Addr) (l : List NameL) (c : Nat) (hT : NamesAt w0 A l) (h0 : Below w0.heap.size w0 w) (hbx : w0.heap.size ≤ bx) (hp : Blk w pl #[.pointer (some ⟨bx, 0, none⟩)] 87) (hx : Blk w bx (idxC A l.length c 0 0 0 none none) 103) (hl : l.length ≤ 1000) :
    Calls Tryd.prog 112 #[.pointer (some ⟨bx, 1, none⟩), .func (.func 77) #[] #[.pointer (some ⟨pl, 0, none⟩)]] w fun e w' => e = .returned (.tuple #[]) ∧ MadeN w0 w w' bx A c l := by
  have hx1 := idx_lock hx 1
  have hK1 := KeptN.set hx 2 (.int .i32 1)
  have hp1 := hK1 _ _ _ (by decide) hp
  have h01 : Below w0.heap.size w0 (w.setCell ⟨bx, 2, none⟩ (.int .i32 1)) := h0.setCell (by simpa using hbx) _
  have hl1 := run_call_load (P := Tryd.prog) Tryd.func145 (by kernel_rfl) (by kernel_rfl) (by kernel_rfl) .u32 (by kernel_rfl) (idx_c1 hx1)
  have HMD := Lib.hid (made1_any w0 _ pl bx A l c 0 1 hT h01 hbx hp1 hx1 hl)
  have HK1 := Lib.hid hK1
  have hnot : ∀ (x : Bool) (w : World), (Op.unary .not (.bool x)).run Tryd.prog w = .ok (.bool (!x)) w := fun _ _ => rfl
  have HLK := Lib.hid (once_lock ⟨bx, 2, none⟩ w (idx_c2 hx) (hx.froz 2))
  clear hT h0 hp hx hx1 hK1 hp1 h01
  go_enter_defers Tryd.func112, Tryd.ntmps112
  go_wp2_with (first | (go_at_call 146; refine HLK.out.mono ?_; rintro e w' ⟨rfl, rfl⟩) | (go_at_call 111; go_in))
  refine HMD.out.mono ?_; rintro e w2 ⟨rfl, bt, bl, hI, hB, -, -, hK⟩
  have HI := Lib.hid hI; have HB := Lib.hid hB; have HK := Lib.hid (HK1.out.trans hK)
  clear hI hB hK HMD HLK HK1
  go_wp2
  refine leaves_cons (f := 148) (args := #[.pointer (some ⟨bx, 1, none⟩), .bool true]) (by simp) (by simp [go_sem]) ?_
  refine (once_store ⟨bx, 1, none⟩ (.int .u32 0) .returning _ (idx_c1 HI.out.blk) (HI.out.blk.froz 1)).mono ?_
  rintro e u' w'' ⟨rfl, rfl, rfl⟩
  have hI3 := (HI.out.keep (Below.refl _ _).drew).done 1
  have hdr : Below w2.heap.size w2 w2.drew := (Below.refl _ _).drew
  have hB3 := (HB.out.trans (hdr.mono HB.out.size)).setCell (p := ⟨bx, 1, none⟩) hbx (.int .u32 1)
  have hK3 : KeptN w (w2.drew.setCell ⟨bx, 1, none⟩ (.int .u32 1)) := fun b cs t ht h => KeptN.set ((HI.out.keep hdr).blk) 1 _ b cs t ht ((HK.out b cs t ht h).step hdr)
  refine leaves_cons (f := 147) (args := #[.pointer (some ⟨bx, 2, none⟩)]) (by simp [settle]) (by simp [go_sem]) ?_
  refine (once_unlock ⟨bx, 2, none⟩ _ _ (idx_c2 hI3.blk) (hI3.blk.froz 2)).mono ?_
  rintro e u' w'' ⟨rfl, rfl, rfl⟩
  have hI4 := hI3.lock 0
  have hB4 := hB3.setCell (p := ⟨bx, 2, none⟩) hbx (.int .i32 0)
  have hK4 := hK3.trans (KeptN.set hI3.blk 2 (.int .i32 0))
  simp [Leaves, settle, results, Tryd.results112]
  exact ⟨bt, bl, hI4, hB4, hK4⟩

set_option maxRecDepth 100000 in
set_option maxHeartbeats 4000000 in
theorem do_any (w0 w : World) (pl bx : Nat) (A : Option Addr) (l : List NameL) (c : Nat) (hT : NamesAt w0 A l) (h0 : Below w0.heap.size w0 w) (hbx : w0.heap.size ≤ bx) (hp : Blk w pl #[.pointer (some ⟨bx, 0, none⟩)] 87) (hx : Blk w bx (idxC A l.length c 0 0 0 none none) 103) (hl : l.length ≤ 1000) :
    Calls Tryd.prog 76 #[.pointer (some ⟨bx, 1, none⟩), .func (.func 77) #[] #[.pointer (some ⟨pl, 0, none⟩)]] w fun e w' => e = .returned (.tuple #[]) ∧ MadeN w0 w w' bx A c l := by
  have hl1 := run_call_load (P := Tryd.prog) Tryd.func145 (by kernel_rfl) (by kernel_rfl) (by kernel_rfl) .u32 (by kernel_rfl) (idx_c1 hx)
  have hnot : ∀ (x : Bool) (w : World), (Op.unary .not (.bool x)).run Tryd.prog w = .ok (.bool (!x)) w := fun _ _ => rfl
  have HS := Lib.hid (slow_any w0 w pl bx A l c hT h0 hbx hp hx hl)
  clear hT h0 hp hx
  go_enter Tryd.func76, Tryd.ntmps76
  go_wp2_with (first | (go_at_call 112; refine HS.out.mono ?_; rintro e w' ⟨rfl, h⟩; have H := Lib.hid h; clear h) | (go_at_call 111; go_in))
  go_end0
  exact ⟨rfl, H.out⟩

set_option maxRecDepth 100000 in
set_option maxHeartbeats 4000000 in
theorem made_idx (w0 w : World) (bx : Nat) (A : Option Addr) (l : List NameL) (c : Nat) (hT : NamesAt w0 A l) (h0 : Below w0.heap.size w0 w) (hbx : w0.heap.size ≤ bx) (hx : Blk w bx (idxC A l.length c 0 0 0 none none) 103) (hl : l.length ≤ 1000) :
    Calls Tryd.prog 36 #[.pointer (some ⟨bx, 0, none⟩)] w fun e w' => e = .returned (.pointer (some ⟨bx, 0, none⟩)) ∧ MadeN w0 w w' bx A c l := by
  have hmf : ∀ (fn : Fn) (first cap : Array Value) (w : World), (Instr.makeFunc fn first cap).run Tryd.prog w = .ok (.func fn first cap) w := fun _ _ _ _ => rfl
  have hb : Below w.heap.size w (w.alloc (.cells #[.pointer (some ⟨bx, 0, none⟩)] 87)) := (by repeat' (first | exact Below.refl _ _ | assumption | refine Below.drew ?_ | refine Below.alloc ?_ (by first | omega | (simp; done) | (simp; omega)) _ | refine Below.setCell ?_ (by first | omega | (simp; done) | (simp; omega)) _))
  have HD := Lib.hid (do_any w0 (w.alloc (.cells #[.pointer (some ⟨bx, 0, none⟩)] 87)) w.heap.size bx A l c hT (h0.trans (hb.mono h0.size)) hbx (Blk.new _ _ _) (hx.step hb) hl)
  have HX := Lib.hid hx
  have lx := hx.lt
  clear hT h0 hx hb
  go_enter Tryd.func36, Tryd.ntmps36
  go_wp2_with fail
  refine HD.out.mono ?_; rintro e w2 ⟨rfl, bt, bl, hI, hB, hK⟩
  have hp2 := hK w.heap.size _ _ (by decide) (Blk.new _ _ _)
  have kp := hp2.cell; have lp := hp2.lt
  have HI := Lib.hid hI; have HB := Lib.hid hB; have HK : Hid (KeptN w w2) := Lib.hid fun b cs t ht h => hK b cs t ht (h.alloc _)
  clear hI hB hK hp2 HD
  go_wp2_with fail
  go_ret
  exact ⟨rfl, bt, bl, HI.out, HB.out, HK.out⟩
end Go.Proofs.YtkmnacchiagipaaDoor
