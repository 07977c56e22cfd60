/- packed.Decode of a machine's own bytes: that machine. -/
import Derived.Test.YtajbfhdkghofbaaGreatDoorDecode
import Derived.Test.YtajbfhdkghofbaaGreatDoorEncode
namespace Go.Proofs.YtajbfhdkghofbaaGreatDoor
open Go.RowKit

/-- two machines of the same bytes are the same -/
theorem encM_one {m m' : MachL} (h : Valid m) (h' : Valid m') (e : encM m = encM m') : m = m' := by
  obtain ⟨l, e1, h1⟩ := machP_of h fun s hs => Nat.le_trans (arcsOf_mem _ s hs) h.arcs
  obtain ⟨l', e2, h2⟩ := machP_of h' fun s hs => Nat.le_trans (arcsOf_mem _ s hs) h'.arcs
  rw [e, e2] at e1
  injection e1 with _ e3
  subst e3
  rw [h1] at h2
  injection h2 with h3
  injection h3
theorem own_posB {w : World} {base n : Nat} {v : Value} {xs : List Value} (h : w.ownsRow base 5 1 v n xs) (hn : 0 < n) : ∃ g c, v = .slice (some ⟨g, 0, none⟩) n c ∧ n ≤ c := by
  rcases h.2 with ⟨rfl, rfl⟩ | ⟨g, cap, cur, rfl, _, _, hle, hm, _, _⟩
  · omega
  · exact ⟨g, cap, rfl, hle⟩
/-- what Encode wrote, Decode reads -/
theorem Decode_good {w0 w : World} {bv : Value} {m : MachL} (h : EncF w0 w bv m) (hv : Valid m) :
    Calls Tryz.prog 8 #[bv] w fun e w' => ∃ mv, e = .returned (.tuple #[mv, .int .i64 0]) ∧ OwnMach w' w.heap.size mv m ∧ Below w.heap.size w w' := by
  obtain ⟨hi, lo, hB, hbk, q0, q1, q2, q3, q4, q5, q6⟩ := h
  unfold Bytes at hB
  have hlen : (encM m ++ [hi, lo]).length = (encM m).length + 2 := by simp
  rw [hlen] at hB
  obtain ⟨g, c, rfl, hc⟩ := own_posB hB (by omega)
  have hb : BOk (encM m ++ [hi, lo]) := by
    intro x hx
    rcases List.mem_append.1 hx with hx | hx
    · exact hbk x hx
    · simp at hx; rcases hx with rfl | rfl
      · exact ⟨q0, q1⟩
      · exact ⟨q2, q3⟩
  have hg : Good (encM m ++ [hi, lo]) := ⟨m, hi, lo, hv, rfl, q6⟩
  refine (Decode_any g c (encM m).length (encM m ++ [hi, lo]) w hlen (Rd.of_own hB) q4 (by omega) hc hb).mono ?_
  rintro e w' ⟨⟨hd, hq⟩, hbel⟩
  obtain ⟨v', hv'⟩ := hq hg
  rcases hd with ⟨er, rfl, her⟩ | ⟨m', st, A, n, c', hi', lo', rfl, hO, hvm, hl, -, -, -, -, hcr⟩
  · injection hv' with hv'; injection hv' with hv'
    have := congrArg (fun a : Array Value => a[1]?) hv'
    simp at this
    omega
  · obtain ⟨e1, -⟩ := List.append_inj' hl rfl
    obtain rfl := encM_one hv hvm e1
    exact ⟨_, rfl, hO, hbel⟩
end Go.Proofs.YtajbfhdkghofbaaGreatDoor
