/- The walk of the law PackedFixed: what Decode takes, Encode gives back. -/
import Derived.Test.YtajbfhdkghofbaaDecode
import Derived.Test.YtajbfhdkghofbaaEncode
import Derived.Test.YtajbfhdkghofbaaBytesArg
import Derived.Laws.BytesArg
namespace Go.Proofs.Ytajbfhdkghofbaa.packedFixed
open Go.RowKit

theorem two_bytes {a b c d : Int} (h : a * 256 + b = c * 256 + d) (h1 : 0 ≤ b) (h2 : b < 256) (h3 : 0 ≤ d) (h4 : d < 256) : a = c ∧ b = d := by omega

theorem own_pos {w : World} {base n : Nat} {v : Value} {xs : List Value} (h : w.ownsRow base 5 1 v n xs) (hn : 0 < n) : ∃ g c, v = .slice (some ⟨g, 0, none⟩) n c ∧ n ≤ c := by
  rcases h.2 with ⟨rfl, rfl⟩ | ⟨g, cap, cur, rfl, _, _, hle, hm, _, _⟩
  · omega
  · exact ⟨g, cap, rfl, hle⟩

set_option maxRecDepth 100000 in
set_option maxHeartbeats 4000000 in
theorem walk {w : World} (A : Option Addr) (n c : Nat) (xs : List Int) (h : BytesArg w A n xs) :
    Calls Try.prog 3 #[.slice A n c] w fun e w' => e = .returned (.bool true) ∧ Below w.heap.size w w' := by
  have H := Lib.hid h
  obtain ⟨hl, h47, hor, hb⟩ := h
  have HB := Lib.hid hb
  have DEC : ∀ (w1 : World) (v' : Value), w1.ownsRow w.heap.size 5 1 v' n (ucells xs) → Calls Try.prog 5 #[v'] w1 fun e w' => DecP w1 w' xs e ∧ Below w1.heap.size w1 w' := by
    intro w1 v' ho
    by_cases c1 : n < 5
    · obtain ⟨A1, c1', rfl, -, -⟩ := own_form ho
      exact Decode_short A1 n c1' xs w1 c1
    · by_cases c2 : 8000 < n
      · obtain ⟨A1, c1', rfl, -, -⟩ := own_form ho
        exact Decode_long A1 n c1' xs w1 c2 h47
      · obtain ⟨g, c1', rfl, hc⟩ := own_pos ho (by omega)
        obtain ⟨k, rfl⟩ : ∃ k, n = k + 2 := ⟨n - 2, by omega⟩
        exact Decode_any g c1' k xs w1 hl (Rd.of_own ho) (by omega) (by omega) hc hb
  have HD := Lib.hid DEC
  have hl' := Lib.hid hl; have HOR := Lib.hid hor
  clear hb DEC hor hl
  go_enter Try.func3, Try.ntmps3
  go_wp2_with (at_builtin; refine wpList_copy rfl (.const (.slice none 0 0)) (.tmp 8) rfl rfl A n c xs rfl H.out ?_; intro v' w1 ho1 hg1)
  have b1 : Below w.heap.size w w1 := (Below.refl _ _).grown hg1 (Nat.le_refl _) (fun k hk => by cases hk)
  refine (HD.out w1 v' ho1).mono ?_; rintro e w2 ⟨hd, b2⟩
  have b12 := b1.trans (b2.mono b1.size)
  have hs2 := b12.size
  clear hg1 ho1 b2
  rcases hd with ⟨er, rfl, her⟩ | ⟨m, st, A2, n2, c2, hi, lo, rfl, hO, hv, hxs, h0, h1, h2, h3, hcr⟩
  · rcases her with rfl | rfl | rfl
    all_goals
      go_wp2_with fail
      go_ret
      exact ⟨rfl, b12.alloc (by omega) _⟩
  · have HO := Lib.hid hO; have HV := Lib.hid hv
    have EN : ∀ W, Below w2.heap.size w2 W → Calls Try.prog 6 #[.agg #[.int .i64 st, .slice A2 n2 c2]] W fun e w' => ∃ g c3, e = .returned (.tuple #[.slice (some ⟨g, 0, none⟩) xs.length c3, .int .i64 0]) ∧ Hid (∀ i, i < xs.length → w'.cell? ⟨g, 0 + i, none⟩ = some (.int .u8 (xs.getD i 0))) ∧ Below W.heap.size W w' := by
      intro W hW
      refine (Encode_full _ m W (hO.at_.below hW) hv).mono ?_
      rintro e w' ⟨bv, rfl, ⟨hi2, lo2, hB, hbk, q0, q1, q2, q3, q4, q5, q6⟩, hbel⟩
      rw [hcr] at q6
      obtain ⟨rfl, rfl⟩ := two_bytes q6 h2 h3 q2 q3
      unfold Bytes at hB
      rw [← hxs] at hB
      obtain ⟨g, c3, rfl, hc⟩ := own_pos hB (by rw [hxs]; simp)
      refine ⟨g, c3, rfl, Lib.hid fun i hi => ?_, hbel⟩
      have := (Rd.of_own hB).at' (ucells_get xs i hi)
      simp only [blk_some, ofs_some] at this
      rw [this]
      simp [List.getD, List.getElem?_eq_getElem hi]
    have HE := Lib.hid EN
    have hpos : 0 < n := by rw [← hl'.out, hxs]; simp
    clear hO hv hcr hxs EN HD
    have CV1 : Hid (∀ (W : World) (g c3 : Nat), (∀ i, i < xs.length → W.cell? ⟨g, 0 + i, none⟩ = some (.int .u8 (xs.getD i 0))) → (convert 22 9 (.slice (some ⟨g, 0, none⟩) n c3)).run Try.prog W = .ok (.string (strOfNums xs)) W) := Lib.hid fun W g c3 hcell =>
      run_convert_bytes_arg W 22 5 Try.underlying22 Try.underlying5 g 0 n c3 xs hl'.out (fun i hi => hcell i (by rw [hl'.out]; exact hi)) 9 Try.underlying9
    have CV2 : Hid (∀ (W : World), Below w.heap.size w W → (convert 22 9 (.slice A n c)).run Try.prog W = .ok (.string (strOfNums xs)) W) := Lib.hid fun W hW => by
      rcases HOR.out with h0 | ⟨b, off, rfl, hc⟩
      · omega
      · exact run_convert_bytes_arg W 22 5 Try.underlying22 Try.underlying5 b off n c xs hl'.out (fun i hi => cell_keep hW (Nat.le_refl _) (hc i hi)) 9 Try.underlying9
    have hlx := hl'.out
    rw [hlx] at HE
    clear H HB HOR hlx
    go_wp2_with fail
    refine (HE.out _ ((Below.refl _ _).alloc (Nat.le_refl _) _)).mono ?_
    rintro e w4 ⟨g, c3, rfl, HC, b4⟩
    have b14 : Below w.heap.size w w4 := (b12.alloc (by omega) _).trans (b4.mono (by simp; omega))
    have cv1 := CV1.out w4 g c3 (by rw [hl'.out]; exact HC.out)
    have cv2 := CV2.out w4 b14
    clear b4 HE CV1 CV2
    go_wp2_with fail
    go_ret
    exact ⟨rfl, b14⟩
end Go.Proofs.Ytajbfhdkghofbaa.packedFixed
