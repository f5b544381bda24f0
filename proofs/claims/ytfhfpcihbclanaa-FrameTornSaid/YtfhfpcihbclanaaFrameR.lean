/-
  The laws of the frames: their walks (Round, Torn).
-/
import Derived.Test.YtfhfpcihbclanaaFrameM
namespace Go.Proofs.Ytfhfpcihbclanaa
open Go.RowKit

theorem madeF_len (ps : List (Int × List UInt8)) : (madeF ps).length ≤ 12 := by
  unfold madeF
  rw [List.length_map, List.length_take]; omega
theorem madeF_ok (ps : List (Int × List UInt8)) : ∀ f ∈ madeF ps, okFr f := by
  intro f hf
  obtain ⟨p, _, rfl⟩ := List.mem_map.1 hf
  exact partF_ok p
theorem madeF_bytes (ps : List (Int × List UInt8)) : (framesB (madeF ps)).length ≤ 2000 := by
  have h := framesB_le (madeF ps) (fun f hf => by
    obtain ⟨p, _, rfl⟩ := List.mem_map.1 hf
    show (p.2.take 100).length ≤ 100
    rw [List.length_take]; omega)
  have := madeF_len ps
  omega

theorem frameRound_any (A : Option Addr) (n c : Nat) (ps : List (Int × List UInt8)) (w : World) (hr : RdP w A n ps) :
    Calls Try.prog 11 #[.slice A n c] w fun e w' => e = .returned (.bool true) ∧ Below w.heap.size w w' := by
  have hm1 := madeF_len ps
  have hm2 := madeF_bytes ps
  have Hsc := Lib.hid (scan_round (madeF ps) (madeF_ok ps))
  go_enter Try.func11, Try.ntmps11
  go_wp2_with fail
  refine (made_any _ _ _ ps _ hr).mono ?_
  rintro e w1 ⟨A1, c1, A2, c2, A3, c3, rfl, hown1, hrd2, _, _, _, hb1⟩
  generalize madeF ps = fs at *
  have hr1 := Rd.of_own hown1
  have hc1 := own_bounds hown1
  clear hown1
  go_wp2_with fail
  refine (scan_any _ _ _ _ _ hr1 (by omega) hc1.1 hc1.2).mono ?_
  rintro e w2 ⟨A4, c4, rfl, hown4, hb2⟩
  rw [Hsc.out] at hown4 ⊢
  have hb02 := below_then hb1 hb2 (Nat.le_refl _)
  go_wp2_with fail
  refine (same_fr _ _ _ _ _ _ _ _ _ hown4.reads (hrd2.below hb2) (maxLen_big (k := 2000) (by show fs.length ≤ 2000; omega) (by omega)) (maxLen_big (k := 2000) (by omega) (by omega))).mono ?_
  rintro e w4 ⟨rfl, q, rfl⟩
  simp only [decide_true]
  have hb04 := below_drewN hb02 q
  generalize World.drewN _ q = w4 at *
  clear hown4 hrd2 hr1
  go_wp2_with fail
  refine (lives3_any _).mono ?_; rintro e w5 ⟨rfl, hb5⟩
  go_wp2
  go_ret
  exact ⟨rfl, hb04.trans (hb5.mono hb04.size)⟩
end Go.Proofs.Ytfhfpcihbclanaa
