/-
  The laws of the frames: their walks.
-/
import Derived.Test.YtfhfpcihbclanaaFrame9
namespace Go.Proofs.Ytfhfpcihbclanaa
open Go.RowKit

theorem framePuts_any (k : Int) (A B : Option Addr) (n c m d : Nat) (l r : List UInt8) (w : World) (hl : Rd w A n l) (hnc : n ≤ c) (hc : c ≤ maxLen) (hr : Rd w B m r) (hmd : m ≤ d) (hd : d ≤ maxLen) :
    Calls Try.prog 9 #[.slice A n c, .int .i64 k, .slice B m d] w fun e w' => e = .returned (.bool true) ∧ Below w.heap.size w w' := by
  go_enter Try.func9, Try.ntmps9
  go_wp2_with fail
  refine (few3_any A n c 50 l _ hl (by omega) hnc (by unfold maxLen; omega)).mono ?_
  rintro e w' ⟨⟨n', rfl, hn1, hn2, hl'⟩, rfl⟩
  generalize l.take 50 = l' at *
  go_wp2_with fail
  refine (few3_any B m d 66000 r _ hr (by omega) hmd (by unfold maxLen; omega)).mono ?_
  rintro e w' ⟨⟨m', rfl, hm1, hm2, hr'⟩, rfl⟩
  generalize r.take 66000 = r' at *
  by_cases hbad : k < 0 ∨ 255 < k ∨ 65536 < m'
  · go_wp2_with fail
    refine (put_bad _ _ _ _ _ _ _ _ hbad).mono ?_; rintro e w' ⟨rfl, rfl⟩
    go_wp2_with fail
    refine (refput_bad _ _ _ _ _ _ _ _ hbad).mono ?_; rintro e w' ⟨rfl, rfl⟩
    clear hbad
    go_wp2_with fail
    refine (same_any none none 0 0 0 0 [] [] _ Rd.none_ Rd.none_ (by unfold maxLen; omega) (by unfold maxLen; omega)).mono ?_
    rintro e w2 ⟨rfl, q, rfl⟩
    simp only [decide_true]
    go_wp2_with fail
    refine (lives3_any _).mono ?_; rintro e w' ⟨rfl, hb3⟩
    go_wp2
    go_ret
    exact ⟨rfl, (below_drewN (Below.refl _ _) q).trans hb3⟩
  · obtain ⟨k, rfl⟩ : ∃ j : Nat, k = j := ⟨k.toNat, by omega⟩
    have hk : k ≤ 255 := by omega
    have hm : m' ≤ 65536 := by omega
    clear hbad
    go_wp2_with fail
    refine (put_ok _ _ _ _ _ _ _ _ _ _ hl' hr' (by omega) hk hm).mono ?_; rintro e w1 ⟨A1, c1, rfl, hown1, hb1⟩
    go_wp2_with fail
    refine (refput_ok _ _ _ _ _ _ _ _ _ _ (hl'.below hb1) (hr'.below hb1) (by omega) hk hm).mono ?_; rintro e w2 ⟨A2, c2, rfl, hown2, hb2⟩
    have hown12 := own_below hown1 hb2
    have hb02 := below_then hb1 hb2 (Nat.le_refl _)
    go_wp2_with fail
    refine (same_any _ _ _ _ _ _ _ _ _ (Rd.of_own hown12) (Rd.of_own hown2) (by unfold maxLen; omega) (by unfold maxLen; omega)).mono ?_
    rintro e w3 ⟨rfl, q, rfl⟩
    simp only [decide_true]
    clear hown1 hown2 hown12
    go_wp2_with fail
    refine (lives3_any _).mono ?_; rintro e w' ⟨rfl, hb3⟩
    go_wp2
    go_ret
    exact ⟨rfl, (below_drewN hb02 q).trans (hb3.mono hb02.size)⟩
end Go.Proofs.Ytfhfpcihbclanaa
