/-
  The laws of the check sum: their walks.
-/
import Derived.Test.YtfhfpcihbclanaaCrc2
namespace Go.Proofs.Ytfhfpcihbclanaa
open Go.RowKit

theorem maxLen_big {n k : Nat} (h : n ≤ k) (hk : k ≤ 1000000000) : n ≤ maxLen := by unfold maxLen; omega

theorem crcSums_any (s : Nat) (A : Option Addr) (n c : Nat) (l : List UInt8) (w : World) (hs : s < 4294967296) (hr : Rd w A n l) (hnc : n ≤ c) (hc : c ≤ maxLen) :
    Calls Try.prog 3 #[.int .u32 s, .slice A n c] w fun e w' => e = .returned (.bool true) ∧ Below w.heap.size w w' := by
  go_enter Try.func3, Try.ntmps3
  go_wp2_with fail
  refine (few_any A n c 2000 l _ hr (by omega) hnc (by unfold maxLen; omega)).mono ?_
  rintro e w' ⟨⟨n', rfl, hn1, hn2, hr'⟩, rfl⟩
  have hm : n' ≤ maxLen := maxLen_big hn1 (by omega)
  generalize l.take 2000 = l' at *
  go_wp2_with fail
  refine (sum_any _ _ _ _ _ hr' hm).mono ?_; rintro e w' ⟨rfl, rfl⟩
  go_wp2_with fail
  refine (refsum_any 0 _ _ _ _ _ hr' (by omega) hm).mono ?_; rintro e w' ⟨rfl, rfl⟩
  go_wp2_with fail
  refine (more_any _ _ _ _ _ _ hr' hs hm).mono ?_; rintro e w' ⟨rfl, rfl⟩
  go_wp2_with fail
  refine (refsum_any _ _ _ _ _ _ hr' hs hm).mono ?_; rintro e w' ⟨rfl, rfl⟩
  go_wp2_with fail
  refine (lives_any _).mono ?_; rintro e w' ⟨rfl, hb⟩
  go_wp2
  go_ret
  exact ⟨rfl, hb⟩

theorem crcMore_any (A B : Option Addr) (n c m d : Nat) (l r : List UInt8) (w : World) (hl : Rd w A n l) (hnc : n ≤ c) (hc : c ≤ maxLen) (hr : Rd w B m r) (hmd : m ≤ d) (hd : d ≤ maxLen) :
    Calls Try.prog 4 #[.slice A n c, .slice B m d] w fun e w' => e = .returned (.bool true) ∧ Below w.heap.size w w' := by
  go_enter Try.func4, Try.ntmps4
  go_wp2_with fail
  refine (few_any A n c 1000 l _ hl (by omega) hnc (by unfold maxLen; omega)).mono ?_
  rintro e w' ⟨⟨n', rfl, hn1, hn2, hl'⟩, rfl⟩
  have hm1 : n' ≤ maxLen := maxLen_big hn1 (by omega)
  generalize l.take 1000 = l' at *
  go_wp2_with fail
  refine (few_any B m d 1000 r _ hr (by omega) hmd (by unfold maxLen; omega)).mono ?_
  rintro e w' ⟨⟨m', rfl, hm1', hm2, hr'⟩, rfl⟩
  have hm2 : m' ≤ maxLen := maxLen_big hm1' (by omega)
  generalize r.take 1000 = r' at *
  go_wp2_with (first
    | (at_builtin; refine wpList_append_b0 rfl (.tmp 10) (.tmp 11) rfl rfl rfl hl' (by omega) ?_; intro A1 c1 w1 hown1 hb1)
    | (at_builtin; refine wpList_append_b rfl (.tmp 13) (.tmp 14) rfl w.heap.size rfl hown1 rfl (hr'.below hb1) (by omega) hb1.size ?_; intro A2 c2 w2 hown2 hg2 hb2; clear hg2)
    | fail)
  have hb := hb1.trans hb2
  clear hown1
  refine (sum_any _ _ _ _ _ (hl'.below hb) hm1).mono ?_; rintro e w' ⟨rfl, rfl⟩
  go_wp2_with fail
  refine (more_any _ _ _ _ _ _ (hr'.below hb) (moreF_lt _ _) hm2).mono ?_; rintro e w' ⟨rfl, rfl⟩
  rw [moreF_more]
  go_wp2_with fail
  refine (sum_any _ _ _ _ _ (Rd.of_own hown2) (maxLen_big (k := 2000) (by omega) (by omega))).mono ?_; rintro e w' ⟨rfl, rfl⟩
  go_wp2_with fail
  refine (lives_any _).mono ?_; rintro e w' ⟨rfl, hb3⟩
  go_wp2
  go_ret
  exact ⟨rfl, hb.trans (hb3.mono hb.size)⟩

theorem crcStays_any (A : Option Addr) (n c s : Nat) (l : List UInt8) (w : World) (hs : s < 4294967296) (hl : Rd w A n l) (hnc : n ≤ c) (hc : c ≤ maxLen) :
    Calls Try.prog 8 #[.slice A n c, .int .u32 s] w fun e w' => e = .returned (.bool true) ∧ Below w.heap.size w w' := by
  go_enter Try.func8, Try.ntmps8
  go_wp2_with fail
  refine (few_any A n c 500 l _ hl (by omega) hnc (by unfold maxLen; omega)).mono ?_
  rintro e w' ⟨⟨n', rfl, hn1, hn2, hl'⟩, rfl⟩
  have hm1 : n' ≤ maxLen := maxLen_big hn1 (by omega)
  generalize l.take 500 = l' at *
  go_wp2_with (first
    | (at_builtin; refine wpList_append_b0 rfl (.tmp 11) (.tmp 12) rfl rfl rfl hl' (by omega) ?_; intro A1 c1 w1 hown1 hb1)
    | fail)
  have hl1 := hl'.below hb1
  refine (sum_any _ _ _ _ _ hl1 hm1).mono ?_; rintro e w' ⟨rfl, rfl⟩
  go_wp2_with fail
  refine (more_any _ _ _ _ _ _ hl1 hs hm1).mono ?_; rintro e w' ⟨rfl, rfl⟩
  go_wp2_with fail
  refine (whole_any _ _ _ _ _ hl1 (by omega) (by omega)).mono ?_; rintro e w2 ⟨rfl, hb2⟩
  go_wp2_with fail
  refine (bytes_own _ hs _).mono ?_; rintro e w3 ⟨A3, c3, rfl, hown3, hb3⟩
  have hb13 := hb2.trans (hb3.mono hb2.size)
  have hsz := hb2.size
  clear hb2 hb3
  go_wp2_with fail
  go_loopw [7] (fun i wr => ∃ (k : Nat) (b : List UInt8), k ≤ 4 ∧ i = .int .i64 k ∧ wr.ownsRow w2.heap.size 5 1 (.slice A3 4 c3) 4 (b.map vb) ∧ Below w1.heap.size w1 wr) (fun i _ => 4 - (intOf i).toNat)
  case atStart => exact ⟨0, _, by omega, rfl, hown3, hb13⟩
  case round =>
    obtain ⟨k, b, hk, rfl, hown, hbr⟩ := hrel
    by_cases hk4 : k < 4
    · obtain ⟨g, rfl, hgb, hcell, hfr⟩ := own_at hown hk4
      go_wp2
      exact ⟨⟨k + 1, b.set k 7, by omega, by go_num, own_set hown k 7, hbr.setCell (by show w1.heap.size ≤ g; omega) _⟩, by simp [intOf]; omega⟩
    · obtain rfl : k = 4 := by omega
      have hown4 := own_below hown1 hbr
      have hl4 := hl1.below hbr
      have hb4 := hb1.trans (hbr.mono hb1.size)
      clear hown1 hl1 hbr hb13 hown
      go_wp2_with fail
      refine (same_any _ _ _ _ _ _ _ _ _ (Rd.of_own hown4) hl4 hm1 hm1).mono ?_; rintro e w' ⟨rfl, q, rfl⟩
      go_wp2_with fail
      refine (lives_any _).mono ?_; rintro e w' ⟨rfl, hb5⟩
      go_wp2
      go_ret
      exact ⟨rfl, (below_drewN hb4 q).trans (hb5.mono (below_drewN hb4 q).size)⟩
end Go.Proofs.Ytfhfpcihbclanaa
