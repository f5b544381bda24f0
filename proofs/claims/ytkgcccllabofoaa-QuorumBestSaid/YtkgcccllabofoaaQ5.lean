/-
  The walks of the quorum: the laws' own words, and the first laws.
-/
import Derived.Test.YtkgcccllabofoaaQ4
namespace Go.Proofs.Ytkgcccllabofoaa
open Go.RowKit

theorem few_any (A : Option Addr) (n c : Nat) (l : List Int) (w : World) (hl : RdI w A n l) (hn : n ≤ c) :
    Calls Try.prog 13 #[.slice A n c] w fun e w' => (∃ n' : Nat, e = .returned (.slice A n' c) ∧ n' ≤ 20 ∧ n' ≤ c ∧ RdI w A n' (l.take 20)) ∧ w = w' := by
  have hlen := hl.len
  by_cases h : 20 < n
  · have ht := hl.take (k := 20) (by omega)
    have Hc := Lib.hid hn
    go_enter Try.func13, Try.ntmps13
    go_wp2_with fail
    go_ret
    exact ⟨⟨20, rfl, by omega, by omega, ht⟩, rfl⟩
  · have ht : RdI w A n (l.take 20) := by rw [List.take_of_length_le (by omega)]; exact hl
    go_enter Try.func13, Try.ntmps13
    go_wp2_with fail
    go_ret
    exact ⟨⟨n, rfl, by omega, by omega, ht⟩, rfl⟩

theorem agreed_l1 : agreedF 3 [5, 3, 9] = 5 :=
  (agreedF_yes (N := 3) (by decide) _).trans (best_end (N := 3) (l := [5, 3, 9]) (by decide) ⟨.inr ⟨0, by decide, by decide, by decide⟩, by decide, by decide⟩).symm
theorem agreed_l2 : agreedF 3 [5] = 0 :=
  (agreedF_yes (N := 3) (by decide) _).trans (best_end (N := 3) (l := [5]) (by decide) ⟨.inl rfl, by decide, by decide⟩).symm
set_option maxRecDepth 100000 in
theorem lives_any (w : World) : Calls Try.prog 18 #[] w fun e w' => e = .returned (.bool true) ∧ Below w.heap.size w w' := by
  have l8 : ∀ n : Nat, n ≤ 8 → n ≤ maxLen := fun n h => maxLen_big h (by omega)
  go_enter Try.func18, Try.ntmps18
  go_wp2_with fail
  refine (size_any 3 _).mono ?_
  rintro e w1 ⟨rfl, rfl⟩
  rw [show sizeF 3 = 2 by decide]
  go_wp2_with fail
  refine (size_any 4 _).mono ?_
  rintro e w1 ⟨rfl, rfl⟩
  rw [show sizeF 4 = 3 by decide]
  go_wp2_with fail
  refine (size_any 8 _).mono ?_
  rintro e w1 ⟨rfl, rfl⟩
  rw [show sizeF 8 = 0 by decide]
  go_wp2_with fail
  have hb0 := Below.refl w.heap.size w
  have hlit := RdI.lit w 3 (0, 0) [1, 1] #[.int .i64 1, .int .i64 1] 2 w.heap.size rfl rfl rfl
  have hb1 := hb0.alloc hb0.size (.cells #[.int .i64 1, .int .i64 1] 3)
  refine (won_any 3 _ 2 2 [1, 1] _ hlit (l8 2 (by omega)) (Nat.le_refl _)).mono ?_
  rintro e wN ⟨rfl, rfl⟩
  rw [show wonF 3 [1, 1] = false by decide]
  generalize w.alloc (.cells #[.int .i64 1, .int .i64 1] 3) = w1 at *
  clear hlit
  go_wp2_with fail
  have hlit := RdI.lit w1 3 (0, 0) [3, 1] #[.int .i64 3, .int .i64 1] 2 w1.heap.size rfl rfl rfl
  have hb2 := hb1.alloc hb1.size (.cells #[.int .i64 3, .int .i64 1] 3)
  refine (won_any 3 _ 2 2 [3, 1] _ hlit (l8 2 (by omega)) (Nat.le_refl _)).mono ?_
  rintro e wN ⟨rfl, rfl⟩
  rw [show wonF 3 [3, 1] = true by decide]
  generalize w1.alloc (.cells #[.int .i64 3, .int .i64 1] 3) = w2 at *
  clear hlit
  go_wp2_with fail
  have hlit := RdI.lit w2 3 (0, 0) [5, 3, 9] #[.int .i64 5, .int .i64 3, .int .i64 9] 3 w2.heap.size rfl rfl rfl
  have hb3 := hb2.alloc hb2.size (.cells #[.int .i64 5, .int .i64 3, .int .i64 9] 3)
  refine (agreed_any 3 _ 3 3 [5, 3, 9] _ hlit).mono ?_
  rintro e w3 ⟨rfl, hx⟩
  rw [agreed_l1]
  have hb3 := below_then hb3 hx (Nat.le_refl _)
  clear hlit hx
  go_wp2_with fail
  have hlit := RdI.lit w3 3 (0, 0) [5] #[.int .i64 5] 1 w3.heap.size rfl rfl rfl
  have hb4 := hb3.alloc hb3.size (.cells #[.int .i64 5] 3)
  refine (agreed_any 3 _ 1 1 [5] _ hlit).mono ?_
  rintro e w4 ⟨rfl, hx⟩
  rw [agreed_l2]
  have hb4 := below_then hb4 hx (Nat.le_refl _)
  clear hlit hx
  go_wp2_with fail
  refine (newer_any 1 2 9 1 _).mono ?_
  rintro e wN ⟨rfl, rfl⟩
  rw [show newerF 1 2 9 1 = true by decide]
  go_wp2_with fail
  refine (wait_any (-1) _ (by omega) (by omega)).mono ?_
  rintro e wN ⟨rfl, rfl⟩
  rw [show waitF (-1) = 10 by decide]
  go_wp2_with fail
  refine (wait_any 25 _ (by omega) (by omega)).mono ?_
  rintro e wN ⟨rfl, rfl⟩
  rw [show waitF 25 = 15 by decide]
  go_wp2_with fail
  go_ret
  exact ⟨rfl, hb4⟩

theorem quorumWon_any (n : Int) (A : Option Addr) (m c : Nat) (l : List Int) (w : World) (hl : RdI w A m l) (hm : m ≤ c) (hc : c ≤ maxLen) :
    Calls Try.prog 3 #[.int .i64 n, .slice A m c] w fun e w' => e = .returned (.bool true) ∧ Below w.heap.size w w' := by
  go_enter Try.func3, Try.ntmps3
  go_wp2_with fail
  refine (few_any A m c l _ hl hm).mono ?_
  rintro e w' ⟨⟨n', rfl, h20, hnc, hl'⟩, rfl⟩
  generalize l.take 20 = l' at *
  go_wp2_with fail
  refine (size_any n _).mono ?_
  rintro e w1 ⟨rfl, rfl⟩
  go_wp2_with fail
  refine (refsize_any n _).mono ?_
  rintro e w1 ⟨rfl, rfl⟩
  go_wp2_with fail
  refine (won_any n _ _ _ l' _ hl' hc hnc).mono ?_
  rintro e w1 ⟨rfl, rfl⟩
  go_wp2_with fail
  refine (refwon_any n _ _ _ l' _ hl' hc hnc).mono ?_
  rintro e w1 ⟨rfl, rfl⟩
  go_wp2_with fail
  refine (lives_any _).mono ?_
  rintro e w1 ⟨rfl, hb⟩
  go_wp2_with fail
  go_ret
  exact ⟨rfl, hb⟩
theorem quorumAgreed_any (n : Int) (A : Option Addr) (m c : Nat) (l : List Int) (w : World) (hl : RdI w A m l) (hm : m ≤ c) (_hc : c ≤ maxLen) :
    Calls Try.prog 4 #[.int .i64 n, .slice A m c] w fun e w' => e = .returned (.bool true) ∧ Below w.heap.size w w' := by
  go_enter Try.func4, Try.ntmps4
  go_wp2_with fail
  refine (few_any A m c l _ hl hm).mono ?_
  rintro e w' ⟨⟨n', rfl, h20, hnc, hl'⟩, rfl⟩
  generalize l.take 20 = l' at *
  go_wp2_with fail
  refine (agreed_any n _ _ _ l' _ hl').mono ?_
  rintro e w1 ⟨rfl, hb1⟩
  go_wp2_with fail
  refine (refagreed_any n _ _ _ l' _ (hl'.below hb1)).mono ?_
  rintro e w2 ⟨rfl, hb2⟩
  have hb2 := below_then hb1 hb2 (Nat.le_refl _)
  go_wp2_with fail
  refine (lives_any _).mono ?_
  rintro e w3 ⟨rfl, hb3⟩
  have hb3 := below_then hb2 hb3 (Nat.le_refl _)
  go_wp2_with fail
  go_ret
  exact ⟨rfl, hb3⟩
theorem waitF_in (d : Int) : 10 ≤ waitF d ∧ waitF d < 30 := by unfold waitF; omega
theorem newer_tot (i t l u : Int) : newerF i t l u = true ∨ newerF l u i t = true := by
  unfold newerF; simp only [decide_eq_true_eq]; omega
theorem newer_both (i t l u : Int) : (newerF i t l u && newerF l u i t) = (decide (i = l) && decide (t = u)) := by
  rw [Bool.eq_iff_iff]; unfold newerF; simp only [Bool.and_eq_true, decide_eq_true_eq]; omega
theorem quorumNewer_any (i t l u : Int) (w : World) (h1 : -9223372036854775808 ≤ i) (h2 : i ≤ 9223372036854775807) :
    Calls Try.prog 7 #[.int .i64 i, .int .i64 t, .int .i64 l, .int .i64 u] w fun e w' => e = .returned (.bool true) ∧ Below w.heap.size w w' := by
  go_enter Try.func7, Try.ntmps7
  go_wp2_with fail
  refine (newer_any i t l u _).mono ?_
  rintro e w1 ⟨rfl, rfl⟩
  go_wp2_with fail
  refine (newer_any l u i t _).mono ?_
  rintro e w1 ⟨rfl, rfl⟩
  go_wp2_with fail
  refine (wait_any i _ h1 h2).mono ?_
  rintro e w1 ⟨rfl, rfl⟩
  go_wp2_with fail
  refine (refnewer_any i t l u _).mono ?_
  rintro e w1 ⟨rfl, rfl⟩
  have ht := newer_tot i t l u
  have hbo := newer_both i t l u
  have hx : (i == l) = decide (i = l) := rfl
  have hy : (t == u) = decide (t = u) := rfl
  have hrw := refwait_any i w h1 h2
  obtain ⟨h10, h30⟩ := waitF_in i
  generalize newerF i t l u = a at *
  generalize newerF l u i t = b at *
  generalize waitF i = wt at *
  have key : (a = true ∧ b = true ∧ i = l ∧ t = u) ∨ (a = true ∧ b = false ∧ i ≠ l) ∨ (a = true ∧ b = false ∧ i = l ∧ t ≠ u) ∨ (a = false ∧ b = true ∧ i ≠ l) ∨ (a = false ∧ b = true ∧ i = l ∧ t ≠ u) := by
    cases a <;> cases b <;> simp at ht hbo ⊢ <;> omega
  clear h1 h2 ht hbo hx hy
  rcases key with ⟨rfl, rfl, rfl, rfl⟩ | ⟨rfl, rfl, h⟩ | ⟨rfl, rfl, rfl, h⟩ | ⟨rfl, rfl, h⟩ | ⟨rfl, rfl, rfl, h⟩
  all_goals
    have e1 := beq_self_eq_true i
    have e2 := beq_self_eq_true t
    try have e3 := beq_eq_false_iff_ne.2 h
    go_wp2_with fail
    refine hrw.mono ?_
    rintro e w1 ⟨rfl, rfl⟩
    clear hrw
    go_wp2_with fail
    refine (lives_any _).mono ?_
    rintro e w1 ⟨rfl, hb⟩
    go_wp2_with fail
    go_ret
    exact ⟨rfl, hb⟩
end Go.Proofs.Ytkgcccllabofoaa
