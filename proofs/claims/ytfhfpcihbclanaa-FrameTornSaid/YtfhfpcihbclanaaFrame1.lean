/-
  The walks of the frames, first part: few, slices.Clone, slices.Grow, slices.Concat, Put.
-/
import Derived.Test.YtfhfpcihbclanaaCrc2
import Derived.Lib.AppendZerosOnto
import Derived.Lib.AppendZeros
import Derived.Lib.SliceRun
namespace Go.Proofs.Ytfhfpcihbclanaa
open Go.RowKit

theorem few3_any (A : Option Addr) (n c m : Nat) (l : List UInt8) (w : World) (hr : Rd w A n l) (_hn : n ≤ maxLen) (_hc : n ≤ c) (_hm : m ≤ maxLen) :
    Calls Try.prog 25 #[.slice A n c, .int .i64 m] w fun e w' => (∃ n' : Nat, e = .returned (.slice A n' c) ∧ n' ≤ m ∧ n' ≤ n ∧ Rd w A n' (l.take m)) ∧ w = w' := by
  unfold maxLen at _hn _hm
  by_cases h : m < n
  · have hr' := hr.take (Nat.le_of_lt h)
    go_enter Try.func25, Try.ntmps25
    go_wp2
    go_ret
    exact ⟨⟨m, rfl, Nat.le_refl _, by omega, hr'⟩, rfl⟩
  · have hr' : Rd w A n (l.take m) := by rw [List.take_of_length_le (by rw [hr.len]; omega)]; exact hr
    go_enter Try.func25, Try.ntmps25
    go_wp2
    go_ret
    exact ⟨⟨n, rfl, by omega, Nat.le_refl _, hr'⟩, rfl⟩

theorem eql_nil_slice : ∀ (w : World) (A : Option Addr) (n c : Nat), (binOp .eql 23 (.slice A n c) (.slice none 0 0)).run Try.prog w = .ok (.bool A.isNone) w :=
  fun w A n c => Lib.run_eql_slice_nil w 23 5 A n c 0 0 Try.underlying23

theorem clone_any (A : Option Addr) (n c : Nat) (l : List UInt8) (w : World) (hr : Rd w A n l) (hn : n ≤ 1000000000) :
    Calls Try.prog 38 #[.slice A n c] w fun e w' => ∃ A' c', e = .returned (.slice A' n c') ∧
      w'.ownsRow w.heap.size 5 1 (.slice A' n c') n (l.map vb) ∧ Below w.heap.size w w' := by
  have heq := eql_nil_slice
  rcases A with _ | a
  · have h0 : n = 0 := by
      rcases Nat.eq_zero_or_pos n with h | h
      · exact h
      · obtain ⟨_, h', _⟩ := hr.at_ h; cases h'
    subst h0
    have hl : l = [] := List.eq_nil_of_length_eq_zero hr.len
    subst hl
    go_enter Try.func38, Try.ntmps38
    go_wp2
    go_ret
    exact ⟨_, _, rfl, own_nil _ _, Below.refl _ _⟩
  · go_enter Try.func38, Try.ntmps38
    go_wp2_with (first
      | (at_builtin; refine wpList_append_b rfl (.tmp 5) (.tmp 6) rfl w.heap.size (l := []) (n := 0) rfl (own_new _ [] 0 (by simp) (by unfold maxLen; omega)) rfl (hr.alloc _) (by omega) (by simp) ?_; intro A1 c1 w1 hown1 hg1 hb1; clear hg1)
      | fail)
    go_ret
    simp only [Nat.zero_add, List.nil_append] at hown1
    refine ⟨A1, c1, by simp, hown1, ((Below.refl _ _).alloc (Nat.le_refl _) _).trans hb1⟩

theorem grow_any (n : Nat) (w : World) (hn : n ≤ 1000000000) :
    Calls Try.prog 39 #[.slice none 0 0, .int .i64 n] w fun e w' => ∃ A' c', e = .returned (.slice A' 0 c') ∧
      w'.ownsRow w.heap.size 5 1 (.slice A' 0 c') 0 [] ∧ Below w.heap.size w w' := by
  by_cases h0 : n = 0
  · subst h0
    go_enter Try.func39, Try.ntmps39
    go_wp2
    go_ret
    exact ⟨_, _, rfl, own_nil _ _, Below.refl _ _⟩
  · obtain ⟨i0, hi0, hz0, hz1, hz2⟩ := info_parts u8_info
    have hfit : Builtin.nextslicecap (0 + n) 0 * i0.bytes ≤ 281474976710656 := growslice_fits (by omega) (by rw [hz2]; omega)
    have hrz : ∀ ty, (Builtin.append_ #[23, 3] ty #[.slice none 0 0, .int .i64 n]).run Try.prog w = _ := fun ty =>
      Lib.run_append_grow_zeros w 23 3 ty 5 i0 (.int .u8 0) .i64 .i64 Try.underlying23 Try.underlying3 hi0 hz0 none 0 0 [] (by simp [Builtin.firstCells]) n (by omega) (by omega) (by omega) (by omega) (by rw [hz2]; omega) hfit
    have hG := grownCap_ge w (0 + n) 0 5
    have hG2 := grownCap_le_maxLen w (0 + n) 0 5 (by unfold maxLen; omega)
    rw [Nat.zero_add] at hrz hG hG2
    generalize grownCap w n 0 5 = G at *
    have hsz : (([].toArray : Array Value) ++ Builtin.zeroCells (Value.int .u8 0).cells n ++ Builtin.zeroCells (Value.int .u8 0).cells (G - n)).size = G * 1 := by
      simp [Builtin.zeroCells, Value.cells]; omega
    generalize (([].toArray : Array Value) ++ Builtin.zeroCells (Value.int .u8 0).cells n ++ Builtin.zeroCells (Value.int .u8 0).cells (G - n)) = Z at *
    unfold maxLen at hG2
    go_enter Try.func39, Try.ntmps39
    go_wp2_with (at_builtin; refine Lib.wpList_append_run _ rfl _ _ _ _ rfl _ _ rfl rfl _ _ (hrz _) ?_)
    go_ret
    exact ⟨_, _, rfl, World.ownsRow_made w.drew Z G (Nat.le_refl _) (by unfold maxLen; omega) hsz, (Below.refl _ _).drew.alloc (Nat.le_refl _) _⟩

/-- a slice of slices of bytes -/
def RdS (w : World) (A : Option Addr) (n : Nat) (ls : List (List UInt8)) : Prop :=
  ls.length = n ∧ ∀ i, i < n → ∃ (ad : Addr) (B : Option Addr) (m c : Nat), A = some ad ∧ w.cell? (ad.add i) = some (.slice B m c) ∧ Rd w B m (ls[i]?.getD [])
theorem RdS.below {w w' : World} {A : Option Addr} {n : Nat} {ls : List (List UInt8)} (h : RdS w A n ls) (hb : Below w.heap.size w w') : RdS w' A n ls :=
  ⟨h.1, fun i hi => by
    obtain ⟨ad, B, m, c, e, hc, hr⟩ := h.2 i hi
    exact ⟨ad, B, m, c, e, (hb.cell (lt_of_cell hc)).trans hc, hr.below hb⟩⟩
def sumL (ls : List (List UInt8)) : Nat := (ls.map List.length).sum
theorem sumL_snoc (ls : List (List UInt8)) (l : List UInt8) : sumL (ls ++ [l]) = sumL ls + l.length := by simp [sumL]
theorem sumL_flat (ls : List (List UInt8)) : ls.flatten.length = sumL ls := by simp [sumL, List.length_flatten]
theorem sumL_take (ls : List (List UInt8)) (k : Nat) : sumL (ls.take k) ≤ sumL ls := by
  have h : sumL ls = sumL (ls.take k) + sumL (ls.drop k) := by
    have e := List.take_append_drop k ls
    have : sumL (ls.take k ++ ls.drop k) = sumL (ls.take k) + sumL (ls.drop k) := by unfold sumL; rw [List.map_append, List.sum_append]
    rwa [e] at this
  omega

theorem concat_any (A : Option Addr) (n c : Nat) (ls : List (List UInt8)) (w : World) (hr : RdS w A n ls) (hn : n ≤ 1000000) (hs : sumL ls ≤ 1000000000) :
    Calls Try.prog 37 #[.slice A n c] w fun e w' => ∃ A' c', e = .returned (.slice A' (sumL ls) c') ∧
      w'.ownsRow w.heap.size 5 1 (.slice A' (sumL ls) c') (sumL ls) (ls.flatten.map vb) ∧ Below w.heap.size w w' := by
  have Hll := Lib.hid hr.1
  have Htk := Lib.hid (sumL_take ls)
  go_enter Try.func37, Try.ntmps37
  go_wp2
  go_loop [3, 11] (fun v i => ∃ k : Nat, k ≤ n ∧ i = .int .i64 k ∧ v = .int .i64 (sumL (ls.take k) : Nat)) (fun _ i => n - (intOf i).toNat)
  case atStart => exact ⟨0, Nat.zero_le _, rfl, rfl⟩
  case round =>
    obtain ⟨k, hk, rfl, rfl⟩ := hrel
    have hk1 := Htk.out k
    by_cases hlt : k < n
    · obtain ⟨ad, B, m, d, rfl, hc, hrb⟩ := hr.2 k hlt
      have hsn := take_snoc ls [] k (by rw [Hll.out]; exact hlt)
      have hk2 := Htk.out (k + 1)
      have hm : sumL (ls.take (k + 1)) = sumL (ls.take k) + m := by rw [hsn, sumL_snoc, hrb.len]
      have Hm := Lib.hid hm
      rw [hm] at hk2
      clear hsn hm
      go_wp2
      go_round
      case rel => exact ⟨k + 1, by omega, by go_num, by rw [Hm.out]; go_num⟩
      case measure => simp [intOf]; omega
    · obtain rfl : k = n := by omega
      have hall : ls.take k = ls := List.take_of_length_le (by rw [Hll.out]; omega)
      rw [hall] at hk1 ⊢
      clear hall
      go_wp2_with fail
      refine (grow_any _ _ hs).mono ?_
      rintro e w1 ⟨A1, c1, rfl, hown1, hb1⟩
      have hr1 := hr.below hb1
      go_wp2_with fail
      go_loopw [6, 27] (fun v i wr => ∃ j : Nat, j ≤ k ∧ i = .int .i64 j ∧ ∃ A c, v = .slice A (sumL (ls.take j) : Nat) c ∧ wr.ownsRow w.heap.size 5 1 (.slice A (sumL (ls.take j)) c) (sumL (ls.take j)) ((ls.take j).flatten.map vb) ∧ Below w.heap.size w wr) (fun _ i _ => k - (intOf i).toNat)
      case atStart => exact ⟨0, Nat.zero_le _, rfl, _, _, rfl, hown1, hb1⟩
      case round =>
        obtain ⟨j, hj, rfl, A2, c2, rfl, hown, hb⟩ := hrel
        by_cases hlt2 : j < k
        · have hrw := hr.below hb
          obtain ⟨ad, B, m, d, rfl, hc, hrb⟩ := hrw.2 j hlt2
          have hsn := take_snoc ls [] j (by rw [Hll.out]; exact hlt2)
          have hk2 := Htk.out (j + 1)
          have hm : sumL (ls.take (j + 1)) = sumL (ls.take j) + m := by rw [hsn, sumL_snoc, hrb.len]
          have hfl : (ls.take (j + 1)).flatten = (ls.take j).flatten ++ (ls[j]?.getD []) := by rw [hsn]; simp
          rw [hm] at hk2
          have Hm := Lib.hid hm
          have Hfl := Lib.hid hfl
          clear hsn hm hfl hr hr1
          go_wp2_with (first
            | (at_builtin; refine wpList_append_b rfl (.tmp 31) (.tmp 32) rfl w.heap.size rfl hown rfl hrb (by omega) hb.size ?_; intro A3 c3 w3 hown3 hg3 hb3; clear hg3)
            | fail)
          go_roundw
          case rel => exact ⟨j + 1, by omega, by go_num, by rw [Hm.out, Hfl.out]; exact ⟨_, _, rfl, hown3, hb.trans hb3⟩⟩
          case measure => simp [intOf]; omega
        · obtain rfl : j = k := by omega
          have hall : ls.take j = ls := List.take_of_length_le (by rw [Hll.out]; omega)
          rw [hall] at hown ⊢
          clear hall
          go_wp2
          go_ret
          exact ⟨_, _, rfl, hown, hb⟩
end Go.Proofs.Ytfhfpcihbclanaa
