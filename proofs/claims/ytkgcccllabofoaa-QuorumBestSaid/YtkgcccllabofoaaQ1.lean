/-
  The walks of the quorum: sizes, waits, which log is newer, bits.
-/
import Derived.Test.YtkgcccllabofoaaInt
namespace Go.Proofs.Ytkgcccllabofoaa
open Go.RowKit

def sizeF (n : Int) : Int := if 1 ≤ n ∧ n ≤ 7 then n / 2 + 1 else 0
theorem sizeF_no {n : Int} (h : ¬ (1 ≤ n ∧ n ≤ 7)) : sizeF n = 0 := if_neg h
theorem sizeF_yes {n : Int} (h : 1 ≤ n ∧ n ≤ 7) : sizeF n = n / 2 + 1 := if_pos h

theorem size_any (n : Int) (w : World) : Calls Try.prog 14 #[.int .i64 n] w fun e w' => e = .returned (.int .i64 (sizeF n)) ∧ w = w' := by
  by_cases h : 1 ≤ n ∧ n ≤ 7
  · have Hs := Lib.hid (sizeF_yes h)
    obtain ⟨h1, h2⟩ := h
    go_enter Try.func14, Try.ntmps14
    go_wp2
    go_ret
    exact ⟨by rw [Hs.out]; rfl, rfl⟩
  · have Hs := Lib.hid (sizeF_no h)
    rcases (show n < 1 ∨ (1 ≤ n ∧ 7 < n) by omega) with h1 | ⟨h1, h2⟩
    all_goals
      clear h
      go_enter Try.func14, Try.ntmps14
      go_wp2
      go_ret
      exact ⟨by rw [Hs.out]; rfl, rfl⟩

theorem refsize_any (n : Int) (w : World) : Calls Try.prog 15 #[.int .i64 n] w fun e w' => e = .returned (.int .i64 (sizeF n)) ∧ w = w' := by
  by_cases h : 1 ≤ n ∧ n ≤ 7
  · have Hs := Lib.hid (sizeF_yes h)
    obtain ⟨h1, h2⟩ := h
    go_enter Try.func15, Try.ntmps15
    go_wp2_with fail
    go_loop [3] (fun k => ∃ j : Nat, (j : Int) ≤ n / 2 + 1 ∧ 1 ≤ j ∧ k = .int .i64 j) (fun k => (n / 2 + 1 - intOf k).toNat)
    case atStart => exact ⟨1, by omega, by omega, rfl⟩
    case round =>
      obtain ⟨j, hj, hj1, rfl⟩ := hrel
      by_cases hlt : 2 * (j : Int) ≤ n
      · go_wp2
        go_round
        case rel => exact ⟨j + 1, by omega, by omega, by go_num⟩
        case measure => simp [intOf]; omega
      · have hje : (j : Int) = n / 2 + 1 := by omega
        have Hj := Lib.hid hje
        clear hje
        go_wp2
        go_ret
        exact ⟨by rw [Hs.out, ← Hj.out]; rfl, rfl⟩
  · have Hs := Lib.hid (sizeF_no h)
    rcases (show n < 1 ∨ (1 ≤ n ∧ 7 < n) by omega) with h1 | ⟨h1, h2⟩
    all_goals
      clear h
      go_enter Try.func15, Try.ntmps15
      go_wp2
      go_ret
      exact ⟨by rw [Hs.out]; rfl, rfl⟩

def newerF (i t l u : Int) : Bool := decide (u < t ∨ (t = u ∧ l ≤ i))
theorem newer_any (i t l u : Int) (w : World) : Calls Try.prog 21 #[.int .i64 i, .int .i64 t, .int .i64 l, .int .i64 u] w fun e w' => e = .returned (.bool (newerF i t l u)) ∧ w = w' := by
  rcases Int.lt_trichotomy u t with h | h | h
  · have Hs := Lib.hid (show newerF i t l u = true from decide_eq_true (.inl h))
    go_enter Try.func21, Try.ntmps21
    go_wp2
    go_ret
    exact ⟨by rw [Hs.out]; rfl, rfl⟩
  · subst h
    have E1 : decide (u < u) = false := by simp
    have E2 : ((u : Int) == u) = true := by simp
    by_cases hl : l ≤ i
    · have Hs := Lib.hid (show newerF i u l u = true from decide_eq_true (.inr ⟨rfl, hl⟩))
      go_enter Try.func21, Try.ntmps21
      go_wp2
      go_ret
      exact ⟨by rw [Hs.out]; rfl, rfl⟩
    · have Hs := Lib.hid (show newerF i u l u = false from decide_eq_false (by omega))
      have E3 : decide (l ≤ i) = false := by simp; omega
      go_enter Try.func21, Try.ntmps21
      go_wp2
      go_ret
      exact ⟨by rw [Hs.out]; rfl, rfl⟩
  · have Hs := Lib.hid (show newerF i t l u = false from decide_eq_false (by omega))
    have E1 : decide (u < t) = false := by simp; omega
    have E2 : ((t : Int) == u) = false := by simp; omega
    have h' : ¬ u < t := by omega
    go_enter Try.func21, Try.ntmps21
    go_wp2
    go_ret
    exact ⟨by rw [Hs.out]; rfl, rfl⟩
theorem refnewer_any (i t l u : Int) (w : World) : Calls Try.prog 23 #[.int .i64 i, .int .i64 t, .int .i64 l, .int .i64 u] w fun e w' => e = .returned (.bool (newerF i t l u)) ∧ w = w' := by
  rcases Int.lt_trichotomy u t with h | h | h
  · have Hs := Lib.hid (show newerF i t l u = true from decide_eq_true (.inl h))
    have E2 : ((t : Int) != u) = true := by rw [bne_iff_ne]; omega
    go_enter Try.func23, Try.ntmps23
    go_wp2
    go_ret
    exact ⟨by rw [Hs.out]; rfl, rfl⟩
  · subst h
    have E2 : ((u : Int) != u) = false := by simp
    by_cases hl : l ≤ i
    · have Hs := Lib.hid (show newerF i u l u = true from decide_eq_true (.inr ⟨rfl, hl⟩))
      go_enter Try.func23, Try.ntmps23
      go_wp2
      go_ret
      exact ⟨by rw [Hs.out]; rfl, rfl⟩
    · have Hs := Lib.hid (show newerF i u l u = false from decide_eq_false (by omega))
      have E3 : decide (l ≤ i) = false := by simp; omega
      go_enter Try.func23, Try.ntmps23
      go_wp2
      go_ret
      exact ⟨by rw [Hs.out]; rfl, rfl⟩
  · have Hs := Lib.hid (show newerF i t l u = false from decide_eq_false (by omega))
    have E2 : ((t : Int) != u) = true := by rw [bne_iff_ne]; omega
    have E1 : decide (u < t) = false := by simp; omega
    go_enter Try.func23, Try.ntmps23
    go_wp2
    go_ret
    exact ⟨by rw [Hs.out]; rfl, rfl⟩

def absF (d : Int) : Int := if d < 0 then -(d + 1) else d
def waitF (d : Int) : Int := 10 + absF d % 20
theorem absF_neg {d : Int} (h : d < 0) : absF d = -(d + 1) := if_pos h
theorem absF_pos {d : Int} (h : ¬ d < 0) : absF d = d := if_neg h
theorem i64_not_neg (d : Int) (h1 : -9223372036854775808 ≤ d) (h2 : d < 0) : bits .xor .i64 (-1) d = -(d + 1) := by
  show IntKind.i64.wrap ((BitVec.ofInt 64 (-1) ^^^ BitVec.ofInt 64 d).toNat : Int) = _
  have h1 : BitVec.ofInt 64 (-1) = BitVec.allOnes 64 := by decide
  rw [h1, BitVec.allOnes_xor, BitVec.toNat_not, BitVec.toNat_ofInt]
  simp [IntKind.wrap, IntKind.bits, IntKind.signed]
  omega
theorem wait_neg (d : Int) (h2 : d < 0) : wrap64 (10 + (-(d + 1)).tmod 20) = 10 + -(d + 1) % 20 := by
  rw [Int.tmod_eq_emod_of_nonneg (by omega)]
  unfold wrap64; omega
theorem wait_any (d : Int) (w : World) (h1 : -9223372036854775808 ≤ d) (h2 : d ≤ 9223372036854775807) : Calls Try.prog 22 #[.int .i64 d] w fun e w' => e = .returned (.int .i64 (waitF d)) ∧ w = w' := by
  by_cases h : d < 0
  · have Hs := Lib.hid (show waitF d = wrap64 (10 + (bits .xor .i64 (-1) d).tmod 20) by unfold waitF; rw [absF_neg h, i64_not_neg d h1 h, wait_neg d h])
    go_enter Try.func22, Try.ntmps22
    go_wp2
    go_ret
    exact ⟨by rw [Hs.out]; rfl, rfl⟩
  · have Hs := Lib.hid (absF_pos h)
    go_enter Try.func22, Try.ntmps22
    go_wp2
    go_ret
    exact ⟨by unfold waitF; rw [Hs.out]; rfl, rfl⟩
theorem refwait_any (d : Int) (w : World) (h1 : -9223372036854775808 ≤ d) (h2 : d ≤ 9223372036854775807) : Calls Try.prog 24 #[.int .i64 d] w fun e w' => e = .returned (.int .i64 (waitF d)) ∧ w = w' := by
  by_cases h : d < 0
  · have Hs := Lib.hid (show waitF d = wrap64 (10 + -((d + 1).tmod 20)) by unfold waitF; rw [absF_neg h, ← Int.neg_tmod, wait_neg d h])
    go_enter Try.func24, Try.ntmps24
    go_wp2
    go_ret
    exact ⟨by rw [Hs.out]; rfl, rfl⟩
  · have Hs := Lib.hid (absF_pos h)
    go_enter Try.func24, Try.ntmps24
    go_wp2
    go_ret
    exact ⟨by unfold waitF; rw [Hs.out]; rfl, rfl⟩

def popc (x : Nat) : Nat := ((List.range 8).filter fun i => x.testBit i).length
def p1 (x : Int) : Int := IntKind.u64.wrap (bits .and .u64 (x / 2) 6148914691236517205 + bits .and .u64 x 6148914691236517205)
def p2 (x : Int) : Int := IntKind.u64.wrap (bits .and .u64 (x / 4) 3689348814741910323 + bits .and .u64 x 3689348814741910323)
def p3 (x : Int) : Int := bits .and .u64 (IntKind.u64.wrap (x / 16 + x)) 1085102592571150095
def p4 (x : Int) : Int := IntKind.u64.wrap (x + x / 256)
def p5 (x : Int) : Int := IntKind.u64.wrap (x + x / 65536)
def p6 (x : Int) : Int := IntKind.u64.wrap (x + x / 4294967296)
set_option maxRecDepth 100000 in
theorem popc_p6 : ∀ x, x < 256 → bits .and .i64 (wrap64 (p6 (p5 (p4 (p3 (p2 (p1 (x : Nat)))))))) 127 = (popc x : Nat) := by decide +kernel
theorem popc_le (x : Nat) : popc x ≤ 8 := by
  unfold popc; exact Nat.le_trans (List.length_filter_le _ _) (by simp)
theorem ones64_any (x : Nat) (w : World) (hx : x < 256) : Calls Try.prog 67 #[.int .u64 x] w fun e w' => e = .returned (.int .i64 (popc x : Nat)) ∧ w = w' := by
  have Hs := Lib.hid (popc_p6 x hx)
  go_enter Try.func67, Try.ntmps67
  go_wp2
  go_ret
  refine ⟨?_, rfl⟩
  rw [← Hs.out]
  rfl
end Go.Proofs.Ytkgcccllabofoaa
