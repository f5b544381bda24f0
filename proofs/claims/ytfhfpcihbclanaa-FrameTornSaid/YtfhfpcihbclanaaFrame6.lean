/-
  The walks of the frames: are two lists the same?
-/
import Derived.Test.YtfhfpcihbclanaaFrame5
import Derived.Deep.QuietTactic
import Derived.BigQuiet
namespace Go.Proofs.Ytfhfpcihbclanaa
open Go.RowKit

theorem fr_step {xs ys : List Fr} {k : Nat} {f g : Fr} (h : xs.take k = ys.take k) (hf : xs[k]? = some f) (hg : ys[k]? = some g) (he : f = g) : xs.take (k + 1) = ys.take (k + 1) := by
  rw [List.take_add_one, List.take_add_one, hf, hg, h, he]
theorem fr_all {xs ys : List Fr} {n : Nat} (hx : xs.length = n) (hy : ys.length = n) (h : xs.take n = ys.take n) : xs = ys := by
  rwa [List.take_of_length_le (by omega), List.take_of_length_le (by omega)] at h

theorem same_fr (A B : Option Addr) (n m c d : Nat) (xs ys : List Fr) (w : World) (hl : RdF w A n xs) (hr : RdF w B m ys) (hn : n ≤ maxLen) (hm : m ≤ maxLen) :
    Calls Try.prog 31 #[.slice A n c, .slice B m d] w fun e w' => e = .returned (.bool (decide (xs = ys))) ∧ ∃ q, w' = w.drewN q := by
  unfold maxLen at hn hm
  have H1 := Lib.hid hl.len
  have H2 := Lib.hid hr.len
  by_cases hnm : n = m
  · subst hnm
    go_enter Try.func31, Try.ntmps31
    go_wp2
    go_loopw [5, 6] (fun i _ wr => ∃ k : Nat, k ≤ n ∧ i = .int .i64 k ∧ xs.take k = ys.take k ∧ ∃ q, wr = w.drewN q) (fun i _ _ => n - (intOf i).toNat)
    case atStart => exact ⟨0, Nat.zero_le _, rfl, rfl, 0, rfl⟩
    case round =>
      obtain ⟨k, hk, rfl, ht, hq⟩ := hrel
      have hlw : RdF wr A n xs := by obtain ⟨q, rfl⟩ := hq; exact hl
      have hrw : RdF wr B n ys := by obtain ⟨q, rfl⟩ := hq; exact hr
      have hq1 : ∀ q1, ∃ q, wr.drewN q1 = w.drewN q := fun q1 => by obtain ⟨q, rfl⟩ := hq; exact ⟨_, World.drewN_drewN _ _ _⟩
      have Ht := Lib.hid ht; clear ht
      have hq2 : ∀ q1 q2, ∃ q, (wr.drewN q1).drewN q2 = w.drewN q := fun q1 q2 => by rw [World.drewN_drewN]; exact hq1 _
      by_cases hlt : k < n
      · obtain ⟨ad, A1, n1, c1, k1, b1, hx1, rfl, hc1, hd1, hr1, hle1, hcm1⟩ := hlw.at_ hlt
        obtain ⟨bd, B1, m1, d1, k2, b2, hx2, rfl, hc2, hd2, hr2, hle2, hcm2⟩ := hrw.at_ hlt
        have Hx1 := Lib.hid hx1
        have Hx2 := Lib.hid hx2
        have hs1 : n1 ≤ maxLen := Nat.le_trans hle1 hcm1
        have hs2 : m1 ≤ maxLen := Nat.le_trans hle2 hcm2
        clear hx1 hx2 hcm1 hcm2
        go_wp2
        go_quiet ((go_at_call 22; exact Calls.quiet_of (same_any _ _ _ _ _ _ _ _ _ (hr1.drewN _) (hr2.drewN _) hs1 hs2)))
        by_cases hk12 : k1 = k2
        · subst hk12
          have E0 : (((k1 : Nat) : Int) != ((k1 : Nat) : Int)) = false := by simp
          cases hd : decide (b1 = b2) with
          | true =>
            have He := Lib.hid (of_decide_eq_true hd); clear hd
            go_wp2
            go_quiet (fail)
            go_wp2
            go_roundw
            case rel => exact ⟨k + 1, by omega, by go_num, fr_step Ht.out Hx1.out Hx2.out (by rw [He.out]), hq1 _⟩
            case measure => simp [intOf]; omega
          | false =>
            have He := Lib.hid (of_decide_eq_false hd); clear hd
            have hne : decide (xs = ys) = false := decide_eq_false fun e => He.out (by have := Hx1.out; rw [e, Hx2.out] at this; injection this with this; injection this with _ this; exact this.symm)
            have Hne := Lib.hid hne; clear hne
            go_wp2
            go_quiet (fail)
            go_wp2
            go_ret
            exact ⟨by rw [Hne.out]; rfl, hq2 _ _⟩
        · have E0 : (((k1 : Nat) : Int) != ((k2 : Nat) : Int)) = true := by rw [bne_iff_ne]; omega
          have hne : decide (xs = ys) = false := decide_eq_false fun e => hk12 (by have := Hx1.out; rw [e, Hx2.out] at this; injection this with this; injection this with this _; exact this.symm)
          have Hne := Lib.hid hne; clear hne
          go_wp2
          go_quiet (fail)
          go_wp2
          go_ret
          exact ⟨by rw [Hne.out]; rfl, hq2 _ _⟩
      · obtain rfl : k = n := by omega
        have hne : decide (xs = ys) = true := decide_eq_true (fr_all H1.out H2.out Ht.out)
        have Hne := Lib.hid hne; clear hne
        go_wp2
        go_ret
        exact ⟨by rw [Hne.out]; rfl, hq⟩
  · have hne : decide (xs = ys) = false := decide_eq_false fun e => hnm (by rw [← H1.out, ← H2.out, e])
    have Hne := Lib.hid hne; clear hne
    go_enter Try.func31, Try.ntmps31
    go_wp2
    go_ret
    exact ⟨by rw [Hne.out]; rfl, 0, rfl⟩
end Go.Proofs.Ytfhfpcihbclanaa
