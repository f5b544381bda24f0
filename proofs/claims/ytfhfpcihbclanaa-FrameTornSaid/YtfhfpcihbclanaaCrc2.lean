/-
  The walks of the check sum, second part: Turned, Whole, lives.
-/
import Derived.Test.YtfhfpcihbclanaaCrc
import Derived.Test.YtfhfpcihbclanaaPlain2
import Derived.Test.YtfhfpcihbclanaaMix
import Derived.BigRegion
import Derived.Lib.SlBytesConst
import Derived.Deep.RegionHeld3
namespace Go.Proofs.Ytfhfpcihbclanaa
open Go.RowKit

theorem turnL_yes {l : List UInt8} {f b k : Nat} {y : UInt8} (h1 : sh2 b k % 2 = 1) (h2 : (f + k) / 8 < l.length) (hy : y = ((turnL l f b k)[(f + k) / 8]?.getD 0) ^^^ UInt8.ofNat (2 ^ ((f + k) % 8))) :
    turnL l f b (k + 1) = (turnL l f b k).set ((f + k) / 8) y ∧ turnS l f b (k + 1) = true := by
  have hw : turnW l f b k = true := decide_eq_true ⟨h1, h2⟩
  refine ⟨?_, ?_⟩
  · rw [turnL, hw, hy]; rfl
  · rw [turnS, hw]; rfl
theorem turnL_no {l : List UInt8} {f b k : Nat} (h : ¬ (sh2 b k % 2 = 1 ∧ (f + k) / 8 < l.length)) :
    turnL l f b (k + 1) = turnL l f b k ∧ turnS l f b (k + 1) = turnS l f b k := by
  have hw : turnW l f b k = false := decide_eq_false h
  rw [turnL, turnS, hw]; exact ⟨rfl, rfl⟩

theorem turned_any (A : Option Addr) (n c f b : Nat) (l : List UInt8) (w : World) (hr : Rd w A n l) (hn : n ≤ 100000000) (hf : f ≤ 1000000000) (hb : b < 4294967296) :
    Calls Try.prog 24 #[.slice A n c, .int .i64 f, .int .u32 b] w fun e w' => ∃ A' c', e = .returned (.tuple #[.slice A' n c', .bool (turnS l f b 32)]) ∧
      w'.ownsRow w.heap.size 5 1 (.slice A' n c') n ((turnL l f b 32).map vb) ∧ Below w.heap.size w w' := by
  have Hll := Lib.hid hr.len
  go_enter Try.func24, Try.ntmps24
  go_wp2_with (first
    | (at_builtin; refine wpList_append_b0 rfl (.tmp 11) (.tmp 12) rfl rfl rfl hr (by omega) ?_; intro A1 c1 w1 hown1 hb1)
    | fail)
  have hform := own_form hown1
  go_loopw [2, 9, 10] (fun m s i wr => ∃ k : Nat, k ≤ 32 ∧ i = .int .i64 k ∧ m = .int .u32 (sh2 b k : Nat) ∧ s = .bool (turnS l f b k) ∧ wr.ownsRow w.heap.size 5 1 (.slice A1 n c1) n ((turnL l f b k).map vb) ∧ Below w.heap.size w wr) (fun _ _ i _ => 32 - (intOf i).toNat)
  case atStart => exact ⟨0, by omega, rfl, by rw [sh2_0], rfl, hown1, hb1⟩
  case round =>
    obtain ⟨k, hk, rfl, rfl, rfl, hown, hbl⟩ := hrel
    by_cases hk32 : k < 32
    · have hsl := sh2_lt b k hb
      by_cases h1 : sh2 b k % 2 = 1
      · have E1 : (((sh2 b k : Nat) : Int) % 2 == 1) = true := by simp; omega
        by_cases h2 : (f + k) / 8 < n
        · obtain ⟨g, rfl, hgb, hc, hf0⟩ := own_at hown h2
          obtain ⟨y, hy⟩ : ∃ y, y = ((turnL l f b k)[(f + k) / 8]?.getD 0) ^^^ UInt8.ofNat (2 ^ ((f + k) % 8)) := ⟨_, rfl⟩
          have e5 := flip_byte ((turnL l f b k)[(f + k) / 8]?.getD 0) ((f + k) % 8) (by omega)
          rw [← hy] at e5
          have Ht := Lib.hid (turnL_yes h1 (by rw [Hll.out]; exact h2) hy)
          clear hy h1
          go_wp2
          go_region
          go_wp2
          go_roundw
          case rel => exact ⟨k + 1, by omega, by go_num, by rw [sh2_next], by rw [Ht.out.2], by rw [Ht.out.1]; exact (own_set hown ((f + k) / 8) y).drew, (hbl.setCell hgb _).drew⟩
          case measure => simp [intOf]; omega
        · have E2 : decide ((((f : Nat) : Int) + (k : Nat)) / 8 < ((n : Nat) : Int)) = false := by simp; omega
          have Ht := Lib.hid (turnL_no (l := l) (f := f) (b := b) (k := k) (fun h => h2 (by rw [← Hll.out]; exact h.2)))
          clear h1
          go_wp2
          go_roundw
          case rel => exact ⟨k + 1, by omega, by go_num, by rw [sh2_next], by rw [Ht.out.2], by rw [Ht.out.1]; exact hown, hbl⟩
          case measure => simp [intOf]; omega
      · have E1 : (((sh2 b k : Nat) : Int) % 2 == 1) = false := by simp; omega
        have Ht := Lib.hid (turnL_no (l := l) (f := f) (b := b) (k := k) (fun h => h1 h.1))
        clear h1
        go_wp2
        go_roundw
        case rel => exact ⟨k + 1, by omega, by go_num, by rw [sh2_next], by rw [Ht.out.2], by rw [Ht.out.1]; exact hown, hbl⟩
        case measure => simp [intOf]; omega
    · obtain rfl : k = 32 := by omega
      go_wp2
      go_ret2
      exact ⟨A1, c1, rfl, hown, hbl⟩

set_option maxHeartbeats 1000000 in
theorem whole_any (A : Option Addr) (n c : Nat) (l : List UInt8) (w : World) (hr : Rd w A n l) (hn : n ≤ 100000000) (hc : n ≤ c) :
    Calls Try.prog 23 #[.slice A n c] w fun e w' => e = .returned (.bool (wholeF l)) ∧ Below w.heap.size w w' := by
  have Hll := Lib.hid hr.len
  by_cases h4 : 4 ≤ n
  · obtain ⟨k, rfl⟩ : ∃ k, n = k + 4 := ⟨n - 4, by omega⟩
    have hck : ¬ c = k := by omega
    have hr1 := hr.cut (k := k) (by omega) hc
    rw [if_neg hck, show k + 4 - k = 4 by omega] at hr1
    have hr2 := hr.take (k := k) (by omega)
    go_enter Try.func23, Try.ntmps23
    go_wp2
    refine wp_region_mix (C := anyW) [([0, 1, 2, 3, 4, 5, 6, 7, 8], 9), ([], 10), ([], 11)] [12, 13] (by kernel_rfl) (by kernel_rfl) (fun _ _ _ _ e h => ⟨e.symm.trans h.1, h.2⟩) (anyW_all _) ?_
    refine wpSegs_step fun K1 hK1 => ?_
    simp only [pickL, List.getElem?_cons_zero, List.getElem?_cons_succ]
    repeat (go_big_quiet_step (fail))
    refine wpQuiet_nil ?_
    go_wp2_with (go_at_call 16; refine (sum_any _ _ _ _ _ hr2.drew (by unfold maxLen; omega)).mono ?_; rintro e w' ⟨rfl, rfl⟩)
    refine ⟨anyW_all _, hK1 _ _ ?_⟩
    refine wpSegs_step fun K2 hK2 => ?_
    simp only [pickL, List.getElem?_cons_zero, List.getElem?_cons_succ]
    refine wpQuiet_nil ?_
    go_wp2_with (go_at_call 21; refine (bytes_own _ (moreF_lt _ _) _).mono ?_; rintro e w1 ⟨A1, c1, rfl, hown, hb⟩)
    refine ⟨anyW_all _, hK2 _ _ ?_⟩
    refine wpSegs_step fun K3 hK3 => ?_
    simp only [pickL, List.getElem?_cons_zero, List.getElem?_cons_succ]
    refine wpQuiet_nil ?_
    go_wp2_with (go_at_call 36; refine (equal_any _ _ _ _ _ _ _ _ _ (hr1.drew.below hb) (Rd.of_own hown) (by unfold maxLen; omega) (by unfold maxLen; omega)).mono ?_; rintro e w' ⟨rfl, q, rfl⟩)
    refine ⟨anyW_all _, hK3 _ _ ?_⟩
    refine wpSegs_last ?_
    simp only [pickL, List.getElem?_cons_zero, List.getElem?_cons_succ]
    repeat (go_big_quiet_step (fail))
    refine wpQuiet_nil ?_
    go_wp2
    go_ret
    refine ⟨ret_bool ?_, below_drewN (Below.trans ((Below.refl _ _).drew) hb) q⟩
    unfold wholeF
    rw [Hll.out, show k + 4 - 4 = k by omega]
    by_cases hd : l.drop k = leS 4 (moreF 0 (l.take k)) <;> simp [hd]
  · have D : decide ((0 : Int) ≤ (n : Int) - 4) = false := by simp; omega
    have D2 : decide ((4 : Int) ≤ (n : Int)) = false := by simp; omega
    go_enter Try.func23, Try.ntmps23
    go_wp2
    go_quiet (fail)
    go_wp2
    go_ret
    refine ⟨ret_bool ?_, below_drewN (Below.refl _ _) _⟩
    unfold wholeF
    rw [Hll.out]
    simp; omega

theorem lives_any (w : World) : Calls Try.prog 19 #[] w fun e w' => e = .returned (.bool true) ∧ Below w.heap.size w w' := by
  have h1 : moreF 0 [49, 50, 51, 52, 53, 54, 55, 56, 57] = 3421780262 := by decide +kernel
  have h2 : moreF 0 [0] = 3523407757 := by decide +kernel
  have h3 : wholeF [0, 0, 0, 0] = true := by decide +kernel
  have H1 := Lib.hid h1; have H2 := Lib.hid h2; have H3 := Lib.hid h3
  clear h1 h2 h3
  have kc := convert_const Try.prog 23 5 Try.underlying23 Try.underlying5
  go_enter Try.func19, Try.ntmps19
  go_wp2_with (go_at_call 21; refine (bytes_any 16909060 (by omega) _).mono ?_; rintro e w' ⟨rfl, rfl⟩)
  refine (sum_any _ _ _ [49, 50, 51, 52, 53, 54, 55, 56, 57] _ (Rd.lit _ _ _ _ _ 9 _ rfl rfl (by simp)) (by unfold maxLen; omega)).mono ?_
  rintro e w' ⟨rfl, rfl⟩
  rw [H1.out]
  go_wp2_with fail
  refine (sum_any _ _ _ [0] _ (Rd.lit _ _ _ _ _ 1 _ rfl rfl (by simp)) (by unfold maxLen; omega)).mono ?_
  rintro e w' ⟨rfl, rfl⟩
  rw [H2.out]
  go_wp2_with fail
  refine (whole_any _ _ _ [0, 0, 0, 0] _ (Rd.lit _ _ _ _ _ 4 _ rfl rfl (by simp)) (by omega) (by omega)).mono ?_
  rintro e w' ⟨rfl, hb⟩
  rw [H3.out]
  go_wp2
  go_ret
  refine ⟨rfl, Below.trans ?_ (hb.mono ?_)⟩
  · exact ((((Below.refl _ _).alloc (by simp) _).alloc (by simp) _).alloc (by simp; omega) _).alloc (by simp; omega) _
  · simp; omega
end Go.Proofs.Ytfhfpcihbclanaa
