/-
  The walks of the schema: names.
-/
import Derived.Test.YtojmkbhihnnmaaaSch3
import Derived.Laws.RangeString
import Derived.Laws.RangeAny
namespace Go.Proofs.Ytojmkbhihnnmaaa
open Go.RowKit

/-- a byte of a name -/
def okR (r : Nat) : Bool := decide (97 ≤ r ∧ r ≤ 122 ∨ 48 ≤ r ∧ r ≤ 57 ∨ r = 45 ∨ r = 95)
def nameB (s : ByteArray) : Bool := decide (1 ≤ s.size ∧ s.size ≤ 12 ∧ ∀ i (h : i < s.size), okR (s[i]'h).toNat = true)
theorem okR_yes {r : Nat} (h : okR r = true) : (97 ≤ r ∧ r ≤ 122) ∨ (48 ≤ r ∧ r ≤ 57) ∨ r = 45 ∨ r = 95 := of_decide_eq_true h
theorem okR_no {r : Nat} (h : okR r = false) : r < 45 ∨ (45 < r ∧ r < 48) ∨ (57 < r ∧ r < 95) ∨ r = 96 ∨ 122 < r := by
  have := of_decide_eq_false h
  omega

theorem isEmpty_size (s : ByteArray) : s.toList.isEmpty = decide (s.size = 0) := by
  rw [Bool.eq_iff_iff, List.isEmpty_iff, ByteArray.toList_eq, decide_eq_true_eq, ← List.length_eq_zero_iff]
  exact Iff.rfl
theorem size_pos_le (n : Nat) : (!decide (n = 0) && decide ((n : Int) ≤ 12)) = decide (1 ≤ n ∧ n ≤ 12) := by
  rw [Bool.eq_iff_iff, Bool.and_eq_true, Bool.not_eq_true', decide_eq_true_eq, decide_eq_false_iff_not, decide_eq_true_eq]
  omega
theorem name_any (s : ByteArray) (w : World) : Calls Try.prog 78 #[.string s] w fun e w' => e = .returned (.bool (nameB s)) ∧ Below w.heap.size w w' := by
  go_enter Try.func78, Try.ntmps78
  go_wp2
  have hbi : ∀ pos, Below w.heap.size w (w.iter s pos) := fun pos => (Below.refl _ _).alloc (Nat.le_refl _) _
  go_loopw [4, 7, 8, 9, 10, 11, 12, 13, 14, 15, 16, 17, 18, 19, 20, 21, 22, 23, 24, 25, 26, 27, 28, 29, 30, 31, 32] (fun _ _ _ _ _ _ _ _ _ _ _ _ _ _ _ _ _ _ _ _ _ _ _ _ _ _ _ w' => ∃ pos : Nat, pos ≤ s.size ∧ w' = w.iter s pos ∧ ∀ i (h : i < s.size), i < pos → okR (s[i]'h).toNat = true) (fun _ _ _ _ _ _ _ _ _ _ _ _ _ _ _ _ _ _ _ _ _ _ _ _ _ _ _ w' => s.size - w'.iterPos w.heap.size)
  case atStart => exact ⟨0, Nat.zero_le _, rfl, fun i _ h => by omega⟩
  case round =>
    obtain ⟨pos, hps, rfl, hok⟩ := hrel
    have Hok := Lib.hid hok
    clear hok
    by_cases hp : pos < s.size
    · by_cases ha : (s[pos]'hp).toNat < 128
      · have hnx : ∀ ty, (Instr.next (.pointer (some ⟨w.heap.size, 0, none⟩)) true ty).run Try.prog (w.iter s pos) = _ := fun ty => run_next_ascii w s pos ty hp ha
        cases hokr : okR (s[pos]'hp).toNat with
        | true =>
          have hst : ∀ i (h : i < s.size), i < pos + 1 → okR (s[i]'h).toNat = true := fun i h hi => by
            rcases Nat.lt_or_ge i pos with h1 | h1
            · exact Hok.out i h h1
            · obtain rfl : i = pos := by omega
              exact hokr
          have Hst := Lib.hid hst
          have hcl := okR_yes hokr
          clear hst hokr
          generalize (s[pos]'hp).toNat = r at *
          rcases hcl with ⟨h1, h2⟩ | ⟨h1, h2⟩ | h1 | h1
          all_goals
            go_wp2
            go_roundw
            case rel => exact ⟨pos + 1, by omega, rfl, Hst.out⟩
            case measure => simp; omega
        | false =>
          have hne : nameB s = false := decide_eq_false fun e => by have := e.2.2 pos hp; rw [hokr] at this; cases this
          have Hne := Lib.hid hne
          have hcl := okR_no hokr
          clear hne hokr
          generalize (s[pos]'hp).toNat = r at *
          rcases hcl with h1 | ⟨h1, h2⟩ | ⟨h1, h2⟩ | h1 | h1
          all_goals
            have E1 : (((r : Nat) : Int) == 45) = false := by simp; omega
            have E2 : (((r : Nat) : Int) == 95) = false := by simp; omega
            go_wp2
            all_goals first
              | (go_ret; exact ⟨by rw [Hne.out]; rfl, hbi _⟩)
              | (exfalso; rename_i hx; simp only [Bool.not_eq_false', decide_eq_true_eq] at hx; omega)
      · have hnx : ∀ ty, (Instr.next (.pointer (some ⟨w.heap.size, 0, none⟩)) true ty).run Try.prog (w.iter s pos) = _ := fun ty => run_next_any w s pos ty hp
        have hne : nameB s = false := decide_eq_false fun e => by
          have h1 := e.2.2 pos hp
          have h2 := okR_yes h1
          omega
        have Hne := Lib.hid hne
        have hhi := (decode_high s pos hp (by omega)).1
        clear hne ha
        generalize (Utf8.decode s pos).1 = r at *
        generalize (Utf8.decode s pos).2 = k at *
        have E1 : (((r : Nat) : Int) == 45) = false := by simp; omega
        have E2 : (((r : Nat) : Int) == 95) = false := by simp; omega
        go_wp2
        all_goals first
          | (go_ret; exact ⟨by rw [Hne.out]; rfl, hbi _⟩)
          | (exfalso; rename_i hx; simp only [Bool.not_eq_false', decide_eq_true_eq] at hx; omega)
    · obtain rfl : pos = s.size := by omega
      have hnx : ∀ ty, (Instr.next (.pointer (some ⟨w.heap.size, 0, none⟩)) true ty).run Try.prog (w.iter s s.size) = _ := fun ty => run_next_end w s s.size ty hp
      have hne : nameB s = decide (1 ≤ s.size ∧ s.size ≤ 12) := by
        unfold nameB
        exact decide_eq_decide.2 ⟨fun h => ⟨h.1, h.2.1⟩, fun h => ⟨h.1, h.2, fun i hi => Hok.out i hi hi⟩⟩
      have Hne := Lib.hid hne
      have Hse := Lib.hid (isEmpty_size s)
      clear hne
      go_wp2
      all_goals
        go_ret
        refine ⟨?_, hbi _⟩
        rw [Hne.out]
        have h1 := Hse.out
        rename_i hx
      · rw [hx] at h1
        exact ret_bool (decide_eq_false (fun h => by have := of_decide_eq_true h1.symm; omega)).symm
      · refine ret_bool ?_
        rw [h1, size_pos_le]
end Go.Proofs.Ytojmkbhihnnmaaa
