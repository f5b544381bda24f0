/-
  The walks of the schema: names, told by the reference; lists of names.
-/
import Derived.Test.YtojmkbhihnnmaaaSch4
import Derived.Maps.OwnSet
namespace Go.Proofs.Ytojmkbhihnnmaaa
open Go.RowKit Go.Maps

/-- names, 1 to so many, no two the same -/
def namedF (l : List ByteArray) (most : Int) : Bool := decide ((1 ≤ l.length ∧ (l.length : Int) ≤ most) ∧ (∀ i, i < l.length → nameB (l[i]?.getD ByteArray.empty) = true) ∧ ∀ j, j < l.length → ∀ i, i < j → l[i]?.getD ByteArray.empty ≠ l[j]?.getD ByteArray.empty)

theorem nameB_size {s : ByteArray} (h : nameB s = true) : s.size ≤ 12 := (of_decide_eq_true h).2.1

theorem refname_any (s : ByteArray) (w : World) : Calls Try.prog 81 #[.string s] w fun e w' => e = .returned (.bool (nameB s)) ∧ w = w' := by
  by_cases h1 : s.size < 1
  · have hne : nameB s = false := decide_eq_false fun e => by omega
    have Hne := Lib.hid hne
    clear hne
    go_enter Try.func81, Try.ntmps81
    go_wp2
    go_ret
    exact ⟨by rw [Hne.out]; rfl, rfl⟩
  · by_cases h2 : 12 < s.size
    · have hne : nameB s = false := decide_eq_false fun e => by omega
      have Hne := Lib.hid hne
      clear hne
      go_enter Try.func81, Try.ntmps81
      go_wp2
      go_ret
      exact ⟨by rw [Hne.out]; rfl, rfl⟩
    · go_enter Try.func81, Try.ntmps81
      go_wp2
      go_loop [3, 4, 5, 6, 15, 16, 17, 18, 19, 20, 21, 22, 23, 24, 25, 26, 27, 28, 29, 30, 31, 32, 33, 34, 35, 36, 37, 38, 39, 40, 41, 42, 43, 44, 45, 46, 47, 48, 49] (fun i _ _ _ _ _ _ _ _ _ _ _ _ _ _ _ _ _ _ _ _ _ _ _ _ _ _ _ _ _ _ _ _ _ _ _ _ _ _ => ∃ k : Nat, k ≤ s.size ∧ i = .int .i64 k ∧ ∀ j (h : j < s.size), j < k → okR (s[j]'h).toNat = true) (fun i _ _ _ _ _ _ _ _ _ _ _ _ _ _ _ _ _ _ _ _ _ _ _ _ _ _ _ _ _ _ _ _ _ _ _ _ _ _ => s.size - (intOf i).toNat)
      case atStart => exact ⟨0, Nat.zero_le _, rfl, fun j _ h => by omega⟩
      case round =>
        obtain ⟨k, hk, rfl, hok⟩ := hrel
        have Hok := Lib.hid hok
        clear hok
        by_cases hlt : k < s.size
        · cases hokr : okR (s[k]'hlt).toNat with
          | true =>
            have hst : ∀ i (h : i < s.size), i < k + 1 → okR (s[i]'h).toNat = true := fun i h hi => by
              rcases Nat.lt_or_ge i k with h1 | h1
              · exact Hok.out i h h1
              · obtain rfl : i = k := by omega
                exact hokr
            have Hst := Lib.hid hst
            have hcl := okR_yes hokr
            clear hst hokr
            rcases hcl with ⟨h1, h2⟩ | ⟨h1, h2⟩ | h1 | h1
            all_goals
              go_wp2
              go_round
              case rel => exact ⟨k + 1, by omega, by go_num, Hst.out⟩
              case measure => simp [intOf]; omega
          | false =>
            have hne : nameB s = false := decide_eq_false fun e => by have := e.2.2 k hlt; rw [hokr] at this; cases this
            have Hne := Lib.hid hne
            have hcl := okR_no hokr
            have E1 : (((s[k]'hlt).toNat : Int) == 45) = false := by simp; omega
            have E2 : (((s[k]'hlt).toNat : Int) == 95) = false := by simp; omega
            have E3 : (((s[k]'hlt).toNat : Int) != 45) = true := by simp; omega
            have E4 : (((s[k]'hlt).toNat : Int) != 95) = true := by simp; omega
            clear hne hokr
            rcases hcl with h1 | ⟨h1, h2⟩ | ⟨h1, h2⟩ | h1 | h1
            all_goals
              go_wp2
              all_goals first
                | (go_ret; exact ⟨by rw [Hne.out]; rfl, rfl⟩)
                | (exfalso; rename_i hx; simp only [Bool.not_eq_false', decide_eq_true_eq] at hx; omega)
        · obtain rfl : k = s.size := by omega
          have hne : nameB s = true := decide_eq_true ⟨by omega, by omega, fun i hi => Hok.out i hi hi⟩
          have Hne := Lib.hid hne
          clear hne
          go_wp2
          go_ret
          exact ⟨by rw [Hne.out]; rfl, rfl⟩
end Go.Proofs.Ytojmkbhihnnmaaa
