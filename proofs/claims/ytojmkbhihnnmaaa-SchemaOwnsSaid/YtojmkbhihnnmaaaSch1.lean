/-
  The walks of the schema, first part: levels.
-/
import Derived.Test.YtojmkbhihnnmaaaInt
namespace Go.Proofs.Ytojmkbhihnnmaaa
open Go.RowKit

/-- do levels cover others? -/
def coversF (v w : List Int) : Bool := decide (v.length = w.length ∧ ∀ i, i < v.length → w[i]?.getD 0 ≤ v[i]?.getD 0)
def joinF (v w : List Int) : List Int := if v.length = w.length then List.zipWith max v w else []
theorem coversF_len {v w : List Int} (h : v.length ≠ w.length) : coversF v w = false := decide_eq_false fun e => h e.1
theorem joinF_len {v w : List Int} (h : v.length ≠ w.length) : joinF v w = [] := if_neg h
theorem zip_take (v w : List Int) (k : Nat) (hv : k < v.length) (hw : k < w.length) : (List.zipWith max v w).take (k + 1) = (List.zipWith max v w).take k ++ [max (v[k]?.getD 0) (w[k]?.getD 0)] := by
  rw [List.take_add_one, List.getElem?_zipWith, List.getElem?_eq_getElem hv, List.getElem?_eq_getElem hw]; rfl

theorem cut_any (A : Option Addr) (n c : Nat) (l : List Int) (w : World) (hr : RdI w A n l) (hc : n ≤ c) (hm : c ≤ maxLen) :
    Calls Try.prog 19 #[.slice A n c] w fun e w' => (∃ n' : Nat, e = .returned (.slice A n' c) ∧ n' ≤ 8 ∧ n' ≤ n ∧ RdI w A n' (l.take 8)) ∧ w = w' := by
  unfold maxLen at hm
  by_cases h : 8 < n
  · have hr' := hr.take (Nat.le_of_lt h)
    go_enter Try.func19, Try.ntmps19
    go_wp2
    go_ret
    exact ⟨⟨8, rfl, by omega, by omega, hr'⟩, rfl⟩
  · have hr' : RdI w A n (l.take 8) := by rw [List.take_of_length_le (by rw [hr.len]; omega)]; exact hr
    go_enter Try.func19, Try.ntmps19
    go_wp2
    go_ret
    exact ⟨⟨n, rfl, by omega, Nat.le_refl _, hr'⟩, rfl⟩

theorem covers_any (A B : Option Addr) (n m c d : Nat) (l r : List Int) (w : World) (hl : RdI w A n l) (hr : RdI w B m r) (hn : n ≤ maxLen) (hm : m ≤ maxLen) :
    Calls Try.prog 31 #[.slice A n c, .slice B m d] w fun e w' => e = .returned (.bool (coversF l r)) ∧ ∃ q, w' = w.drewN q := by
  unfold maxLen at hn hm
  have H1 := Lib.hid hl.len
  have H2 := Lib.hid hr.len
  by_cases hnm : n = m
  · subst hnm
    go_enter Try.func31, Try.ntmps31
    go_wp2
    go_loopw [5, 13] (fun _ i wr => ∃ k : Nat, k ≤ n ∧ i = .int .i64 k ∧ (∀ j, j < k → r[j]?.getD 0 ≤ l[j]?.getD 0) ∧ ∃ q, wr = w.drewN q) (fun _ i _ => n - (intOf i).toNat)
    case atStart => exact ⟨0, Nat.zero_le _, rfl, fun j hj => by omega, 0, rfl⟩
    case round =>
      obtain ⟨k, hk, rfl, ht, hq⟩ := hrel
      have hlw : RdI wr A n l := by obtain ⟨q, rfl⟩ := hq; exact hl
      have hrw : RdI wr B n r := by obtain ⟨q, rfl⟩ := hq; exact hr
      have hq1 : ∀ q1, ∃ q, wr.drewN q1 = w.drewN q := fun q1 => by obtain ⟨q, rfl⟩ := hq; exact ⟨_, World.drewN_drewN _ _ _⟩
      have Ht := Lib.hid ht; clear ht
      by_cases hlt : k < n
      · obtain ⟨ad, rfl, hc⟩ := hlw.at_ hlt
        obtain ⟨bd, rfl, hd⟩ := hrw.at_ hlt
        by_cases he : l[k]?.getD 0 < r[k]?.getD 0
        · have hne : coversF l r = false := decide_eq_false fun e => by have := e.2 k (by rw [H1.out]; exact hlt); omega
          have Hne := Lib.hid hne; clear hne
          generalize l[k]?.getD 0 = x at *
          generalize r[k]?.getD 0 = y at *
          go_wp2
          go_quiet (fail)
          go_wp2
          go_ret
          exact ⟨by rw [Hne.out]; rfl, hq1 _⟩
        · have hst : ∀ j, j < k + 1 → r[j]?.getD 0 ≤ l[j]?.getD 0 := fun j hj => by
            rcases Nat.lt_or_ge j k with h | h
            · exact Ht.out j h
            · rw [show j = k by omega]; omega
          have Hst := Lib.hid hst; clear hst
          generalize l[k]?.getD 0 = x at *
          generalize r[k]?.getD 0 = y at *
          go_wp2
          go_quiet (fail)
          go_wp2
          go_roundw
          case rel => exact ⟨k + 1, by omega, by go_num, Hst.out, hq1 _⟩
          case measure => simp [intOf]; omega
      · obtain rfl : k = n := by omega
        have hne : coversF l r = true := decide_eq_true ⟨by rw [H1.out, H2.out], fun i hi => Ht.out i (by rw [H1.out] at hi; exact hi)⟩
        have Hne := Lib.hid hne; clear hne
        go_wp2
        go_ret
        exact ⟨by rw [Hne.out]; rfl, hq⟩
  · have hne : coversF l r = false := coversF_len (by rw [H1.out, H2.out]; exact hnm)
    have Hne := Lib.hid hne; clear hne
    go_enter Try.func31, Try.ntmps31
    go_wp2
    go_ret
    exact ⟨by rw [Hne.out]; rfl, 0, rfl⟩

theorem refcovers_any (A B : Option Addr) (n m c d : Nat) (l r : List Int) (w : World) (hl : RdI w A n l) (hr : RdI w B m r) (hn : n ≤ maxLen) (hm : m ≤ maxLen) :
    Calls Try.prog 32 #[.slice A n c, .slice B m d] w fun e w' => e = .returned (.bool (coversF l r)) ∧ ∃ q, w' = w.drewN q := by
  unfold maxLen at hn hm
  have H1 := Lib.hid hl.len
  have H2 := Lib.hid hr.len
  by_cases hnm : n = m
  · subst hnm
    go_enter Try.func32, Try.ntmps32
    go_wp2
    go_loopw [5] (fun i wr => ∃ k : Nat, k ≤ n ∧ i = .int .i64 k ∧ (∀ j, j < k → r[j]?.getD 0 ≤ l[j]?.getD 0) ∧ ∃ q, wr = w.drewN q) (fun i _ => n - (intOf i).toNat)
    case atStart => exact ⟨0, Nat.zero_le _, rfl, fun j hj => by omega, 0, rfl⟩
    case round =>
      obtain ⟨k, hk, rfl, ht, hq⟩ := hrel
      have hlw : RdI wr A n l := by obtain ⟨q, rfl⟩ := hq; exact hl
      have hrw : RdI wr B n r := by obtain ⟨q, rfl⟩ := hq; exact hr
      have hq1 : ∀ q1, ∃ q, wr.drewN q1 = w.drewN q := fun q1 => by obtain ⟨q, rfl⟩ := hq; exact ⟨_, World.drewN_drewN _ _ _⟩
      have Ht := Lib.hid ht; clear ht
      by_cases hlt : k < n
      · obtain ⟨ad, rfl, hc⟩ := hlw.at_ hlt
        obtain ⟨bd, rfl, hd⟩ := hrw.at_ hlt
        by_cases he : l[k]?.getD 0 < r[k]?.getD 0
        · have hne : coversF l r = false := decide_eq_false fun e => by have := e.2 k (by rw [H1.out]; exact hlt); omega
          have Hne := Lib.hid hne; clear hne
          generalize l[k]?.getD 0 = x at *
          generalize r[k]?.getD 0 = y at *
          go_wp2
          go_quiet (fail)
          go_wp2
          go_ret
          exact ⟨by rw [Hne.out]; rfl, hq1 _⟩
        · have hst : ∀ j, j < k + 1 → r[j]?.getD 0 ≤ l[j]?.getD 0 := fun j hj => by
            rcases Nat.lt_or_ge j k with h | h
            · exact Ht.out j h
            · rw [show j = k by omega]; omega
          have Hst := Lib.hid hst; clear hst
          generalize l[k]?.getD 0 = x at *
          generalize r[k]?.getD 0 = y at *
          go_wp2
          go_quiet (fail)
          go_wp2
          go_roundw
          case rel => exact ⟨k + 1, by omega, by go_num, Hst.out, hq1 _⟩
          case measure => simp [intOf]; omega
      · obtain rfl : k = n := by omega
        have hne : coversF l r = true := decide_eq_true ⟨by rw [H1.out, H2.out], fun i hi => Ht.out i (by rw [H1.out] at hi; exact hi)⟩
        have Hne := Lib.hid hne; clear hne
        go_wp2
        go_ret
        exact ⟨by rw [Hne.out]; rfl, hq⟩
  · have hne : coversF l r = false := coversF_len (by rw [H1.out, H2.out]; exact hnm)
    have Hne := Lib.hid hne; clear hne
    go_enter Try.func32, Try.ntmps32
    go_wp2
    go_ret
    exact ⟨by rw [Hne.out]; rfl, 0, rfl⟩

theorem sameI_any (A B : Option Addr) (n m c d : Nat) (l r : List Int) (w : World) (hl : RdI w A n l) (hr : RdI w B m r) (hn : n ≤ maxLen) (hm : m ≤ maxLen) :
    Calls Try.prog 20 #[.slice A n c, .slice B m d] w fun e w' => e = .returned (.bool (decide (l = r))) ∧ ∃ q, w' = w.drewN q := by
  unfold maxLen at hn hm
  have H1 := Lib.hid hl.len
  have H2 := Lib.hid hr.len
  by_cases hnm : n = m
  · subst hnm
    go_enter Try.func20, Try.ntmps20
    go_wp2
    go_loopw [5] (fun i wr => ∃ k : Nat, k ≤ n ∧ i = .int .i64 k ∧ l.take k = r.take k ∧ ∃ q, wr = w.drewN q) (fun i _ => n - (intOf i).toNat)
    case atStart => exact ⟨0, Nat.zero_le _, rfl, rfl, 0, rfl⟩
    case round =>
      obtain ⟨k, hk, rfl, ht, hq⟩ := hrel
      have hlw : RdI wr A n l := by obtain ⟨q, rfl⟩ := hq; exact hl
      have hrw : RdI wr B n r := by obtain ⟨q, rfl⟩ := hq; exact hr
      have hq1 : ∀ q1, ∃ q, wr.drewN q1 = w.drewN q := fun q1 => by obtain ⟨q, rfl⟩ := hq; exact ⟨_, World.drewN_drewN _ _ _⟩
      have Ht := Lib.hid ht; clear ht
      by_cases hlt : k < n
      · obtain ⟨ad, rfl, hc⟩ := hlw.at_ hlt
        obtain ⟨bd, rfl, hd⟩ := hrw.at_ hlt
        by_cases he : ¬ l[k]?.getD 0 = r[k]?.getD 0
        · have hne : decide (l = r) = false := decide_eq_false fun e => he (by rw [e])
          have Hne := Lib.hid hne; clear hne
          generalize l[k]?.getD 0 = x at *
          generalize r[k]?.getD 0 = y at *
          go_wp2
          go_quiet (fail)
          go_wp2
          go_ret
          exact ⟨by rw [Hne.out]; rfl, hq1 _⟩
        · have he : l[k]?.getD 0 = r[k]?.getD 0 := Decidable.not_not.1 he
          have hst : l.take (k + 1) = r.take (k + 1) := take_step l r 0 k (by rw [H1.out]; exact hlt) (by rw [H2.out]; exact hlt) Ht.out he
          have Hst := Lib.hid hst; clear hst
          generalize l[k]?.getD 0 = x at *
          generalize r[k]?.getD 0 = y at *
          go_wp2
          go_quiet (fail)
          go_wp2
          go_roundw
          case rel => exact ⟨k + 1, by omega, by go_num, Hst.out, hq1 _⟩
          case measure => simp [intOf]; omega
      · obtain rfl : k = n := by omega
        have hne : decide (l = r) = true := decide_eq_true (take_all l r k H1.out H2.out Ht.out)
        have Hne := Lib.hid hne; clear hne
        go_wp2
        go_ret
        exact ⟨by rw [Hne.out]; rfl, hq⟩
  · have hne : decide (l = r) = false := decide_eq_false fun e => hnm (by rw [← H1.out, ← H2.out, e])
    have Hne := Lib.hid hne; clear hne
    go_enter Try.func20, Try.ntmps20
    go_wp2
    go_ret
    exact ⟨by rw [Hne.out]; rfl, 0, rfl⟩

end Go.Proofs.Ytojmkbhihnnmaaa
