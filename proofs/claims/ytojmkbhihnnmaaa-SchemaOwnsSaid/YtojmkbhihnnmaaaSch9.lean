/-
  The walks of the schema: a corner looked for.
-/
import Derived.Test.YtojmkbhihnnmaaaSch8
namespace Go.Proofs.Ytojmkbhihnnmaaa
open Go.RowKit Go.Maps

theorem equalI_any (A B : Option Addr) (n m c d : Nat) (l r : List Int) (w : World) (hl : RdI w A n l) (hr : RdI w B m r) (hn : n ≤ maxLen) (hm : m ≤ maxLen) :
    Calls Try.prog 55 #[.slice A n c, .slice B m d] w fun e w' => e = .returned (.bool (decide (l = r))) ∧ ∃ q, w' = w.drewN q := by
  unfold maxLen at hn hm
  have H1 := Lib.hid hl.len
  have H2 := Lib.hid hr.len
  by_cases hnm : n = m
  · subst hnm
    go_enter Try.func55, Try.ntmps55
    go_wp2
    go_loopw [5, 13] (fun _ i wr => ∃ k : Nat, k ≤ n ∧ i = .int .i64 k ∧ l.take k = r.take k ∧ ∃ q, wr = w.drewN q) (fun _ i _ => n - (intOf i).toNat)
    case atStart => exact ⟨0, Nat.zero_le _, rfl, rfl, 0, rfl⟩
    case round =>
      obtain ⟨k, hk, rfl, ht, hq⟩ := hrel
      have hlw : RdI wr A n l := by obtain ⟨q, rfl⟩ := hq; exact hl
      have hrw : RdI wr B n r := by obtain ⟨q, rfl⟩ := hq; exact hr
      have hq1 : ∀ q1, ∃ q, wr.drewN q1 = w.drewN q := fun q1 => by obtain ⟨q, rfl⟩ := hq; exact ⟨_, World.drewN_drewN _ _ _⟩
      have Ht := Lib.hid ht; clear ht
      by_cases hlt : k < n
      · obtain ⟨ad, rfl, hc⟩ := hlw.at_ hlt
        obtain ⟨bd, rfl, hd⟩ := hrw.at_ hlt
        by_cases he : ¬ l[k]?.getD 0 = r[k]?.getD 0
        · have hne : decide (l = r) = false := decide_eq_false fun e => he (by rw [e])
          have Hne := Lib.hid hne; clear hne
          generalize l[k]?.getD 0 = x at *
          generalize r[k]?.getD 0 = y at *
          go_wp2
          go_quiet (fail)
          go_wp2
          go_ret
          exact ⟨by rw [Hne.out]; rfl, hq1 _⟩
        · have he : l[k]?.getD 0 = r[k]?.getD 0 := Decidable.not_not.1 he
          have hst : l.take (k + 1) = r.take (k + 1) := take_step l r 0 k (by rw [H1.out]; exact hlt) (by rw [H2.out]; exact hlt) Ht.out he
          have Hst := Lib.hid hst; clear hst
          generalize l[k]?.getD 0 = x at *
          generalize r[k]?.getD 0 = y at *
          go_wp2
          go_quiet (fail)
          go_wp2
          go_roundw
          case rel => exact ⟨k + 1, by omega, by go_num, Hst.out, hq1 _⟩
          case measure => simp [intOf]; omega
      · obtain rfl : k = n := by omega
        have hne : decide (l = r) = true := decide_eq_true (take_all l r k H1.out H2.out Ht.out)
        have Hne := Lib.hid hne; clear hne
        go_wp2
        go_ret
        exact ⟨by rw [Hne.out]; rfl, hq⟩
  · have hne : decide (l = r) = false := decide_eq_false fun e => hnm (by rw [← H1.out, ← H2.out, e])
    have Hne := Lib.hid hne; clear hne
    go_enter Try.func55, Try.ntmps55
    go_wp2
    go_ret
    exact ⟨by rw [Hne.out]; rfl, 0, rfl⟩


theorem mayeq_any (A B : Option Addr) (n m c d g : Nat) (x v : List Int) (w : World) (hx : RdI w A n x) (hn : n ≤ maxLen) (hg : w.cell? ⟨g, 0, none⟩ = some (.slice B m d)) (hv : RdI w B m v) (hm : m ≤ maxLen) :
    Calls Try.prog 54 #[.slice A n c, .pointer (some ⟨g, 0, none⟩)] w fun e w' => e = .returned (.bool (decide (v = x))) ∧ ∃ q, w' = w.drewN q := by
  go_enter Try.func54, Try.ntmps54
  go_wp2_with fail
  refine (equalI_any _ _ _ _ _ _ _ _ _ hv hx hm hn).mono ?_
  rintro e w' ⟨rfl, q, rfl⟩
  obtain ⟨b, hb⟩ : ∃ b, decide (v = x) = b := ⟨_, rfl⟩
  rw [hb]
  have Hb := Lib.hid hb
  clear hb
  go_wp2
  go_ret
  exact ⟨by rw [Hb.out]; rfl, q, rfl⟩

theorem idxmayeq_any (A B : Option Addr) (n m c d g : Nat) (L : List (List Int)) (v : List Int) (w : World) (hr : RdV w A n L) (hn : n ≤ maxLen) (hg : w.cell? ⟨g, 0, none⟩ = some (.slice B m d)) (hv : RdI w B m v) (hm : m ≤ maxLen) :
    Calls Try.prog 61 #[.slice A n c, .func (.func 54) #[] #[.pointer (some ⟨g, 0, none⟩)]] w fun e w' => e = .returned (.int .i64 (idxF (fun x => decide (v = x)) L)) ∧ ∃ q, w' = w.drewN q := by
  unfold maxLen at hn
  have H1 := Lib.hid hr.1
  go_enter Try.func61, Try.ntmps61
  go_wp2_with fail
  go_loopw [8] (fun i wr => ∃ k : Nat, k ≤ n ∧ i = .int .i64 k ∧ (∀ j y, j < k → L[j]? = some y → (fun x => decide (v = x)) y = false) ∧ ∃ q, wr = w.drewN q) (fun i _ => n - (intOf i).toNat)
  case atStart => exact ⟨0, Nat.zero_le _, rfl, fun j y hj => by omega, 0, rfl⟩
  case round =>
    obtain ⟨k, hk, rfl, hno, hq⟩ := hrel
    have Hno := Lib.hid hno
    clear hno
    have hrw : RdV wr A n L := by obtain ⟨q, rfl⟩ := hq; exact hr
    have hvw : RdI wr B m v := by obtain ⟨q, rfl⟩ := hq; exact hv
    have hgw : wr.cell? ⟨g, 0, none⟩ = some (.slice B m d) := by obtain ⟨q, rfl⟩ := hq; exact hg
    have hq1 : ∀ q1, ∃ q, wr.drewN q1 = w.drewN q := fun q1 => by obtain ⟨q, rfl⟩ := hq; exact ⟨_, World.drewN_drewN _ _ _⟩
    by_cases hlt : k < n
    · obtain ⟨y, ad, D, my, cy, hyk, rfl, hc, hy, hmc, hcm⟩ := hrw.at_ hlt
      cases hnb : decide (v = y) with
      | true =>
        have Hix := Lib.hid (idxF_at (fun x => decide (v = x)) L k y hyk hnb Hno.out)
        clear hyk
        go_wp2_with fail
        refine (mayeq_any _ _ _ _ _ _ _ _ _ _ hy (Nat.le_trans hmc hcm) hgw hvw hm).mono ?_
        rintro e w' ⟨rfl, q1, rfl⟩
        rw [hnb]
        go_wp2
        go_ret
        exact ⟨by rw [Hix.out]; rfl, hq1 _⟩
      | false =>
        have Hst := Lib.hid (show ∀ j y, j < k + 1 → L[j]? = some y → (fun x => decide (v = x)) y = false from fun j z hj hz => by
          rcases Nat.lt_or_ge j k with h | h
          · exact Hno.out j z h hz
          · obtain rfl : j = k := by omega
            obtain rfl : y = z := Option.some.inj (hyk.symm.trans hz)
            exact hnb)
        clear hyk
        go_wp2_with fail
        refine (mayeq_any _ _ _ _ _ _ _ _ _ _ hy (Nat.le_trans hmc hcm) hgw hvw hm).mono ?_
        rintro e w' ⟨rfl, q1, rfl⟩
        rw [hnb]
        go_wp2
        go_roundw
        case rel => exact ⟨k + 1, by omega, by go_num, Hst.out, hq1 _⟩
        case measure => simp [intOf]; omega
    · obtain rfl : k = n := by omega
      have Hix := Lib.hid (idxF_none (fun x => decide (v = x)) L (fun j y hy => Hno.out j y (by rw [← H1.out]; exact (List.getElem?_eq_some_iff.1 hy).1) hy))
      go_wp2
      go_ret
      exact ⟨by rw [Hix.out]; rfl, hq⟩

theorem numeq_any (A B : Option Addr) (n m c d g : Nat) (x v : List Int) (w : World) (hx : RdI w A n x) (hn : n ≤ maxLen) (hg : w.cell? ⟨g, 0, none⟩ = some (.slice B m d)) (hv : RdI w B m v) (hm : m ≤ maxLen) :
    Calls Try.prog 62 #[.slice A n c, .pointer (some ⟨g, 0, none⟩)] w fun e w' => e = .returned (.bool (decide (v = x))) ∧ ∃ q, w' = w.drewN q := by
  go_enter Try.func62, Try.ntmps62
  go_wp2_with fail
  refine (equalI_any _ _ _ _ _ _ _ _ _ hv hx hm hn).mono ?_
  rintro e w' ⟨rfl, q, rfl⟩
  obtain ⟨b, hb⟩ : ∃ b, decide (v = x) = b := ⟨_, rfl⟩
  rw [hb]
  have Hb := Lib.hid hb
  clear hb
  go_wp2
  go_ret
  exact ⟨by rw [Hb.out]; rfl, q, rfl⟩

theorem idxnumeq_any (A B : Option Addr) (n m c d g : Nat) (L : List (List Int)) (v : List Int) (w : World) (hr : RdV w A n L) (hn : n ≤ maxLen) (hg : w.cell? ⟨g, 0, none⟩ = some (.slice B m d)) (hv : RdI w B m v) (hm : m ≤ maxLen) :
    Calls Try.prog 61 #[.slice A n c, .func (.func 62) #[] #[.pointer (some ⟨g, 0, none⟩)]] w fun e w' => e = .returned (.int .i64 (idxF (fun x => decide (v = x)) L)) ∧ ∃ q, w' = w.drewN q := by
  unfold maxLen at hn
  have H1 := Lib.hid hr.1
  go_enter Try.func61, Try.ntmps61
  go_wp2_with fail
  go_loopw [8] (fun i wr => ∃ k : Nat, k ≤ n ∧ i = .int .i64 k ∧ (∀ j y, j < k → L[j]? = some y → (fun x => decide (v = x)) y = false) ∧ ∃ q, wr = w.drewN q) (fun i _ => n - (intOf i).toNat)
  case atStart => exact ⟨0, Nat.zero_le _, rfl, fun j y hj => by omega, 0, rfl⟩
  case round =>
    obtain ⟨k, hk, rfl, hno, hq⟩ := hrel
    have Hno := Lib.hid hno
    clear hno
    have hrw : RdV wr A n L := by obtain ⟨q, rfl⟩ := hq; exact hr
    have hvw : RdI wr B m v := by obtain ⟨q, rfl⟩ := hq; exact hv
    have hgw : wr.cell? ⟨g, 0, none⟩ = some (.slice B m d) := by obtain ⟨q, rfl⟩ := hq; exact hg
    have hq1 : ∀ q1, ∃ q, wr.drewN q1 = w.drewN q := fun q1 => by obtain ⟨q, rfl⟩ := hq; exact ⟨_, World.drewN_drewN _ _ _⟩
    by_cases hlt : k < n
    · obtain ⟨y, ad, D, my, cy, hyk, rfl, hc, hy, hmc, hcm⟩ := hrw.at_ hlt
      cases hnb : decide (v = y) with
      | true =>
        have Hix := Lib.hid (idxF_at (fun x => decide (v = x)) L k y hyk hnb Hno.out)
        clear hyk
        go_wp2_with fail
        refine (numeq_any _ _ _ _ _ _ _ _ _ _ hy (Nat.le_trans hmc hcm) hgw hvw hm).mono ?_
        rintro e w' ⟨rfl, q1, rfl⟩
        rw [hnb]
        go_wp2
        go_ret
        exact ⟨by rw [Hix.out]; rfl, hq1 _⟩
      | false =>
        have Hst := Lib.hid (show ∀ j y, j < k + 1 → L[j]? = some y → (fun x => decide (v = x)) y = false from fun j z hj hz => by
          rcases Nat.lt_or_ge j k with h | h
          · exact Hno.out j z h hz
          · obtain rfl : j = k := by omega
            obtain rfl : y = z := Option.some.inj (hyk.symm.trans hz)
            exact hnb)
        clear hyk
        go_wp2_with fail
        refine (numeq_any _ _ _ _ _ _ _ _ _ _ hy (Nat.le_trans hmc hcm) hgw hvw hm).mono ?_
        rintro e w' ⟨rfl, q1, rfl⟩
        rw [hnb]
        go_wp2
        go_roundw
        case rel => exact ⟨k + 1, by omega, by go_num, Hst.out, hq1 _⟩
        case measure => simp [intOf]; omega
    · obtain rfl : k = n := by omega
      have Hix := Lib.hid (idxF_none (fun x => decide (v = x)) L (fun j y hy => Hno.out j y (by rw [← H1.out]; exact (List.getElem?_eq_some_iff.1 hy).1) hy))
      go_wp2
      go_ret
      exact ⟨by rw [Hix.out]; rfl, hq⟩

theorem conmay_any (A B : Option Addr) (n m c d g : Nat) (L : List (List Int)) (v : List Int) (w : World) (hr : RdV w A n L) (hn : n ≤ maxLen) (hg : w.cell? ⟨g, 0, none⟩ = some (.slice B m d)) (hv : RdI w B m v) (hm : m ≤ maxLen) :
    Calls Try.prog 56 #[.slice A n c, .func (.func 54) #[] #[.pointer (some ⟨g, 0, none⟩)]] w fun e w' => e = .returned (.bool (L.any fun x => decide (v = x))) ∧ ∃ q, w' = w.drewN q := by
  have Hix := Lib.hid (idxF_any (fun x => decide (v = x)) L)
  go_enter Try.func56, Try.ntmps56
  go_wp2_with fail
  refine (idxmayeq_any _ _ _ _ _ _ _ _ _ _ hr hn hg hv hm).mono ?_
  rintro e w' ⟨rfl, q, rfl⟩
  generalize idxF (fun x => decide (v = x)) L = ix at *
  go_wp2
  go_ret
  exact ⟨by rw [← Hix.out]; rfl, q, rfl⟩
end Go.Proofs.Ytojmkbhihnnmaaa
