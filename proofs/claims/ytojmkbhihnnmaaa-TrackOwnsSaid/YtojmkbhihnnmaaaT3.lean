/-
  The track: values that may be.
-/
import Derived.Test.YtojmkbhihnnmaaaT2
namespace Go.Proofs.Ytojmkbhihnnmaaa
open Go.RowKit

/-- may a value be? -/
def valB (z : Int) : Bool := decide (-2305843009213693952 ≤ z) && decide (z ≤ 2305843009213693952)
theorem valB_yes {z : Int} (h : valB z = true) : -2305843009213693952 ≤ z ∧ z ≤ 2305843009213693952 := by
  unfold valB at h
  rw [Bool.and_eq_true, decide_eq_true_eq, decide_eq_true_eq] at h
  exact h
theorem bmay_any (z : Int) (w : World) : Calls Try.prog 110 #[.int .i64 z] w fun e w' => e = .returned (.bool (valB z)) ∧ w = w' := by
  unfold valB
  by_cases h : -2305843009213693952 ≤ z
  · go_enter Try.func110, Try.ntmps110
    go_wp2_with fail
    go_ret
    exact ⟨by simp [h], rfl⟩
  · go_enter Try.func110, Try.ntmps110
    go_wp2_with fail
    go_ret
    exact ⟨by simp; omega, rfl⟩
theorem notval_any (z : Int) (w : World) : Calls Try.prog 109 #[.int .i64 z] w fun e w' => e = .returned (.bool (!valB z)) ∧ w = w' := by
  go_enter Try.func109, Try.ntmps109
  go_wp2_with fail
  refine (bmay_any _ _).mono ?_
  rintro e w' ⟨rfl, rfl⟩
  obtain ⟨b, hb⟩ : ∃ b, valB z = b := ⟨_, rfl⟩
  rw [hb]
  have Hb := Lib.hid hb
  clear hb
  go_wp2
  go_ret
  exact ⟨by rw [Hb.out]; rfl, rfl⟩

theorem idxval_any (A : Option Addr) (n c : Nat) (l : List Int) (w : World) (hr : RdI w A n l) (hn : n ≤ maxLen)  :
    Calls Try.prog 82 #[.slice A n c, .func (.func 109) #[] #[]] w fun e w' => e = .returned (.int .i64 (idxF (fun z : Int => !valB z) l)) ∧ w = w' := by
  unfold maxLen at hn
  have H1 := Lib.hid hr.len
  go_enter Try.func82, Try.ntmps82
  go_wp2_with fail
  go_loop [8] (fun i => ∃ k : Nat, k ≤ n ∧ i = .int .i64 k ∧ (∀ j y, j < k → l[j]? = some y → (fun z : Int => !valB z) y = false)) (fun i => n - (intOf i).toNat)
  case atStart => exact ⟨0, Nat.zero_le _, rfl, fun j y hj => by omega⟩
  case round =>
    obtain ⟨k, hk, rfl, hno⟩ := hrel
    have Hno := Lib.hid hno
    clear hno
    by_cases hlt : k < n
    · obtain ⟨ad, rfl, hc⟩ := hr.at_ hlt
      have hsk : l[k]? = some (l[k]?.getD 0) := by rw [List.getElem?_eq_getElem (by rw [H1.out]; exact hlt)]; rfl
      generalize l[k]?.getD 0 = s at *
      cases hnb : !valB s with
      | true =>
        have Hix := Lib.hid (idxF_at (fun z : Int => !valB z) l k s hsk hnb Hno.out)
        clear hsk
        go_wp2_with fail
        refine (notval_any _ _).mono ?_
        rintro e w' ⟨rfl, rfl⟩
        rw [hnb]
        go_wp2
        go_ret
        exact ⟨by rw [Hix.out]; rfl, rfl⟩
      | false =>
        have Hst := Lib.hid (show ∀ j y, j < k + 1 → l[j]? = some y → (fun z : Int => !valB z) y = false from fun j y hj hy => by
          rcases Nat.lt_or_ge j k with h | h
          · exact Hno.out j y h hy
          · obtain rfl : j = k := by omega
            obtain rfl : s = y := Option.some.inj (hsk.symm.trans hy)
            exact hnb)
        clear hsk
        go_wp2_with fail
        refine (notval_any _ _).mono ?_
        rintro e w' ⟨rfl, rfl⟩
        rw [hnb]
        go_wp2
        go_round
        case rel => exact ⟨k + 1, by omega, by go_num, Hst.out⟩
        case measure => simp [intOf]; omega
    · obtain rfl : k = n := by omega
      have Hix := Lib.hid (idxF_none (fun z : Int => !valB z) l (fun j y hy => Hno.out j y (by rw [← H1.out]; exact (List.getElem?_eq_some_iff.1 hy).1) hy))
      go_wp2
      go_ret
      exact ⟨by rw [Hix.out]; rfl, rfl⟩

theorem conval_any (A : Option Addr) (n c : Nat) (l : List Int) (w : World) (hr : RdI w A n l) (hn : n ≤ maxLen)  :
    Calls Try.prog 59 #[.slice A n c, .func (.func 109) #[] #[]] w fun e w' => e = .returned (.bool (l.any fun z : Int => !valB z)) ∧ w = w' := by
  have Hix := Lib.hid (idxF_any (fun z : Int => !valB z) l)
  go_enter Try.func59, Try.ntmps59
  go_wp2_with fail
  refine (idxval_any _ _ _ _ _ hr hn).mono ?_
  rintro e w' ⟨rfl, rfl⟩
  generalize idxF (fun z : Int => !valB z) l = ix at *
  go_wp2
  go_ret
  exact ⟨by rw [← Hix.out]; rfl, rfl⟩


theorem refin_any (z : Int) (w : World) : Calls Try.prog 102 #[.int .i64 z, .int .i64 2305843009213693952] w fun e w' => e = .returned (.bool (valB z)) ∧ w = w' := by
  unfold valB
  by_cases h : -2305843009213693952 ≤ z
  · go_enter Try.func102, Try.ntmps102
    go_wp2_with fail
    go_ret
    exact ⟨by simp [h], rfl⟩
  · go_enter Try.func102, Try.ntmps102
    go_wp2_with fail
    go_ret
    exact ⟨by simp; omega, rfl⟩
theorem refvalues_any (A : Option Addr) (n c : Nat) (l : List Int) (w : World) (hr : RdI w A n l) (hn : n ≤ maxLen) :
    Calls Try.prog 98 #[.int .i64 n, .slice A n c] w fun e w' => e = .returned (.bool (!(l.any fun z : Int => !valB z))) ∧ w = w' := by
  unfold maxLen at hn
  have H1 := Lib.hid hr.len
  go_enter Try.func98, Try.ntmps98
  go_wp2_with fail
  go_loop [5] (fun i => ∃ k : Nat, k ≤ n ∧ i = .int .i64 k ∧ (∀ j y, j < k → l[j]? = some y → (fun z : Int => !valB z) y = false)) (fun i => n - (intOf i).toNat)
  case atStart => exact ⟨0, Nat.zero_le _, rfl, fun j y hj => by omega⟩
  case round =>
    obtain ⟨k, hk, rfl, hno⟩ := hrel
    have Hno := Lib.hid hno
    clear hno
    by_cases hlt : k < n
    · obtain ⟨ad, rfl, hc⟩ := hr.at_ hlt
      have hsk : l[k]? = some (l[k]?.getD 0) := by rw [List.getElem?_eq_getElem (by rw [H1.out]; exact hlt)]; rfl
      generalize l[k]?.getD 0 = s at *
      cases hnb : valB s with
      | false =>
        have Hix := Lib.hid (show (!(l.any fun z : Int => !valB z)) = false by rw [List.any_eq_true.2 ⟨s, List.mem_of_getElem? hsk, by rw [hnb]; rfl⟩]; rfl)
        clear hsk
        go_wp2_with fail
        refine (refin_any _ _).mono ?_
        rintro e w' ⟨rfl, rfl⟩
        rw [hnb]
        go_wp2
        go_ret
        exact ⟨by rw [Hix.out]; rfl, rfl⟩
      | true =>
        have Hst := Lib.hid (show ∀ j y, j < k + 1 → l[j]? = some y → (fun z : Int => !valB z) y = false from fun j y hj hy => by
          rcases Nat.lt_or_ge j k with h | h
          · exact Hno.out j y h hy
          · obtain rfl : j = k := by omega
            obtain rfl : s = y := Option.some.inj (hsk.symm.trans hy)
            show (!valB s) = false
            rw [hnb]; rfl)
        clear hsk
        go_wp2_with fail
        refine (refin_any _ _).mono ?_
        rintro e w' ⟨rfl, rfl⟩
        rw [hnb]
        go_wp2
        go_round
        case rel => exact ⟨k + 1, by omega, by go_num, Hst.out⟩
        case measure => simp [intOf]; omega
    · obtain rfl : k = n := by omega
      have Hix := Lib.hid (show (l.any fun z : Int => !valB z) = false by
        rw [List.any_eq_false]
        intro s hs
        obtain ⟨i, hi, e⟩ := List.getElem_of_mem hs
        have h1 : (!valB s) = false := Hno.out i s (by rw [← H1.out]; exact hi) (by rw [List.getElem?_eq_getElem hi, e])
        rw [h1]; simp)
      go_wp2
      go_ret
      exact ⟨by rw [Hix.out]; rfl, rfl⟩

/-! deep rows, opened -/
section
variable {S : Nat → Prop} {w : World} {v : Value}
theorem IntsV.form {l : List Int} (h : IntsV S w v l) : ∃ A n c, v = .slice A n c ∧ n ≤ c ∧ c ≤ maxLen ∧ l.length = n := by
  obtain ⟨A, c, e, _, h1, h2, _⟩ := h
  exact ⟨A, _, c, e, h1, h2, rfl⟩
theorem IntsV.rd {A : Option Addr} {n c : Nat} {l : List Int} (h : IntsV S w (.slice A n c) l) : RdI w A n l := by
  obtain ⟨A', c', e, h1, _⟩ := h
  injection e with e1 e2 e3
  subst e1; subst e2
  exact h1
theorem PathV.form {p : List ByteArray} (h : PathV S w v p) : ∃ A n c, v = .slice A n c ∧ n ≤ c ∧ c ≤ maxLen ∧ p.length = n := by
  obtain ⟨A, c, e, _, h1, h2, _⟩ := h
  exact ⟨A, _, c, e, h1, h2, rfl⟩
theorem PathV.rd {A : Option Addr} {n c : Nat} {p : List ByteArray} (h : PathV S w (.slice A n c) p) : RdT w A n p := by
  obtain ⟨A', c', e, h1, _⟩ := h
  injection e with e1 e2 e3
  subst e1; subst e2
  exact h1
theorem PathsV.form {ps : List (List ByteArray)} (h : PathsV S w v ps) : ∃ A n c, v = .slice A n c ∧ n ≤ c ∧ c ≤ maxLen ∧ ps.length = n := by
  obtain ⟨_, ⟨A, c, e, _, h1, h2, _⟩, _⟩ := h
  exact ⟨A, _, c, e, h1, h2, rfl⟩
theorem PathsV.at_ {A : Option Addr} {n c k : Nat} {ps : List (List ByteArray)} (h : PathsV S w (.slice A n c) ps) (hk : k < n) :
    ∃ ad p B m d, A = some ad ∧ ps[k]? = some p ∧ w.cell? (ad.add k) = some (.slice B m d) ∧ PathV S w (.slice B m d) p ∧ m ≤ d ∧ d ≤ maxLen ∧ p.length = m := by
  obtain ⟨vs, ⟨A', c', e, hr, _⟩, h2⟩ := h
  injection e with e1 e2 e3
  subst e1; subst e2
  obtain ⟨ad, rfl, hc⟩ := hr.2 (by omega)
  obtain ⟨u, hu, hp⟩ := h2 k _ (List.getElem?_eq_getElem hk)
  obtain ⟨B, m, d, rfl, h3, h4, h5⟩ := hp.form
  exact ⟨ad, _, B, m, d, rfl, List.getElem?_eq_getElem hk, hc k _ hu, hp, h3, h4, h5⟩
theorem FactsV.form {fs : List Fa} (h : FactsV S w v fs) : ∃ A n c, v = .slice A n c ∧ n ≤ c ∧ c ≤ maxLen ∧ fs.length = n := by
  obtain ⟨_, ⟨A, c, e, _, h1, h2, _⟩, _⟩ := h
  exact ⟨A, _, c, e, h1, h2, rfl⟩
theorem add_next (ad : Addr) (i : Nat) (hi : 0 < i) : ad.add i = ⟨ad.block, ad.off + i, none⟩ := by
  unfold Addr.add
  rw [if_neg (by omega)]
theorem FactsV.at_ {A : Option Addr} {n c k : Nat} {fs : List Fa} (h : FactsV S w (.slice A n c) fs) (hk : k < n) :
    ∃ ad f B m d C q r, A = some ad ∧ fs[k]? = some f ∧ w.cell? (ad.add (k * 2)) = some (.slice B m d) ∧ w.cell? ⟨(ad.add (k * 2)).block, (ad.add (k * 2)).off + 1, none⟩ = some (.slice C q r) ∧ PathsV S w (.slice B m d) f.paths ∧ IntsV S w (.slice C q r) f.vals ∧
      m ≤ d ∧ d ≤ maxLen ∧ f.paths.length = m ∧ q ≤ r ∧ r ≤ maxLen ∧ f.vals.length = q := by
  obtain ⟨ys, ⟨A', c', e, hr, _⟩, hl, h2⟩ := h
  injection e with e1 e2 e3
  subst e1; subst e2
  obtain ⟨ad, rfl, hc⟩ := hr.2 (by omega)
  obtain ⟨⟨y1, y2⟩, hy, hp, hi⟩ := h2 k _ (List.getElem?_eq_getElem hk)
  obtain ⟨B, m, d, e1, h3, h4, h5⟩ := hp.form
  obtain ⟨C, q, r, e2, h6, h7, h8⟩ := hi.form
  obtain rfl : y1 = _ := e1
  obtain rfl : y2 = _ := e2
  have c0 := hc (k * 2 + 0) _ ((flat_at faC_len (j := 0) (by omega) hy).trans rfl)
  have c1 := hc (k * 2 + 1) _ ((flat_at faC_len (j := 1) (by omega) hy).trans rfl)
  rw [← add_of_add, add_next _ 1 (by omega)] at c1
  exact ⟨ad, _, B, m, d, C, q, r, rfl, List.getElem?_eq_getElem hk, c0, c1, hp, hi, h3, h4, h5, h6, h7, h8⟩
end
end Go.Proofs.Ytojmkbhihnnmaaa
