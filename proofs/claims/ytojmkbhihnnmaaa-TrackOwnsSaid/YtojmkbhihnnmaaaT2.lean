/-
  The track: names.
-/
import Derived.Test.YtojmkbhihnnmaaaT1
namespace Go.Proofs.Ytojmkbhihnnmaaa
open Go.RowKit

def RdT (w : World) (A : Option Addr) (n : Nat) (l : List ByteArray) : Prop := Rds w 1 A n (l.map vst)
theorem RdT.len {w : World} {A : Option Addr} {n : Nat} {l : List ByteArray} (h : RdT w A n l) : l.length = n := by have := h.1; simpa using this
theorem RdT.at_ {w : World} {A : Option Addr} {n : Nat} {l : List ByteArray} (h : RdT w A n l) {k : Nat} (hk : k < n) : ∃ ad s, A = some ad ∧ l[k]? = some s ∧ w.cell? (ad.add k) = some (.string s) := by
  obtain ⟨ad, e, hc⟩ := h.2 (by omega)
  have hl := h.len
  refine ⟨ad, l[k]'(by omega), e, List.getElem?_eq_getElem (by omega), hc k _ ?_⟩
  rw [List.getElem?_map, List.getElem?_eq_getElem (by omega)]; rfl
theorem RdT.below {w w' : World} {A : Option Addr} {n : Nat} {l : List ByteArray} (h : RdT w A n l) (hb : Below w.heap.size w w') : RdT w' A n l := Rds.below h hb

/-- a byte of a name -/
def okR (r : Nat) : Bool := decide (97 ≤ r ∧ r ≤ 122 ∨ 48 ≤ r ∧ r ≤ 57 ∨ r = 45 ∨ r = 95)
def nameB (s : ByteArray) : Bool := decide (1 ≤ s.size ∧ s.size ≤ 12 ∧ ∀ i (h : i < s.size), okR (s[i]'h).toNat = true)
theorem okR_yes {r : Nat} (h : okR r = true) : (97 ≤ r ∧ r ≤ 122) ∨ (48 ≤ r ∧ r ≤ 57) ∨ r = 45 ∨ r = 95 := of_decide_eq_true h
theorem okR_no {r : Nat} (h : okR r = false) : r < 45 ∨ (45 < r ∧ r < 48) ∨ (57 < r ∧ r < 95) ∨ r = 96 ∨ 122 < r := by
  have := of_decide_eq_false h
  omega

theorem isEmpty_size (s : ByteArray) : s.toList.isEmpty = decide (s.size = 0) := by
  rw [Bool.eq_iff_iff, List.isEmpty_iff, ByteArray.toList_eq, decide_eq_true_eq, ← List.length_eq_zero_iff]
  exact Iff.rfl
theorem size_pos_le (n : Nat) : (!decide (n = 0) && decide ((n : Int) ≤ 12)) = decide (1 ≤ n ∧ n ≤ 12) := by
  rw [Bool.eq_iff_iff, Bool.and_eq_true, Bool.not_eq_true', decide_eq_true_eq, decide_eq_false_iff_not, decide_eq_true_eq]
  omega
theorem name_any (s : ByteArray) (w : World) : Calls Try.prog 78 #[.string s] w fun e w' => e = .returned (.bool (nameB s)) ∧ Below w.heap.size w w' := by
  go_enter Try.func78, Try.ntmps78
  go_wp2
  have hbi : ∀ pos, Below w.heap.size w (w.iter s pos) := fun pos => (Below.refl _ _).alloc (Nat.le_refl _) _
  go_loopw [4, 7, 8, 9, 10, 11, 12, 13, 14, 15, 16, 17, 18, 19, 20, 21, 22, 23, 24, 25, 26, 27, 28, 29, 30, 31, 32] (fun _ _ _ _ _ _ _ _ _ _ _ _ _ _ _ _ _ _ _ _ _ _ _ _ _ _ _ w' => ∃ pos : Nat, pos ≤ s.size ∧ w' = w.iter s pos ∧ ∀ i (h : i < s.size), i < pos → okR (s[i]'h).toNat = true) (fun _ _ _ _ _ _ _ _ _ _ _ _ _ _ _ _ _ _ _ _ _ _ _ _ _ _ _ w' => s.size - w'.iterPos w.heap.size)
  case atStart => exact ⟨0, Nat.zero_le _, rfl, fun i _ h => by omega⟩
  case round =>
    obtain ⟨pos, hps, rfl, hok⟩ := hrel
    have Hok := Lib.hid hok
    clear hok
    by_cases hp : pos < s.size
    · by_cases ha : (s[pos]'hp).toNat < 128
      · have hnx : ∀ ty, (Instr.next (.pointer (some ⟨w.heap.size, 0, none⟩)) true ty).run Try.prog (w.iter s pos) = _ := fun ty => run_next_ascii w s pos ty hp ha
        cases hokr : okR (s[pos]'hp).toNat with
        | true =>
          have hst : ∀ i (h : i < s.size), i < pos + 1 → okR (s[i]'h).toNat = true := fun i h hi => by
            rcases Nat.lt_or_ge i pos with h1 | h1
            · exact Hok.out i h h1
            · obtain rfl : i = pos := by omega
              exact hokr
          have Hst := Lib.hid hst
          have hcl := okR_yes hokr
          clear hst hokr
          generalize (s[pos]'hp).toNat = r at *
          rcases hcl with ⟨h1, h2⟩ | ⟨h1, h2⟩ | h1 | h1
          all_goals
            go_wp2
            go_roundw
            case rel => exact ⟨pos + 1, by omega, rfl, Hst.out⟩
            case measure => simp; omega
        | false =>
          have hne : nameB s = false := decide_eq_false fun e => by have := e.2.2 pos hp; rw [hokr] at this; cases this
          have Hne := Lib.hid hne
          have hcl := okR_no hokr
          clear hne hokr
          generalize (s[pos]'hp).toNat = r at *
          rcases hcl with h1 | ⟨h1, h2⟩ | ⟨h1, h2⟩ | h1 | h1
          all_goals
            have E1 : (((r : Nat) : Int) == 45) = false := by simp; omega
            have E2 : (((r : Nat) : Int) == 95) = false := by simp; omega
            go_wp2
            all_goals first
              | (go_ret; exact ⟨by rw [Hne.out]; rfl, hbi _⟩)
              | (exfalso; rename_i hx; simp only [Bool.not_eq_false', decide_eq_true_eq] at hx; omega)
      · have hnx : ∀ ty, (Instr.next (.pointer (some ⟨w.heap.size, 0, none⟩)) true ty).run Try.prog (w.iter s pos) = _ := fun ty => run_next_any w s pos ty hp
        have hne : nameB s = false := decide_eq_false fun e => by
          have h1 := e.2.2 pos hp
          have h2 := okR_yes h1
          omega
        have Hne := Lib.hid hne
        have hhi := (decode_high s pos hp (by omega)).1
        clear hne ha
        generalize (Utf8.decode s pos).1 = r at *
        generalize (Utf8.decode s pos).2 = k at *
        have E1 : (((r : Nat) : Int) == 45) = false := by simp; omega
        have E2 : (((r : Nat) : Int) == 95) = false := by simp; omega
        go_wp2
        all_goals first
          | (go_ret; exact ⟨by rw [Hne.out]; rfl, hbi _⟩)
          | (exfalso; rename_i hx; simp only [Bool.not_eq_false', decide_eq_true_eq] at hx; omega)
    · obtain rfl : pos = s.size := by omega
      have hnx : ∀ ty, (Instr.next (.pointer (some ⟨w.heap.size, 0, none⟩)) true ty).run Try.prog (w.iter s s.size) = _ := fun ty => run_next_end w s s.size ty hp
      have hne : nameB s = decide (1 ≤ s.size ∧ s.size ≤ 12) := by
        unfold nameB
        exact decide_eq_decide.2 ⟨fun h => ⟨h.1, h.2.1⟩, fun h => ⟨h.1, h.2, fun i hi => Hok.out i hi hi⟩⟩
      have Hne := Lib.hid hne
      have Hse := Lib.hid (isEmpty_size s)
      clear hne
      go_wp2
      all_goals
        go_ret
        refine ⟨?_, hbi _⟩
        rw [Hne.out]
        have h1 := Hse.out
        rename_i hx
      · rw [hx] at h1
        exact ret_bool (decide_eq_false (fun h => by have := of_decide_eq_true h1.symm; omega)).symm
      · refine ret_bool ?_
        rw [h1, size_pos_le]
theorem nameB_size {s : ByteArray} (h : nameB s = true) : s.size ≤ 12 := (of_decide_eq_true h).2.1

theorem refname_any (s : ByteArray) (w : World) : Calls Try.prog 81 #[.string s] w fun e w' => e = .returned (.bool (nameB s)) ∧ w = w' := by
  by_cases h1 : s.size < 1
  · have hne : nameB s = false := decide_eq_false fun e => by omega
    have Hne := Lib.hid hne
    clear hne
    go_enter Try.func81, Try.ntmps81
    go_wp2
    go_ret
    exact ⟨by rw [Hne.out]; rfl, rfl⟩
  · by_cases h2 : 12 < s.size
    · have hne : nameB s = false := decide_eq_false fun e => by omega
      have Hne := Lib.hid hne
      clear hne
      go_enter Try.func81, Try.ntmps81
      go_wp2
      go_ret
      exact ⟨by rw [Hne.out]; rfl, rfl⟩
    · go_enter Try.func81, Try.ntmps81
      go_wp2
      go_loop [3, 4, 5, 6, 15, 16, 17, 18, 19, 20, 21, 22, 23, 24, 25, 26, 27, 28, 29, 30, 31, 32, 33, 34, 35, 36, 37, 38, 39, 40, 41, 42, 43, 44, 45, 46, 47, 48, 49] (fun i _ _ _ _ _ _ _ _ _ _ _ _ _ _ _ _ _ _ _ _ _ _ _ _ _ _ _ _ _ _ _ _ _ _ _ _ _ _ => ∃ k : Nat, k ≤ s.size ∧ i = .int .i64 k ∧ ∀ j (h : j < s.size), j < k → okR (s[j]'h).toNat = true) (fun i _ _ _ _ _ _ _ _ _ _ _ _ _ _ _ _ _ _ _ _ _ _ _ _ _ _ _ _ _ _ _ _ _ _ _ _ _ _ => s.size - (intOf i).toNat)
      case atStart => exact ⟨0, Nat.zero_le _, rfl, fun j _ h => by omega⟩
      case round =>
        obtain ⟨k, hk, rfl, hok⟩ := hrel
        have Hok := Lib.hid hok
        clear hok
        by_cases hlt : k < s.size
        · cases hokr : okR (s[k]'hlt).toNat with
          | true =>
            have hst : ∀ i (h : i < s.size), i < k + 1 → okR (s[i]'h).toNat = true := fun i h hi => by
              rcases Nat.lt_or_ge i k with h1 | h1
              · exact Hok.out i h h1
              · obtain rfl : i = k := by omega
                exact hokr
            have Hst := Lib.hid hst
            have hcl := okR_yes hokr
            clear hst hokr
            rcases hcl with ⟨h1, h2⟩ | ⟨h1, h2⟩ | h1 | h1
            all_goals
              go_wp2
              go_round
              case rel => exact ⟨k + 1, by omega, by go_num, Hst.out⟩
              case measure => simp [intOf]; omega
          | false =>
            have hne : nameB s = false := decide_eq_false fun e => by have := e.2.2 k hlt; rw [hokr] at this; cases this
            have Hne := Lib.hid hne
            have hcl := okR_no hokr
            have E1 : (((s[k]'hlt).toNat : Int) == 45) = false := by simp; omega
            have E2 : (((s[k]'hlt).toNat : Int) == 95) = false := by simp; omega
            have E3 : (((s[k]'hlt).toNat : Int) != 45) = true := by simp; omega
            have E4 : (((s[k]'hlt).toNat : Int) != 95) = true := by simp; omega
            clear hne hokr
            rcases hcl with h1 | ⟨h1, h2⟩ | ⟨h1, h2⟩ | h1 | h1
            all_goals
              go_wp2
              all_goals first
                | (go_ret; exact ⟨by rw [Hne.out]; rfl, rfl⟩)
                | (exfalso; rename_i hx; simp only [Bool.not_eq_false', decide_eq_true_eq] at hx; omega)
        · obtain rfl : k = s.size := by omega
          have hne : nameB s = true := decide_eq_true ⟨by omega, by omega, fun i hi => Hok.out i hi hi⟩
          have Hne := Lib.hid hne
          clear hne
          go_wp2
          go_ret
          exact ⟨by rw [Hne.out]; rfl, rfl⟩
theorem notname_any (s : ByteArray) (w : World) : Calls Try.prog 113 #[.string s] w fun e w' => e = .returned (.bool (!nameB s)) ∧ Below w.heap.size w w' := by
  go_enter Try.func113, Try.ntmps113
  go_wp2_with fail
  refine (name_any _ _).mono ?_
  rintro e w' ⟨rfl, hb⟩
  go_wp2
  go_ret
  exact ⟨rfl, hb⟩

/-- the first place at which p holds -/
def idxF {α : Type} (p : α → Bool) : List α → Int
  | [] => -1
  | x :: l => if p x then 0 else if idxF p l < 0 then -1 else idxF p l + 1
theorem idxF_ge {α : Type} (p : α → Bool) (l : List α) : -1 ≤ idxF p l := by
  induction l with
  | nil => simp [idxF]
  | cons x l ih => unfold idxF; split <;> (try split) <;> omega
theorem idxF_at {α : Type} (p : α → Bool) (l : List α) (k : Nat) (x : α) (hx : l[k]? = some x) (hp : p x = true) (hb : ∀ j y, j < k → l[j]? = some y → p y = false) : idxF p l = k := by
  induction l generalizing k with
  | nil => simp at hx
  | cons y l ih =>
    cases k with
    | zero =>
      simp at hx
      subst hx
      simp [idxF, hp]
    | succ k =>
      have h0 := hb 0 y (by omega) rfl
      have := ih k (by simpa using hx) (fun j z hj hz => hb (j + 1) z (by omega) (by simpa using hz))
      unfold idxF
      rw [h0, this]
      simp
      omega
theorem idxF_none {α : Type} (p : α → Bool) (l : List α) (hb : ∀ (j : Nat) y, l[j]? = some y → p y = false) : idxF p l = -1 := by
  induction l with
  | nil => rfl
  | cons y l ih =>
    have h0 := hb 0 y rfl
    have := ih (fun j z hz => hb (j + 1) z (by simpa using hz))
    unfold idxF
    rw [h0, this]
    simp
theorem idxF_any {α : Type} (p : α → Bool) (l : List α) : decide (0 ≤ idxF p l) = l.any p := by
  induction l with
  | nil => rfl
  | cons y l ih =>
    have := idxF_ge p l
    rw [List.any_cons, ← ih]
    show decide (0 ≤ if p y = true then 0 else if idxF p l < 0 then -1 else idxF p l + 1) = _
    cases p y
    · by_cases h : idxF p l < 0
      · rw [if_neg (by simp), if_pos h, decide_eq_false (by omega), decide_eq_false (by omega)]; rfl
      · rw [if_neg (by simp), if_neg h, decide_eq_true (by omega), decide_eq_true (by omega)]; rfl
    · simp

theorem idxname_any (A : Option Addr) (n c : Nat) (l : List ByteArray) (w : World) (hr : RdT w A n l) (hn : n ≤ maxLen)  :
    Calls Try.prog 88 #[.slice A n c, .func (.func 113) #[] #[]] w fun e w' => e = .returned (.int .i64 (idxF (fun s => !nameB s) l)) ∧ Below w.heap.size w w' := by
  unfold maxLen at hn
  have H1 := Lib.hid hr.len
  go_enter Try.func88, Try.ntmps88
  go_wp2_with fail
  go_loopw [8] (fun i wr => ∃ k : Nat, k ≤ n ∧ i = .int .i64 k ∧ (∀ j y, j < k → l[j]? = some y → (fun s => !nameB s) y = false) ∧ Below w.heap.size w wr) (fun i _ => n - (intOf i).toNat)
  case atStart => exact ⟨0, Nat.zero_le _, rfl, fun j y hj => by omega, Below.refl _ _⟩
  case round =>
    obtain ⟨k, hk, rfl, hno, hb⟩ := hrel
    have Hno := Lib.hid hno
    clear hno
    by_cases hlt : k < n
    · obtain ⟨ad, s, rfl, hsk, hc⟩ := (hr.below hb).at_ hlt
      cases hnb : nameB s with
      | false =>
        have Hix := Lib.hid (idxF_at (fun s => !nameB s) l k s hsk (by rw [hnb]; rfl) Hno.out)
        clear hsk
        go_wp2_with fail
        refine (notname_any _ _).mono ?_
        rintro e w' ⟨rfl, hb1⟩
        rw [hnb]
        go_wp2
        go_ret
        exact ⟨by rw [Hix.out]; rfl, below_then hb hb1 (Nat.le_refl _)⟩
      | true =>
        have Hst := Lib.hid (show ∀ j y, j < k + 1 → l[j]? = some y → (fun s => !nameB s) y = false from fun j y hj hy => by
          rcases Nat.lt_or_ge j k with h | h
          · exact Hno.out j y h hy
          · obtain rfl : j = k := by omega
            obtain rfl : s = y := Option.some.inj (hsk.symm.trans hy)
            show (!nameB s) = false
            rw [hnb]; rfl)
        clear hsk
        go_wp2_with fail
        refine (notname_any _ _).mono ?_
        rintro e w' ⟨rfl, hb1⟩
        rw [hnb]
        go_wp2
        go_roundw
        case rel => exact ⟨k + 1, by omega, by go_num, Hst.out, below_then hb hb1 (Nat.le_refl _)⟩
        case measure => simp [intOf]; omega
    · obtain rfl : k = n := by omega
      have Hix := Lib.hid (idxF_none (fun s => !nameB s) l (fun j y hy => Hno.out j y (by rw [← H1.out]; exact (List.getElem?_eq_some_iff.1 hy).1) hy))
      go_wp2
      go_ret
      exact ⟨by rw [Hix.out]; rfl, hb⟩

theorem conname_any (A : Option Addr) (n c : Nat) (l : List ByteArray) (w : World) (hr : RdT w A n l) (hn : n ≤ maxLen)  :
    Calls Try.prog 79 #[.slice A n c, .func (.func 113) #[] #[]] w fun e w' => e = .returned (.bool (l.any fun s => !nameB s)) ∧ Below w.heap.size w w' := by
  have Hix := Lib.hid (idxF_any (fun s => !nameB s) l)
  go_enter Try.func79, Try.ntmps79
  go_wp2_with fail
  refine (idxname_any _ _ _ _ _ hr hn).mono ?_
  rintro e w' ⟨rfl, hb⟩
  generalize idxF (fun s => !nameB s) l = ix at *
  go_wp2
  go_ret
  exact ⟨by rw [← Hix.out]; rfl, hb⟩


/-- may these be a path? -/
def mayP (p : List ByteArray) : Bool := decide (p.length ≤ 3) && !(p.any fun s => !nameB s)
theorem mayP_len {p : List ByteArray} (h : mayP p = true) : p.length ≤ 3 := by
  unfold mayP at h
  rw [Bool.and_eq_true, decide_eq_true_eq] at h
  exact h.1
theorem mayP_name {p : List ByteArray} (h : mayP p = true) : ∀ s ∈ p, nameB s = true := fun s hs => by
  unfold mayP at h
  rw [Bool.and_eq_true, Bool.not_eq_true'] at h
  cases hn : nameB s with
  | true => rfl
  | false =>
    have h1 : (p.any fun s => !nameB s) = true := List.any_eq_true.2 ⟨s, hs, by rw [hn]; rfl⟩
    rw [h.2] at h1
    cases h1
theorem may_any (A : Option Addr) (n c : Nat) (l : List ByteArray) (w : World) (hr : RdT w A n l) (hn : n ≤ maxLen) :
    Calls Try.prog 108 #[.slice A n c] w fun e w' => e = .returned (.bool (mayP l)) ∧ Below w.heap.size w w' := by
  have H1 := Lib.hid hr.len
  by_cases h3 : n ≤ 3
  · have hm := Lib.hid (show mayP l = !(l.any fun s => !nameB s) by unfold mayP; rw [decide_eq_true (by rw [H1.out]; exact h3)]; rfl)
    go_enter Try.func108, Try.ntmps108
    go_wp2_with fail
    refine (conname_any _ _ _ _ _ hr hn).mono ?_
    rintro e w' ⟨rfl, hb⟩
    go_wp2
    go_ret
    exact ⟨by rw [hm.out]; rfl, hb⟩
  · have hm := Lib.hid (show mayP l = false by unfold mayP; rw [decide_eq_false (by rw [H1.out]; exact h3)]; rfl)
    have h4 : decide ((n : Int) ≤ 3) = false := by simp; omega
    go_enter Try.func108, Try.ntmps108
    go_wp2_with fail
    go_ret
    exact ⟨by rw [hm.out]; rfl, Below.refl _ _⟩
theorem refmayp_any (A : Option Addr) (n c : Nat) (l : List ByteArray) (w : World) (hr : RdT w A n l) (hn : n ≤ maxLen) :
    Calls Try.prog 99 #[.slice A n c] w fun e w' => e = .returned (.bool (mayP l)) ∧ w = w' := by
  unfold maxLen at hn
  have H1 := Lib.hid hr.len
  by_cases h3 : 3 < n
  · have hm := Lib.hid (show mayP l = false by unfold mayP; rw [decide_eq_false (by rw [H1.out]; omega)]; rfl)
    go_enter Try.func99, Try.ntmps99
    go_wp2_with fail
    go_ret
    exact ⟨by rw [hm.out]; rfl, rfl⟩
  · go_enter Try.func99, Try.ntmps99
    go_wp2_with fail
    go_loop [3] (fun i => ∃ k : Nat, k ≤ n ∧ i = .int .i64 k ∧ ∀ j s, j < k → l[j]? = some s → nameB s = true) (fun i => n - (intOf i).toNat)
    case atStart => exact ⟨0, Nat.zero_le _, rfl, fun j s hj => by omega⟩
    case round =>
      obtain ⟨k, hk, rfl, hno⟩ := hrel
      have Hno := Lib.hid hno
      clear hno
      by_cases hlt : k < n
      · obtain ⟨ad, s, rfl, hsk, hc⟩ := hr.at_ hlt
        cases hnb : nameB s with
        | false =>
          have hm := Lib.hid (show mayP l = false by
            cases h : mayP l with
            | false => rfl
            | true => exact absurd (mayP_name h s (List.mem_of_getElem? hsk)) (by rw [hnb]; simp))
          clear hsk
          go_wp2_with fail
          refine (refname_any _ _).mono ?_
          rintro e w' ⟨rfl, rfl⟩
          rw [hnb]
          go_wp2
          go_ret
          exact ⟨by rw [hm.out]; rfl, rfl⟩
        | true =>
          have Hst := Lib.hid (show ∀ j y, j < k + 1 → l[j]? = some y → nameB y = true from fun j y hj hy => by
            rcases Nat.lt_or_ge j k with h | h
            · exact Hno.out j y h hy
            · obtain rfl : j = k := by omega
              obtain rfl : s = y := Option.some.inj (hsk.symm.trans hy)
              exact hnb)
          clear hsk
          go_wp2_with fail
          refine (refname_any _ _).mono ?_
          rintro e w' ⟨rfl, rfl⟩
          rw [hnb]
          go_wp2
          go_round
          case rel => exact ⟨k + 1, by omega, by go_num, Hst.out⟩
          case measure => simp [intOf]; omega
      · obtain rfl : k = n := by omega
        have hm := Lib.hid (show mayP l = true by
          unfold mayP
          rw [decide_eq_true (by rw [H1.out]; omega), Bool.true_and, Bool.not_eq_true', List.any_eq_false]
          intro s hs
          obtain ⟨i, hi, e⟩ := List.getElem_of_mem hs
          rw [Hno.out i s (by rw [← H1.out]; exact hi) (by rw [List.getElem?_eq_getElem hi, e])]
          simp)
        go_wp2
        go_ret
        exact ⟨by rw [hm.out]; rfl, rfl⟩
end Go.Proofs.Ytojmkbhihnnmaaa
