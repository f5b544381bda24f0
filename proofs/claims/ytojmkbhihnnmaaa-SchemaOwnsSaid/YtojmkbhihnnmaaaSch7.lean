/-
  The walks of the schema: names that are told by the program.
-/
import Derived.Test.YtojmkbhihnnmaaaSch6
namespace Go.Proofs.Ytojmkbhihnnmaaa
open Go.RowKit Go.Maps

theorem notname_any (s : ByteArray) (w : World) : Calls Try.prog 77 #[.string s] w fun e w' => e = .returned (.bool (!nameB s)) ∧ Below w.heap.size w w' := by
  go_enter Try.func77, Try.ntmps77
  go_wp2_with fail
  refine (name_any _ _).mono ?_
  rintro e w' ⟨rfl, hb⟩
  go_wp2
  go_ret
  exact ⟨rfl, hb⟩

/-- the first place at which p holds -/
def idxF {α : Type} (p : α → Bool) : List α → Int
  | [] => -1
  | x :: l => if p x then 0 else if idxF p l < 0 then -1 else idxF p l + 1
theorem idxF_ge {α : Type} (p : α → Bool) (l : List α) : -1 ≤ idxF p l := by
  induction l with
  | nil => simp [idxF]
  | cons x l ih => unfold idxF; split <;> (try split) <;> omega
theorem idxF_at {α : Type} (p : α → Bool) (l : List α) (k : Nat) (x : α) (hx : l[k]? = some x) (hp : p x = true) (hb : ∀ j y, j < k → l[j]? = some y → p y = false) : idxF p l = k := by
  induction l generalizing k with
  | nil => simp at hx
  | cons y l ih =>
    cases k with
    | zero =>
      simp at hx
      subst hx
      simp [idxF, hp]
    | succ k =>
      have h0 := hb 0 y (by omega) rfl
      have := ih k (by simpa using hx) (fun j z hj hz => hb (j + 1) z (by omega) (by simpa using hz))
      unfold idxF
      rw [h0, this]
      simp
      omega
theorem idxF_none {α : Type} (p : α → Bool) (l : List α) (hb : ∀ (j : Nat) y, l[j]? = some y → p y = false) : idxF p l = -1 := by
  induction l with
  | nil => rfl
  | cons y l ih =>
    have h0 := hb 0 y rfl
    have := ih (fun j z hz => hb (j + 1) z (by simpa using hz))
    unfold idxF
    rw [h0, this]
    simp
theorem idxF_any {α : Type} (p : α → Bool) (l : List α) : decide (0 ≤ idxF p l) = l.any p := by
  induction l with
  | nil => rfl
  | cons y l ih =>
    have := idxF_ge p l
    rw [List.any_cons, ← ih]
    show decide (0 ≤ if p y = true then 0 else if idxF p l < 0 then -1 else idxF p l + 1) = _
    cases p y
    · by_cases h : idxF p l < 0
      · rw [if_neg (by simp), if_pos h, decide_eq_false (by omega), decide_eq_false (by omega)]; rfl
      · rw [if_neg (by simp), if_neg h, decide_eq_true (by omega), decide_eq_true (by omega)]; rfl
    · simp

theorem idxname_any (A : Option Addr) (n c : Nat) (l : List ByteArray) (w : World) (hr : RdT w A n l) (hn : n ≤ maxLen)  :
    Calls Try.prog 88 #[.slice A n c, .func (.func 77) #[] #[]] w fun e w' => e = .returned (.int .i64 (idxF (fun s => !nameB s) l)) ∧ Below w.heap.size w w' := by
  unfold maxLen at hn
  have H1 := Lib.hid hr.len
  go_enter Try.func88, Try.ntmps88
  go_wp2_with fail
  go_loopw [8] (fun i wr => ∃ k : Nat, k ≤ n ∧ i = .int .i64 k ∧ (∀ j y, j < k → l[j]? = some y → (fun s => !nameB s) y = false) ∧ Below w.heap.size w wr) (fun i _ => n - (intOf i).toNat)
  case atStart => exact ⟨0, Nat.zero_le _, rfl, fun j y hj => by omega, Below.refl _ _⟩
  case round =>
    obtain ⟨k, hk, rfl, hno, hb⟩ := hrel
    have Hno := Lib.hid hno
    clear hno
    by_cases hlt : k < n
    · obtain ⟨ad, s, rfl, hsk, hc⟩ := (hr.below hb).at_ hlt
      cases hnb : nameB s with
      | false =>
        have Hix := Lib.hid (idxF_at (fun s => !nameB s) l k s hsk (by rw [hnb]; rfl) Hno.out)
        clear hsk
        go_wp2_with fail
        refine (notname_any _ _).mono ?_
        rintro e w' ⟨rfl, hb1⟩
        rw [hnb]
        go_wp2
        go_ret
        exact ⟨by rw [Hix.out]; rfl, below_then hb hb1 (Nat.le_refl _)⟩
      | true =>
        have Hst := Lib.hid (show ∀ j y, j < k + 1 → l[j]? = some y → (fun s => !nameB s) y = false from fun j y hj hy => by
          rcases Nat.lt_or_ge j k with h | h
          · exact Hno.out j y h hy
          · obtain rfl : j = k := by omega
            obtain rfl : s = y := Option.some.inj (hsk.symm.trans hy)
            show (!nameB s) = false
            rw [hnb]; rfl)
        clear hsk
        go_wp2_with fail
        refine (notname_any _ _).mono ?_
        rintro e w' ⟨rfl, hb1⟩
        rw [hnb]
        go_wp2
        go_roundw
        case rel => exact ⟨k + 1, by omega, by go_num, Hst.out, below_then hb hb1 (Nat.le_refl _)⟩
        case measure => simp [intOf]; omega
    · obtain rfl : k = n := by omega
      have Hix := Lib.hid (idxF_none (fun s => !nameB s) l (fun j y hy => Hno.out j y (by rw [← H1.out]; exact (List.getElem?_eq_some_iff.1 hy).1) hy))
      go_wp2
      go_ret
      exact ⟨by rw [Hix.out]; rfl, hb⟩

theorem conname_any (A : Option Addr) (n c : Nat) (l : List ByteArray) (w : World) (hr : RdT w A n l) (hn : n ≤ maxLen)  :
    Calls Try.prog 79 #[.slice A n c, .func (.func 77) #[] #[]] w fun e w' => e = .returned (.bool (l.any fun s => !nameB s)) ∧ Below w.heap.size w w' := by
  have Hix := Lib.hid (idxF_any (fun s => !nameB s) l)
  go_enter Try.func79, Try.ntmps79
  go_wp2_with fail
  refine (idxname_any _ _ _ _ _ hr hn).mono ?_
  rintro e w' ⟨rfl, hb⟩
  generalize idxF (fun s => !nameB s) l = ix at *
  go_wp2
  go_ret
  exact ⟨by rw [← Hix.out]; rfl, hb⟩

theorem named_any (A : Option Addr) (n c : Nat) (l : List ByteArray) (most : Int) (w : World) (hr : RdT w A n l) (hn : n ≤ 1000000) :
    Calls Try.prog 53 #[.slice A n c, .int .i64 most] w fun e w' => e = .returned (.bool (namedF l most)) ∧ Below w.heap.size w w' := by
  have H1 := Lib.hid hr.len
  by_cases h1 : n < 1 ∨ most < n
  · have hne : namedF l most = false := decide_eq_false fun e => by rw [H1.out] at e; omega
    have Hne := Lib.hid hne
    clear hne
    by_cases h2 : n < 1
    · have E1 : decide (1 ≤ (n : Int)) = false := by simp; omega
      go_enter Try.func53, Try.ntmps53
      go_wp2
      go_ret
      exact ⟨by rw [Hne.out]; rfl, Below.refl _ _⟩
    · have h3 : most < n := by omega
      have h2' : 1 ≤ n := by omega
      have E1 : decide ((n : Int) ≤ most) = false := by simp; omega
      clear h1
      go_enter Try.func53, Try.ntmps53
      go_wp2
      go_ret
      exact ⟨by rw [Hne.out]; rfl, Below.refl _ _⟩
  · obtain ⟨h2, h3⟩ : 1 ≤ n ∧ n ≤ most := by omega
    clear h1
    cases hbad : l.any fun s => !nameB s with
    | true =>
      have hne : namedF l most = false := decide_eq_false fun e => by
        obtain ⟨s, hs, hsb⟩ := List.any_eq_true.1 hbad
        obtain ⟨i, hi, rfl⟩ := List.getElem_of_mem hs
        have := e.2.1 i hi
        rw [List.getElem?_eq_getElem hi] at this
        simp at this hsb
        rw [hsb] at this; cases this
      have Hne := Lib.hid hne
      clear hne
      go_enter Try.func53, Try.ntmps53
      go_wp2_with fail
      refine (conname_any _ _ _ _ _ hr (maxLen_big hn (by omega))).mono ?_
      rintro e w' ⟨rfl, hb⟩
      rw [hbad]
      clear hbad
      go_wp2
      go_ret
      exact ⟨by rw [Hne.out]; rfl, hb⟩
    | false =>
      have hall : ∀ s ∈ l, nameB s = true := fun s hs => by
        have := List.any_eq_false.1 hbad s hs
        simpa using this
      have hne : namedF l most = distB l := decide_eq_decide.2 ⟨fun e => e.2.2, fun e => ⟨⟨by rw [H1.out]; exact h2, by rw [H1.out]; exact h3⟩, fun i hi => by rw [List.getElem?_eq_getElem hi]; exact hall _ (List.getElem_mem hi), e⟩⟩
      have Hne := Lib.hid hne
      have Hsz := Lib.hid (fun s (hs : s ∈ l) => show s.size ≤ maxLen from maxLen_big (nameB_size (hall s hs)) (by omega))
      clear hne hall
      go_enter Try.func53, Try.ntmps53
      go_wp2_with fail
      refine (conname_any _ _ _ _ _ hr (maxLen_big hn (by omega))).mono ?_
      rintro e w' ⟨rfl, hb⟩
      rw [hbad]
      clear hbad
      go_wp2_with fail
      refine (apart_any _ _ _ _ _ (hr.below hb) hn Hsz.out).mono ?_
      rintro e w2 ⟨rfl, hb2⟩
      go_wp2
      go_ret
      exact ⟨by rw [Hne.out]; rfl, below_then hb hb2 (Nat.le_refl _)⟩
end Go.Proofs.Ytojmkbhihnnmaaa
