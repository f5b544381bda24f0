/-
  The track, plain: what it answers, what it becomes, and what stays true of it.
-/
import Derived.Test.YtojmkbhihnnmaaaT11
namespace Go.Proofs.Ytojmkbhihnnmaaa
open Go.RowKit

structure Trk where
  index : Int
  term : Int
  L : List En
def Trk.lastF (t : Trk) : Int × Int := match t.L.getLast? with
  | some x => (x.idx, x.term)
  | none => (t.index, t.term)
/-- the term ahead of place i -/
def prevT (term : Int) (L : List En) (i : Nat) : Int := match i with
  | 0 => term
  | i + 1 => match L[i]? with
    | some x => x.term
    | none => term
theorem prevT_succ (term : Int) (L : List En) (i : Nat) : prevT term L (i + 1) = match L[i]? with
  | some x => x.term
  | none => term := rfl
structure Trk.Inv (t : Trk) : Prop where
  base : (t.index = 0 ∧ t.term = 0) ∨ (1 ≤ t.index ∧ t.index ≤ 1099511627776 ∧ 1 ≤ t.term ∧ t.term ≤ 1099511627776)
  idx : ∀ (i : Nat) x, t.L[i]? = some x → x.idx = t.index + 1 + i
  plain : ∀ x ∈ t.L, plainB x = true
  mono : ∀ (i : Nat) x, t.L[i]? = some x → prevT t.term t.L i ≤ x.term
def Trk.termF (t : Trk) (i : Int) : Int × Int :=
  if i < t.index then (0, 34) else if i = t.index then (t.term, 0) else match t.L[(i - t.index - 1).toNat]? with
    | some x => (x.term, 0)
    | none => (0, 33)
def Trk.sliceF (t : Trk) (i n : Int) : List En := if i ≤ t.index ∨ n < 1 then [] else (t.L.drop (i - t.index - 1).toNat).take n.toNat
/-- may entries stand behind an index (so many on) and a term? -/
def mayFrom (index : Int) : Nat → Int → List En → Bool
  | _, _, [] => true
  | i, term, x :: l => plainB x && (decide (x.idx = index + 1 + i) && (decide (term ≤ x.term) && mayFrom index (i + 1) x.term l))
def Trk.findDiff (t : Trk) : List En → Option (En × List En)
  | [] => none
  | x :: l => if t.termF x.idx = (x.term, 0) then t.findDiff l else some (x, l)
def Trk.takeF (t : Trk) (index term : Int) (l : List En) : (Int × Bool) × Trk :=
  if t.termF index = (term, 0) ∧ mayFrom index 0 term l = true then
    match t.findDiff l with
    | none => ((0, true), t)
    | some (x, r) => ((x.idx, true), { t with L := t.L.take (x.idx - t.index - 1).toNat ++ x :: r })
  else ((0, false), t)
def mkE (idx term : Int) (c : En) : En := ⟨idx, term, c.op, c.sess, c.seq, c.facts⟩
def Trk.putF (t : Trk) (term : Int) (c : En) : (En × Int) × Trk :=
  if 1099511627776 ≤ t.lastF.1 then ((En0, 41), t)
  else if term < t.lastF.2 ∨ plainB (mkE (t.lastF.1 + 1) term c) = false then ((En0, 1), t)
  else ((mkE (t.lastF.1 + 1) term c, 0), { t with L := t.L ++ [mkE (t.lastF.1 + 1) term c] })
def Trk.dropF (t : Trk) (i : Int) : Int × Trk :=
  if (t.termF i).2 = 33 then (33, t) else if (t.termF i).2 = 34 then (0, t) else (0, ⟨i, (t.termF i).1, t.L.drop (i - t.index).toNat⟩)
def hits (i term : Int) (x : En) : Bool := decide (x.idx < i) && decide (x.term ≤ term)
def Trk.hintF (t : Trk) (i term : Int) : Int := match (t.L.filter (hits i term)).getLast? with
  | some x => x.idx
  | none => t.index

theorem plain_num {x : En} (h : plainB x = true) : 1 ≤ x.idx ∧ x.idx ≤ 1099511627776 ∧ 1 ≤ x.term ∧ x.term ≤ 1099511627776 := by
  have h : entE x = 0 := of_decide_eq_true h
  unfold entE numB at h
  split at h
  · cases h
  · rename_i hh
    simp only [Bool.not_eq_false, Bool.and_eq_true, decide_eq_true_eq] at hh
    omega
theorem get_cons {α : Type} {l : List α} {k : Nat} {x : α} (h : l[k]? = some x) : l.drop k = x :: l.drop (k + 1) := by
  obtain ⟨hk, e⟩ := List.getElem?_eq_some_iff.1 h
  rw [List.drop_eq_getElem_cons hk, e]
theorem prevT_append {term : Int} {L R : List En} {i : Nat} (h : i ≤ L.length) : prevT term (L ++ R) i = prevT term L i := by
  cases i with
  | zero => rfl
  | succ i =>
    rw [prevT_succ, prevT_succ, List.getElem?_append_left (by omega)]
theorem prevT_take {term : Int} {L : List En} {i k : Nat} (h : i ≤ k) : prevT term (L.take k) i = prevT term L i := by
  cases i with
  | zero => rfl
  | succ i =>
    rw [prevT_succ, prevT_succ, List.getElem?_take, if_pos (by omega)]
section
variable {t : Trk}
theorem Trk.Inv.b (h : t.Inv) : 0 ≤ t.index ∧ t.index ≤ 1099511627776 ∧ 0 ≤ t.term ∧ t.term ≤ 1099511627776 := by
  rcases h.base with ⟨h1, h2⟩ | ⟨h1, h2, h3, h4⟩ <;> omega
theorem Trk.Inv.room (h : t.Inv) : t.index + t.L.length ≤ 1099511627776 := by
  rcases Nat.eq_zero_or_pos t.L.length with h0 | h0
  · have := h.b; omega
  · have hx : t.L[t.L.length - 1]? = some (t.L[t.L.length - 1]'(by omega)) := List.getElem?_eq_getElem (by omega)
    have h1 := h.idx _ _ hx
    have h2 := plain_num (h.plain _ (List.mem_of_getElem? hx))
    omega
theorem Trk.lastF_pos (h0 : 0 < t.L.length) : ∃ x, t.L[t.L.length - 1]? = some x ∧ t.lastF = (x.idx, x.term) := by
  refine ⟨t.L[t.L.length - 1]'(by omega), List.getElem?_eq_getElem (by omega), ?_⟩
  unfold Trk.lastF
  rw [List.getLast?_eq_getElem?, List.getElem?_eq_getElem (by omega)]
theorem Trk.lastF_nil (h0 : t.L = []) : t.lastF = (t.index, t.term) := by unfold Trk.lastF; rw [h0]; rfl
theorem Trk.Inv.last (h : t.Inv) : t.lastF.1 = t.index + t.L.length := by
  rcases Nat.eq_zero_or_pos t.L.length with h0 | h0
  · rw [Trk.lastF_nil (List.eq_nil_of_length_eq_zero h0), h0]; simp
  · obtain ⟨x, hx, e⟩ := Trk.lastF_pos h0
    rw [e]
    have := h.idx _ _ hx
    show x.idx = _
    omega
theorem Trk.lastT (t : Trk) : t.lastF.2 = prevT t.term t.L t.L.length := by
  rcases Nat.eq_zero_or_pos t.L.length with h0 | h0
  · rw [Trk.lastF_nil (List.eq_nil_of_length_eq_zero h0), h0]; rfl
  · obtain ⟨x, hx, e⟩ := Trk.lastF_pos h0
    rw [e]
    obtain ⟨k, hk⟩ : ∃ k, t.L.length = k + 1 := ⟨t.L.length - 1, by omega⟩
    rw [hk] at hx ⊢
    rw [show k + 1 - 1 = k by omega] at hx
    rw [prevT_succ, hx]
theorem Trk.Inv.lastB (h : t.Inv) : 0 ≤ t.lastF.2 ∧ t.lastF.2 ≤ 1099511627776 := by
  rcases Nat.eq_zero_or_pos t.L.length with h0 | h0
  · rw [Trk.lastF_nil (List.eq_nil_of_length_eq_zero h0)]; have := h.b; exact ⟨this.2.2.1, this.2.2.2⟩
  · obtain ⟨x, hx, e⟩ := Trk.lastF_pos h0
    have := plain_num (h.plain _ (List.mem_of_getElem? hx))
    rw [e]
    exact ⟨by show 0 ≤ x.term; omega, this.2.2.2⟩
theorem Trk.Inv.put (h : t.Inv) {x : En} (hi : x.idx = t.lastF.1 + 1) (hp : plainB x = true) (ht : t.lastF.2 ≤ x.term) : Trk.Inv { t with L := t.L ++ [x] } := by
  refine ⟨h.base, fun i y hy => ?_, fun y hy => ?_, fun i y hy => ?_⟩
  · rcases Nat.lt_or_ge i t.L.length with h1 | h1
    · exact h.idx i y (by rw [← hy]; exact (List.getElem?_append_left h1).symm)
    · rw [show ({ t with L := t.L ++ [x] } : Trk).L = t.L ++ [x] from rfl, List.getElem?_append_right h1] at hy
      rcases Nat.eq_zero_or_pos (i - t.L.length) with h2 | h2
      · rw [h2] at hy
        simp only [List.getElem?_cons_zero, Option.some.injEq] at hy
        subst hy
        rw [hi, h.last]
        show _ = t.index + 1 + i
        omega
      · rw [List.getElem?_eq_none (by simp; omega)] at hy; cases hy
  · rcases List.mem_append.1 hy with h1 | h1
    · exact h.plain y h1
    · rw [List.mem_singleton.1 h1]; exact hp
  · rcases Nat.lt_or_ge i t.L.length with h1 | h1
    · show prevT t.term (t.L ++ [x]) i ≤ _
      rw [prevT_append (by omega)]
      exact h.mono i y (by rw [← hy]; exact (List.getElem?_append_left h1).symm)
    · rw [show ({ t with L := t.L ++ [x] } : Trk).L = t.L ++ [x] from rfl, List.getElem?_append_right h1] at hy
      rcases Nat.eq_zero_or_pos (i - t.L.length) with h2 | h2
      · rw [h2] at hy
        simp only [List.getElem?_cons_zero, Option.some.injEq] at hy
        subst hy
        show prevT t.term (t.L ++ [x]) i ≤ _
        rw [show i = t.L.length by omega, prevT_append (Nat.le_refl _), ← t.lastT]
        exact ht
      · rw [List.getElem?_eq_none (by simp; omega)] at hy; cases hy
theorem Trk.Inv.putF (h : t.Inv) (term : Int) (c : En) : (t.putF term c).2.Inv := by
  unfold Trk.putF
  split
  · exact h
  · split
    · exact h
    · rename_i h1
      refine h.put rfl ?_ (by show _ ≤ term; omega)
      cases hp : plainB (mkE (t.lastF.1 + 1) term c) with
      | true => rfl
      | false => exact absurd (.inr hp) h1
/-- what is behind a place -/
theorem Trk.Inv.cut (h : t.Inv) (k : Nat) : Trk.Inv { t with L := t.L.take k } := by
  refine ⟨h.base, fun i y hy => ?_, fun y hy => h.plain y (List.mem_of_mem_take hy), fun i y hy => ?_⟩
  · rw [show ({ t with L := t.L.take k } : Trk).L = t.L.take k from rfl, List.getElem?_take] at hy
    split at hy
    · exact h.idx i y hy
    · cases hy
  · rw [show ({ t with L := t.L.take k } : Trk).L = t.L.take k from rfl, List.getElem?_take] at hy
    split at hy
    · show prevT t.term (t.L.take k) i ≤ _
      rw [prevT_take (by omega)]
      exact h.mono i y hy
    · cases hy
theorem termF_code (t : Trk) (i : Int) : (t.termF i).2 = 34 ∨ (t.termF i).2 = 33 ∨ (t.termF i).2 = 0 := by
  unfold Trk.termF
  split
  · exact .inl rfl
  · split
    · exact .inr (.inr rfl)
    · cases t.L[(i - t.index - 1).toNat]? with
      | none => exact .inr (.inl rfl)
      | some x => exact .inr (.inr rfl)
theorem termF_ok {i term : Int} (h : t.termF i = (term, 0)) : (i = t.index ∧ term = t.term) ∨ (t.index < i ∧ ∃ x, t.L[(i - t.index - 1).toNat]? = some x ∧ x.term = term) := by
  unfold Trk.termF at h
  split at h
  · cases h
  · split at h
    · rename_i h2
      injection h with h3 _
      exact .inl ⟨h2, h3.symm⟩
    · cases hx : t.L[(i - t.index - 1).toNat]? with
      | none => rw [hx] at h; cases h
      | some x =>
        rw [hx] at h
        injection h with h3 _
        exact .inr ⟨by omega, x, rfl, h3⟩
theorem termF_in {i term : Int} (h : t.termF i = (term, 0)) : t.index ≤ i ∧ i ≤ t.index + t.L.length ∧ term = prevT t.term t.L (i - t.index).toNat := by
  rcases termF_ok h with ⟨h1, h2⟩ | ⟨h1, x, hx, h2⟩
  · refine ⟨by omega, by omega, ?_⟩
    rw [h2, h1, show (t.index - t.index).toNat = 0 by omega]
    rfl
  · have hl := (List.getElem?_eq_some_iff.1 hx).1
    refine ⟨by omega, by omega, ?_⟩
    obtain ⟨k, hk⟩ : ∃ k, (i - t.index).toNat = k + 1 := ⟨(i - t.index - 1).toNat, by omega⟩
    rw [show (i - t.index - 1).toNat = k by omega] at hx
    rw [hk, prevT_succ, hx, ← h2]
theorem Trk.Inv.dropF (h : t.Inv) (i : Int) : (t.dropF i).2.Inv := by
  unfold Trk.dropF
  split
  · exact h
  · rename_i h1
    split
    · exact h
    · rename_i h2
      have h3 : (t.termF i).2 = 0 := by
        rcases termF_code t i with h | h | h
        · exact absurd h h2
        · exact absurd h h1
        · exact h
      have h4 : t.termF i = ((t.termF i).1, 0) := by rw [← h3]
      obtain ⟨h5, h6, h7⟩ := termF_in h4
      have hr := h.room
      have hb := h.b
      refine ⟨?_, fun j y hy => ?_, fun y hy => h.plain y (List.mem_of_mem_drop hy), fun j y hy => ?_⟩
      · rcases termF_ok h4 with ⟨h8, h9⟩ | ⟨h8, x, hx, h9⟩
        · show (i = 0 ∧ (t.termF i).1 = 0) ∨ _
          rw [h9, h8]
          exact h.base
        · have := plain_num (h.plain _ (List.mem_of_getElem? hx))
          refine .inr ⟨by show 1 ≤ i; omega, by show i ≤ _; omega, ?_, ?_⟩
          · show 1 ≤ (t.termF i).1; rw [← h9]; exact this.2.2.1
          · show (t.termF i).1 ≤ _; rw [← h9]; exact this.2.2.2
      · rw [List.getElem?_drop] at hy
        have := h.idx _ _ hy
        show y.idx = i + 1 + j
        omega
      · show prevT (t.termF i).1 (t.L.drop (i - t.index).toNat) j ≤ y.term
        rw [List.getElem?_drop] at hy
        have h8 := h.mono _ _ hy
        cases j with
        | zero => rw [h7]; exact h8
        | succ j =>
          rw [prevT_succ, List.getElem?_drop]
          rw [show (i - t.index).toNat + (j + 1) = ((i - t.index).toNat + j) + 1 by omega, prevT_succ] at h8
          have hn : ((i - t.index).toNat + j) < t.L.length := by have := (List.getElem?_eq_some_iff.1 hy).1; omega
          rw [List.getElem?_eq_getElem hn] at h8 ⊢
          exact h8
theorem mayFrom_cons {idx term : Int} {i : Nat} {x : En} {l : List En} : mayFrom idx i term (x :: l) = true ↔ plainB x = true ∧ x.idx = idx + 1 + i ∧ term ≤ x.term ∧ mayFrom idx (i + 1) x.term l = true := by
  show (plainB x && (decide (x.idx = idx + 1 + i) && (decide (term ≤ x.term) && mayFrom idx (i + 1) x.term l))) = true ↔ _
  rw [Bool.and_eq_true, Bool.and_eq_true, Bool.and_eq_true, decide_eq_true_eq, decide_eq_true_eq]
theorem Trk.lastF_put (t : Trk) (x : En) : Trk.lastF { t with L := t.L ++ [x] } = (x.idx, x.term) := by
  unfold Trk.lastF
  rw [show ({ t with L := t.L ++ [x] } : Trk).L = t.L ++ [x] from rfl, List.getLast?_append]
  rfl
theorem Trk.Inv.puts {idx : Int} {l : List En} : ∀ {t : Trk} {i : Nat} {term : Int}, t.Inv → mayFrom idx i term l = true → idx + i = t.lastF.1 → term = t.lastF.2 → Trk.Inv { t with L := t.L ++ l } := by
  induction l with
  | nil => intro t i term h _ _ _; rw [List.append_nil]; exact h
  | cons x l ih =>
    intro t i term h hm hi ht
    obtain ⟨h1, h2, h3, h4⟩ := mayFrom_cons.1 hm
    have hp := h.put (x := x) (by omega) h1 (by omega)
    have hl := t.lastF_put x
    have := ih hp h4 (by rw [hl]; show idx + ((i + 1 : Nat) : Int) = x.idx; omega) (by rw [hl])
    have e : t.L ++ [x] ++ l = t.L ++ x :: l := by simp
    rw [show ({ t with L := t.L ++ [x] } : Trk).L = t.L ++ [x] from rfl, e] at this
    exact this
theorem findDiff_spec {idx : Int} {l : List En} : ∀ {i : Nat} {term : Int} {x : En} {r : List En}, t.termF (idx + i) = (term, 0) → mayFrom idx i term l = true → t.findDiff l = some (x, r) →
    ∃ (j : Nat) (term' : Int), i ≤ j ∧ x.idx = idx + 1 + j ∧ t.termF (idx + j) = (term', 0) ∧ mayFrom idx j term' (x :: r) = true ∧ l.drop (j - i) = x :: r ∧ t.termF x.idx ≠ (x.term, 0) := by
  induction l with
  | nil => intro i term x r _ _ h; cases h
  | cons y l ih =>
    intro i term x r h1 h2 h3
    obtain ⟨p1, p2, p3, p4⟩ := mayFrom_cons.1 h2
    unfold Trk.findDiff at h3
    by_cases hy : t.termF y.idx = (y.term, 0)
    · rw [if_pos hy] at h3
      have e : idx + ((i + 1 : Nat) : Int) = y.idx := by omega
      obtain ⟨j, term', h4, h5, h6, h7, h8, h9⟩ := ih (i := i + 1) (by rw [e]; exact hy) p4 h3
      refine ⟨j, term', by omega, h5, h6, h7, ?_, h9⟩
      rw [show j - i = (j - (i + 1)) + 1 by omega, List.drop_succ_cons]
      exact h8
    · rw [if_neg hy] at h3
      injection h3 with h3
      injection h3 with h4 h5
      subst h4; subst h5
      exact ⟨i, term, Nat.le_refl _, p2, h1, h2, by rw [Nat.sub_self]; rfl, hy⟩
theorem Trk.Inv.takeF (h : t.Inv) (index term : Int) (l : List En) : (t.takeF index term l).2.Inv := by
  unfold Trk.takeF
  by_cases hc : t.termF index = (term, 0) ∧ mayFrom index 0 term l = true
  · rw [if_pos hc]
    obtain ⟨h1, h2⟩ := hc
    cases hd : t.findDiff l with
    | none => exact h
    | some p =>
      obtain ⟨x, r⟩ := p
      obtain ⟨j, term', _, h5, h6, h7, _, _⟩ := findDiff_spec (i := 0) (by rw [show index + ((0 : Nat) : Int) = index by omega]; exact h1) h2 hd
      obtain ⟨h8, h9, h10⟩ := termF_in h6
      have hc := h.cut (x.idx - t.index - 1).toNat
      have hk : (x.idx - t.index - 1).toNat ≤ t.L.length := by omega
      refine hc.puts (idx := index) h7 ?_ ?_
      · rw [hc.last]
        show _ = t.index + ((t.L.take _).length : Int)
        rw [List.length_take, Nat.min_eq_left hk]
        omega
      · rw [Trk.lastT, h10]
        show _ = prevT t.term (t.L.take _) (t.L.take _).length
        rw [List.length_take, Nat.min_eq_left hk, prevT_take (Nat.le_refl _)]
        congr 1
        omega
  · rw [if_neg hc]
    exact h
end
end Go.Proofs.Ytojmkbhihnnmaaa
