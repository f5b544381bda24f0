/-
  The law TrackAlike: plain; two tracks of the program.
-/
import Derived.Test.YtojmkbhihnnmaaaT32
namespace Go.Proofs.Ytojmkbhihnnmaaa
open Go.RowKit

/-- one track has the first entries of another one -/
structure Pre (a b : Trk) : Prop where
  a0 : a.index = 0 ∧ a.term = 0
  b0 : b.index = 0 ∧ b.term = 0
  p : ∃ m, m ≤ a.L.length ∧ b.L = a.L.take m
theorem Pre.put {a b : Trk} (h : Pre a b) (tm : Int) (x : En) : Pre (a.putF tm x).2 b := by
  unfold Trk.putF
  split
  · exact h
  · split
    · exact h
    · obtain ⟨m, hm, e⟩ := h.p
      refine ⟨h.a0, h.b0, m, ?_, ?_⟩
      · show m ≤ (a.L ++ [_]).length
        simp
        omega
      · show b.L = (a.L ++ [_]).take m
        rw [List.take_append_of_le_length hm]
        exact e
theorem Pre.take {a b : Trk} (h : Pre a b) (k p : Nat) (tm : Int) : Pre a (b.takeF k tm ((a.L.drop k).take p)).2 := by
  unfold Trk.takeF
  by_cases hc : b.termF k = (tm, 0) ∧ mayFrom k 0 tm ((a.L.drop k).take p) = true
  · rw [if_pos hc]
    obtain ⟨h1, h2⟩ := hc
    cases hd : b.findDiff ((a.L.drop k).take p) with
    | none => exact h
    | some q =>
      obtain ⟨x, r⟩ := q
      obtain ⟨j, tm', _, h5, h6, h7, h8, _⟩ := findDiff_spec (i := 0) (by rw [show (k : Int) + ((0 : Nat) : Int) = k by omega]; exact h1) h2 hd
      obtain ⟨h9, h10, _⟩ := termF_in h6
      obtain ⟨m, hm, e⟩ := h.p
      have hb0 := h.b0.1
      have hlen : b.L.length = m := by rw [e, List.length_take]; exact Nat.min_eq_left hm
      refine ⟨h.a0, h.b0, k + j + ((x :: r).length), ?_, ?_⟩
      · rw [Nat.sub_zero] at h8
        rw [← h8, List.length_drop, List.length_take, List.length_drop]
        omega
      · show b.L.take (x.idx - b.index - 1).toNat ++ x :: r = _
        rw [Nat.sub_zero] at h8
        have e1 : b.L.take (k + j) = a.L.take (k + j) := by rw [e, List.take_take, Nat.min_eq_left (by omega)]
        have e2 : x :: r = (a.L.drop (k + j)).take (p - j) := by rw [← h8, List.drop_take, List.drop_drop]
        have e3 := List.take_add (l := a.L) (i := k + j) (j := (x :: r).length)
        rw [show (x.idx - b.index - 1).toNat = k + j by omega, e1, e3]
        congr 1
        rw [e2, List.length_take]
        rcases Nat.le_total (p - j) (a.L.drop (k + j)).length with h0 | h0
        · rw [Nat.min_eq_left h0]
        · rw [Nat.min_eq_right h0, List.take_of_length_le h0, List.take_of_length_le (Nat.le_refl _)]
  · rw [if_neg hc]
    exact h
theorem Pre.len {a b : Trk} (h : Pre a b) : b.L.length ≤ a.L.length := by
  obtain ⟨m, hm, e⟩ := h.p
  rw [e, List.length_take]
  omega
theorem slice_first {a : Trk} (h : a.index = 0) {k : Nat} (h0 : 0 < k) : a.sliceF 1 k = a.L.take k := by
  unfold Trk.sliceF
  rw [h, if_neg (by omega), show ((1 : Int) - 0 - 1).toNat = 0 by omega, List.drop_zero]
  rfl
theorem Pre.same {a b : Trk} (h : Pre a b) (h0 : 0 < b.L.length) : a.sliceF 1 b.L.length = b.L ∧ b.sliceF 1 b.L.length = b.L := by
  rw [slice_first h.a0.1 h0, slice_first h.b0.1 h0]
  obtain ⟨m, hm, e⟩ := h.p
  have : b.L.length = m := by rw [e, List.length_take]; exact Nat.min_eq_left hm
  rw [this]
  exact ⟨e.symm, by rw [e, List.take_take, Nat.min_self]⟩
theorem Pre.term {a b : Trk} (h : Pre a b) (h0 : 0 < b.L.length) : ∃ v, a.termF b.L.length = (v, 0) ∧ b.termF b.L.length = (v, 0) := by
  obtain ⟨m, hm, e⟩ := h.p
  have hl : b.L.length = m := by rw [e, List.length_take]; exact Nat.min_eq_left hm
  obtain ⟨q, hq⟩ : ∃ q, b.L.length = q + 1 := ⟨b.L.length - 1, by omega⟩
  have hx : a.L[q]? = some (a.L[q]'(by omega)) := List.getElem?_eq_getElem _
  have hy : b.L[q]? = some (a.L[q]'(by omega)) := by rw [e, List.getElem?_take, if_pos (by omega), hx]
  refine ⟨(a.L[q]'(by omega)).term, ?_, ?_⟩
  · unfold Trk.termF
    rw [h.a0.1, if_neg (by omega), if_neg (by omega), show ((b.L.length : Int) - 0 - 1).toNat = q by omega, hx]
  · unfold Trk.termF
    rw [h.b0.1, if_neg (by omega), if_neg (by omega), show ((b.L.length : Int) - 0 - 1).toNat = q by omega, hy]
theorem slice_mid {a : Trk} (h : a.index = 0) (k p : Nat) : a.sliceF ((k : Int) + 1) p = (a.L.drop k).take p := by
  unfold Trk.sliceF
  rw [h]
  by_cases h0 : p = 0
  · subst h0
    rw [if_pos (by omega), List.take_zero]
  · rw [if_neg (by omega), show ((k : Int) + 1 - 0 - 1).toNat = k by omega]
    rfl
/-- two tracks of the program -/
def Pt (z : Nat) (w : World) (ga gb : Nat) (t u : Trk) : Prop :=
  ∃ (S : Nat → Prop) (A : Option Addr) (n c : Nat) (zs : List (Value × En)) (S2 : Nat → Prop) (A2 : Option Addr) (n2 c2 : Nat) (zs2 : List (Value × En)),
    TrkIn z S w ga t A n c zs ∧ TrkIn z S2 w gb u A2 n2 c2 zs2 ∧ ga ≠ gb ∧ (∀ j, rowOf A j → ¬ rowOf A2 j) ∧ z ≤ w.heap.size
section
variable {z M : Nat} {w w' : World} {ga gb : Nat} {t t' u : Trk}
theorem Pt.below (h : Pt z w ga gb t u) (hb : Below w.heap.size w w') : Pt z w' ga gb t u := by
  obtain ⟨S, A, n, c, zs, S2, A2, n2, c2, zs2, h1, h2, h3, h4, h5⟩ := h
  have := hb.size
  exact ⟨S, A, n, c, zs, S2, A2, n2, c2, zs2, h1.below hb, h2.below hb, h3, h4, by omega⟩
theorem Pt.swap (h : Pt z w ga gb t u) : Pt z w gb ga u t := by
  obtain ⟨S, A, n, c, zs, S2, A2, n2, c2, zs2, h1, h2, h3, h4, h5⟩ := h
  exact ⟨S2, A2, n2, c2, zs2, S, A, n, c, zs, h2, h1, h3.symm, fun j h h' => h4 j h' h, h5⟩
theorem Pt.zw (h : Pt z w ga gb t u) : z ≤ w.heap.size := by
  obtain ⟨S, A, n, c, zs, S2, A2, n2, c2, zs2, h1, h2, h3, h4, h5⟩ := h
  exact h5
theorem Pt.lo (h : Pt z w ga gb t u) : z ≤ ga ∧ ga < w.heap.size := by
  obtain ⟨S, A, n, c, zs, S2, A2, n2, c2, zs2, h1, h2, h3, h4, h5⟩ := h
  exact ⟨h1.g, h1.b.lt⟩
theorem Pt.inv (h : Pt z w ga gb t u) : t.Inv := by
  obtain ⟨S, A, n, c, zs, S2, A2, n2, c2, zs2, h1, h2, h3, h4, h5⟩ := h
  exact h1.i
theorem pt_act {S : Nat → Prop} {A : Option Addr} {n c : Nat} {zs : List (Value × En)} {S2 : Nat → Prop} {A2 : Option Addr} {n2 c2 : Nat} {zs2 : List (Value × En)} (h1 : TrkIn z S w ga t A n c zs) (h2 : TrkIn z S2 w gb u A2 n2 c2 zs2) (h3 : ga ≠ gb)
    (h4 : ∀ j, rowOf A j → ¬ rowOf A2 j) (h5 : z ≤ w.heap.size) (hP : PostT z S w ga A t' M w') : Pt z w' ga gb t' u ∧ Below z w w' := by
  obtain ⟨A', n', c', zs', S', p1, p2, p3, p4, p5⟩ := hP
  have hs := p5.size
  refine ⟨⟨S', A', n', c', zs', S2, A2, n2, c2, zs2, p1, h2.keep fun j hj hl => p5.block j hl fun hx => ?_, h3, fun j hj hj2 => ?_, by omega⟩, p5.below (fun j hj => ?_) h5⟩
  · have hsj : S2 j → ∃ cs fz T, w.heap[j]? = some (.cells cs T fz) ∧ T ∈ TD := fun h => h2.s j h
    rcases hx with rfl | hx
    · rcases hj with hj | hj | hj
      · exact h3 hj
      · obtain ⟨_, _, cs, e2⟩ := h2.rowlt _ hj
        exact absurd rfl (blk_apart h1.b e2 (by decide))
      · obtain ⟨cs, fz, T, e1, e2⟩ := hsj hj
        have e3 := h1.b
        unfold Blk at e3
        rw [e3] at e1
        injection e1 with e1
        injection e1 with _ e1 _
        subst e1
        exact absurd e2 (by decide)
    · obtain ⟨_, _, cs, e0⟩ := h1.rowlt _ hx
      rcases hj with rfl | hj | hj
      · exact absurd rfl (blk_apart h2.b e0 (by decide))
      · exact h4 j hx hj
      · obtain ⟨cs, fz, T, e1, e2⟩ := hsj hj
        rw [e0] at e1
        injection e1 with e1
        injection e1 with _ e1 _
        subst e1
        exact absurd e2 (by decide)
  · rcases p3 j hj with h | h
    · exact h4 j h hj2
    · have := (h2.rowlt j hj2).1; omega
  · rcases hj with rfl | hj
    · exact h1.g
    · exact (h1.rowlt j hj).2.1
end
end Go.Proofs.Ytojmkbhihnnmaaa
