/-
  Arguments opened: levels, names, schemas.
-/
import Derived.Test.YtojmkbhihnnmaaaSch3
import Derived.ProofKit
import Derived.OpenShut
import Derived.Deep.Slices
import Derived.Deep.Fields
import Derived.ChangeSame
import Derived.ChangeSlices
import Derived.SliceStrings
import Derived.Lib.SmallJoins
namespace Go.Proofs.Ytojmkbhihnnmaaa
open Go.ChangeShapes Go.WideShapes Go.Deep Go.RowKit

section
variable {H : Type} {enc : TypeId × Value → H} {P : Program} {w : World} {base : Nat} {spare : Nat → Bool} {held : Bool}
theorem open_slice_fields {t e : TypeId} {fs : Array Field} {fuel : Nat} {cs : List Value} {x : DataW H × List MemPlace} (ht : P.underlying t = some (.slice e)) (he : P.underlying e = some (.struct fs))
    (hone : oneCellFields P fs = true) (hC : P.cellsOf e = fs.size) (h : DataW.trod enc P w base spare held fuel t cs = some x) :
    (cs = [.slice none 0 0] ∧ x = (.nil, [])) ∨
    ∃ (a : Addr) (len cap m : Nat) (D : Nat → DataW H) (Pl : Nat → List MemPlace), cs = [.slice (some a) len cap] ∧ base ≤ a.block ∧ len ≤ cap ∧ cap ≤ maxLen ∧ m = (if spare a.block then cap else len) ∧
      x = (.slice ((List.range len).map D) ((List.range (m - len)).map fun j => D (len + j)), MemPlace.row a (m * fs.size) ++ (List.range m).flatMap Pl) ∧
      ∀ i, i < m → ∃ (ys : List (DataW H × List MemPlace)) (n : Nat), D i = .agg (ys.map (·.1)) ∧ Pl i = ys.flatMap (·.2) ∧ ys.length = fs.size ∧
        ∀ (j : Nat) (f : Field), fs[j]? = some f → ∃ (v : Value) (y : DataW H × List MemPlace), w.cell? (a.add (i * fs.size + j)) = some v ∧ ys[j]? = some y ∧ DataW.trod enc P w base spare held n f.type [v] = some y := by
  rcases open_slice ht h with h0 | ⟨a, len, cap, m, n, D, Pl, hcs, hb, hl, hm, hmm, hx, hi⟩
  · exact .inl h0
  · refine .inr ⟨a, len, cap, m, D, Pl, hcs, hb, hl, hm, hmm, by rw [hC] at hx; exact hx, fun i him => ?_⟩
    obtain ⟨cs', hc, ht'⟩ := hi i him
    rw [hC] at hc
    obtain ⟨ys, n', hn', hy, hlen, hyl, hf⟩ := DataW.trod_struct he ht'
    obtain ⟨_, hcl, hat⟩ := World.cells?_some hc
    simp only [Prod.mk.injEq] at hy
    refine ⟨ys, n', hy.1, hy.2, hyl, fun j f hj => ?_⟩
    obtain ⟨ho, hk⟩ := hone_of hone j f hj
    have hjl : j < fs.size := (Array.getElem?_eq_some_iff.1 hj).1
    have hcell := hat j hjl
    have hv : cs'[j]? = some (cs'[j]'(by omega)) := List.getElem?_eq_getElem (by omega)
    have h1 := hf j f hj
    rw [ho, hk] at h1
    have hone' : (cs'.drop j).take 1 = [cs'[j]'(by omega)] := by
      rw [List.drop_eq_getElem_cons (by omega)]
      rfl
    rw [hone'] at h1
    have hys : ys[j]? = some (ys[j]'(by omega)) := List.getElem?_eq_getElem (by omega)
    refine ⟨_, _, ?_, hys, h1.trans hys⟩
    rw [← Go.Deep.add_add, hcell, hv]

theorem open_rdi {t e : TypeId} {fuel : Nat} {v : Value} {x : DataW H × List MemPlace} (ht : P.underlying t = some (.slice e)) (he : P.underlying e = some (.int .i64)) (hc : P.cellsOf e = 1)
    (h : DataW.trod enc P w base spare held fuel t [v] = some x) : ∃ A n c l, v = .slice A n c ∧ RdI w A n l ∧ n ≤ c ∧ c ≤ maxLen := by
  rcases open_ints ht he hc h with ⟨hcs, _⟩ | ⟨a, l, c, zs, hcs, _, hl, hm, hz, _, hcell, hwz⟩
  · obtain rfl : v = .slice none 0 0 := by simpa using hcs
    exact ⟨none, 0, 0, [], rfl, RdI.none_, Nat.le_refl _, Nat.zero_le _⟩
  · obtain rfl : v = .slice (some a) l c := by simpa using hcs
    have hlz : l ≤ zs.length := by rw [hz]; split <;> omega
    refine ⟨some a, l, c, zs.take l, rfl, ⟨by simp; omega, fun _ => ⟨a, rfl, fun j u hu => ?_⟩⟩, hl, hm⟩
    rw [List.getElem?_map, List.getElem?_take] at hu
    split at hu
    · have hj : j < zs.length := by omega
      rw [List.getElem?_eq_getElem hj] at hu
      have hc' := hcell j hj
      have hzj : zs.getD j 0 = zs[j] := by rw [List.getD_eq_getElem?_getD, List.getElem?_eq_getElem hj]; rfl
      rw [hc', hzj]; exact hu
    · simp at hu
theorem open_rdt {t e : TypeId} {fuel : Nat} {v : Value} {x : DataW H × List MemPlace} (ht : P.underlying t = some (.slice e)) (he : P.underlying e = some .string) (hc : P.cellsOf e = 1)
    (h : DataW.trod enc P w base spare held fuel t [v] = some x) : ∃ A n c l, v = .slice A n c ∧ RdT w A n l ∧ n ≤ c ∧ c ≤ maxLen := by
  rcases open_strings ht he hc h with ⟨hcs, _⟩ | ⟨a, l, c, zs, hcs, _, hl, hm, hz, _, hcell, hwz⟩
  · obtain rfl : v = .slice none 0 0 := by simpa using hcs
    exact ⟨none, 0, 0, [], rfl, ⟨rfl, fun h => absurd h (by omega)⟩, Nat.le_refl _, Nat.zero_le _⟩
  · obtain rfl : v = .slice (some a) l c := by simpa using hcs
    have hlz : l ≤ zs.length := by rw [hz]; split <;> omega
    refine ⟨some a, l, c, zs.take l, rfl, ⟨by simp; omega, fun _ => ⟨a, rfl, fun j u hu => ?_⟩⟩, hl, hm⟩
    rw [List.getElem?_map, List.getElem?_take] at hu
    split at hu
    · have hj : j < zs.length := by omega
      rw [List.getElem?_eq_getElem hj] at hu
      have hc' := hcell j hj
      have hzj : zs.getD j ByteArray.empty = zs[j] := by rw [List.getD_eq_getElem?_getD, List.getElem?_eq_getElem hj]; rfl
      rw [hc', hzj]; exact hu
    · simp at hu
end
theorem list_of {α : Type} {Q : Nat → α → Prop} (n : Nat) (h : ∀ i, i < n → ∃ x, Q i x) : ∃ xs : List α, xs.length = n ∧ ∀ i x, xs[i]? = some x → Q i x := by
  induction n with
  | zero => exact ⟨[], rfl, fun i x hx => by simp at hx⟩
  | succ n ih =>
    obtain ⟨xs, hl, hx⟩ := ih fun i hi => h i (by omega)
    obtain ⟨y, hy⟩ := h n (by omega)
    refine ⟨xs ++ [y], by simp [hl], fun i x hi => ?_⟩
    rcases Nat.lt_or_ge i n with hlt | hge
    · rw [List.getElem?_append_left (by omega)] at hi
      exact hx i x hi
    · rw [List.getElem?_append_right (by omega), hl] at hi
      rcases Nat.eq_zero_or_pos (i - n) with h0 | h0
      · rw [h0] at hi
        have : y = x := by simpa using hi
        subst this
        rw [show i = n by omega]
        exact hy
      · rw [List.getElem?_eq_none (by simp; omega)] at hi
        cases hi

section
variable {H : Type} {enc : TypeId × Value → H} {w : World} {base : Nat} {spare : Nat → Bool} {held : Bool}
theorem open_ints_arg {A : Option Addr} {n c : Nat} {d : DataW H} {p : List MemPlace}
    (h : DataW.Trod enc Try.prog w base spare held 30 (.slice A n c) d p) : ∃ l, RdI w A n l ∧ n ≤ c ∧ c ≤ maxLen := by
  obtain ⟨fuel, hf⟩ := h
  obtain ⟨A', n', c', l, e, h1, h2, h3⟩ := open_rdi Try.underlying30 Try.underlying3 (by kernel_rfl) (v := .slice A n c) hf
  injection e with e1 e2 e3
  subst e1; subst e2; subst e3
  exact ⟨l, h1, h2, h3⟩
theorem open_dims {fuel : Nat} {v : Value} {x : DataW H × List MemPlace} (h : DataW.trod enc Try.prog w base spare held fuel 22 [v] = some x) : ∃ A n c ds, v = .slice A n c ∧ RdD w A n ds ∧ n ≤ c ∧ c ≤ maxLen := by
  rcases open_slice_fields Try.underlying22 Try.underlying42 (by kernel_rfl) (by kernel_rfl) h with ⟨hcs, _⟩ | ⟨a, len, cap, m, D, Pl, hcs, _, hl, hm, hmm, _, hi⟩
  · obtain rfl : v = .slice none 0 0 := by simpa using hcs
    exact ⟨none, 0, 0, [], rfl, ⟨rfl, fun i d h => by simp at h⟩, Nat.le_refl _, Nat.zero_le _⟩
  · obtain rfl : v = .slice (some a) len cap := by simpa using hcs
    have hnm : len ≤ m := by rw [hmm]; split <;> omega
    obtain ⟨ds, h1, h2⟩ := list_of (Q := fun i (d : Dm) => ∃ (ad : Addr) (B : Option Addr) (m c : Nat), some a = some ad ∧ w.cell? (ad.add (i * 2)) = some (.string d.name) ∧
      w.cell? ⟨(ad.add (i * 2)).block, (ad.add (i * 2)).off + 1, none⟩ = some (.slice B m c) ∧ RdT w B m d.levels ∧ m ≤ c ∧ c ≤ maxLen) len (fun i hin => by
      obtain ⟨ys, n', _, _, _, hfld⟩ := hi i (by omega)
      obtain ⟨v0, y0, hc0, _, ht0⟩ := hfld 0 _ rfl
      obtain ⟨v1, y1, hc1, _, ht1⟩ := hfld 1 _ rfl
      obtain ⟨s, hs, _, _⟩ := DataW.trod_string Try.underlying9 ht0
      obtain rfl : v0 = .string s := by simpa using hs
      obtain ⟨B, s', e, l, rfl, hr, hse, he⟩ := open_rdt Try.underlying23 Try.underlying9 (by kernel_rfl) ht1
      exact ⟨⟨s, l⟩, a, B, s', e, rfl, hc0, (congrArg w.cell? (add_of_add a (i * 2) 1)).trans hc1, hr, hse, he⟩)
    exact ⟨some a, len, cap, ds, rfl, ⟨h1, h2⟩, hl, hm⟩
theorem open_views {fuel : Nat} {v : Value} {x : DataW H × List MemPlace} (h : DataW.trod enc Try.prog w base spare held fuel 24 [v] = some x) : ∃ A n c L, v = .slice A n c ∧ RdV w A n L ∧ n ≤ c ∧ c ≤ maxLen := by
  rcases open_slice Try.underlying24 h with ⟨hcs, _⟩ | ⟨a, len, cap, m, n, D, Pl, hcs, _, hl, hm, hmm, _, hi⟩
  · obtain rfl : v = .slice none 0 0 := by simpa using hcs
    exact ⟨none, 0, 0, [], rfl, ⟨rfl, fun i d h => by simp at h⟩, Nat.le_refl _, Nat.zero_le _⟩
  · obtain rfl : v = .slice (some a) len cap := by simpa using hcs
    have hnm : len ≤ m := by rw [hmm]; split <;> omega
    have hC : Try.prog.cellsOf 30 = 1 := by kernel_rfl
    obtain ⟨L, h1, h2⟩ := list_of (Q := fun i (v : List Int) => ∃ (ad : Addr) (B : Option Addr) (m c : Nat), some a = some ad ∧ w.cell? (ad.add i) = some (.slice B m c) ∧ RdI w B m v ∧ m ≤ c ∧ c ≤ maxLen) len (fun i hin => by
      obtain ⟨cs', hc, ht⟩ := hi i (by omega)
      rw [hC] at hc
      obtain ⟨_, hcl, hat⟩ := World.cells?_some hc
      obtain ⟨u, rfl⟩ : ∃ u, cs' = [u] := by
        match cs', hcl with
        | [u], _ => exact ⟨u, rfl⟩
      obtain ⟨B, s, e, l, rfl, hr, hse, he⟩ := open_rdi Try.underlying30 Try.underlying3 (by kernel_rfl) ht
      have h0 := hat 0 (by omega)
      rw [Nat.mul_one, add_nought] at h0
      exact ⟨l, a, B, s, e, rfl, h0, hr, hse, he⟩)
    exact ⟨some a, len, cap, L, rfl, ⟨h1, h2⟩, hl, hm⟩
set_option maxRecDepth 100000 in
theorem open_schema {r : Reach} {b0 : Nat} {v : Value} {d : DataW H} {p : List MemPlace} (hv : Value.okWide Try.prog w r b0 26 v)
    (h : DataW.Trod enc Try.prog w base spare held 26 v d p) : ∃ A1 A2 A3 n1 n2 n3 c1 c2 c3 S, v = .agg #[.slice A1 n1 c1, .slice A2 n2 c2, .slice A3 n3 c3] ∧ RdSch w A1 A2 A3 n1 n2 n3 c1 c2 c3 S := by
  obtain ⟨v0, v1, v2, y0, y1, y2, n, rfl, _, _, h0, h1, h2⟩ := Go.Joins.open_agg3 Try.underlying26 (by kernel_rfl) (by kernel_rfl) hv h
  obtain ⟨A1, n1, c1, ds, rfl, hd, a1, a2⟩ := open_dims h0
  obtain ⟨A2, n2, c2, ms, rfl, hm, b1, b2⟩ := open_rdt Try.underlying23 Try.underlying9 (by kernel_rfl) h1
  obtain ⟨A3, n3, c3, vs, rfl, hvw, d1, d2⟩ := open_views h2
  exact ⟨A1, A2, A3, n1, n2, n3, c1, c2, c3, ⟨ds, ms, vs⟩, rfl, ⟨hd, hm, hvw, ⟨a1, a2⟩, ⟨b1, b2⟩, ⟨d1, d2⟩⟩⟩
end
end Go.Proofs.Ytojmkbhihnnmaaa
