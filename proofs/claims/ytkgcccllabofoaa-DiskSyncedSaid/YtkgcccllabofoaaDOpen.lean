/-
  Arguments opened: a slice of deeds.
-/
import Derived.Test.YtkgcccllabofoaaF5
import Derived.ProofKit
import Derived.OpenShut
import Derived.Deep.Slices
import Derived.Deep.Fields
import Derived.ChangeSame
import Derived.ChangeSlices
namespace Go.Proofs.Ytkgcccllabofoaa
open Go.ChangeShapes Go.WideShapes Go.Deep Go.RowKit

theorem u8_of_wf {z : Int} (h : (Lit.int .u8 z).wf = true) : 0 ≤ z ∧ z < 256 := by
  simp [Lit.wf, IntKind.min, IntKind.max, IntKind.signed, IntKind.bits] at h
  omega
theorem i64_of_wf {z : Int} (h : (Lit.int .i64 z).wf = true) : -9223372036854775808 ≤ z ∧ z ≤ 9223372036854775807 := by
  simp [Lit.wf, IntKind.min, IntKind.max, IntKind.signed, IntKind.bits] at h
  omega
section
variable {H : Type} {enc : TypeId × Value → H} {P : Program} {w : World} {base : Nat} {spare : Nat → Bool} {held : Bool}
theorem open_slice_fields {t e : TypeId} {fs : Array Field} {fuel : Nat} {cs : List Value} {x : DataW H × List MemPlace} (ht : P.underlying t = some (.slice e)) (he : P.underlying e = some (.struct fs))
    (hone : oneCellFields P fs = true) (hC : P.cellsOf e = fs.size) (h : DataW.trod enc P w base spare held fuel t cs = some x) :
    (cs = [.slice none 0 0] ∧ x = (.nil, [])) ∨
    ∃ (a : Addr) (len cap m : Nat) (D : Nat → DataW H) (Pl : Nat → List MemPlace), cs = [.slice (some a) len cap] ∧ base ≤ a.block ∧ len ≤ cap ∧ cap ≤ maxLen ∧ m = (if spare a.block then cap else len) ∧
      x = (.slice ((List.range len).map D) ((List.range (m - len)).map fun j => D (len + j)), MemPlace.row a (m * fs.size) ++ (List.range m).flatMap Pl) ∧
      ∀ i, i < m → ∃ (ys : List (DataW H × List MemPlace)) (n : Nat), D i = .agg (ys.map (·.1)) ∧ Pl i = ys.flatMap (·.2) ∧ ys.length = fs.size ∧
        ∀ (j : Nat) (f : Field), fs[j]? = some f → ∃ (v : Value) (y : DataW H × List MemPlace), w.cell? (a.add (i * fs.size + j)) = some v ∧ ys[j]? = some y ∧ DataW.trod enc P w base spare held n f.type [v] = some y := by
  rcases open_slice ht h with h0 | ⟨a, len, cap, m, n, D, Pl, hcs, hb, hl, hm, hmm, hx, hi⟩
  · exact .inl h0
  · refine .inr ⟨a, len, cap, m, D, Pl, hcs, hb, hl, hm, hmm, by rw [hC] at hx; exact hx, fun i him => ?_⟩
    obtain ⟨cs', hc, ht'⟩ := hi i him
    rw [hC] at hc
    obtain ⟨ys, n', hn', hy, hlen, hyl, hf⟩ := DataW.trod_struct he ht'
    obtain ⟨_, hcl, hat⟩ := World.cells?_some hc
    simp only [Prod.mk.injEq] at hy
    refine ⟨ys, n', hy.1, hy.2, hyl, fun j f hj => ?_⟩
    obtain ⟨ho, hk⟩ := hone_of hone j f hj
    have hjl : j < fs.size := (Array.getElem?_eq_some_iff.1 hj).1
    have hcell := hat j hjl
    have hv : cs'[j]? = some (cs'[j]'(by omega)) := List.getElem?_eq_getElem (by omega)
    have h1 := hf j f hj
    rw [ho, hk] at h1
    have hone' : (cs'.drop j).take 1 = [cs'[j]'(by omega)] := by
      rw [List.drop_eq_getElem_cons (by omega)]
      rfl
    rw [hone'] at h1
    have hys : ys[j]? = some (ys[j]'(by omega)) := List.getElem?_eq_getElem (by omega)
    refine ⟨_, _, ?_, hys, h1.trans hys⟩
    rw [← Go.Deep.add_add, hcell, hv]
/-- bytes -/
theorem open_bytes {t e : TypeId} {fuel : Nat} {v : Value} {x : DataW H × List MemPlace} (ht : P.underlying t = some (.slice e)) (he : P.underlying e = some (.int .u8)) (hc : P.cellsOf e = 1)
    (h : DataW.trod enc P w base spare held fuel t [v] = some x) : ∃ A n c l, v = .slice A n c ∧ Rd w A n l ∧ n ≤ c ∧ c ≤ maxLen := by
  rcases open_ints ht he hc h with ⟨hcs, _⟩ | ⟨a, l, c, zs, hcs, _, hl, hm, hz, _, hcell, hwf⟩
  · obtain rfl : v = .slice none 0 0 := by simpa using hcs
    exact ⟨none, 0, 0, [], rfl, Rd.none_, Nat.le_refl _, Nat.zero_le _⟩
  · obtain rfl : v = .slice (some a) l c := by simpa using hcs
    have hlz : l ≤ zs.length := by rw [hz]; split <;> omega
    refine ⟨some a, l, c, (zs.take l).map (fun z => UInt8.ofNat z.toNat), rfl, ⟨by simp; omega, fun _ => ⟨a, rfl, fun j u hu => ?_⟩⟩, hl, hm⟩
    simp only [List.map_map, List.getElem?_map, Option.map_eq_some_iff] at hu
    obtain ⟨z, hz1, rfl⟩ := hu
    rw [List.getElem?_take] at hz1
    split at hz1
    · have hj : j < zs.length := (List.getElem?_eq_some_iff.1 hz1).1
      have hzj : zs.getD j 0 = z := by rw [List.getD_eq_getElem?_getD, hz1]; rfl
      have hw := u8_of_wf (hwf z (List.mem_of_getElem? hz1))
      rw [hcell j hj, hzj]
      have : ((z.toNat % 256 : Nat) : Int) = z := by omega
      simp [vb, this]
    · cases hz1
end
theorem list_of {α : Type} {Q : Nat → α → Prop} (n : Nat) (h : ∀ i, i < n → ∃ x, Q i x) : ∃ xs : List α, xs.length = n ∧ ∀ i x, xs[i]? = some x → Q i x := by
  induction n with
  | zero => exact ⟨[], rfl, fun i x hx => by simp at hx⟩
  | succ n ih =>
    obtain ⟨xs, hl, hx⟩ := ih fun i hi => h i (by omega)
    obtain ⟨y, hy⟩ := h n (by omega)
    refine ⟨xs ++ [y], by simp [hl], fun i x hi => ?_⟩
    rcases Nat.lt_or_ge i n with hlt | hge
    · rw [List.getElem?_append_left (by omega)] at hi
      exact hx i x hi
    · rw [List.getElem?_append_right (by omega), hl] at hi
      rcases Nat.eq_zero_or_pos (i - n) with h0 | h0
      · rw [h0] at hi
        have : y = x := by simpa using hi
        subst this
        rw [show i = n by omega]
        exact hy
      · rw [List.getElem?_eq_none (by simp; omega)] at hi
        cases hi
/-- what a law may lean on -/
def z0 (w : World) : Zb := ⟨w.heap.size, w.heap.size⟩
theorem law0 (w : World) : Law0 (z0 w) w := ⟨Nat.le_refl _, Nat.le_refl _⟩
theorem chg_law {w w' : World} (h : Chg (z0 w).b TB w w') : Below w.heap.size w w' := h.below (Nat.le_refl _)
theorem rds_open {w : World} {A : Option Addr} {n c : Nat} {l : List UInt8} (h : Rd w A n l) (h1 : n ≤ c) (h2 : c ≤ maxLen) : RdL (z0 w) w (.slice A n c) l :=
  ⟨A, n, c, rfl, h, h1, h2, fun ad e h0 => by
    obtain ⟨ad', e', hc⟩ := h.2 h0
    rw [e] at e'
    injection e' with e'
    subst e'
    have hl := h.len
    have := hc 0 _ (by rw [List.getElem?_map, List.getElem?_eq_getElem (by omega)]; rfl)
    have := lt_of_cell this
    rw [block_of_add] at this
    exact this⟩
theorem open_deeds {H : Type} {enc : TypeId × Value → H} {w : World} {base : Nat} {spare : Nat → Bool} {held : Bool} {A : Option Addr} {n c : Nat} {d : DataW H} {p : List MemPlace}
    (h : DataW.Trod enc Try.prog w base spare held 31 (.slice A n c) d p) : ∃ ys, LdsV (z0 w) w A n ys := by
  obtain ⟨fuel, hf⟩ := h
  rcases open_slice_fields Try.underlying31 Try.underlying42 (by kernel_rfl) (by kernel_rfl) hf with ⟨hcs, _⟩ | ⟨a, len, cap, m, D, Pl, hcs, _, hl, hm, hmm, _, hi⟩
  · simp [Value.cells] at hcs
    obtain ⟨rfl, rfl, rfl⟩ := hcs
    exact ⟨[], ⟨rfl, fun h => absurd h (by omega)⟩, fun ad h => (by cases h), fun p hp => (by cases hp)⟩
  · simp [Value.cells] at hcs
    obtain ⟨rfl, rfl, rfl⟩ := hcs
    have hnm : n ≤ m := by rw [hmm]; split <;> omega
    obtain ⟨ys, h1, h2⟩ := list_of (Q := fun i (x : Value × Ld) => x.2.Ok ∧ RdL (z0 w) w x.1 x.2.data ∧ w.cell? (a.add (i * 5 + 0)) = some (.int .i64 x.2.kind) ∧ w.cell? (a.add (i * 5 + 1)) = some (.string x.2.name) ∧ w.cell? (a.add (i * 5 + 2)) = some x.1 ∧
        w.cell? (a.add (i * 5 + 3)) = some (.int .i64 x.2.n) ∧ w.cell? (a.add (i * 5 + 4)) = some (.int .i64 x.2.torn)) n (fun i hin => by
      obtain ⟨ys, n', _, _, _, hfld⟩ := hi i (by omega)
      obtain ⟨v0, y0, hc0, _, ht0⟩ := hfld 0 _ rfl
      obtain ⟨v1, y1, hc1, _, ht1⟩ := hfld 1 _ rfl
      obtain ⟨v2, y2, hc2, _, ht2⟩ := hfld 2 _ rfl
      obtain ⟨v3, y3, hc3, _, ht3⟩ := hfld 3 _ rfl
      obtain ⟨v4, y4, hc4, _, ht4⟩ := hfld 4 _ rfl
      obtain ⟨k, hk, _, hkw⟩ := DataW.trod_int Try.underlying3 ht0
      obtain ⟨s, hs, _, _⟩ := DataW.trod_string Try.underlying9 ht1
      obtain ⟨B, q, e, l, hv, hr, hse, he⟩ := open_bytes Try.underlying40 Try.underlying5 (by kernel_rfl) ht2
      obtain ⟨k3, hk3, _, hkw3⟩ := DataW.trod_int Try.underlying3 ht3
      obtain ⟨k4, hk4, _, hkw4⟩ := DataW.trod_int Try.underlying3 ht4
      obtain rfl : v0 = .int .i64 k := by simpa using hk
      obtain rfl : v1 = .string s := by simpa using hs
      obtain rfl : v3 = .int .i64 k3 := by simpa using hk3
      obtain rfl : v4 = .int .i64 k4 := by simpa using hk4
      subst hv
      exact ⟨(.slice B q e, ⟨k, s, l, k3, k4⟩), ⟨(i64_of_wf hkw).1, (i64_of_wf hkw).2, (i64_of_wf hkw3).1, (i64_of_wf hkw3).2, (i64_of_wf hkw4).1, (i64_of_wf hkw4).2⟩, rds_open hr hse he, hc0, hc1, hc2, hc3, hc4⟩)
    refine ⟨ys, ⟨by rw [ldC_len]; omega, fun _ => ⟨a, rfl, fun j u hu => ?_⟩⟩, fun ad e h0 => ?_, fun p hp => ?_⟩
    · have hjl : j < (ldC ys).length := (List.getElem?_eq_some_iff.1 hu).1
      rw [ldC_len] at hjl
      have hji : j / 5 < ys.length := by omega
      have hy : ys[j / 5]? = some ys[j / 5] := List.getElem?_eq_getElem hji
      obtain ⟨_, _, e0, e1, e2, e3, e4⟩ := h2 _ _ hy
      obtain ⟨f0, f1, f2, f3, f4⟩ := ldC_at ys (j / 5) _ hy
      have hj : j = j / 5 * 5 + j % 5 := by omega
      rcases (show j % 5 = 0 ∨ j % 5 = 1 ∨ j % 5 = 2 ∨ j % 5 = 3 ∨ j % 5 = 4 by omega) with h | h | h | h | h
      all_goals
        rw [h] at hj
        rw [hj] at hu ⊢
      · exact e0.trans (f0.symm.trans hu)
      · exact e1.trans (f1.symm.trans hu)
      · exact e2.trans (f2.symm.trans hu)
      · exact e3.trans (f3.symm.trans hu)
      · exact e4.trans (f4.symm.trans hu)
    · injection e with e
      subst e
      obtain ⟨_, _, e0, _⟩ := h2 0 _ (List.getElem?_eq_getElem (by omega))
      have := lt_of_cell e0
      rw [block_of_add] at this
      exact this
    · obtain ⟨i, hi', rfl⟩ := List.getElem_of_mem hp
      have := h2 i _ (List.getElem?_eq_getElem hi')
      exact ⟨this.2.1, this.1⟩
theorem diskPlays_any {w : World} {A : Option Addr} {n c : Nat} {ys : List (Value × Ld)} (h : LdsV (z0 w) w A n ys) : Calls Try.prog 8 #[.slice A n c] w fun e w' => e = .returned (.bool true) ∧ Below w.heap.size w w' :=
  (plays_any (law0 w) h).mono fun _ _ h => ⟨h.1, chg_law h.2⟩
theorem diskAll_any {w : World} {A : Option Addr} {n c : Nat} {ys : List (Value × Ld)} (h : LdsV (z0 w) w A n ys) : Calls Try.prog 10 #[.slice A n c] w fun e w' => e = .returned (.bool true) ∧ Below w.heap.size w w' :=
  (all_any (law0 w) h).mono fun _ _ h => ⟨h.1, chg_law h.2⟩
end Go.Proofs.Ytkgcccllabofoaa
