/-
  Arguments opened: deeds and moves of a track.
-/
import Derived.Test.YtojmkbhihnnmaaaT30
import Derived.ProofKit
import Derived.OpenShut
import Derived.Deep.Slices
import Derived.Deep.Fields
import Derived.ChangeSame
import Derived.ChangeSlices
import Derived.SliceStrings
namespace Go.Proofs.Ytojmkbhihnnmaaa
open Go.ChangeShapes Go.WideShapes Go.Deep Go.RowKit

theorem i64_of_wf {z : Int} (h : (Lit.int .i64 z).wf = true) : -9223372036854775808 ≤ z ∧ z ≤ 9223372036854775807 := by
  simp [Lit.wf, IntKind.min, IntKind.max, IntKind.signed, IntKind.bits] at h
  omega
section
variable {H : Type} {enc : TypeId × Value → H} {P : Program} {w : World} {base : Nat} {spare : Nat → Bool} {held : Bool}
theorem open_slice_fields {t e : TypeId} {fs : Array Field} {fuel : Nat} {cs : List Value} {x : DataW H × List MemPlace} (ht : P.underlying t = some (.slice e)) (he : P.underlying e = some (.struct fs))
    (hone : oneCellFields P fs = true) (hC : P.cellsOf e = fs.size) (h : DataW.trod enc P w base spare held fuel t cs = some x) :
    (cs = [.slice none 0 0] ∧ x = (.nil, [])) ∨
    ∃ (a : Addr) (len cap m : Nat) (D : Nat → DataW H) (Pl : Nat → List MemPlace), cs = [.slice (some a) len cap] ∧ base ≤ a.block ∧ len ≤ cap ∧ cap ≤ maxLen ∧ m = (if spare a.block then cap else len) ∧
      x = (.slice ((List.range len).map D) ((List.range (m - len)).map fun j => D (len + j)), MemPlace.row a (m * fs.size) ++ (List.range m).flatMap Pl) ∧
      ∀ i, i < m → ∃ (ys : List (DataW H × List MemPlace)) (n : Nat), D i = .agg (ys.map (·.1)) ∧ Pl i = ys.flatMap (·.2) ∧ ys.length = fs.size ∧
        ∀ (j : Nat) (f : Field), fs[j]? = some f → ∃ (v : Value) (y : DataW H × List MemPlace), w.cell? (a.add (i * fs.size + j)) = some v ∧ ys[j]? = some y ∧ DataW.trod enc P w base spare held n f.type [v] = some y := by
  rcases open_slice ht h with h0 | ⟨a, len, cap, m, n, D, Pl, hcs, hb, hl, hm, hmm, hx, hi⟩
  · exact .inl h0
  · refine .inr ⟨a, len, cap, m, D, Pl, hcs, hb, hl, hm, hmm, by rw [hC] at hx; exact hx, fun i him => ?_⟩
    obtain ⟨cs', hc, ht'⟩ := hi i him
    rw [hC] at hc
    obtain ⟨ys, n', hn', hy, hlen, hyl, hf⟩ := DataW.trod_struct he ht'
    obtain ⟨_, hcl, hat⟩ := World.cells?_some hc
    simp only [Prod.mk.injEq] at hy
    refine ⟨ys, n', hy.1, hy.2, hyl, fun j f hj => ?_⟩
    obtain ⟨ho, hk⟩ := hone_of hone j f hj
    have hjl : j < fs.size := (Array.getElem?_eq_some_iff.1 hj).1
    have hcell := hat j hjl
    have hv : cs'[j]? = some (cs'[j]'(by omega)) := List.getElem?_eq_getElem (by omega)
    have h1 := hf j f hj
    rw [ho, hk] at h1
    have hone' : (cs'.drop j).take 1 = [cs'[j]'(by omega)] := by
      rw [List.drop_eq_getElem_cons (by omega)]
      rfl
    rw [hone'] at h1
    have hys : ys[j]? = some (ys[j]'(by omega)) := List.getElem?_eq_getElem (by omega)
    refine ⟨_, _, ?_, hys, h1.trans hys⟩
    rw [← Go.Deep.add_add, hcell, hv]

theorem open_rdi {t e : TypeId} {fuel : Nat} {v : Value} {x : DataW H × List MemPlace} (ht : P.underlying t = some (.slice e)) (he : P.underlying e = some (.int .i64)) (hc : P.cellsOf e = 1)
    (h : DataW.trod enc P w base spare held fuel t [v] = some x) : ∃ A n c l, v = .slice A n c ∧ RdI w A n l ∧ n ≤ c ∧ c ≤ maxLen := by
  rcases open_ints ht he hc h with ⟨hcs, _⟩ | ⟨a, l, c, zs, hcs, _, hl, hm, hz, _, hcell, hwz⟩
  · obtain rfl : v = .slice none 0 0 := by simpa using hcs
    exact ⟨none, 0, 0, [], rfl, RdI.none_, Nat.le_refl _, Nat.zero_le _⟩
  · obtain rfl : v = .slice (some a) l c := by simpa using hcs
    have hlz : l ≤ zs.length := by rw [hz]; split <;> omega
    refine ⟨some a, l, c, zs.take l, rfl, ⟨by simp; omega, fun _ => ⟨a, rfl, fun j u hu => ?_⟩⟩, hl, hm⟩
    rw [List.getElem?_map, List.getElem?_take] at hu
    split at hu
    · have hj : j < zs.length := by omega
      rw [List.getElem?_eq_getElem hj] at hu
      have hc' := hcell j hj
      have hzj : zs.getD j 0 = zs[j] := by rw [List.getD_eq_getElem?_getD, List.getElem?_eq_getElem hj]; rfl
      rw [hc', hzj]; exact hu
    · simp at hu
theorem open_rdt {t e : TypeId} {fuel : Nat} {v : Value} {x : DataW H × List MemPlace} (ht : P.underlying t = some (.slice e)) (he : P.underlying e = some .string) (hc : P.cellsOf e = 1)
    (h : DataW.trod enc P w base spare held fuel t [v] = some x) : ∃ A n c l, v = .slice A n c ∧ RdT w A n l ∧ n ≤ c ∧ c ≤ maxLen := by
  rcases open_strings ht he hc h with ⟨hcs, _⟩ | ⟨a, l, c, zs, hcs, _, hl, hm, hz, _, hcell, hwz⟩
  · obtain rfl : v = .slice none 0 0 := by simpa using hcs
    exact ⟨none, 0, 0, [], rfl, ⟨rfl, fun h => absurd h (by omega)⟩, Nat.le_refl _, Nat.zero_le _⟩
  · obtain rfl : v = .slice (some a) l c := by simpa using hcs
    have hlz : l ≤ zs.length := by rw [hz]; split <;> omega
    refine ⟨some a, l, c, zs.take l, rfl, ⟨by simp; omega, fun _ => ⟨a, rfl, fun j u hu => ?_⟩⟩, hl, hm⟩
    rw [List.getElem?_map, List.getElem?_take] at hu
    split at hu
    · have hj : j < zs.length := by omega
      rw [List.getElem?_eq_getElem hj] at hu
      have hc' := hcell j hj
      have hzj : zs.getD j ByteArray.empty = zs[j] := by rw [List.getD_eq_getElem?_getD, List.getElem?_eq_getElem hj]; rfl
      rw [hc', hzj]; exact hu
    · simp at hu
end
theorem list_of {α : Type} {Q : Nat → α → Prop} (n : Nat) (h : ∀ i, i < n → ∃ x, Q i x) : ∃ xs : List α, xs.length = n ∧ ∀ i x, xs[i]? = some x → Q i x := by
  induction n with
  | zero => exact ⟨[], rfl, fun i x hx => by simp at hx⟩
  | succ n ih =>
    obtain ⟨xs, hl, hx⟩ := ih fun i hi => h i (by omega)
    obtain ⟨y, hy⟩ := h n (by omega)
    refine ⟨xs ++ [y], by simp [hl], fun i x hi => ?_⟩
    rcases Nat.lt_or_ge i n with hlt | hge
    · rw [List.getElem?_append_left (by omega)] at hi
      exact hx i x hi
    · rw [List.getElem?_append_right (by omega), hl] at hi
      rcases Nat.eq_zero_or_pos (i - n) with h0 | h0
      · rw [h0] at hi
        have : y = x := by simpa using hi
        subst this
        rw [show i = n by omega]
        exact hy
      · rw [List.getElem?_eq_none (by simp; omega)] at hi
        cases hi

theorem sl_open {w : World} {size n c : Nat} {A : Option Addr} {xs : List Value} (hr : Rds w size A n xs) (h0 : 0 < size) (hnc : n ≤ c) (hc : c ≤ maxLen) : Sl (fun j => j < w.heap.size) w size (.slice A n c) n xs :=
  ⟨A, c, rfl, hr, hnc, hc, fun hn _ e => hr.lt hn h0 e⟩
/-- a row put together of what stands in each place -/
theorem rds_at {α : Type} {w : World} {a : Addr} {f : α → List Value} {k : Nat} (hk : 0 < k) (hf : ∀ z, (f z).length = k) {l : List α} (h : ∀ (i : Nat) z, l[i]? = some z → ∀ j u, j < k → (f z)[j]? = some u → w.cell? (a.add (i * k + j)) = some u) : Rds w k (some a) l.length (l.flatMap f) := by
  refine ⟨flat_len hf l, fun _ => ⟨a, rfl, fun q u hu => ?_⟩⟩
  have hq := (List.getElem?_eq_some_iff.1 hu).1
  rw [flat_len hf] at hq
  have hi : q / k < l.length := Nat.div_lt_of_lt_mul (by rw [Nat.mul_comm]; exact hq)
  have hz : l[q / k]? = some (l[q / k]'hi) := List.getElem?_eq_getElem hi
  have hm := Nat.mod_lt q hk
  have e : q = q / k * k + q % k := by rw [Nat.mul_comm]; exact (Nat.div_add_mod q k).symm
  have h1 := flat_at hf hm hz
  rw [← e, hu] at h1
  have := h _ _ hz _ u hm h1.symm
  rw [← e] at this
  exact this
section
variable {H : Type} {enc : TypeId × Value → H} {w : World} {base : Nat} {spare : Nat → Bool} {held : Bool} {fuel : Nat} {v : Value} {x : DataW H × List MemPlace}
theorem open_field {P : Program} {e : TypeId} {fs : Array Field} {cs : List Value} {j : Nat} {f : Field} (he : P.underlying e = some (.struct fs)) (hj : fs[j]? = some f) (k : Nat) (hk : P.cellsOf f.type = k) (h : DataW.trod enc P w base spare held fuel e cs = some x) :
    ∃ n y, DataW.trod enc P w base spare held n f.type ((cs.drop f.offset).take k) = some y := by
  subst hk
  obtain ⟨ys, n, _, _, _, hyl, hf⟩ := DataW.trod_struct he h
  have hjl : j < fs.size := (Array.getElem?_eq_some_iff.1 hj).1
  exact ⟨n, _, (hf j f hj).trans (List.getElem?_eq_getElem (by omega))⟩
theorem open_path (h : DataW.trod enc Try.prog w base spare held fuel 23 [v] = some x) : ∃ p, PathV (fun j => j < w.heap.size) w v p := by
  obtain ⟨A, n, c, l, rfl, hr, h1, h2⟩ := open_rdt Try.underlying23 Try.underlying9 (by kernel_rfl) h
  have hr : Rds w 1 A n (l.map vst) := hr
  refine ⟨l, ?_⟩
  have := sl_open hr (by omega) h1 h2
  have hl := hr.1
  rw [List.length_map, Nat.mul_one] at hl
  unfold PathV
  rw [hl]
  exact this
theorem open_vals (h : DataW.trod enc Try.prog w base spare held fuel 30 [v] = some x) : ∃ p, IntsV (fun j => j < w.heap.size) w v p := by
  obtain ⟨A, n, c, l, rfl, hr, h1, h2⟩ := open_rdi Try.underlying30 Try.underlying3 (by kernel_rfl) h
  have hr : Rds w 1 A n (l.map vi) := hr
  refine ⟨l, ?_⟩
  have := sl_open hr (by omega) h1 h2
  have hl := hr.1
  rw [List.length_map, Nat.mul_one] at hl
  unfold IntsV
  rw [hl]
  exact this
theorem open_paths (h : DataW.trod enc Try.prog w base spare held fuel 82 [v] = some x) : ∃ ps, PathsV (fun j => j < w.heap.size) w v ps := by
  rcases open_slice Try.underlying82 h with ⟨hcs, _⟩ | ⟨a, len, cap, m, n, D, Pl, hcs, _, hl, hm, hmm, _, hi⟩
  · obtain rfl : v = .slice none 0 0 := by simpa using hcs
    exact ⟨[], [], Sl.nil _ _ _, fun i p h => by cases h⟩
  · obtain rfl : v = .slice (some a) len cap := by simpa using hcs
    have hnm : len ≤ m := by rw [hmm]; split <;> omega
    have hC : Try.prog.cellsOf 23 = 1 := by kernel_rfl
    obtain ⟨L, h1, h2⟩ := list_of (Q := fun i (y : Value × List ByteArray) => w.cell? (a.add i) = some y.1 ∧ PathV (fun j => j < w.heap.size) w y.1 y.2) len (fun i hin => by
      obtain ⟨cs', hc, ht⟩ := hi i (by omega)
      rw [hC] at hc
      obtain ⟨_, hcl, hat⟩ := World.cells?_some hc
      obtain ⟨u, rfl⟩ : ∃ u, cs' = [u] := by
        match cs', hcl with
        | [u], _ => exact ⟨u, rfl⟩
      obtain ⟨p, hp⟩ := open_path ht
      have h0 := hat 0 (by omega)
      rw [Nat.mul_one, add_nought] at h0
      exact ⟨(u, p), h0, hp⟩)
    subst h1
    refine ⟨L.map (·.2), L.map (·.1), ?_, fun i p hp => ?_⟩
    · rw [List.length_map]
      refine sl_open ⟨by simp, fun _ => ⟨a, rfl, fun j u hu => ?_⟩⟩ (by omega) hl hm
      rw [List.getElem?_map] at hu
      obtain ⟨y, hy, rfl⟩ := Option.map_eq_some_iff.1 hu
      exact (h2 j y hy).1
    · rw [List.getElem?_map] at hp
      obtain ⟨y, hy, rfl⟩ := Option.map_eq_some_iff.1 hp
      exact ⟨y.1, by rw [List.getElem?_map, hy]; rfl, (h2 i y hy).2⟩
theorem open_facts (h : DataW.trod enc Try.prog w base spare held fuel 50 [v] = some x) : ∃ fs, FactsV (fun j => j < w.heap.size) w v fs := by
  rcases open_slice_fields Try.underlying50 Try.underlying84 (by kernel_rfl) (by kernel_rfl) h with ⟨hcs, _⟩ | ⟨a, len, cap, m, D, Pl, hcs, _, hl, hm, hmm, _, hi⟩
  · obtain rfl : v = .slice none 0 0 := by simpa using hcs
    exact ⟨[], FactsV.nil _ _⟩
  · obtain rfl : v = .slice (some a) len cap := by simpa using hcs
    have hnm : len ≤ m := by rw [hmm]; split <;> omega
    obtain ⟨L, h1, h2⟩ := list_of (Q := fun i (y : (Value × Value) × Fa) => (∀ j u, j < 2 → (faC y.1)[j]? = some u → w.cell? (a.add (i * 2 + j)) = some u) ∧ PathsV (fun j => j < w.heap.size) w y.1.1 y.2.paths ∧ IntsV (fun j => j < w.heap.size) w y.1.2 y.2.vals) len (fun i hin => by
      obtain ⟨ys, n', _, _, _, hfld⟩ := hi i (by omega)
      obtain ⟨v0, y0, hc0, _, ht0⟩ := hfld 0 _ rfl
      obtain ⟨v1, y1, hc1, _, ht1⟩ := hfld 1 _ rfl
      obtain ⟨ps, hp⟩ := open_paths ht0
      obtain ⟨is, hv⟩ := open_vals ht1
      refine ⟨((v0, v1), ⟨ps, is⟩), fun j u hj hu => ?_, hp, hv⟩
      match j, hj with
      | 0, _ => obtain rfl := Option.some.inj hu; exact hc0
      | 1, _ => obtain rfl := Option.some.inj hu; exact hc1)
    subst h1
    refine ⟨L.map (·.2), L.map (·.1), ?_, by simp, fun i f hf => ?_⟩
    · rw [List.length_map]
      have hr : Rds w 2 (some a) (L.map (·.1)).length ((L.map (·.1)).flatMap faC) := rds_at (by omega) faC_len fun i z hz => by
        rw [List.getElem?_map] at hz
        obtain ⟨y, hy, rfl⟩ := Option.map_eq_some_iff.1 hz
        exact (h2 i y hy).1
      rw [List.length_map] at hr
      exact sl_open hr (by omega) hl hm
    · rw [List.getElem?_map] at hf
      obtain ⟨y, hy, rfl⟩ := Option.map_eq_some_iff.1 hf
      exact ⟨y.1, by rw [List.getElem?_map, hy]; rfl, (h2 i y hy).2⟩
/-- a command, in four cells -/
theorem open_cmd {v0 v1 v2 v3 : Value} (h : DataW.trod enc Try.prog w base spare held fuel 52 [v0, v1, v2, v3] = some x) : ∃ e : En, v0 = vi e.op ∧ v1 = vi e.sess ∧ v2 = vi e.seq ∧ FactsV (fun j => j < w.heap.size) w v3 e.facts := by
  obtain ⟨n0, y0, h0⟩ := open_field (j := 0) Try.underlying52 rfl 1 (by kernel_rfl) h
  obtain ⟨n1, y1, h1⟩ := open_field (j := 1) Try.underlying52 rfl 1 (by kernel_rfl) h
  obtain ⟨n2, y2, h2⟩ := open_field (j := 2) Try.underlying52 rfl 1 (by kernel_rfl) h
  obtain ⟨n3, y3, h3⟩ := open_field (j := 3) Try.underlying52 rfl 1 (by kernel_rfl) h
  have h0 : DataW.trod enc Try.prog w base spare held n0 3 [v0] = some y0 := h0
  have h1 : DataW.trod enc Try.prog w base spare held n1 3 [v1] = some y1 := h1
  have h2 : DataW.trod enc Try.prog w base spare held n2 3 [v2] = some y2 := h2
  have h3 : DataW.trod enc Try.prog w base spare held n3 50 [v3] = some y3 := h3
  obtain ⟨k0, e0, _, _⟩ := DataW.trod_int Try.underlying3 h0
  obtain ⟨k1, e1, _, _⟩ := DataW.trod_int Try.underlying3 h1
  obtain ⟨k2, e2, _, _⟩ := DataW.trod_int Try.underlying3 h2
  obtain ⟨fs, hfs⟩ := open_facts h3
  exact ⟨⟨0, 0, k0, k1, k2, fs⟩, by simpa [vi] using e0, by simpa [vi] using e1, by simpa [vi] using e2, hfs⟩
set_option maxRecDepth 100000 in
/-- entries -/
theorem open_entries {A : Option Addr} {n c : Nat} (h : DataW.trod enc Try.prog w base spare held fuel 53 [.slice A n c] = some x) : ∃ ys, RdE w A n ys ∧ DeepE (fun j => j < w.heap.size) w ys ∧ n ≤ c ∧ c ≤ maxLen ∧ (0 < n → ∀ j, rowOf A j → j < w.heap.size) := by
  rcases open_slice Try.underlying53 h with ⟨hcs, _⟩ | ⟨a, len, cap, m, q, D, Pl, hcs, _, hl, hm, hmm, _, hi⟩
  · simp at hcs
    obtain ⟨rfl, rfl, rfl⟩ := hcs
    exact ⟨[], Rds.none_, fun z hz => (by cases hz), Nat.le_refl _, Nat.zero_le _, fun h => absurd h (by omega)⟩
  · simp at hcs
    obtain ⟨rfl, rfl, rfl⟩ := hcs
    have hnm : n ≤ m := by rw [hmm]; split <;> omega
    have hC : Try.prog.cellsOf 65 = 6 := by kernel_rfl
    obtain ⟨L, h1, h2⟩ := list_of (Q := fun i (y : Value × En) => (∀ j u, j < 6 → (enC y)[j]? = some u → w.cell? (a.add (i * 6 + j)) = some u) ∧ FactsV (fun j => j < w.heap.size) w y.1 y.2.facts) n (fun i hin => by
      obtain ⟨cs', hc, ht⟩ := hi i (by omega)
      rw [hC] at hc
      obtain ⟨_, hcl, hat⟩ := World.cells?_some hc
      obtain ⟨v0, v1, v2, v3, v4, v5, rfl⟩ : ∃ v0 v1 v2 v3 v4 v5, cs' = [v0, v1, v2, v3, v4, v5] := by
        match cs', hcl with
        | [v0, v1, v2, v3, v4, v5], _ => exact ⟨v0, v1, v2, v3, v4, v5, rfl⟩
      obtain ⟨n0, y0, h0⟩ := open_field (j := 0) Try.underlying65 rfl 1 (by kernel_rfl) ht
      obtain ⟨n1, y1, h1⟩ := open_field (j := 1) Try.underlying65 rfl 1 (by kernel_rfl) ht
      obtain ⟨n2, y2, h2⟩ := open_field (j := 2) Try.underlying65 rfl 4 (by kernel_rfl) ht
      have h0 : DataW.trod enc Try.prog w base spare held n0 3 [v0] = some y0 := h0
      have h1 : DataW.trod enc Try.prog w base spare held n1 3 [v1] = some y1 := h1
      have h2 : DataW.trod enc Try.prog w base spare held n2 52 [v2, v3, v4, v5] = some y2 := h2
      obtain ⟨k0, e0, _, _⟩ := DataW.trod_int Try.underlying3 h0
      obtain ⟨k1, e1, _, _⟩ := DataW.trod_int Try.underlying3 h1
      obtain ⟨e, e2, e3, e4, hf⟩ := open_cmd h2
      obtain rfl : v0 = .int .i64 k0 := by simpa using e0
      obtain rfl : v1 = .int .i64 k1 := by simpa using e1
      subst e2; subst e3; subst e4
      refine ⟨(v5, ⟨k0, k1, e.op, e.sess, e.seq, e.facts⟩), fun j u hj hu => ?_, hf⟩
      have hh := hat j hj
      rw [Go.Deep.add_add] at hh
      exact hh.trans hu)
    refine ⟨L, by have := rds_at (k := 6) (by omega) enC_len fun i z hz => (h2 i z hz).1; rw [h1] at this; exact this, fun z hz => ?_, hl, hm, fun h0 j hj => ?_⟩
    · obtain ⟨i, hi', rfl⟩ := List.getElem_of_mem hz
      exact (h2 i _ (List.getElem?_eq_getElem hi')).2
    · obtain ⟨ad, e, rfl⟩ := hj
      injection e with e
      subst e
      have := lt_of_cell ((h2 0 _ (List.getElem?_eq_getElem (by omega))).1 0 _ (by omega) rfl)
      rwa [block_of_add] at this
set_option maxRecDepth 100000 in
/-- deeds -/
theorem open_deeds {A : Option Addr} {n c : Nat} {d : DataW H} {p : List MemPlace} (h : DataW.Trod enc Try.prog w base spare held 44 (.slice A n c) d p) : ∃ rs, DdsV w.heap.size w A n rs := by
  obtain ⟨fuel, hf⟩ := h
  rcases open_slice Try.underlying44 hf with ⟨hcs, _⟩ | ⟨a, len, cap, m, q, D, Pl, hcs, _, hl, hm, hmm, _, hi⟩
  · simp [Value.cells] at hcs
    obtain ⟨rfl, rfl, rfl⟩ := hcs
    exact ⟨[], Rds.none_, fun h => absurd h (by omega), fun z hz => (by cases hz)⟩
  · simp [Value.cells] at hcs
    obtain ⟨rfl, rfl, rfl⟩ := hcs
    have hnm : n ≤ m := by rw [hmm]; split <;> omega
    have hC : Try.prog.cellsOf 55 = 8 := by kernel_rfl
    obtain ⟨L, h1, h2⟩ := list_of (Q := fun i (r : Dr) => (∀ j u, j < 8 → (ddC r)[j]? = some u → w.cell? (a.add (i * 8 + j)) = some u) ∧ DdV w.heap.size w r.x r.V r.m r.d r.A r.k r.c r.ys) n (fun i hin => by
      obtain ⟨cs', hc, ht⟩ := hi i (by omega)
      rw [hC] at hc
      obtain ⟨_, hcl, hat⟩ := World.cells?_some hc
      obtain ⟨v0, v1, v2, v3, v4, v5, v6, v7, rfl⟩ : ∃ v0 v1 v2 v3 v4 v5 v6 v7, cs' = [v0, v1, v2, v3, v4, v5, v6, v7] := by
        match cs', hcl with
        | [v0, v1, v2, v3, v4, v5, v6, v7], _ => exact ⟨v0, v1, v2, v3, v4, v5, v6, v7, rfl⟩
      obtain ⟨n0, y0, h0⟩ := open_field (j := 0) Try.underlying55 rfl 1 (by kernel_rfl) ht
      obtain ⟨n1, y1, h1⟩ := open_field (j := 1) Try.underlying55 rfl 1 (by kernel_rfl) ht
      obtain ⟨n2, y2, h2⟩ := open_field (j := 2) Try.underlying55 rfl 1 (by kernel_rfl) ht
      obtain ⟨n3, y3, h3⟩ := open_field (j := 3) Try.underlying55 rfl 4 (by kernel_rfl) ht
      obtain ⟨n4, y4, h4⟩ := open_field (j := 4) Try.underlying55 rfl 1 (by kernel_rfl) ht
      have h0 : DataW.trod enc Try.prog w base spare held n0 3 [v0] = some y0 := h0
      have h1 : DataW.trod enc Try.prog w base spare held n1 3 [v1] = some y1 := h1
      have h2 : DataW.trod enc Try.prog w base spare held n2 3 [v2] = some y2 := h2
      have h3 : DataW.trod enc Try.prog w base spare held n3 52 [v3, v4, v5, v6] = some y3 := h3
      have h4 : DataW.trod enc Try.prog w base spare held n4 53 [v7] = some y4 := h4
      obtain ⟨k0, e0, _, w0⟩ := DataW.trod_int Try.underlying3 h0
      obtain ⟨k1, e1, _, _⟩ := DataW.trod_int Try.underlying3 h1
      obtain ⟨k2, e2, _, _⟩ := DataW.trod_int Try.underlying3 h2
      obtain ⟨e, e3, e4, e5, hf⟩ := open_cmd h3
      obtain ⟨V, m', d', hv, l1, l2, l3⟩ := hf.form
      obtain rfl : v6 = _ := hv
      obtain ⟨A7, n7, c7, rfl⟩ : ∃ A7 n7 c7, v7 = .slice A7 n7 c7 := by
        rcases open_slice Try.underlying53 h4 with ⟨hcs, _⟩ | ⟨a, len, cap, m, q, D, Pl, hcs, _⟩
        · exact ⟨none, 0, 0, by simpa using hcs⟩
        · exact ⟨_, _, _, by simpa using hcs⟩
      obtain ⟨ys, g1, g2, g3, g4, g5⟩ := open_entries h4
      obtain rfl : v0 = .int .i64 k0 := by simpa using e0
      obtain rfl : v1 = .int .i64 k1 := by simpa using e1
      obtain rfl : v2 = .int .i64 k2 := by simpa using e2
      subst e3; subst e4; subst e5
      refine ⟨⟨⟨k0, k1, k2, e, ys.map (·.2)⟩, V, m', d', A7, n7, c7, ys⟩, fun j u hj hu => ?_, ⟨hf, ⟨l1, l2⟩, g1, g2, rfl, ⟨g3, g4⟩, g5, (i64_of_wf w0).1, (i64_of_wf w0).2⟩⟩
      have hh := hat j hj
      rw [Go.Deep.add_add] at hh
      exact hh.trans hu)
    refine ⟨L, by have := rds_at (k := 8) (by omega) ddC_len fun i z hz => (h2 i z hz).1; rw [h1] at this; exact this, fun h0 ad e => ?_, fun r hr => ?_⟩
    · injection e with e
      subst e
      have := lt_of_cell ((h2 0 _ (List.getElem?_eq_getElem (by omega))).1 0 _ (by omega) rfl)
      rwa [block_of_add] at this
    · obtain ⟨i, hi', rfl⟩ := List.getElem_of_mem hr
      exact (h2 i _ (List.getElem?_eq_getElem hi')).2
end
end Go.Proofs.Ytojmkbhihnnmaaa
