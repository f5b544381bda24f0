/-
  The walks of the quorum: what is agreed.
-/
import Derived.Test.YtkgcccllabofoaaQ2
import Derived.Test.YtkgcccllabofoaaQSort
namespace Go.Proofs.Ytkgcccllabofoaa
open Go.RowKit
open Go.Sort hiding Below

def rowK (N : Nat) (l : List Int) (k : Nat) : List Int := (List.range N).map fun i => if i < k then max 0 (l[i]?.getD 0) else 0
theorem rowK_len (N : Nat) (l : List Int) (k : Nat) : (rowK N l k).length = N := by simp [rowK]
theorem rowK_get (N : Nat) (l : List Int) (k i : Nat) (h : i < N) : (rowK N l k)[i]? = some (if i < k then max 0 (l[i]?.getD 0) else 0) := by
  simp [rowK, h]
theorem rowK_none (N : Nat) (l : List Int) (k i : Nat) (h : N ≤ i) : (rowK N l k)[i]? = none := List.getElem?_eq_none (by rw [rowK_len]; exact h)
theorem rowK_set (N : Nat) (l : List Int) (k : Nat) (h : k < N) : (rowK N l k).set k (max 0 (l[k]?.getD 0)) = rowK N l (k + 1) := by
  refine List.ext_getElem? fun i => ?_
  rcases Nat.lt_or_ge i N with hi | hi
  · rw [rowK_get _ _ _ _ hi, List.getElem?_set]
    by_cases e : k = i
    · subst e
      rw [if_pos rfl, if_pos (by rw [rowK_len]; exact h), if_pos (Nat.lt_succ_self _)]
    · rw [if_neg e, rowK_get _ _ _ _ hi]
      by_cases h2 : i < k
      · rw [if_pos h2, if_pos (by omega)]
      · rw [if_neg h2, if_neg (by omega)]
  · rw [rowK_none _ _ _ _ hi, List.getElem?_eq_none (by rw [List.length_set, rowK_len]; exact hi)]
theorem rowK_skip (N : Nat) (l : List Int) (k : Nat) (h : l.length ≤ k) : rowK N l (k + 1) = rowK N l k := by
  refine List.ext_getElem? fun i => ?_
  rcases Nat.lt_or_ge i N with hi | hi
  · rw [rowK_get _ _ _ _ hi, rowK_get _ _ _ _ hi]
    by_cases e : i = k
    · subst e
      rw [if_pos (Nat.lt_succ_self _), if_neg (Nat.lt_irrefl _), List.getElem?_eq_none h]; rfl
    · by_cases h2 : i < k
      · rw [if_pos h2, if_pos (by omega)]
      · rw [if_neg h2, if_neg (by omega)]
  · rw [rowK_none _ _ _ _ hi, rowK_none _ _ _ _ hi]
def rowF (N : Nat) (l : List Int) : List Int := (List.range N).map fun i => max 0 (l[i]?.getD 0)
theorem rowK_all (N : Nat) (l : List Int) : rowK N l N = rowF N l := by
  unfold rowK rowF
  refine List.map_congr_left fun i hi => if_pos (List.mem_range.1 hi)
def ordF (l : List Int) : List Int := l.mergeSort fun x y => decide (x ≤ y)
theorem ordF_len (l : List Int) : (ordF l).length = l.length := List.length_mergeSort l
def agrN (N : Nat) (l : List Int) : Int := (ordF (rowF N l))[N - (N / 2 + 1)]?.getD 0
def agreedF (n : Int) (l : List Int) : Int := if 1 ≤ n ∧ n ≤ 7 then agrN n.toNat l else 0
theorem agreedF_no {n : Int} (h : ¬ (1 ≤ n ∧ n ≤ 7)) (l : List Int) : agreedF n l = 0 := if_neg h
theorem agreedF_yes {N : Nat} (h : 1 ≤ (N : Int) ∧ (N : Int) ≤ 7) (l : List Int) : agreedF N l = agrN N l := by unfold agreedF; rw [if_pos h]; rfl

theorem below_sorted {g : Nat} {w : World} {xs : Array Int} {n : Nat} {os : Array Obj} (hg : g < w.heap.size) : Below g w (grow (putRow (Value.int .i64) (Sort.ahead w n) g 0 xs) os) := by
  refine ⟨rfl, rfl, rfl, ?_, fun k hk => ?_⟩
  · simp [grow, putRow, mapBlock, Sort.ahead]
  · rw [heap_grow_old _ _ (by simp [putRow, mapBlock, Sort.ahead]; omega)]
    simp only [putRow, mapBlock, Array.getElem?_modify]
    rw [if_neg (by omega)]
    rfl
theorem sort_any {w : World} {base g n c : Nat} {T : TypeId} {l : List Int} (h : w.ownsRow base T 1 (.slice (some ⟨g, 0, none⟩) n c) n (l.map vi)) (hg : g < w.heap.size) (hn : n ≤ 1000000000) :
    Calls Try.prog 45 #[.slice (some ⟨g, 0, none⟩) n c] w fun e w' => e = .returned (.tuple #[]) ∧ (∀ j, j < n → w'.cell? ⟨g, j, none⟩ = some (.int .i64 ((ordF l)[j]?.getD 0))) ∧ Below g w w' := by
  have hl : l.length = n := by have := h.1; simpa using this
  have hH : Holds (Value.int .i64) w g 0 l.toArray := fun j hj => by
    have hj' : j < l.length := by simpa using hj
    obtain ⟨g', e, _, h1, h2⟩ := own_ints_at h (k := j) (by omega)
    injection e with e
    injection e with e
    subst e
    rw [Nat.zero_add]
    refine ⟨h1.trans ?_, h2⟩
    simp [List.getElem?_eq_getElem hj']
  have := Any.slices_Sort_int qsLaid g 0 c l w hH hg (by omega)
  rw [hl] at this
  refine this.mono ?_
  rintro e w' ⟨rfl, q, os, rfl⟩
  refine ⟨rfl, fun j hj => ?_, below_sorted hg⟩
  have hH' : Holds (Value.int .i64) (Sort.ahead w q) g 0 l.toArray := holds_ahead _ _ _ _ _ _ hH
  rw [cell?_grow _ _ _ (by simp [putRow, mapBlock, Sort.ahead]; exact hg)]
  have hs : (ordF l).toArray.size = l.toArray.size := by simp [ordF_len]
  have := (holds_putRow (Value.int .i64) (Sort.ahead w q) g 0 l.toArray (ordF l).toArray hH' hs j (by simp [ordF_len]; omega)).1
  rw [Nat.zero_add] at this
  refine this.trans ?_
  have : j < (ordF l).length := by rw [ordF_len]; omega
  simp [List.getElem?_eq_getElem this]

theorem made_zeros (N : Nat) (l : List Int) : (madeCells (Value.int .i64 0).cells (N * 1)).toList = (rowK N l 0).map vi := by
  refine List.ext_getElem? fun i => ?_
  rcases Nat.lt_or_ge i N with hi | hi
  · rw [List.getElem?_map, rowK_get _ _ _ _ hi]
    simp [madeCells, vi, hi, Value.cells, Nat.mod_one]
  · rw [List.getElem?_map, rowK_none _ _ _ _ hi]
    simp [madeCells, hi]
theorem wrap_n {k N : Nat} (h : k < N) (h7 : N ≤ 7) : wrap64 ((k : Int) + 1) = ((k + 1 : Nat) : Int) := by
  unfold wrap64; omega
set_option maxRecDepth 100000 in
theorem agreed_any (n : Int) (A : Option Addr) (m c : Nat) (l : List Int) (w : World) (hl : RdI w A m l) :
    Calls Try.prog 19 #[.int .i64 n, .slice A m c] w fun e w' => e = .returned (.int .i64 (agreedF n l)) ∧ Below w.heap.size w w' := by
  have hlen := hl.len
  by_cases h : 1 ≤ n ∧ n ≤ 7
  · obtain ⟨N, rfl⟩ : ∃ N : Nat, n = N := ⟨n.toNat, by omega⟩
    have Hw := Lib.hid (agreedF_yes h l)
    have hs := sizeF_yes h
    have hN1 : 1 ≤ N := by omega
    have hN7 : N ≤ 7 := by omega
    clear h
    go_enter Try.func19, Try.ntmps19
    go_wp2_with fail
    refine (size_any _ _).mono ?_
    rintro e w' ⟨rfl, rfl⟩
    rw [hs]
    clear hs
    go_wp2_with fail
    obtain ⟨i0, hi0, hz0, hz1, hz2⟩ := info_parts int_info
    obtain ⟨w1, hrun, r1, r2⟩ := run_make_full (P := Try.prog) w w.heap.size 22 3 i0 _ 1 Try.underlying22 hi0 hz0 hz1 .i64 .i64 N (by rw [hz2]; omega) (by unfold maxLen; omega) (Nat.le_refl _)
    rw [hrun]
    clear hrun
    rw [made_zeros N l] at r1
    have hb1 : Below w.heap.size w w1 := (Below.refl _ _).grown r2 (Nat.le_refl _) (fun k hk => by cases hk)
    go_wp2_with fail
    go_loopw [15] (fun i wr => ∃ k : Nat, k ≤ N ∧ i = .int .i64 k ∧ wr.ownsRow w.heap.size 3 1 (.slice (some ⟨w.heap.size, 0, none⟩) N N) N ((rowK N l k).map vi) ∧ Below w.heap.size w wr) (fun i _ => N - (intOf i).toNat)
    case atStart => exact ⟨0, Nat.zero_le _, rfl, r1, hb1⟩
    case round =>
      obtain ⟨k, hk, rfl, hown, hb⟩ := hrel
      by_cases hlt : k < N
      · have wk := Lib.hid (wrap_n hlt hN7)
        by_cases hkm : k < m
        · obtain ⟨ad, rfl, hc0⟩ := hl.at_ hkm
          have hc := (hb.cell (lt_of_cell hc0)).trans hc0
          have hst := hown.stored k (vi (max 0 (l[k]?.getD 0)))
          rw [← List.map_set, rowK_set N l k hlt] at hst
          obtain ⟨g', e, _, ho1, ho2⟩ := own_ints_at hown hlt
          injection e with e
          injection e with e
          subst e
          generalize l[k]?.getD 0 = x at *
          go_wp2_with fail
          refine ⟨⟨k + 1, hlt, by go_num, hst.1, hb.setCell (Nat.le_refl _) _⟩, by simp [intOf]; omega⟩
        · have hsk := rowK_skip N l k (by omega)
          go_wp2_with fail
          exact ⟨⟨k + 1, hlt, by go_num, by rw [hsk]; exact hown, hb⟩, by simp [intOf]; omega⟩
      · obtain rfl : k = N := by omega
        rw [rowK_all] at hown
        have hsz : w.heap.size < wr.heap.size := by
          obtain ⟨g', e, _, ho1, _⟩ := own_ints_at hown (k := 0) (by omega)
          injection e with e
          injection e with e
          subst e
          exact lt_of_cell ho1
        have hsort := sort_any hown hsz (by omega)
        go_wp2_with fail
        refine hsort.mono ?_
        rintro e w2 ⟨rfl, hqA, hb2⟩
        clear hsort
        have hq := hqA (k - (k / 2 + 1)) (by omega)
        clear hqA
        have hb3 := hb.trans hb2
        generalize hr : (ordF (rowF k l))[k - (k / 2 + 1)]?.getD 0 = r at hq
        have Hr := Lib.hid (Hw.out.trans hr)
        clear hr Hw r1 r2 hb1 hown hsz hb hb2 hl hlt hk
        rcases (show k = 1 ∨ k = 2 ∨ k = 3 ∨ k = 4 ∨ k = 5 ∨ k = 6 ∨ k = 7 by omega) with rfl | rfl | rfl | rfl | rfl | rfl | rfl
        all_goals
          simp only [Nat.reduceDiv, Nat.reduceAdd, Nat.reduceSub] at hq
          go_wp2_with fail
          go_ret
          exact ⟨by rw [Hr.out]; rfl, hb3⟩
  · have Hw := Lib.hid (agreedF_no h l)
    have hs := sizeF_no h
    clear h
    go_enter Try.func19, Try.ntmps19
    go_wp2_with fail
    refine (size_any _ _).mono ?_
    rintro e w' ⟨rfl, rfl⟩
    rw [hs]
    clear hs
    go_wp2_with fail
    go_ret
    exact ⟨by rw [Hw.out]; rfl, Below.refl _ _⟩
end Go.Proofs.Ytkgcccllabofoaa
