/-
  Arguments opened: moves of a track.
-/
import Derived.Test.YtojmkbhihnnmaaaTOpen
import Derived.Test.YtojmkbhihnnmaaaT35
namespace Go.Proofs.Ytojmkbhihnnmaaa
open Go.ChangeShapes Go.WideShapes Go.Deep Go.RowKit

section
variable {H : Type} {enc : TypeId × Value → H} {w : World} {base : Nat} {spare : Nat → Bool} {held : Bool}
set_option maxRecDepth 100000 in
/-- moves -/
theorem open_moves {A : Option Addr} {n c : Nat} {d : DataW H} {p : List MemPlace} (h : DataW.Trod enc Try.prog w base spare held 66 (.slice A n c) d p) : ∃ rs, MvsV w.heap.size w A n rs := by
  obtain ⟨fuel, hf⟩ := h
  rcases open_slice Try.underlying66 hf with ⟨hcs, _⟩ | ⟨a, len, cap, m, q, D, Pl, hcs, _, hl, hm, hmm, _, hi⟩
  · simp [Value.cells] at hcs
    obtain ⟨rfl, rfl, rfl⟩ := hcs
    exact ⟨[], Rds.none_, fun h => absurd h (by omega), fun z hz => (by cases hz)⟩
  · simp [Value.cells] at hcs
    obtain ⟨rfl, rfl, rfl⟩ := hcs
    have hnm : n ≤ m := by rw [hmm]; split <;> omega
    have hC : Try.prog.cellsOf 68 = 8 := by kernel_rfl
    obtain ⟨L, h1, h2⟩ := list_of (Q := fun i (r : Mv) => (∀ j u, j < 8 → (mvC r)[j]? = some u → w.cell? (a.add (i * 8 + j)) = some u) ∧ MvOk w.heap.size w r) n (fun i hin => by
      obtain ⟨cs', hc, ht⟩ := hi i (by omega)
      rw [hC] at hc
      obtain ⟨_, hcl, hat⟩ := World.cells?_some hc
      obtain ⟨v0, v1, v2, v3, v4, v5, v6, v7, rfl⟩ : ∃ v0 v1 v2 v3 v4 v5 v6 v7, cs' = [v0, v1, v2, v3, v4, v5, v6, v7] := by
        match cs', hcl with
        | [v0, v1, v2, v3, v4, v5, v6, v7], _ => exact ⟨v0, v1, v2, v3, v4, v5, v6, v7, rfl⟩
      obtain ⟨n0, y0, h0⟩ := open_field (j := 0) Try.underlying68 rfl 1 (by kernel_rfl) ht
      obtain ⟨n1, y1, h1⟩ := open_field (j := 1) Try.underlying68 rfl 1 (by kernel_rfl) ht
      obtain ⟨n2, y2, h2⟩ := open_field (j := 2) Try.underlying68 rfl 4 (by kernel_rfl) ht
      obtain ⟨n3, y3, h3⟩ := open_field (j := 3) Try.underlying68 rfl 1 (by kernel_rfl) ht
      obtain ⟨n4, y4, h4⟩ := open_field (j := 4) Try.underlying68 rfl 1 (by kernel_rfl) ht
      have h0 : DataW.trod enc Try.prog w base spare held n0 4 [v0] = some y0 := h0
      have h1 : DataW.trod enc Try.prog w base spare held n1 3 [v1] = some y1 := h1
      have h2 : DataW.trod enc Try.prog w base spare held n2 52 [v2, v3, v4, v5] = some y2 := h2
      have h3 : DataW.trod enc Try.prog w base spare held n3 3 [v6] = some y3 := h3
      have h4 : DataW.trod enc Try.prog w base spare held n4 3 [v7] = some y4 := h4
      obtain ⟨k0, e0, _⟩ := DataW.trod_bool Try.underlying4 h0
      obtain ⟨k1, e1, _, w1⟩ := DataW.trod_int Try.underlying3 h1
      obtain ⟨e, e3, e4, e5, hf⟩ := open_cmd h2
      obtain ⟨k3, e6, _, w3⟩ := DataW.trod_int Try.underlying3 h3
      obtain ⟨k4, e7, _, w4⟩ := DataW.trod_int Try.underlying3 h4
      obtain ⟨V, m', d', hv, l1, l2, l3⟩ := hf.form
      obtain rfl : v5 = _ := hv
      obtain rfl : v0 = .bool k0 := by simpa using e0
      obtain rfl : v1 = .int .i64 k1 := by simpa using e1
      obtain rfl : v6 = .int .i64 k3 := by simpa using e6
      obtain rfl : v7 = .int .i64 k4 := by simpa using e7
      subst e3; subst e4; subst e5
      refine ⟨⟨k0, k1, e, k3, k4, V, m', d'⟩, fun j u hj hu => ?_, ⟨hf, ⟨l1, l2⟩, i64_of_wf w1, i64_of_wf w3, i64_of_wf w4⟩⟩
      have hh := hat j hj
      rw [Go.Deep.add_add] at hh
      exact hh.trans hu)
    refine ⟨L, by have := rds_at (k := 8) (by omega) mvC_len fun i z hz => (h2 i z hz).1; rw [h1] at this; exact this, fun h0 ad e => ?_, fun r hr => ?_⟩
    · injection e with e
      subst e
      have := lt_of_cell ((h2 0 _ (List.getElem?_eq_getElem (by omega))).1 0 _ (by omega) rfl)
      rwa [block_of_add] at this
    · obtain ⟨i, hi', rfl⟩ := List.getElem_of_mem hr
      exact (h2 i _ (List.getElem?_eq_getElem hi')).2
end
end Go.Proofs.Ytojmkbhihnnmaaa
