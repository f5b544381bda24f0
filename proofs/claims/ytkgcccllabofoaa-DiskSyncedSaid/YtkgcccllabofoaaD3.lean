/-
  The disk: 'for s, v := range m' over a map that reads as a function.
-/
import Derived.Test.YtkgcccllabofoaaD2
import Derived.Maps.RangeRun
namespace Go.Proofs.Ytkgcccllabofoaa
open Go.RowKit Go.Maps Go.MapKept Go.WideMaps
open Go.ChangeMaps (setBlock modify_eq_set heap_setBlock_same heap_setBlock_other)

/-- block r walks over the map of block b; n entries are left: just those that 'left' tells; 'last' came out last -/
structure Rng (w : World) (r b k : Nat) (F : ByteArray → Option Value) (left : ByteArray → Prop) (n : Nat) (last : Option (ByteArray × Value)) : Prop where
  m : MapAt w b k F
  it : ∃ es clock since c0 seen, w.heap[r]? = some (.mapIter (some b) since seen c0) ∧ w.heap[b]? = some (.map es clock) ∧ Stamped es clock ∧
    (∀ x ∈ es.toList, x.born < since) ∧ since ≤ c0 ∧ n = (leftOf es seen).size ∧ (∀ s, left s ↔ ∃ x ∈ (leftOf es seen).toList, x.key = .string s) ∧
    (∀ x ∈ es.toList, ∃ s : ByteArray, x.key = .string s ∧ s.size ≤ maxLen) ∧ (∀ s v, F s = some v ↔ ∃ x ∈ es.toList, x.key = .string s ∧ x.val = v) ∧ since ≤ clock ∧
    (∀ s v, last = some (s, v) → ∃ (e : MapEntry) (seen0 : Array Nat), e ∈ es.toList ∧ e.key = .string s ∧ e.val = v ∧ seen = seen0.push e.born ∧ c0 = clock)
section
variable {w w' : World} {r b k n : Nat} {F : ByteArray → Option Value} {left : ByteArray → Prop} {last : Option (ByteArray × Value)}
theorem Rng.keep (h : Rng w r b k F left n last) (hr : w'.heap[r]? = w.heap[r]?) (hb : w'.heap[b]? = w.heap[b]?) : Rng w' r b k F left n last := by
  obtain ⟨es, clock, since, c0, seen, h1, h2, h3⟩ := h.it
  exact ⟨h.m.keep hb, es, clock, since, c0, seen, hr.trans h1, hb.trans h2, h3⟩
theorem left_all (es : Array MapEntry) : leftOf es #[] = es := by
  unfold leftOf
  exact Array.filter_eq_self.2 (fun x _ => by simp)
theorem run_rng (h : MapAt w b k F) {t e : TypeId} (ht : Try.prog.underlying t = some (.map 9 e)) :
    ∃ w' n, (Instr.range t (.map (some b))).run Try.prog w = .ok (.pointer (some ⟨w.heap.size, 0, none⟩)) w' ∧ n ≤ k ∧ Rng w' w.heap.size b k F (fun s => F s ≠ none) n none ∧ ∃ o, w' = w.alloc o := by
  have hlt := h.lt
  have h' := h
  obtain ⟨es, clock, hb, hst, hsz, hks, hF⟩ := h'
  have hb' : (w.alloc (.mapIter (some b) clock #[] clock)).heap[b]? = some (.map es clock) := ((MapKept.heap_alloc w _).2 b hlt).trans hb
  refine ⟨_, es.size, run_range_map w t 9 e b es clock ht hb, hsz, ⟨h.keep (((MapKept.heap_alloc w _).2 b hlt)), es, clock, clock, clock, #[], (MapKept.heap_alloc w _).1, hb', hst, hst.1, Nat.le_refl _, by rw [left_all], ?_, hks, hF, Nat.le_refl _, fun s v h => by cases h⟩, _, rfl⟩
  intro s
  rw [left_all]
  constructor
  · intro hs
    cases hv : F s with
    | none => exact absurd hv hs
    | some v =>
      obtain ⟨x, hx, hk, _⟩ := (hF s v).1 hv
      exact ⟨x, hx, hk⟩
  · rintro ⟨x, hx, hk⟩ hn
    have := (hF s x.val).2 ⟨x, hx, hk, rfl⟩
    rw [hn] at this
    cases this
theorem run_rng_next (h : Rng w r b k F left n last) (hrb : r ≠ b) (ty : TypeId) :
    (n = 0 ∧ (∀ s, ¬ left s) ∧ (Instr.next (.pointer (some ⟨r, 0, none⟩)) false ty).run Try.prog w = .ok (.tuple #[.bool false]) w) ∨
    ∃ s v w1 o n', n' < n ∧ s.size ≤ maxLen ∧ F s = some v ∧ left s ∧ (w1 = w ∨ w1 = w.drew) ∧ (Instr.next (.pointer (some ⟨r, 0, none⟩)) false ty).run Try.prog w = .ok (.tuple #[.bool true, .string s, v]) (setBlock w1 r o) ∧
      Rng (setBlock w1 r o) r b k F (fun t => left t ∧ t ≠ s) n' (some (s, v)) := by
  obtain ⟨es, clock, since, c0, seen, h1, h2, hst, hold, hsc, hn, hleft, hks, hF, hscl, _⟩ := h.it
  rcases run_next_at (P := Try.prog) w ty r b since c0 seen es clock h1 h2 hold hsc with ⟨h0, hrun⟩ | ⟨e, he, w1, hw1, hrun⟩
  · refine .inl ⟨hn.trans h0, fun s hs => ?_, hrun⟩
    obtain ⟨x, hx, _⟩ := (hleft s).1 hs
    have := Array.eq_empty_of_size_eq_zero h0
    rw [this] at hx
    simp at hx
  · have hees : e ∈ es.toList := by
      unfold leftOf at he
      simp at he ⊢
      exact he.1
    obtain ⟨s, hk, hs⟩ := hks e hees
    have hw1h : w1.heap = w.heap := by rcases hw1 with rfl | rfl <;> rfl
    have hrs : r < w1.heap.size := by
      rw [hw1h]
      rcases Nat.lt_or_ge r w.heap.size with hlt | hge
      · exact hlt
      · rw [Array.getElem?_eq_none hge] at h1; cases h1
    have hr' : (setBlock w1 r (.mapIter (some b) since (seen.push e.born) clock)).heap[r]? = some (.mapIter (some b) since (seen.push e.born) clock) := by
      simp [setBlock, hrs]
    have hb' : (setBlock w1 r (.mapIter (some b) since (seen.push e.born) clock)).heap[b]? = w.heap[b]? := by
      simp only [setBlock]
      rw [Array.getElem?_setIfInBounds_ne hrb, hw1h]
    refine .inr ⟨s, e.val, w1, _, _, ?_, hs, (hF s e.val).2 ⟨e, hees, hk, rfl⟩, (hleft s).2 ⟨e, he, hk⟩, hw1, by rw [← hk]; exact hrun, h.m.keep hb', es, clock, since, clock, seen.push e.born, hr', hb'.trans h2, hst, hold, hscl, rfl, ?_, hks, hF, hscl, ?_⟩
    · rw [hn]
      exact left_shrinks es seen e he
    · intro t
      have inj : ∀ x, x ∈ es.toList → (x.born = e.born ↔ x.key = e.key) := fun x hx => by
        obtain ⟨i, hi, rfl⟩ := List.getElem_of_mem hx
        obtain ⟨j, hj, rfl⟩ := List.getElem_of_mem hees
        constructor
        · intro e1
          have := (List.getElem_inj (h₀ := by simpa using hi) (h₁ := by simpa using hj) hst.2.1).1 (by simpa using e1)
          subst this; rfl
        · intro e1
          have := (List.getElem_inj (h₀ := by simpa using hi) (h₁ := by simpa using hj) hst.2.2).1 (by simpa using e1)
          subst this; rfl
      have memL : ∀ x, x ∈ (leftOf es (seen.push e.born)).toList ↔ x ∈ (leftOf es seen).toList ∧ x.born ≠ e.born := fun x => by
        unfold leftOf
        simp [and_assoc]
      constructor
      · rintro ⟨hl, hne⟩
        obtain ⟨x, hx, hxk⟩ := (hleft t).1 hl
        refine ⟨x, (memL x).2 ⟨hx, fun e1 => hne ?_⟩, hxk⟩
        have := (inj x (mem_left hx).1).1 e1
        rw [hxk, hk] at this
        injection this
      · rintro ⟨x, hx, hxk⟩
        obtain ⟨hx, hne⟩ := (memL x).1 hx
        refine ⟨(hleft t).2 ⟨x, hx, hxk⟩, fun e1 => hne ((inj x (mem_left hx).1).2 ?_)⟩
        rw [hxk, hk, e1]
    · intro s' v' e1
      injection e1 with e1
      injection e1 with e1 e2
      subst e1; subst e2
      exact ⟨e, seen, hees, hk, rfl, rfl, rfl⟩
/-- the name and the value that came out last -/
theorem run_rng_entry {s : ByteArray} {v : Value} (h : Rng w r b k F left n (some (s, v))) : (Instr.entry (.pointer (some ⟨r, 0, none⟩))).run Try.prog w = .ok (.tuple #[.string s, v]) w := by
  obtain ⟨es, clock, since, c0, seen, h1, h2, hst, hold, hsc, hn, hleft, hks, hF, hscl, hl⟩ := h.it
  obtain ⟨e, seen0, he, hk, hv, rfl, rfl⟩ := hl s v rfl
  have := run_entry_at (P := Try.prog) w r b since seen0 es c0 e h1 h2 he hst.2.1
  rw [hk, hv] at this
  exact this
end
end Go.Proofs.Ytkgcccllabofoaa
