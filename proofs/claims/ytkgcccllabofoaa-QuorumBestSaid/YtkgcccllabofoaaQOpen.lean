/-
  An argument opened: a slice of ints.
-/
import Derived.Test.YtkgcccllabofoaaInt
import Derived.ProofKit
import Derived.OpenShut
import Derived.Deep.Slices
import Derived.Deep.Fields
import Derived.ChangeSame
import Derived.ChangeSlices
import Derived.Lib.SmallJoins
namespace Go.Proofs.Ytkgcccllabofoaa
open Go.ChangeShapes Go.WideShapes Go.Deep Go.RowKit

section
variable {H : Type} {enc : TypeId × Value → H} {P : Program} {w : World} {base : Nat} {spare : Nat → Bool} {held : Bool}
theorem open_rdi {t e : TypeId} {fuel : Nat} {v : Value} {x : DataW H × List MemPlace} (ht : P.underlying t = some (.slice e)) (he : P.underlying e = some (.int .i64)) (hc : P.cellsOf e = 1)
    (h : DataW.trod enc P w base spare held fuel t [v] = some x) : ∃ A n c l, v = .slice A n c ∧ RdI w A n l ∧ n ≤ c ∧ c ≤ maxLen := by
  rcases open_ints ht he hc h with ⟨hcs, _⟩ | ⟨a, l, c, zs, hcs, _, hl, hm, hz, _, hcell, hwz⟩
  · obtain rfl : v = .slice none 0 0 := by simpa using hcs
    exact ⟨none, 0, 0, [], rfl, RdI.none_, Nat.le_refl _, Nat.zero_le _⟩
  · obtain rfl : v = .slice (some a) l c := by simpa using hcs
    have hlz : l ≤ zs.length := by rw [hz]; split <;> omega
    refine ⟨some a, l, c, zs.take l, rfl, ⟨by simp; omega, fun _ => ⟨a, rfl, fun j u hu => ?_⟩⟩, hl, hm⟩
    rw [List.getElem?_map, List.getElem?_take] at hu
    split at hu
    · have hj : j < zs.length := by omega
      rw [List.getElem?_eq_getElem hj] at hu
      have hc' := hcell j hj
      have hzj : zs.getD j 0 = zs[j] := by rw [List.getD_eq_getElem?_getD, List.getElem?_eq_getElem hj]; rfl
      rw [hc', hzj]; exact hu
    · simp at hu
end
section
variable {H : Type} {enc : TypeId × Value → H} {w : World} {base : Nat} {spare : Nat → Bool} {held : Bool}
theorem open_ints_arg {A : Option Addr} {n c : Nat} {d : DataW H} {p : List MemPlace}
    (h : DataW.Trod enc Try.prog w base spare held 22 (.slice A n c) d p) : ∃ l, RdI w A n l ∧ n ≤ c ∧ c ≤ maxLen := by
  obtain ⟨fuel, hf⟩ := h
  obtain ⟨A', n', c', l, e, h1, h2, h3⟩ := open_rdi Try.underlying22 Try.underlying3 (by kernel_rfl) (v := .slice A n c) hf
  injection e with e1 e2 e3
  subst e1; subst e2; subst e3
  exact ⟨l, h1, h2, h3⟩
end
end Go.Proofs.Ytkgcccllabofoaa
