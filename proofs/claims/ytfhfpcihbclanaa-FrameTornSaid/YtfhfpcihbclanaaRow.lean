/-
  What comes in: a slice of bytes, as the row's step hands it on, reads as a list.
-/
import Derived.Test.YtfhfpcihbclanaaMem
import Derived.ProofKit
import Derived.OpenShut
namespace Go.Proofs.Ytfhfpcihbclanaa
open Go.RowKit

/-- a slice of integers that came in: nil, or a row of 'cap' cells -/
def IsRow (k : IntKind) (w : World) (a : Option Addr) (len cap : Nat) (zs : List Int) : Prop :=
  (a = none ∧ len = 0 ∧ cap = 0 ∧ zs = []) ∨
  ∃ x, a = some x ∧ len ≤ cap ∧ cap ≤ maxLen ∧ zs.length = cap ∧ (∀ i, i < zs.length → w.cell? (x.add i) = some (.int k (zs.getD i 0))) ∧ ∀ n ∈ zs, (Lit.int k n).wf = true

theorem u8_of_wf {z : Int} (h : (Lit.int .u8 z).wf = true) : 0 ≤ z ∧ z < 256 := by
  simp [Lit.wf, IntKind.min, IntKind.max, IntKind.signed, IntKind.bits] at h
  omega
theorem u32_of_wf {z : Int} (h : (Lit.int .u32 z).wf = true) : ∃ n : Nat, z = n ∧ n < 4294967296 := by
  simp [Lit.wf, IntKind.min, IntKind.max, IntKind.signed, IntKind.bits] at h
  exact ⟨z.toNat, by omega, by omega⟩
theorem i64_of_wf {z : Int} (h : (Lit.int .i64 z).wf = true) : -9223372036854775808 ≤ z ∧ z ≤ 9223372036854775807 := by
  simp [Lit.wf, IntKind.min, IntKind.max, IntKind.signed, IntKind.bits] at h
  omega
theorem row_reads {w : World} {a : Option Addr} {len cap : Nat} {zs : List Int} (h : IsRow .u8 w a len cap zs) : ∃ l, Rd w a len l ∧ len ≤ cap ∧ cap ≤ maxLen := by
  rcases h with ⟨rfl, rfl, rfl, rfl⟩ | ⟨x, rfl, hl, hm, hz, hc, hwf⟩
  · exact ⟨[], Rd.none_, Nat.le_refl _, Nat.zero_le _⟩
  · refine ⟨(zs.take len).map (fun z => UInt8.ofNat z.toNat), ⟨?_, fun _ => ⟨x, rfl, fun j u hu => ?_⟩⟩, hl, hm⟩
    · simp; omega
    · simp only [List.map_map, List.getElem?_map, Option.map_eq_some_iff] at hu
      obtain ⟨z, hz1, rfl⟩ := hu
      rw [List.getElem?_take] at hz1
      split at hz1
      · have hj : j < zs.length := (List.getElem?_eq_some_iff.1 hz1).1
        have hzj : zs.getD j 0 = z := by rw [List.getD_eq_getElem?_getD, hz1]; rfl
        have hw := u8_of_wf (hwf z (List.mem_of_getElem? hz1))
        rw [hc j hj, hzj]
        have : ((z.toNat % 256 : Nat) : Int) = z := by omega
        simp [vb, this]
      · cases hz1
end Go.Proofs.Ytfhfpcihbclanaa
