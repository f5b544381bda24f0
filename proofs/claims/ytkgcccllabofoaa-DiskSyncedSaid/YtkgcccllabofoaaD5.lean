/-
  The disk: its small functions.
-/
import Derived.Test.YtkgcccllabofoaaD4
namespace Go.Proofs.Ytkgcccllabofoaa
open Go.RowKit Go.Maps

/-- the cells of the program's struct -/
def dkCells (bl bf : Nat) (A : Option Addr) (n c : Nat) (fuse : Bool) (left : Int) : Array Value := #[.map (some bl), .map (some bf), .slice A n c, .bool fuse, .int .i64 left]
def downF (fuse : Bool) (left : Int) : Bool := fuse && decide (left = 0)
theorem bodyPost_end0' {P : Program} {fn : Func} {R : Ending → World → Prop} {a : Act} {w : World} (hr : fn.results = #[]) (hd : a.defers = []) (hR : R (.returned (.tuple #[])) w) : bodyPost P fn R .normal a w :=
  bodyPost_end (by simp [results, hr]) hd hR
section
variable {g bl bf n c : Nat} {A : Option Addr} {fuse : Bool} {left : Int} {w : World}
set_option maxRecDepth 100000 in
theorem down_any (h : Blk w g 74 (dkCells bl bf A n c fuse left)) :
    Calls Try.prog 55 #[.pointer (some ⟨g, 0, none⟩)] w fun e w' => e = .returned (.bool (downF fuse left)) ∧ w = w' := by
  have h3 := h.cell 3
  have h4 := h.cell 4
  simp only [dkCells, List.getElem?_toArray, List.getElem?_cons_zero, List.getElem?_cons_succ] at h3 h4
  cases fuse with
  | false =>
    go_enter Try.func55, Try.ntmps55
    go_wp2_with fail
    go_ret
    exact ⟨rfl, rfl⟩
  | true =>
    have e : (left == 0) = decide (left = 0) := rfl
    go_enter Try.func55, Try.ntmps55
    go_wp2_with fail
    go_ret
    exact ⟨by unfold downF; rw [Bool.true_and]; rfl, rfl⟩
set_option maxRecDepth 100000 in
theorem burn_any (h : Blk w g 74 (dkCells bl bf A n c fuse left)) (hl : fuse = true → 0 < left ∧ left ≤ 9223372036854775807) :
    Calls Try.prog 56 #[.pointer (some ⟨g, 0, none⟩)] w fun e w' => e = .returned (.tuple #[]) ∧ Blk w' g 74 (dkCells bl bf A n c fuse (if fuse then left - 1 else left)) ∧ w.grownBy w' (some g) := by
  have h3 := h.cell 3
  have h4 := h.cell 4
  have f4 := h.free 4
  have hs := h.set_ 4 (.int .i64 (left - 1))
  have hgr : w.grownBy (w.setCell ⟨g, 4, none⟩ (.int .i64 (left - 1))) (some g) := ⟨rfl, rfl, rfl, by simp [World.setCell], fun j _ hne => Below.heap_setCell w ⟨g, 4, none⟩ _ j (fun e => hne (by rw [e]))⟩
  simp only [dkCells, List.getElem?_toArray, List.getElem?_cons_zero, List.getElem?_cons_succ] at h3 h4
  cases fuse with
  | false =>
    go_enter Try.func56, Try.ntmps56
    go_wp2_with fail
    refine bodyPost_end0' rfl rfl ⟨rfl, by assumption, World.grownBy.refl w _⟩
  | true =>
    obtain ⟨hl1, hl2⟩ := hl rfl
    go_enter Try.func56, Try.ntmps56
    go_wp2_with fail
    exact bodyPost_end0' rfl rfl ⟨rfl, hs, hgr⟩
end
end Go.Proofs.Ytkgcccllabofoaa
