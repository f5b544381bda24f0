/-
  Words for memory: a block that is known whole.
-/
import Derived.Test.YtojmkbhihnnmaaaMem
namespace Go.Proofs.Ytojmkbhihnnmaaa
open Go.RowKit

/-- block g is just these cells, none frozen -/
def Blk (w : World) (g : Nat) (T : TypeId) (cs : Array Value) : Prop := w.heap[g]? = some (.cells cs T (0, 0))
section
variable {w w' : World} {g : Nat} {T : TypeId} {cs : Array Value}
theorem Blk.lt (h : Blk w g T cs) : g < w.heap.size := by
  rcases Nat.lt_or_ge g w.heap.size with hlt | hge
  · exact hlt
  · unfold Blk at h; rw [Array.getElem?_eq_none hge] at h; cases h
theorem Blk.cell (h : Blk w g T cs) (i : Nat) : w.cell? ⟨g, i, none⟩ = cs[i]? := cell_of_row w g i cs T (0, 0) h
theorem Blk.free (h : Blk w g T cs) (i : Nat) : w.frozen? ⟨g, i, none⟩ = false := by
  unfold Blk at h
  simp [World.frozen?, h]
theorem Blk.new (w : World) (T : TypeId) (cs : Array Value) : Blk (w.alloc (.cells cs T)) w.heap.size T cs := heap_alloc_new w _
theorem Blk.drew (h : Blk w g T cs) : Blk w.drew g T cs := h
theorem Blk.drewN (h : Blk w g T cs) (n : Nat) : Blk (w.drewN n) g T cs := h
theorem Blk.alloc (h : Blk w g T cs) (o : Obj) : Blk (w.alloc o) g T cs := (Below.heap_alloc w o g h.lt).trans h
theorem Blk.set_ (h : Blk w g T cs) (i : Nat) (u : Value) : Blk (w.setCell ⟨g, i, none⟩ u) g T (cs.setIfInBounds i u) := by
  unfold Blk at h ⊢
  simp [World.setCell, Array.getElem?_modify, h]
theorem Blk.far (h : Blk w g T cs) {p : Addr} (hp : g ≠ p.block) (u : Value) : Blk (w.setCell p u) g T cs := (Below.heap_setCell w p u g hp).trans h
theorem Blk.below {B : Nat} (h : Blk w g T cs) (hb : Below B w w') (hg : g < B) : Blk w' g T cs := (hb.block g hg).trans h
theorem Blk.kept (h : Blk w g T cs) (hb : Below w.heap.size w w') : Blk w' g T cs := h.below hb h.lt
theorem Blk.grown {row : Option Nat} (h : Blk w g T cs) (hb : w.grownBy w' row) (hg : some g ≠ row) : Blk w' g T cs := (hb.block g h.lt hg).trans h
end
end Go.Proofs.Ytojmkbhihnnmaaa
