/-
  The disk: List.
-/
import Derived.Test.YtkgcccllabofoaaD15
import Derived.Test.YtkgcccllabofoaaQSortS
import Derived.Shelf.Slices.In.SortNone
namespace Go.Proofs.Ytkgcccllabofoaa
open Go.RowKit Go.Maps Go.MapKept Go.WideMaps
open Go.ChangeMaps (setBlock)
open Go.Sort hiding Below

def vst (s : ByteArray) : Value := .string s
theorem vst_map (l : List ByteArray) : l.map vst = (l.map kl).map encStr := by
  rw [List.map_map]
  exact List.map_congr_left fun s _ => rfl
theorem sortS_any {w : World} {base g n c : Nat} {ss : List ByteArray} (h : w.ownsRow base 9 1 (.slice (some ⟨g, 0, none⟩) n c) n (ss.map vst)) (hn : n ≤ 1000000000) :
    Calls Try.prog 60 #[.slice (some ⟨g, 0, none⟩) n c] w fun e w' => e = .returned (.tuple #[]) ∧ w'.ownsRow base 9 1 (.slice (some ⟨g, 0, none⟩) n c) n ((sortN ss).map vst) ∧ w.grownBy w' (some g) := by
  have hl : ss.length = n := by have := h.1; simpa using this
  rcases h.2 with ⟨h0, _⟩ | ⟨g', cap, cur, h0, h1, h2, h3, h4, h5, h6⟩
  · cases h0
  · injection h0 with h0 _ hc
    injection h0 with h0
    injection h0 with h0
    subst h0; subst hc
    have hlen : (ss.map kl).length = n := by simpa using hl
    have ht : cur.toList.take (ss.map kl).length = (ss.map kl).map encStr := by
      rw [hlen, ← vst_map]
      simpa using h6
    have := Any.slices_Sort_string qssLaid g 0 c (ss.map kl) w (holds_of_block h2 ht) (lt_of_heap h2) (by omega)
    rw [hlen] at this
    refine this.mono ?_
    rintro e w' ⟨rfl, q, os, rfl⟩
    refine ⟨rfl, ?_, grownBy_sorted _⟩
    have hs := ownsRow_sorted (n := q) (os := os) (ss := ss.map kl) (ts := (ss.map kl).mergeSort fun x y => decide (x ≤ y)) (by simp) h1 h2 (by omega) h4 h5
    rw [hlen] at hs
    have e : (sortN ss).map vst = ((ss.map kl).mergeSort fun x y => decide (x ≤ y)).map encStr := by
      unfold sortN
      rw [List.map_map]
      rfl
    rw [e]
    exact hs
theorem sortS_none (p : Option Addr) (cap : Nat) (w : World) : Calls Try.prog 60 #[.slice p 0 cap] w fun e w' => e = .returned (.tuple #[]) ∧ w' = w := Any.slices_Sort_string_none qssLaid p cap w
theorem strn_info : (Try.prog.info? 9).map (fun i => (i.zero, i.size, i.bytes)) = some (some (.string ByteArray.empty), 1, 16) := by kernel_rfl
/-- append one name -/
theorem wpList_append_st {w : World} {ops : Array Oper} {rest : List Oper} {o : Oper} {a : Act} {Q : Exit → Act → World → Prop} (hgd : o.guard = none) (s x : Operand)
    (ho : o.op = .call { callee := .builtin .append, args := #[s, x], argTypes := #[50, 50] })
    (base : Nat) {A : Option Addr} {n c : Nat} {l : List ByteArray} (hs : a.eval s = .slice A n c) (hown : w.ownsRow base 9 1 (.slice A n c) n (l.map vst))
    (g d : Nat) (u : ByteArray) (hx : a.eval x = .slice (some ⟨g, 0, none⟩) 1 d) (hb : Blk w g 9 #[.string u]) (hn : n ≤ 1000000) (hbase : base ≤ w.heap.size)
    (h : ∀ A' c' w', w'.ownsRow base 9 1 (.slice A' (n + 1) c') (n + 1) ((l ++ [u]).map vst) → w.grownBy w' (Value.slice A n c).ownBlock → Below base w w' → wpList Try.prog ops Q rest (a.put o.dst (.slice A' (n + 1) c')) w') : wpList Try.prog ops Q (o :: rest) a w := by
  obtain ⟨i0, hi0, hz0, hz1, hz2⟩ := info_parts strn_info
  refine wpList_append_any w hgd s x 50 ho base 9 i0 _ 1 16 Try.underlying50 hi0 hz0 hz1 hz2 rfl (by omega) (.slice A n c) n _ hs hown (some ⟨g, 0, none⟩) 1 d [.string u] hx ⟨rfl, fun _ => ⟨_, rfl, fun j v hv => ?_⟩⟩ (fun v hv => by rw [List.mem_singleton.1 hv]; rfl) (by unfold maxLen; omega) (by omega) hbase fun A' c' w' h1 h2 _ => ?_
  · have e : (⟨g, 0, none⟩ : Addr).add j = ⟨g, j, none⟩ := by unfold Addr.add; split <;> simp [*]
    rw [e, hb.cell j, ← hv]
    simp
  · exact h A' c' w' (by rw [List.map_append]; exact h1) h2 (below_own hown h2 hbase)
theorem own_obj {w w' : World} {base : Nat} {e : TypeId} {size n m j : Nat} {A : Option Addr} {xs : List Value} {o : Obj} (h : w.ownsRow base e size (.slice A n m) n xs) (hg : w.grownBy w' (Value.slice A n m).ownBlock) (hj : w.heap[j]? = some o) (hne : ∀ cs, o ≠ .cells cs e (0, 0)) : w'.heap[j]? = some o :=
  obj_own (own_mono h (Nat.zero_le _)) hg hj hne
end Go.Proofs.Ytkgcccllabofoaa
