/-
  Slices of ints that read as lists; a row of ints of the call's own; append one.
-/
import Derived.Test.YtojmkbhihnnmaaaRows
import Derived.Test.YtojmkbhihnnmaaaBlk
import Derived.Test.YtojmkbhihnnmaaaMix
import Derived.Handy
import Derived.WalkMore
import Derived.ScopeJumps
import Derived.Lib.Hide
import Derived.Deep.QuietTactic
import Derived.BigQuiet
import Derived.Deep.RegionWith
namespace Go.Proofs.Ytojmkbhihnnmaaa
open Go.RowKit

def vi (z : Int) : Value := .int .i64 z
def RdI (w : World) (A : Option Addr) (n : Nat) (l : List Int) : Prop := Rds w 1 A n (l.map vi)
section
variable {w w' : World} {n : Nat} {A : Option Addr} {l : List Int}
theorem RdI.len (h : RdI w A n l) : l.length = n := by have := h.1; simpa using this
theorem RdI.at_ (h : RdI w A n l) {k : Nat} (hk : k < n) : ∃ ad, A = some ad ∧ w.cell? (ad.add k) = some (.int .i64 (l[k]?.getD 0)) := by
  obtain ⟨ad, e, hc⟩ := h.2 (by omega)
  refine ⟨ad, e, hc k _ ?_⟩
  have hl := h.len
  rw [List.getElem?_map, List.getElem?_eq_getElem (by omega)]; rfl
theorem RdI.none_ : RdI w A 0 [] := Rds.none_
theorem RdI.below (h : RdI w A n l) (hb : Below w.heap.size w w') : RdI w' A n l := Rds.below h hb
theorem RdI.drewN (h : RdI w A n l) (k : Nat) : RdI (w.drewN k) A n l := h
theorem RdI.drew (h : RdI w A n l) : RdI w.drew A n l := h
theorem RdI.alloc (h : RdI w A n l) (o : Obj) : RdI (w.alloc o) A n l := Rds.alloc h o
theorem RdI.take (h : RdI w A n l) {k : Nat} (hk : k ≤ n) : RdI w A k (l.take k) := by
  have := Rds.take (size := 1) h hk
  simpa [RdI, List.map_take] using this
theorem RdI.of_own {base c : Nat} {e : TypeId} (h : w.ownsRow base e 1 (.slice A n c) n (l.map vi)) : RdI w A n l := Rds.of_own h
theorem vi_one (u : Value) (h : u ∈ l.map vi) : u.oneCell' = true := by
  obtain ⟨b, _, rfl⟩ := List.mem_map.1 h
  rfl
theorem RdI.lit (w : World) (T : TypeId) (fz : Nat × Nat) (l : List Int) (cs : Array Value) (n g : Nat) (hc : cs.toList = l.map vi) (hn : l.length = n) (hg : w.heap.size = g) :
    RdI (w.alloc (.cells cs T fz)) (some ⟨g, 0, none⟩) n l := by
  subst hg
  refine ⟨by simp [hn], fun _ => ⟨_, rfl, fun j u hu => ?_⟩⟩
  have e : (⟨w.heap.size, 0, none⟩ : Addr).add j = ⟨w.heap.size, j, none⟩ := by unfold Addr.add; split <;> simp [*]
  rw [e, cell_of_row _ _ j _ _ _ (heap_alloc_new w _), ← hu, ← hc]
  simp
theorem own_ints_at {base c : Nat} {e : TypeId} (h : w.ownsRow base e 1 (.slice A n c) n (l.map vi)) {k : Nat} (hk : k < n) :
    ∃ g, A = some ⟨g, 0, none⟩ ∧ base ≤ g ∧ w.cell? ⟨g, k, none⟩ = some (.int .i64 (l[k]?.getD 0)) ∧ w.frozen? ⟨g, k, none⟩ = false := by
  obtain ⟨g, cap, hv, hb, _⟩ := h.form (by omega)
  injection hv with hA _ hc
  subst hA; subst hc
  refine ⟨g, rfl, hb, ?_, h.frozenAt k⟩
  have hl : l.length = n := by have := h.1; simpa using this
  rw [h.cellAt k (by omega), List.getElem?_map, List.getElem?_eq_getElem (by omega)]; rfl
end
theorem own_bounds {w : World} {base e size n c : Nat} {A : Option Addr} {xs : List Value} (h : w.ownsRow base e size (.slice A n c) n xs) : n ≤ c ∧ c ≤ maxLen := by
  rcases h.2 with ⟨h0, _⟩ | ⟨g, cap, cur, h0, _, _, hnc, hm, _⟩
  · injection h0 with _ _ hc
    subst hc
    exact ⟨by omega, Nat.zero_le _⟩
  · injection h0 with _ _ hc
    subst hc
    exact ⟨hnc, hm⟩

theorem int_info : (Try.prog.info? 3).map (fun i => (i.zero, i.size, i.bytes)) = some (some (.int .i64 0), 1, 8) := by kernel_rfl
/-- append ints onto ints of the call's own -/
theorem wpList_append_is {w : World} {ops : Array Oper} {rest : List Oper} {o : Oper} {a : Act} {Q : Exit → Act → World → Prop} (hgd : o.guard = none) (s x : Operand)
    (ho : o.op = .call { callee := .builtin .append, args := #[s, x], argTypes := #[30, 30] })
    (base : Nat) {A : Option Addr} {n c : Nat} {l : List Int} (hs : a.eval s = .slice A n c) (hown : w.ownsRow base 3 1 (.slice A n c) n (l.map vi))
    {B : Option Addr} {m d : Nat} {r : List Int} (hx : a.eval x = .slice B m d) (hr : RdI w B m r) (hb : n + m ≤ 1000000000) (hbase : base ≤ w.heap.size)
    (h : ∀ A' c' w', w'.ownsRow base 3 1 (.slice A' (n + m) c') (n + m) ((l ++ r).map vi) → w.grownBy w' (Value.slice A n c).ownBlock → Below base w w' → wpList Try.prog ops Q rest (a.put o.dst (.slice A' (n + m) c')) w') : wpList Try.prog ops Q (o :: rest) a w := by
  obtain ⟨i0, hi0, hz0, hz1, hz2⟩ := info_parts int_info
  refine wpList_append_any w hgd s x 30 ho base 3 i0 _ 1 8 Try.underlying30 hi0 hz0 hz1 hz2 rfl (by omega) _ n _ hs hown B m d _ hx hr (fun u hu => vi_one u hu) (by unfold maxLen; omega) (by omega) hbase ?_
  intro A' c' w' h1 h2 _
  exact h A' c' w' (by rw [List.map_append]; exact h1) h2 (below_own hown h2 hbase)
/-- the same, at an op that is walked by itself -/
theorem step_append_is {w : World} {ops : Array Oper} {o : Oper} {a : Act} {K : Act → World → Prop} {Q : Exit → Act → World → Prop} {E : Prop} (hgd : o.guard = none) (s x : Operand)
    (ho : o.op = .call { callee := .builtin .append, args := #[s, x], argTypes := #[30, 30] })
    (base : Nat) {A : Option Addr} {n c : Nat} {l : List Int} (hs : a.eval s = .slice A n c) (hown : w.ownsRow base 3 1 (.slice A n c) n (l.map vi))
    {B : Option Addr} {m d : Nat} {r : List Int} (hx : a.eval x = .slice B m d) (hr : RdI w B m r) (hb : n + m ≤ 1000000000) (hbase : base ≤ w.heap.size)
    (h : ∀ A' c' w', w'.ownsRow base 3 1 (.slice A' (n + m) c') (n + m) ((l ++ r).map vi) → w.grownBy w' (Value.slice A n c).ownBlock → Below base w w' → K (a.put o.dst (.slice A' (n + m) c')) w') :
    if Region.wanted o (yielded ops a.tmps) = true then Oper.wp Try.prog o a w K Q else E := by
  obtain ⟨i0, hi0, hz0, hz1, hz2⟩ := info_parts int_info
  refine step_append_any w hgd s x 30 ho base 3 i0 _ 1 8 Try.underlying30 hi0 hz0 hz1 hz2 rfl (by omega) _ n _ hs hown B m d _ hx hr (fun u hu => vi_one u hu) (by unfold maxLen; omega) (by omega) hbase ?_
  intro A' c' w' h1 h2 _
  exact h A' c' w' (by rw [List.map_append]; exact h1) h2 (below_own hown h2 hbase)
end Go.Proofs.Ytojmkbhihnnmaaa
