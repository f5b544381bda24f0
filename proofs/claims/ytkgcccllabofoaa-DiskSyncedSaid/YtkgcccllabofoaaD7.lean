/-
  The disk: frames by the kind of a block; bytes as values.
-/
import Derived.Test.YtkgcccllabofoaaD6
namespace Go.Proofs.Ytkgcccllabofoaa
open Go.RowKit Go.Maps

/-- from w to w' only blocks from base on turn, of a kind that T tells -/
structure Chg (base : Nat) (T : Obj → Bool) (w w' : World) : Prop where
  os : w'.os = w.os
  tape : w'.tape = w.tape
  output : w'.output = w.output
  size : w.heap.size ≤ w'.heap.size
  block : ∀ j o, w.heap[j]? = some o → (j < base ∨ T o = false) → w'.heap[j]? = some o
/-- what the program's functions turn -/
def TP : Obj → Bool
  | .map _ _ => true
  | .cells _ t _ => t == 74 || t == 78
  | _ => false
/-- what the reference's functions turn -/
def TR : Obj → Bool
  | .cells _ t _ => t == 38 || t == 85
  | _ => false
def TN : Obj → Bool := fun _ => false
section
variable {base : Nat} {T : Obj → Bool} {w w' w'' : World}
theorem Chg.refl (base : Nat) (T : Obj → Bool) (w : World) : Chg base T w w := ⟨rfl, rfl, rfl, Nat.le_refl _, fun _ _ h _ => h⟩
theorem Chg.trans (h : Chg base T w w') (k : Chg base T w' w'') : Chg base T w w'' :=
  ⟨k.os.trans h.os, k.tape.trans h.tape, k.output.trans h.output, Nat.le_trans h.size k.size, fun j o hj ho => k.block j o (h.block j o hj ho) ho⟩
theorem Chg.below (h : Chg base T w w') (hb : base ≤ w.heap.size) : Below base w w' :=
  ⟨h.os, h.tape, h.output, h.size, fun j hj => by
    have : j < w.heap.size := by omega
    have e : w.heap[j]? = some (w.heap[j]) := Array.getElem?_eq_getElem this
    rw [e]; exact h.block j _ e (.inl hj)⟩
theorem Chg.of_below (h : Below w.heap.size w w') : Chg base T w w' :=
  ⟨h.os, h.tape, h.output, h.size, fun j o hj _ => by
    have : j < w.heap.size := by
      rcases Nat.lt_or_ge j w.heap.size with hlt | hge
      · exact hlt
      · rw [Array.getElem?_eq_none hge] at hj; cases hj
    exact (h.block j this).trans hj⟩
theorem Chg.of_grown {g : Nat} (h : w.grownBy w' (some g)) (hg : base ≤ g) (hT : ∀ o, w.heap[g]? = some o → T o = true) : Chg base T w w' :=
  ⟨h.os, h.tape, h.output, h.size, fun j o hj ho => by
    have hlt : j < w.heap.size := by
      rcases Nat.lt_or_ge j w.heap.size with hlt | hge
      · exact hlt
      · rw [Array.getElem?_eq_none hge] at hj; cases hj
    by_cases e : j = g
    · subst e
      rcases ho with h1 | h1
      · omega
      · rw [hT o hj] at h1; cases h1
    · exact (h.block j hlt (fun h => e (Option.some.inj h))).trans hj⟩
theorem Chg.drewN (h : Chg base T w w') (n : Nat) : Chg base T w (w'.drewN n) := ⟨h.os, h.tape, h.output, h.size, h.block⟩
theorem Chg.blk (h : Chg base T w w') {g : Nat} {t : TypeId} {cs : Array Value} (hb : Blk w g t cs) (hT : T (.cells cs t (0, 0)) = false) : Blk w' g t cs := h.block g _ hb (.inr hT)
theorem Chg.map (h : Chg base T w w') {b k : Nat} {F : ByteArray → Option Value} (hm : MapAt w b k F) (hT : ∀ es c, T (.map es c) = false) : MapAt w' b k F := by
  have hm' := hm
  obtain ⟨es, clock, hb, _⟩ := hm'
  exact hm.keep ((h.block b _ hb (.inr (hT _ _))).trans hb.symm)
end

/-- a value that is bytes, in a block of bytes, not the block z -/
def BytesV (z : Nat) (w : World) (v : Value) (l : List UInt8) : Prop :=
  ∃ (A : Option Addr) (n c : Nat), v = .slice A n c ∧ Rd w A n l ∧ n ≤ c ∧ c ≤ maxLen ∧ ∀ ad, A = some ad → ad.block ≠ z ∧ ∃ cs fz, w.heap[ad.block]? = some (.cells cs 5 fz)
theorem BytesV.kept {z : Nat} {w w' : World} {v : Value} {l : List UInt8} (h : BytesV z w v l) (hc : ∀ j cs fz, j ≠ z → w.heap[j]? = some (.cells cs 5 fz) → w'.heap[j]? = some (.cells cs 5 fz)) : BytesV z w' v l := by
  obtain ⟨A, n, c, rfl, hr, hn, hm, hk⟩ := h
  refine ⟨A, n, c, rfl, ⟨hr.1, fun h0 => ?_⟩, hn, hm, fun ad e => ?_⟩
  · obtain ⟨ad, rfl, hcell⟩ := hr.2 h0
    obtain ⟨hz, cs, fz, hb⟩ := hk ad rfl
    have hb' := hc _ _ _ hz hb
    refine ⟨ad, rfl, fun j u hu => ?_⟩
    have h1 := hcell j u hu
    have e : (ad.add j).block = ad.block := block_of_add ad j
    rw [← h1]
    exact World.cell?_of_block (by rw [e, hb', hb])
  · obtain ⟨hz, cs, fz, hb⟩ := hk ad e
    exact ⟨hz, cs, fz, hc _ _ _ hz hb⟩
theorem BytesV.chg {z base : Nat} {T : Obj → Bool} {w w' : World} {v : Value} {l : List UInt8} (h : BytesV z w v l) (hc : Chg base T w w') (hT : ∀ cs fz, T (.cells cs 5 fz) = false) : BytesV z w' v l :=
  h.kept fun _ _ _ _ hb => hc.block _ _ hb (.inr (hT _ _))
theorem lt_of_heap {w : World} {j : Nat} {o : Obj} (h : w.heap[j]? = some o) : j < w.heap.size := by
  rcases Nat.lt_or_ge j w.heap.size with hlt | hge
  · exact hlt
  · rw [Array.getElem?_eq_none hge] at h; cases h
theorem BytesV.below {z : Nat} {w w' : World} {v : Value} {l : List UInt8} (h : BytesV z w v l) (hb : Below w.heap.size w w') : BytesV z w' v l :=
  h.kept fun j _ _ _ hj => (hb.block j (lt_of_heap hj)).trans hj
/-- a block that is no row of bytes, or the block z, has turned -/
theorem BytesV.grown {z g : Nat} {w w' : World} {v : Value} {l : List UInt8} (h : BytesV z w v l) (hg : w.grownBy w' (some g)) (hT : g = z ∨ ∀ cs fz, w.heap[g]? ≠ some (.cells cs 5 fz)) : BytesV z w' v l :=
  h.kept fun j cs fz hz hj => (hg.block j (lt_of_heap hj) (fun e => by
    injection e with e
    subst e
    rcases hT with h1 | h1
    · exact hz h1
    · exact h1 _ _ hj)).trans hj
/-- another block is to be left alone -/
theorem BytesV.turn {z z' : Nat} {w : World} {v : Value} {l : List UInt8} (h : BytesV z w v l) (hz : w.heap.size ≤ z') : BytesV z' w v l := by
  obtain ⟨A, n, c, rfl, hr, hn, hm, hk⟩ := h
  refine ⟨A, n, c, rfl, hr, hn, hm, fun ad e => ?_⟩
  obtain ⟨_, cs, fz, hb⟩ := hk ad e
  have := lt_of_heap hb
  exact ⟨by omega, cs, fz, hb⟩
theorem BytesV.of_own {z : Nat} {w : World} {base n c : Nat} {A : Option Addr} {l : List UInt8} (h : w.ownsRow base 5 1 (.slice A n c) n (l.map vb)) (hz : z < base) : BytesV z w (.slice A n c) l := by
  have hb := own_bounds h
  refine ⟨A, n, c, rfl, Rd.of_own h, hb.1, hb.2, fun ad e => ?_⟩
  subst e
  rcases h.2 with ⟨h0, _⟩ | ⟨g, cap, cur, h0, h2, h3, _⟩
  · cases h0
  · injection h0 with h1
    injection h1 with h1
    subst h1
    exact ⟨by show g ≠ z; omega, cur, _, h3⟩
theorem BytesV.nil (z : Nat) (w : World) : BytesV z w (.slice none 0 0) [] := ⟨none, 0, 0, rfl, Rd.none_, Nat.le_refl _, Nat.zero_le _, fun ad h => by cases h⟩
theorem BytesV.len {z : Nat} {w : World} {A : Option Addr} {n c : Nat} {l : List UInt8} (h : BytesV z w (.slice A n c) l) : l.length = n := by
  obtain ⟨A', n', c', e, hr, _⟩ := h
  injection e with e1 e2 e3
  subst e1; subst e2; subst e3
  exact hr.len
theorem BytesV.get {z : Nat} {w : World} {A : Option Addr} {n c : Nat} {l : List UInt8} (h : BytesV z w (.slice A n c) l) : Rd w A n l ∧ n ≤ c ∧ c ≤ maxLen := by
  obtain ⟨A', n', c', e, hr, h1, h2, _⟩ := h
  injection e with e1 e2 e3
  subst e1; subst e2; subst e3
  exact ⟨hr, h1, h2⟩
theorem BytesV.cut {z : Nat} {w : World} {A : Option Addr} {n c k : Nat} {l : List UInt8} (h : BytesV z w (.slice A n c) l) (hk : k ≤ n) : BytesV z w (.slice A k c) (l.take k) := by
  obtain ⟨A', n', c', e, hr, h1, h2, h3⟩ := h
  injection e with e1 e2 e3
  subst e1; subst e2; subst e3
  exact ⟨A, k, c, rfl, hr.take hk, by omega, h2, h3⟩

/-! a class of worlds: some blocks stay -/
def Keep (gs : List Nat) (w : World) : Type := { w' : World // ∀ g ∈ gs, w'.heap[g]? = w.heap[g]? }
instance (gs : List Nat) (w : World) : Nonempty (Keep gs w) := ⟨⟨w, fun _ _ => rfl⟩⟩
def keepW (gs : List Nat) (w : World) : World → Prop := fun w' => ∃ x : Keep gs w, w' = x.1
attribute [go_sem] keepW
theorem keepW_refl {gs : List Nat} {w : World} : keepW gs w w.drew := ⟨⟨w.drew, fun _ _ => rfl⟩, rfl⟩
theorem keepW_of {gs : List Nat} {w w' : World} (h : ∀ g ∈ gs, w'.heap[g]? = w.heap[g]?) : keepW gs w w' := ⟨⟨w', h⟩, rfl⟩
theorem keepW_trans {gs : List Nat} {w w' w'' : World} (h : keepW gs w w') (h' : ∀ g ∈ gs, w''.heap[g]? = w'.heap[g]?) : keepW gs w w'' := by
  obtain ⟨x, rfl⟩ := h
  exact ⟨⟨w'', fun g hg => (h' g hg).trans (x.2 g hg)⟩, rfl⟩
theorem keep_cell {gs : List Nat} {w : World} {p : Addr} {v : Value} (h : w.cell? p = some v) (hp : p.block ∈ gs) : ∀ x : Keep gs w, x.1.cell? p = some v :=
  fun x => by rw [← h]; exact World.cell?_of_block (x.2 _ hp)
end Go.Proofs.Ytkgcccllabofoaa
