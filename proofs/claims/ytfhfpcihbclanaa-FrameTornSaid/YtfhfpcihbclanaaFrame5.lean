/-
  Lists of frames in memory; append onto one; are two the same?
-/
import Derived.Test.YtfhfpcihbclanaaFrame4
namespace Go.Proofs.Ytfhfpcihbclanaa
open Go.RowKit

/-- a frame as it lies: its body's address and room -/
structure Lie where
  fr : Fr
  A : Option Addr
  c : Nat
def Lie.val (y : Lie) : Value := .slice y.A y.fr.body.length y.c
def Lie.cells (y : Lie) : List Value := [.int .i64 (y.fr.kind : Nat), y.val]
def lies (ys : List Lie) : List Value := ys.flatMap Lie.cells
theorem lies_len (ys : List Lie) : (lies ys).length = ys.length * 2 := by
  induction ys with
  | nil => rfl
  | cons y ys ih => simp only [lies, List.flatMap_cons, List.length_append, List.length_cons] at ih ⊢; rw [ih]; simp [Lie.cells]; omega
theorem lies_snoc (ys : List Lie) (y : Lie) : lies (ys ++ [y]) = lies ys ++ y.cells := by simp [lies, List.flatMap_append]
theorem lies_at (ys : List Lie) : ∀ (k : Nat) (y : Lie), ys[k]? = some y → (lies ys)[k * 2]? = some (.int .i64 (y.fr.kind : Nat)) ∧ (lies ys)[k * 2 + 1]? = some y.val := by
  induction ys with
  | nil => intro k y h; simp at h
  | cons z zs ih =>
    intro k y h
    have e : lies (z :: zs) = z.cells ++ lies zs := by simp [lies]
    cases k with
    | zero =>
      have hz : z = y := by simpa using h
      subst hz
      rw [e]; exact ⟨rfl, rfl⟩
    | succ k =>
      have := ih k y (by simpa using h)
      rw [e, show (k + 1) * 2 = k * 2 + 2 by omega]
      exact ⟨by simpa [Lie.cells] using this.1, by simpa [Lie.cells] using this.2⟩
theorem lies_take (ys : List Lie) (k : Nat) : (lies ys).take (k * 2) = lies (ys.take k) := by
  induction ys generalizing k with
  | nil => simp [lies]
  | cons z zs ih =>
    cases k with
    | zero => simp [lies]
    | succ k =>
      have e : lies (z :: zs) = z.cells ++ lies zs := by simp [lies]
      have e2 : lies ((z :: zs).take (k + 1)) = z.cells ++ lies (zs.take k) := by simp [lies]
      rw [e, e2, ← ih k, show (k + 1) * 2 = k * 2 + 2 by omega]
      simp [Lie.cells]
theorem lies_one (ys : List Lie) (u : Value) (h : u ∈ lies ys) : u.oneCell' = true := by
  obtain ⟨y, _, h⟩ := List.mem_flatMap.1 h
  simp only [Lie.cells, List.mem_cons, List.not_mem_nil, or_false] at h
  rcases h with rfl | rfl <;> rfl

/-- a slice of frames that reads as xs -/
def RdF (w : World) (A : Option Addr) (n : Nat) (xs : List Fr) : Prop :=
  ∃ ys : List Lie, ys.map Lie.fr = xs ∧ Rds w 2 A n (lies ys) ∧ ∀ y ∈ ys, Rd w y.A y.fr.body.length y.fr.body ∧ y.fr.body.length ≤ y.c ∧ y.c ≤ maxLen
theorem RdF.len {w : World} {A : Option Addr} {n : Nat} {xs : List Fr} (h : RdF w A n xs) : xs.length = n := by
  obtain ⟨ys, rfl, h1, _⟩ := h
  have := h1.1
  rw [lies_len] at this
  simp; omega
theorem RdF.below {w w' : World} {A : Option Addr} {n : Nat} {xs : List Fr} (h : RdF w A n xs) (hb : Below w.heap.size w w') : RdF w' A n xs := by
  obtain ⟨ys, e, h1, h2⟩ := h
  exact ⟨ys, e, h1.below hb, fun y hy => ⟨(h2 y hy).1.below hb, (h2 y hy).2⟩⟩
theorem RdF.at_ {w : World} {A : Option Addr} {n : Nat} {xs : List Fr} (h : RdF w A n xs) {k : Nat} (hk : k < n) :
    ∃ (ad : Addr) (B : Option Addr) (m c kd : Nat) (body : List UInt8), xs[k]? = some ⟨kd, body⟩ ∧ A = some ad ∧ w.cell? (ad.add (k * 2)) = some (.int .i64 (kd : Nat)) ∧ w.cell? ⟨(ad.add (k * 2)).block, (ad.add (k * 2)).off + 1, none⟩ = some (.slice B m c) ∧ Rd w B m body ∧ m ≤ c ∧ c ≤ maxLen := by
  obtain ⟨ys, rfl, h1, h2⟩ := h
  have hl := h1.1
  rw [lies_len] at hl
  obtain ⟨ad, e, hc⟩ := h1.2 (by omega)
  have hy : ys[k]? = some (ys[k]'(by omega)) := List.getElem?_eq_getElem (by omega)
  have hm := h2 _ (List.getElem_mem (show k < ys.length by omega))
  generalize ys[k]'(by omega) = y at hy hm
  obtain ⟨⟨kd, body⟩, B, c⟩ := y
  have ha := lies_at ys k _ hy
  exact ⟨ad, B, body.length, c, kd, body, by rw [List.getElem?_map, hy]; rfl, e, hc _ _ ha.1, (congrArg w.cell? (add_of_add ad (k * 2) 1)).trans (hc _ _ ha.2), hm.1, hm.2⟩
theorem RdF.take {w : World} {A : Option Addr} {n : Nat} {xs : List Fr} (h : RdF w A n xs) {k : Nat} (hk : k ≤ n) : RdF w A k (xs.take k) := by
  obtain ⟨ys, rfl, h1, h2⟩ := h
  refine ⟨ys.take k, by simp [List.map_take], ?_, fun y hy => h2 y (List.mem_of_mem_take hy)⟩
  rw [← lies_take]
  exact h1.take hk

/-- a slice of frames that is the call's own, its bodies too -/
def OwnF (w : World) (base : Nat) (T : TypeId) (A : Option Addr) (n c : Nat) (xs : List Fr) : Prop :=
  ∃ ys : List Lie, ys.map Lie.fr = xs ∧ w.ownsRow base T 2 (.slice A n c) n (lies ys) ∧ ∀ y ∈ ys, w.ownsRow base 5 1 y.val y.fr.body.length (y.fr.body.map vb)
theorem own_bounds {w : World} {base e size n c : Nat} {A : Option Addr} {xs : List Value} (h : w.ownsRow base e size (.slice A n c) n xs) : n ≤ c ∧ c ≤ maxLen := by
  rcases h.2 with ⟨h0, _⟩ | ⟨g, cap, cur, h0, _, _, hnc, hm, _⟩
  · injection h0 with _ _ hc
    subst hc
    exact ⟨by omega, Nat.zero_le _⟩
  · injection h0 with _ _ hc
    subst hc
    exact ⟨hnc, hm⟩
theorem OwnF.reads {w : World} {base : Nat} {T : TypeId} {A : Option Addr} {n c : Nat} {xs : List Fr} (h : OwnF w base T A n c xs) : RdF w A n xs := by
  obtain ⟨ys, e, h1, h2⟩ := h
  exact ⟨ys, e, Rds.of_own h1, fun y hy => ⟨Rd.of_own (h2 y hy), own_bounds (h2 y hy)⟩⟩
theorem OwnF.nil (w : World) (base : Nat) (T : TypeId) : OwnF w base T none 0 0 [] := ⟨[], rfl, own_nil _ _, fun y hy => absurd hy (by simp)⟩
theorem OwnF.below {w w' : World} {base : Nat} {T : TypeId} {A : Option Addr} {n c : Nat} {xs : List Fr} (h : OwnF w base T A n c xs) (hb : Below w.heap.size w w') : OwnF w' base T A n c xs := by
  obtain ⟨ys, e, h1, h2⟩ := h
  exact ⟨ys, e, own_below h1 hb, fun y hy => own_below (h2 y hy) hb⟩
/-- growing one row leaves a row of another type as it is -/
theorem own_grown {w w' : World} {base base' : Nat} {T e : TypeId} {size size' n m c : Nat} {A : Option Addr} {v : Value} {xs us : List Value} (hT : T ≠ e) (h : w.ownsRow base T size (.slice A n c) n xs)
    (hv : w.ownsRow base' e size' v m us) (hg : w.grownBy w' (Value.slice A n c).ownBlock) : w'.ownsRow base' e size' v m us := by
  refine ⟨hv.1, ?_⟩
  rcases hv.2 with h0 | ⟨g, cap, cur, h1, h2, h3, h4⟩
  · exact .inl h0
  · refine .inr ⟨g, cap, cur, h1, h2, (hg.block g ?_ ?_).trans h3, h4⟩
    · rcases Nat.lt_or_ge g w.heap.size with hlt | hge
      · exact hlt
      · rw [Array.getElem?_eq_none hge] at h3; cases h3
    · intro hgo
      rcases h.2 with ⟨h0, _⟩ | ⟨g', cap', cur', h0, _, h3', _⟩
      · rw [h0] at hgo; cases hgo
      · rw [h0] at hgo
        injection hgo with hgo
        rw [← show g = g' from hgo, h3] at h3'
        injection h3' with h3'
        injection h3' with _ ht _
        exact hT ht.symm

section
variable {P : Program} {w : World}
theorem wpList_append_f {ops : Array Oper} {rest : List Oper} {o : Oper} {a : Act} {Q : Exit → Act → World → Prop} (hgd : o.guard = none) (s x : Operand) (t : TypeId)
    (ho : o.op = .call { callee := .builtin .append, args := #[s, x], argTypes := #[t, t] })
    (base : Nat) (e : TypeId) (ht : P.underlying t = some (.slice e)) (hinfo : (P.info? e).map (fun i => (i.zero, i.size, i.bytes)) = some (some (.agg #[.int .i64 0, .slice none 0 0]), 2, 32))
    (A : Option Addr) (n c : Nat) (ys : List Lie) (hs : a.eval s = .slice A n c) (hown : w.ownsRow base e 2 (.slice A n c) n (lies ys))
    (g d : Nat) (y : Lie) (B : Option Addr) (m r k : Nat) (hy : y.fr.kind = k ∧ y.A = B ∧ y.fr.body.length = m ∧ y.c = r) (hx : a.eval x = .slice (some ⟨g, 0, none⟩) 1 d) (hb : Blk w g e #[.int .i64 (k : Nat), .slice B m r])
    (h63 : n + 1 ≤ 1000000000) (hbase : base ≤ w.heap.size)
    (h : ∀ A' c' w', w'.ownsRow base e 2 (.slice A' (n + 1) c') (n + 1) (lies (ys ++ [y])) → w.grownBy w' (Value.slice A n c).ownBlock → Below base w w' → wpList P ops Q rest (a.put o.dst (.slice A' (n + 1) c')) w') : wpList P ops Q (o :: rest) a w := by
  obtain ⟨rfl, rfl, rfl, rfl⟩ := hy
  obtain ⟨i, hi, hz, hsize, hby⟩ := info_parts hinfo
  refine wpList_append_any w hgd s x t ho base e i _ 2 32 ht hi hz hsize hby rfl (by omega) (.slice A n c) n (lies ys) hs hown (some ⟨g, 0, none⟩) 1 d y.cells hx ⟨rfl, fun _ => ⟨_, rfl, fun j u hu => ?_⟩⟩ (fun u hu => lies_one [y] u (by simpa [lies] using hu)) (by unfold maxLen; omega) (by omega) hbase fun A' c' w' h1 h2 _ => ?_
  · have e1 : (⟨g, 0, none⟩ : Addr).add j = ⟨g, j, none⟩ := by unfold Addr.add; split <;> simp [*]
    rw [e1, hb.cell j, ← hu]
    simp [Lie.cells, Lie.val]
  · exact h A' c' w' (by rw [lies_snoc]; exact h1) h2 (below_own hown h2 hbase)
end
theorem fr_info : (Try.prog.info? 43).map (fun i => (i.zero, i.size, i.bytes)) = some (some (.agg #[.int .i64 0, .slice none 0 0]), 2, 32) := by kernel_rfl
theorem rfr_info : (Try.prog.info? 46).map (fun i => (i.zero, i.size, i.bytes)) = some (some (.agg #[.int .i64 0, .slice none 0 0]), 2, 32) := by kernel_rfl
end Go.Proofs.Ytfhfpcihbclanaa
