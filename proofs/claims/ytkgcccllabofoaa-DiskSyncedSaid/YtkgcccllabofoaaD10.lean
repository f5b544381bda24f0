/-
  The disk: its state, and do.
-/
import Derived.Test.YtkgcccllabofoaaD9
namespace Go.Proofs.Ytkgcccllabofoaa
open Go.RowKit Go.Maps

/-- the block of bytes that is left alone; the blocks below b stay -/
structure Zb where
  z : Nat
  b : Nat
instance : Coe Zb Nat := ⟨Zb.z⟩
structure St where
  last : FS
  done : List Dd
  fuse : Option Nat
def doAll (G : FS) : List Dd → FS
  | [] => G
  | x :: l => doAll (doF G x) l
theorem doAll_snoc (G : FS) (l : List Dd) (x : Dd) : doAll G (l ++ [x]) = doF (doAll G l) x := by
  induction l generalizing G with
  | nil => rfl
  | cons y l ih => exact ih _
def okAll (G : FS) : List Dd → Prop
  | [] => True
  | x :: l => OkD G x ∧ okAll (doF G x) l
theorem okAll_snoc (G : FS) (l : List Dd) (x : Dd) (h : okAll G l) (hx : OkD (doAll G l) x) : okAll G (l ++ [x]) := by
  induction l generalizing G with
  | nil => exact ⟨hx, trivial⟩
  | cons y l ih => exact ⟨h.1, ih _ h.2 hx⟩
def St.files (S : St) : FS := doAll S.last S.done
def St.burn (S : St) : St := { S with fuse := S.fuse.map (· - 1) }
def St.put (S : St) (x : Dd) : St := { S.burn with done := S.done ++ [x] }

def deedC (xs : List (Value × Dd)) : List Value := xs.flatMap fun p => [.string p.2.name, p.1, .int .i64 (cutOf p.2)]
/-- the program's disk, in pieces -/
structure DkIn (z : Zb) (w : World) (g c : Nat) (S : St) (bl bf : Nat) (A : Option Addr) (n cp : Nat) (left : Int) (xs : List (Value × Dd)) : Prop where
  b : Blk w g 74 (dkCells bl bf A n cp S.fuse.isSome left)
  f : ∀ k, S.fuse = some k → left = k ∧ k ≤ 1099511627776
  ne : bl ≠ bf
  ml : MapB z w bl (c - S.done.length) S.last
  mf : MapB z w bf c S.files
  o : w.ownsRow z.b 78 3 (.slice A n cp) n (deedC xs)
  d : xs.map (·.2) = S.done
  v : ∀ p ∈ xs, BytesV z w p.1 p.2.data
  c : S.done.length ≤ c
  ok : okAll S.last S.done
  lo : z.b ≤ g ∧ z.b ≤ bl ∧ z.b ≤ bf
def DiskAt (z : Zb) (w : World) (g c : Nat) (S : St) : Prop := ∃ bl bf A n cp left xs, DkIn z w g c S bl bf A n cp left xs
theorem deedC_len (xs : List (Value × Dd)) : (deedC xs).length = 3 * xs.length := by
  unfold deedC
  induction xs with
  | nil => rfl
  | cons a l ih => simp [ih]; omega
section
variable {z : Zb} {g c bl bf n cp : Nat} {w w' : World} {S : St} {A : Option Addr} {left : Int} {xs : List (Value × Dd)}
theorem DkIn.len (h : DkIn z w g c S bl bf A n cp left xs) : n = S.done.length ∧ n = xs.length := by
  have h1 := h.o.1
  have h2 := congrArg List.length h.d
  rw [deedC_len] at h1
  rw [List.length_map] at h2
  omega
theorem DkIn.gl (h : DkIn z w g c S bl bf A n cp left xs) : g ≠ bl ∧ g ≠ bf := by
  have h1 := h.b
  unfold Blk at h1
  obtain ⟨F, ⟨es, clock, e1, _⟩, _⟩ := h.ml
  obtain ⟨F', ⟨es', clock', e2, _⟩, _⟩ := h.mf
  constructor
  · intro e; rw [e, e1] at h1; cases h1
  · intro e; rw [e, e2] at h1; cases h1
theorem DkIn.down (h : DkIn z w g c S bl bf A n cp left xs) : downF S.fuse.isSome left = decide (S.fuse = some 0) := by
  unfold downF
  cases hf : S.fuse with
  | none => rfl
  | some k =>
    have := (h.f k hf).1
    simp
    rw [this]
    exact ⟨fun h => by omega, fun h => by omega⟩
end
theorem own_same {w w' : World} {base : Nat} {e : TypeId} {size n : Nat} {v : Value} {xs : List Value} (h : w.ownsRow base e size v n xs) (hk : ∀ (j : Nat) (cs : Array Value), w.heap[j]? = some (Obj.cells cs e) → w'.heap[j]? = some (Obj.cells cs e)) : w'.ownsRow base e size v n xs := by
  refine ⟨h.1, ?_⟩
  rcases h.2 with h0 | ⟨g, cap, cur, h1, h2, h3, h4⟩
  · exact .inl h0
  · exact .inr ⟨g, cap, cur, h1, h2, hk _ _ h3, h4⟩
/-- the disk stays where what is there stays -/
theorem DkIn.kept {z : Zb} {g c bl bf n cp : Nat} {w w' : World} {S : St} {A : Option Addr} {left : Int} {xs : List (Value × Dd)} (h : DkIn z w g c S bl bf A n cp left xs)
    (hk : ∀ j o, w.heap[j]? = some o → (TP o = true ∨ (j ≠ z.z ∧ ∃ cs fz, o = .cells cs 5 fz)) → w'.heap[j]? = some o) : DkIn z w' g c S bl bf A n cp left xs := by
  have hv : ∀ v l, BytesV z w v l → BytesV z w' v l := fun v l hv => hv.kept fun j cs fz hz hj => hk j _ hj (.inr ⟨hz, cs, fz, rfl⟩)
  have hm : ∀ b k G, MapB z w b k G → MapB z w' b k G := fun b k G hm => by
    obtain ⟨F, ⟨es, clock, e1, e2⟩, hr⟩ := hm
    have : w'.heap[b]? = w.heap[b]? := by rw [e1]; exact hk b _ e1 (.inl rfl)
    exact MapB.keep ⟨F, ⟨es, clock, e1, e2⟩, hr⟩ this hv
  exact ⟨hk g _ h.b (.inl rfl), h.f, h.ne, hm _ _ _ h.ml, hm _ _ _ h.mf, own_same h.o fun j cs hj => hk j _ hj (.inl rfl), h.d, fun p hp => hv _ _ (h.v p hp), h.c, h.ok, h.lo⟩
theorem DiskAt.kept {z : Zb} {g c : Nat} {w w' : World} {S : St} (h : DiskAt z w g c S)
    (hk : ∀ j o, w.heap[j]? = some o → (TP o = true ∨ (j ≠ z.z ∧ ∃ cs fz, o = .cells cs 5 fz)) → w'.heap[j]? = some o) : DiskAt z w' g c S := by
  obtain ⟨bl, bf, A, n, cp, left, xs, h⟩ := h
  exact ⟨bl, bf, A, n, cp, left, xs, h.kept hk⟩
theorem DiskAt.below {z : Zb} {g c : Nat} {w w' : World} {S : St} (h : DiskAt z w g c S) (hb : Below w.heap.size w w') : DiskAt z w' g c S :=
  h.kept fun j _ hj _ => (hb.block j (lt_of_heap hj)).trans hj
theorem DiskAt.more {z : Zb} {g c : Nat} {w : World} {S : St} (h : DiskAt z w g c S) {c' : Nat} (hc : c ≤ c') : DiskAt z w g c' S := by
  obtain ⟨bl, bf, A, n, cp, left, xs, h⟩ := h
  exact ⟨bl, bf, A, n, cp, left, xs, h.b, h.f, h.ne, h.ml.more (by omega), h.mf.more hc, h.o, h.d, h.v, Nat.le_trans h.c hc, h.ok, h.lo⟩
theorem deed_info : (Try.prog.info? 78).map (fun i => (i.zero, i.size, i.bytes)) = some (some (.agg #[.string ByteArray.empty, .slice none 0 0, .int .i64 0]), 3, 48) := by kernel_rfl
/-- append one deed -/
theorem wpList_append_dd {w : World} {ops : Array Oper} {rest : List Oper} {o : Oper} {a : Act} {Q : Exit → Act → World → Prop} (hgd : o.guard = none) (s x : Operand)
    (ho : o.op = .call { callee := .builtin .append, args := #[s, x], argTypes := #[72, 72] })
    {A : Option Addr} {n cp : Nat} {ys : List Value} (hs : a.eval s = .slice A n cp) {base : Nat} (hbase : base ≤ w.heap.size) (hown : w.ownsRow base 78 3 (.slice A n cp) n ys)
    (g d : Nat) (u0 u1 u2 : Value) (hx : a.eval x = .slice (some ⟨g, 0, none⟩) 1 d) (hb : Blk w g 78 #[u0, u1, u2]) (h1 : ∀ u ∈ [u0, u1, u2], u.oneCell' = true) (hn : n ≤ 1000000)
    (h : ∀ A' c' w', w'.ownsRow base 78 3 (.slice A' (n + 1) c') (n + 1) (ys ++ [u0, u1, u2]) → w.grownBy w' (Value.slice A n cp).ownBlock → wpList Try.prog ops Q rest (a.put o.dst (.slice A' (n + 1) c')) w') : wpList Try.prog ops Q (o :: rest) a w := by
  obtain ⟨i0, hi0, hz0, hz1, hz2⟩ := info_parts deed_info
  refine wpList_append_any w hgd s x 72 ho base 78 i0 _ 3 48 Try.underlying72 hi0 hz0 hz1 hz2 rfl (by omega) (.slice A n cp) n _ hs hown (some ⟨g, 0, none⟩) 1 d [u0, u1, u2] hx ⟨rfl, fun _ => ⟨_, rfl, fun j u hu => ?_⟩⟩ h1 (by unfold maxLen; omega) (by omega) hbase fun A' c' w' h1 h2 _ => ?_
  · have e : (⟨g, 0, none⟩ : Addr).add j = ⟨g, j, none⟩ := by unfold Addr.add; split <;> simp [*]
    rw [e, hb.cell j, ← hu]
    simp
  · exact h A' c' w' h1 h2
theorem step_append_dd {w : World} {ops : Array Oper} {o : Oper} {a : Act} {K : Act → World → Prop} {Q : Exit → Act → World → Prop} {E : Prop} (hgd : o.guard = none) (s x : Operand)
    (ho : o.op = .call { callee := .builtin .append, args := #[s, x], argTypes := #[72, 72] })
    {A : Option Addr} {n cp : Nat} {ys : List Value} (hs : a.eval s = .slice A n cp) {base : Nat} (hbase : base ≤ w.heap.size) (hown : w.ownsRow base 78 3 (.slice A n cp) n ys)
    (g d : Nat) (u0 u1 u2 : Value) (hx : a.eval x = .slice (some ⟨g, 0, none⟩) 1 d) (hb : Blk w g 78 #[u0, u1, u2]) (h1 : ∀ u ∈ [u0, u1, u2], u.oneCell' = true) (hn : n ≤ 1000000)
    (h : ∀ A' c' w', w'.ownsRow base 78 3 (.slice A' (n + 1) c') (n + 1) (ys ++ [u0, u1, u2]) → w.grownBy w' (Value.slice A n cp).ownBlock → K (a.put o.dst (.slice A' (n + 1) c')) w') :
    if Region.wanted o (yielded ops a.tmps) = true then Oper.wp Try.prog o a w K Q else E := by
  obtain ⟨i0, hi0, hz0, hz1, hz2⟩ := info_parts deed_info
  refine step_append_any w hgd s x 72 ho base 78 i0 _ 3 48 Try.underlying72 hi0 hz0 hz1 hz2 rfl (by omega) (.slice A n cp) n _ hs hown (some ⟨g, 0, none⟩) 1 d [u0, u1, u2] hx ⟨rfl, fun _ => ⟨_, rfl, fun j u hu => ?_⟩⟩ h1 (by unfold maxLen; omega) (by omega) hbase fun A' c' w' h1 h2 _ => ?_
  · have e : (⟨g, 0, none⟩ : Addr).add j = ⟨g, j, none⟩ := by unfold Addr.add; split <;> simp [*]
    rw [e, hb.cell j, ← hu]
    simp
  · exact h A' c' w' h1 h2
end Go.Proofs.Ytkgcccllabofoaa
