/-
  The disk's answer: its state, Files.
-/
import Derived.Test.YtkgcccllabofoaaE3
namespace Go.Proofs.Ytkgcccllabofoaa
open Go.RowKit Go.Maps

structure Rt where
  last : FL
  done : List Dd
  fuse : Option Nat
def Rt.st (R : Rt) : St := ⟨lookL R.last, R.done, R.fuse⟩
def Rt.files (R : Rt) : FL := doAllL R.last R.done
def rdeedC (xs : List (Value × Dd)) : List Value := xs.flatMap fun p => [.int .i64 (p.2.kind : Nat), .string p.2.name, p.1, .int .i64 (p.2.n : Nat)]
theorem rdeedC_len (xs : List (Value × Dd)) : (rdeedC xs).length = 4 * xs.length := by
  unfold rdeedC
  induction xs with
  | nil => rfl
  | cons a l ih => simp [ih]; omega
theorem rdeedC_at (xs : List (Value × Dd)) (i : Nat) (p : Value × Dd) (h : xs[i]? = some p) : (rdeedC xs)[i * 4]? = some (.int .i64 (p.2.kind : Nat)) ∧ (rdeedC xs)[i * 4 + 1]? = some (.string p.2.name) ∧ (rdeedC xs)[i * 4 + 2]? = some p.1 ∧ (rdeedC xs)[i * 4 + 3]? = some (.int .i64 (p.2.n : Nat)) := by
  induction xs generalizing i with
  | nil => simp at h
  | cons a l ih =>
    cases i with
    | zero =>
      simp only [List.getElem?_cons_zero, Option.some.injEq] at h
      subst h
      exact ⟨rfl, rfl, rfl, rfl⟩
    | succ i =>
      simp only [List.getElem?_cons_succ] at h
      have e : rdeedC (a :: l) = .int .i64 (a.2.kind : Nat) :: .string a.2.name :: a.1 :: .int .i64 (a.2.n : Nat) :: rdeedC l := rfl
      have := ih i h
      rw [e, show (i + 1) * 4 = i * 4 + 1 + 1 + 1 + 1 by omega, show (i * 4 + 1 + 1 + 1 + 1) + 1 = (i * 4 + 1) + 1 + 1 + 1 + 1 by omega, show (i * 4 + 1 + 1 + 1 + 1) + 2 = (i * 4 + 2) + 1 + 1 + 1 + 1 by omega, show (i * 4 + 1 + 1 + 1 + 1) + 3 = (i * 4 + 3) + 1 + 1 + 1 + 1 by omega]
      simp only [List.getElem?_cons_succ]
      exact this
/-- the answer's disk, in pieces -/
structure RfIn (z : Zb) (w : World) (g c : Nat) (R : Rt) (A : Option Addr) (n cp : Nat) (ys : List FV) (B : Option Addr) (m cq : Nat) (left : Int) (xs : List (Value × Dd)) : Prop where
  b : Blk w g 38 (rfCells (.slice A n cp) B m cq R.fuse.isSome left)
  f : ∀ k, R.fuse = some k → left = k ∧ k ≤ 1099511627776
  l : FilesV z w A n cp ys R.last
  o : w.ownsRow z.b 85 4 (.slice B m cq) m (rdeedC xs)
  d : xs.map (·.2) = R.done
  v : ∀ p ∈ xs, BytesV z w p.1 p.2.data
  c : R.last.length + R.done.length ≤ c
  ok : okAll (lookL R.last) R.done
  s : srt (nms R.last)
  lo : z.b ≤ g
def RefAt (z : Zb) (w : World) (g c : Nat) (R : Rt) : Prop := ∃ A n cp ys B m cq left xs, RfIn z w g c R A n cp ys B m cq left xs
section
variable {z : Zb} {g c n cp m cq : Nat} {w w' : World} {R : Rt} {A B : Option Addr} {ys : List FV} {left : Int} {xs : List (Value × Dd)}
theorem RfIn.get (h : RfIn z w g c R A n cp ys B m cq left xs) : RefAt z w g c R := ⟨A, n, cp, ys, B, m, cq, left, xs, h⟩
theorem RfIn.len (h : RfIn z w g c R A n cp ys B m cq left xs) : m = R.done.length ∧ m = xs.length ∧ n = R.last.length := by
  have h1 := h.o.1
  have h2 := congrArg List.length h.d
  have h3 := h.l.len
  rw [rdeedC_len] at h1
  rw [List.length_map] at h2
  omega
theorem RfIn.down (h : RfIn z w g c R A n cp ys B m cq left xs) : downF R.fuse.isSome left = decide (R.fuse = some 0) := by
  unfold downF
  cases hf : R.fuse with
  | none => rfl
  | some k =>
    have := (h.f k hf).1
    simp
    rw [this]
    exact ⟨fun h => by omega, fun h => by omega⟩
theorem RfIn.kept (h : RfIn z w g c R A n cp ys B m cq left xs)
    (hk : ∀ j o, w.heap[j]? = some o → (TR o = true ∨ (∃ cs, o = .cells cs 93 (0, 0)) ∨ (j ≠ z.z ∧ ∃ cs fz, o = .cells cs 5 fz)) → w'.heap[j]? = some o) : RfIn z w' g c R A n cp ys B m cq left xs :=
  ⟨hk g _ h.b (.inl rfl), h.f, h.l.kept fun j o hj ho => hk j o hj (.inr ho), own_same h.o fun j _ hj => hk j _ hj (.inl rfl), h.d, fun p hp => (h.v p hp).kept fun j cs fz hz hj => hk j _ hj (.inr (.inr ⟨hz, cs, fz, rfl⟩)), h.c, h.ok, h.s, h.lo⟩
theorem RfIn.below (h : RfIn z w g c R A n cp ys B m cq left xs) (hb : Below w.heap.size w w') : RfIn z w' g c R A n cp ys B m cq left xs := h.kept fun j _ hj _ => (hb.block j (lt_of_heap hj)).trans hj
/-- the cells of the deed i -/
theorem RfIn.at_ (h : RfIn z w g c R A n cp ys B m cq left xs) {i : Nat} (hi : i < m) :
    ∃ gr x X, B = some ⟨gr, 0, none⟩ ∧ gr < w.heap.size ∧ R.done[i]? = some x ∧ BytesV z w X x.data ∧ w.cell? ⟨gr, i * 4, none⟩ = some (.int .i64 (x.kind : Nat)) ∧ w.cell? ⟨gr, i * 4 + 1, none⟩ = some (.string x.name) ∧ w.cell? ⟨gr, i * 4 + 2, none⟩ = some X ∧ w.cell? ⟨gr, i * 4 + 3, none⟩ = some (.int .i64 (x.n : Nat)) := by
  have hl := h.len
  obtain ⟨gr, cap, hv, _, hlt⟩ := h.o.form (by omega)
  injection hv with hA
  subst hA
  have hy : xs[i]? = some xs[i] := List.getElem?_eq_getElem (by omega)
  obtain ⟨h1, h2, h3, h4⟩ := rdeedC_at xs i _ hy
  have hc := h.o.cells (g := gr) rfl
  have ad : ∀ j, (⟨gr, 0, none⟩ : Addr).add j = ⟨gr, j, none⟩ := fun j => by unfold Addr.add; split <;> simp [*]
  have c1 := hc _ _ h1
  have c2 := hc _ _ h2
  have c3 := hc _ _ h3
  have c4 := hc _ _ h4
  rw [ad] at c1 c2 c3 c4
  have hdi : R.done[i]? = (xs.map (·.2))[i]? := by rw [h.d]
  exact ⟨gr, _, _, rfl, hlt, by rw [hdi, List.getElem?_map, hy]; rfl, h.v _ (List.mem_of_getElem? hy), c1, c2, c3, c4⟩
end
theorem RefAt.kept {z : Zb} {g c : Nat} {w w' : World} {R : Rt} (h : RefAt z w g c R)
    (hk : ∀ j o, w.heap[j]? = some o → (TR o = true ∨ (∃ cs, o = .cells cs 93 (0, 0)) ∨ (j ≠ z.z ∧ ∃ cs fz, o = .cells cs 5 fz)) → w'.heap[j]? = some o) : RefAt z w' g c R := by
  obtain ⟨A, n, cp, ys, B, m, cq, left, xs, h⟩ := h
  exact ⟨A, n, cp, ys, B, m, cq, left, xs, h.kept hk⟩
theorem RefAt.below {z : Zb} {g c : Nat} {w w' : World} {R : Rt} (h : RefAt z w g c R) (hb : Below w.heap.size w w') : RefAt z w' g c R := h.kept fun j _ hj _ => (hb.block j (lt_of_heap hj)).trans hj
theorem doAllL_snoc (L : FL) (l : List Dd) (x : Dd) : doAllL L (l ++ [x]) = doesL (doAllL L l) x := by
  induction l generalizing L with
  | nil => rfl
  | cons y l ih => exact ih _
theorem take_doL {L : FL} {l : List Dd} {i : Nat} {x : Dd} (hx : l[i]? = some x) : doAllL L (l.take (i + 1)) = doesL (doAllL L (l.take i)) x := by
  rw [List.take_add_one, hx]
  exact doAllL_snoc _ _ _
theorem okL_at {L : FL} {l : List Dd} (hs : srt (nms L)) (h : okAll (lookL L) l) {i : Nat} {x : Dd} (hx : l[i]? = some x) : OkD (lookL (doAllL L (l.take i))) x := by
  rw [(look_all L hs _).1]
  exact okAll_at h hx
theorem doAllL_len (L : FL) (l : List Dd) : (doAllL L l).length ≤ L.length + l.length := by
  induction l generalizing L with
  | nil => exact Nat.le_refl _
  | cons x l ih =>
    have h1 := ih (doesL L x)
    have h2 := doesL_len L x
    show (doAllL (doesL L x) l).length ≤ _
    rw [List.length_cons]; omega
set_option maxRecDepth 100000 in
theorem files_any {z : Zb} {g c : Nat} {w : World} {R : Rt} (h : RefAt z w g c R) (hz : z.z < w.heap.size) (hc : c ≤ 100000) :
    Calls Try.prog 39 #[.pointer (some ⟨g, 0, none⟩)] w fun e w' => (∃ A n cp ys, e = .returned (.slice A n cp) ∧ FilesV z w' A n cp ys R.files) ∧ Below w.heap.size w w' := by
  obtain ⟨A, n, cp, ys, B, m, cq, left, xs, hI⟩ := h
  have hlen := hI.len
  have hcc := hI.c
  have hmc : m ≤ 100000 := by omega
  have hnc : n ≤ 100000 := by omega
  have c0 := hI.b.cell 0
  have c1 := hI.b.cell 1
  simp only [rfCells, List.getElem?_toArray, List.getElem?_cons_zero, List.getElem?_cons_succ] at c0 c1
  have hL0 : FilesV z w A n cp ys (doAllL R.last (R.done.take 0)) := hI.l
  have hlenH := Lib.hid hlen
  clear hlen
  go_enter Try.func39, Try.ntmps39
  go_wp2_with fail
  go_loopw [3, 4] (fun l i wr => ∃ (k : Nat) (A' : Option Addr) (n' c' : Nat) (ys' : List FV), k ≤ m ∧ i = .int .i64 k ∧ l = .slice A' n' c' ∧ FilesV z wr A' n' c' ys' (doAllL R.last (R.done.take k)) ∧ Below w.heap.size w wr) (fun _ i _ => m - (intOf i).toNat)
  case atStart => exact ⟨0, A, n, cp, ys, Nat.zero_le _, rfl, rfl, hL0, Below.refl _ _⟩
  case round =>
    clear hL0 c0 c1
    obtain ⟨k, A', n', c', ys', hk, rfl, rfl, hL, hb⟩ := hrel
    have hIw := hI.below hb
    have c1 := hIw.b.cell 1
    simp only [rfCells, List.getElem?_toArray, List.getElem?_cons_zero, List.getElem?_cons_succ] at c1
    have hn' : n' ≤ 100000 := by
      have h1 := hL.len.2
      have h2 := doAllL_len R.last (R.done.take k)
      rw [List.length_take] at h2
      have := hlenH.out
      omega
    by_cases hlt : k < m
    · obtain ⟨gr, x, X, rfl, hgr, hx, hX, d0, d1, d2, d3⟩ := hIw.at_ hlt
      obtain ⟨Bx, mx, dx, rfl, _⟩ := id hX
      have hok := okL_at hI.s hI.ok hx
      have hnx := Lib.hid (take_doL (L := R.last) hx)
      have hzw : z.z < wr.heap.size := by have := hb.size; omega
      have hcall := refdoes_any x (.slice Bx mx dx) hL hn' hX hzw hok
      unfold rdV at hcall
      clear hx hok
      go_wp2_with fail
      refine hcall.mono ?_
      rintro e w2 ⟨⟨A2, n2, c2, ys2, rfl, hL2⟩, hb2⟩
      go_wp2_with fail
      go_roundw
      case rel => exact ⟨k + 1, A2, n2, c2, ys2, hlt, by go_num, rfl, by rw [hnx.out]; exact hL2, hb.trans (hb2.mono hb.size)⟩
      case measure => simp [intOf]; omega
    · have hfin := Lib.hid (show FilesV z wr A' n' c' ys' R.files by
        rw [List.take_of_length_le (by have := hlenH.out; omega)] at hL
        exact hL)
      go_wp2_with fail
      go_ret
      exact ⟨⟨A', n', c', ys', rfl, hfin.out⟩, hb⟩
end Go.Proofs.Ytkgcccllabofoaa
