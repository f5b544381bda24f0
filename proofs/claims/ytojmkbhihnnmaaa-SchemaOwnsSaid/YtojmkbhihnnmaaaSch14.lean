/-
  The walks of the schema: few of each.
-/
import Derived.Test.YtojmkbhihnnmaaaSch13
import Derived.Deep.CutBlock
import Derived.Deep.DeepCutAuto
namespace Go.Proofs.Ytojmkbhihnnmaaa
open Go.RowKit Go.Maps

def fewD (d : Dm) : Dm := ⟨d.name, d.levels.take 8⟩
def fewF (S : Sch) : Sch := ⟨(S.dims.take 8).map fewD, S.measures.take 8, (S.views.take 12).map fun v => v.take 8⟩

structure DimV where
  nm : ByteArray
  B : Option Addr
  m : Nat
  c : Nat
def dimCells (ys : List DimV) : List Value := ys.flatMap fun y => [.string y.nm, .slice y.B y.m y.c]
def DimsOk (w : World) (ys : List DimV) (ds : List Dm) : Prop :=
  ys.length = ds.length ∧ ∀ (i : Nat) d, ds[i]? = some d → ∃ y, ys[i]? = some y ∧ y.nm = d.name ∧ RdT w y.B y.m d.levels ∧ y.m ≤ y.c ∧ y.c ≤ maxLen
theorem DimsOk.snoc {w : World} {ys : List DimV} {ds : List Dm} (h : DimsOk w ys ds) {y : DimV} {d : Dm} (h1 : y.nm = d.name) (h2 : RdT w y.B y.m d.levels) (h3 : y.m ≤ y.c) (h4 : y.c ≤ maxLen) : DimsOk w (ys ++ [y]) (ds ++ [d]) := by
  refine ⟨by simp [h.1], fun i x hx => ?_⟩
  rcases Nat.lt_or_ge i ds.length with hlt | hge
  · rw [List.getElem?_append_left hlt] at hx
    obtain ⟨y', hy, hr⟩ := h.2 i x hx
    exact ⟨y', by rw [List.getElem?_append_left (by rw [h.1]; exact hlt)]; exact hy, hr⟩
  · rw [List.getElem?_append_right hge] at hx
    have hi : i = ds.length := by
      rcases Nat.eq_zero_or_pos (i - ds.length) with h' | h'
      · omega
      · rw [List.getElem?_eq_none (by simp; omega)] at hx; cases hx
    subst hi
    simp only [Nat.sub_self, List.getElem?_cons_zero, Option.some.injEq] at hx
    subst hx
    exact ⟨y, by rw [List.getElem?_append_right (by rw [h.1]; exact Nat.le_refl _), h.1, Nat.sub_self]; rfl, h1, h2, h3, h4⟩

theorem dim_info : (Try.prog.info? 42).map (fun i => (i.zero, i.size, i.bytes)) = some (some (.agg #[.string ByteArray.empty, .slice none 0 0]), 2, 40) := by kernel_rfl
/-- append one Dim -/
theorem wpList_append_d {w : World} {ops : Array Oper} {rest : List Oper} {o : Oper} {a : Act} {Q : Exit → Act → World → Prop} (hgd : o.guard = none) (s x : Operand)
    (ho : o.op = .call { callee := .builtin .append, args := #[s, x], argTypes := #[22, 22] })
    (base : Nat) {A : Option Addr} {n c : Nat} {ys : List DimV} (hs : a.eval s = .slice A n c) (hown : w.ownsRow base 42 2 (.slice A n c) n (dimCells ys))
    (g d : Nat) (y : DimV) (hx : a.eval x = .slice (some ⟨g, 0, none⟩) 1 d) (hb : Blk w g 42 #[.string y.nm, .slice y.B y.m y.c]) (hn : n ≤ 1000000) (hbase : base ≤ w.heap.size)
    (h : ∀ A' c' w', w'.ownsRow base 42 2 (.slice A' (n + 1) c') (n + 1) (dimCells (ys ++ [y])) → w.grownBy w' (Value.slice A n c).ownBlock → Below base w w' → wpList Try.prog ops Q rest (a.put o.dst (.slice A' (n + 1) c')) w') : wpList Try.prog ops Q (o :: rest) a w := by
  obtain ⟨i0, hi0, hz0, hz1, hz2⟩ := info_parts dim_info
  refine wpList_append_any w hgd s x 22 ho base 42 i0 _ 2 40 Try.underlying22 hi0 hz0 hz1 hz2 rfl (by omega) (.slice A n c) n _ hs hown (some ⟨g, 0, none⟩) 1 d [.string y.nm, .slice y.B y.m y.c] hx ⟨rfl, fun _ => ⟨_, rfl, fun j u hu => ?_⟩⟩ (fun u hu => by
    rcases List.mem_cons.1 hu with rfl | hu
    · rfl
    · rw [List.mem_singleton.1 hu]; rfl) (by unfold maxLen; omega) (by omega) hbase fun A' c' w' h1 h2 _ => ?_
  · have e : (⟨g, 0, none⟩ : Addr).add j = ⟨g, j, none⟩ := by unfold Addr.add; split <;> simp [*]
    rw [e, hb.cell j, ← hu]
    simp
  · refine h A' c' w' ?_ h2 (below_own hown h2 hbase)
    have : dimCells (ys ++ [y]) = dimCells ys ++ [.string y.nm, .slice y.B y.m y.c] := by simp [dimCells]
    rw [this]; exact h1

theorem own_set_far {w : World} {base : Nat} {e : TypeId} {size n : Nat} {v : Value} {xs : List Value} (h : w.ownsRow base e size v n xs) {p : Addr} (hp : p.block < base) (u : Value) : (w.setCell p u).ownsRow base e size v n xs := by
  refine ⟨h.1, ?_⟩
  rcases h.2 with h0 | ⟨g, cap, cur, h1, h2, h3, h4⟩
  · exact .inl h0
  · exact .inr ⟨g, cap, cur, h1, h2, (Below.heap_setCell w p u g (by omega)).trans h3, h4⟩
theorem fewF_dim (S : Sch) (k : Nat) (d : Dm) (h : S.dims[k]? = some d) (hk : k < 8) : (fewF S).dims.take (k + 1) = (fewF S).dims.take k ++ [fewD d] := by
  unfold fewF
  rw [List.take_add_one, List.getElem?_map, List.getElem?_take, if_pos hk, h]; rfl

structure FewSt (w wr : World) (cs : Array Value) (A1 A2 A3 : Option Addr) (n1 n2 n3 c1 c2 c3 : Nat) (ys : List DimV) (ms : List ByteArray) (xs : List Value) : Prop where
  z : w.heap.size + 3 ≤ wr.heap.size
  s : Blk wr w.heap.size 26 cs
  r : Blk wr (w.heap.size + 1) 26 #[.slice none 0 0, .slice none 0 0, .slice none 0 0]
  o : Blk wr (w.heap.size + 1 + 1) 26 #[.slice A1 n1 c1, .slice A2 n2 c2, .slice A3 n3 c3]
  d : wr.ownsRow (w.heap.size + 3) 42 2 (.slice A1 n1 c1) n1 (dimCells ys)
  m : wr.ownsRow (w.heap.size + 3) 9 1 (.slice A2 n2 c2) n2 (ms.map vs)
  v : wr.ownsRow (w.heap.size + 3) 30 1 (.slice A3 n3 c3) n3 xs
  b : Below w.heap.size w wr
theorem FewSt.later {w wr w' : World} {cs : Array Value} {A1 A2 A3 : Option Addr} {n1 n2 n3 c1 c2 c3 : Nat} {ys : List DimV} {ms : List ByteArray} {xs : List Value} (h : FewSt w wr cs A1 A2 A3 n1 n2 n3 c1 c2 c3 ys ms xs) (hb : Below wr.heap.size wr w') : FewSt w w' cs A1 A2 A3 n1 n2 n3 c1 c2 c3 ys ms xs :=
  ⟨Nat.le_trans h.z hb.size, h.s.kept hb, h.r.kept hb, h.o.kept hb, own_below h.d hb, own_below h.m hb, own_below h.v hb, below_then h.b hb (Nat.le_refl _)⟩
/-- behind 'out.Dims = append(out.Dims, d)' -/
theorem FewSt.dim {w wr w' : World} {cs : Array Value} {A1 A2 A3 A' : Option Addr} {n1 n2 n3 c1 c2 c3 c' : Nat} {ys : List DimV} {ms : List ByteArray} {xs : List Value} {y : DimV} (h : FewSt w wr cs A1 A2 A3 n1 n2 n3 c1 c2 c3 ys ms xs)
    (hr : w'.ownsRow (w.heap.size + 3) 42 2 (.slice A' (n1 + 1) c') (n1 + 1) (dimCells (ys ++ [y]))) (hg : wr.grownBy w' (Value.slice A1 n1 c1).ownBlock) (hb : Below (w.heap.size + 3) wr w') :
    FewSt w (w'.setCell ⟨w.heap.size + 1 + 1, 0, none⟩ (.slice A' (n1 + 1) c')) cs A' A2 A3 (n1 + 1) n2 n3 c' c2 c3 (ys ++ [y]) ms xs :=
  ⟨by simpa using Nat.le_trans h.z hb.size, (h.s.grownT (by decide) h.d hg).far (by show w.heap.size ≠ w.heap.size + 1 + 1; omega) _, (h.r.grownT (by decide) h.d hg).far (by show w.heap.size + 1 ≠ w.heap.size + 1 + 1; omega) _,
    (h.o.grownT (by decide) h.d hg).set_ 0 _, own_set_far hr (by show w.heap.size + 1 + 1 < _; omega) _, own_set_far (own_grownT (by decide) h.d h.m hg) (by show w.heap.size + 1 + 1 < _; omega) _, own_set_far (own_grownT (by decide) h.d h.v hg) (by show w.heap.size + 1 + 1 < _; omega) _,
    (h.b.trans (hb.mono (by omega))).setCell (by show w.heap.size ≤ w.heap.size + 1 + 1; omega) _⟩
theorem FewSt.mea {w wr w' : World} {cs : Array Value} {A1 A2 A3 A' : Option Addr} {n1 n2 n3 c1 c2 c3 c' : Nat} {ys : List DimV} {ms : List ByteArray} {xs : List Value} {y : ByteArray} (h : FewSt w wr cs A1 A2 A3 n1 n2 n3 c1 c2 c3 ys ms xs)
    (hr : w'.ownsRow (w.heap.size + 3) 9 1 (.slice A' (n2 + 1) c') (n2 + 1) (ms.map vs ++ [vs y])) (hg : wr.grownBy w' (Value.slice A2 n2 c2).ownBlock) (hb : Below (w.heap.size + 3) wr w') :
    FewSt w (w'.setCell ⟨w.heap.size + 1 + 1, 1, none⟩ (.slice A' (n2 + 1) c')) cs A1 A' A3 n1 (n2 + 1) n3 c1 c' c3 ys (ms ++ [y]) xs :=
  ⟨by simpa using Nat.le_trans h.z hb.size, (h.s.grownT (by decide) h.m hg).far (by show w.heap.size ≠ w.heap.size + 1 + 1; omega) _, (h.r.grownT (by decide) h.m hg).far (by show w.heap.size + 1 ≠ w.heap.size + 1 + 1; omega) _,
    (h.o.grownT (by decide) h.m hg).set_ 1 _, own_set_far (own_grownT (by decide) h.m h.d hg) (by show w.heap.size + 1 + 1 < _; omega) _, own_set_far (by rw [List.map_append]; exact hr) (by show w.heap.size + 1 + 1 < _; omega) _, own_set_far (own_grownT (by decide) h.m h.v hg) (by show w.heap.size + 1 + 1 < _; omega) _,
    (h.b.trans (hb.mono (by omega))).setCell (by show w.heap.size ≤ w.heap.size + 1 + 1; omega) _⟩
theorem FewSt.vie {w wr w' : World} {cs : Array Value} {A1 A2 A3 A' : Option Addr} {n1 n2 n3 c1 c2 c3 c' : Nat} {ys : List DimV} {ms : List ByteArray} {xs : List Value} {y : Value} (h : FewSt w wr cs A1 A2 A3 n1 n2 n3 c1 c2 c3 ys ms xs)
    (hr : w'.ownsRow (w.heap.size + 3) 30 1 (.slice A' (n3 + 1) c') (n3 + 1) (xs ++ [y])) (hg : wr.grownBy w' (Value.slice A3 n3 c3).ownBlock) (hb : Below (w.heap.size + 3) wr w') :
    FewSt w (w'.setCell ⟨w.heap.size + 1 + 1, 2, none⟩ (.slice A' (n3 + 1) c')) cs A1 A2 A' n1 n2 (n3 + 1) c1 c2 c' ys ms (xs ++ [y]) :=
  ⟨by simpa using Nat.le_trans h.z hb.size, (h.s.grownT (by decide) h.v hg).far (by show w.heap.size ≠ w.heap.size + 1 + 1; omega) _, (h.r.grownT (by decide) h.v hg).far (by show w.heap.size + 1 ≠ w.heap.size + 1 + 1; omega) _,
    (h.o.grownT (by decide) h.v hg).set_ 2 _, own_set_far (own_grownT (by decide) h.v h.d hg) (by show w.heap.size + 1 + 1 < _; omega) _, own_set_far (own_grownT (by decide) h.v h.m hg) (by show w.heap.size + 1 + 1 < _; omega) _, own_set_far hr (by show w.heap.size + 1 + 1 < _; omega) _,
    (h.b.trans (hb.mono (by omega))).setCell (by show w.heap.size ≤ w.heap.size + 1 + 1; omega) _⟩

def ViewsOk (w : World) (xs : List Value) (L : List (List Int)) : Prop :=
  xs.length = L.length ∧ ∀ (i : Nat) v, L[i]? = some v → ∃ B m c, xs[i]? = some (Value.slice B m c) ∧ RdI w B m v ∧ m ≤ c ∧ c ≤ maxLen
theorem ViewsOk.snoc {w : World} {xs : List Value} {L : List (List Int)} (h : ViewsOk w xs L) {B : Option Addr} {m c : Nat} {v : List Int} (h2 : RdI w B m v) (h3 : m ≤ c) (h4 : c ≤ maxLen) : ViewsOk w (xs ++ [.slice B m c]) (L ++ [v]) := by
  refine ⟨by simp [h.1], fun i x hx => ?_⟩
  rcases Nat.lt_or_ge i L.length with hlt | hge
  · rw [List.getElem?_append_left hlt] at hx
    obtain ⟨B', m', c', hy, hr⟩ := h.2 i x hx
    exact ⟨B', m', c', by rw [List.getElem?_append_left (by rw [h.1]; exact hlt)]; exact hy, hr⟩
  · rw [List.getElem?_append_right hge] at hx
    have hi : i = L.length := by
      rcases Nat.eq_zero_or_pos (i - L.length) with h' | h'
      · omega
      · rw [List.getElem?_eq_none (by simp; omega)] at hx; cases hx
    subst hi
    simp only [Nat.sub_self, List.getElem?_cons_zero, Option.some.injEq] at hx
    subst hx
    exact ⟨B, m, c, by rw [List.getElem?_append_right (by rw [h.1]; exact Nat.le_refl _), h.1, Nat.sub_self]; rfl, h2, h3, h4⟩
theorem fewF_view (S : Sch) (k : Nat) (v : List Int) (h : S.views[k]? = some v) (hk : k < 12) : (fewF S).views.take (k + 1) = (fewF S).views.take k ++ [v.take 8] := by
  unfold fewF
  rw [List.take_add_one, List.getElem?_map, List.getElem?_take, if_pos hk, h]; rfl
theorem fewF_mea (S : Sch) (k : Nat) (s : ByteArray) (h : S.measures[k]? = some s) (hk : k < 8) : (fewF S).measures.take (k + 1) = (fewF S).measures.take k ++ [s] := by
  unfold fewF
  rw [List.take_add_one, List.getElem?_take, if_pos hk, h]; rfl

/-- what is told -/
def FewOk (wB w : World) (S : Sch) (e : Ending) (w' : World) : Prop :=
  ∃ A1 c1 A2 c2 A3 c3 ys xs, e = .returned (.agg #[.slice A1 (fewF S).dims.length c1, .slice A2 (fewF S).measures.length c2, .slice A3 (fewF S).views.length c3]) ∧
    w'.ownsRow w.heap.size 42 2 (.slice A1 (fewF S).dims.length c1) (fewF S).dims.length (dimCells ys) ∧ DimsOk wB ys (fewF S).dims ∧
    w'.ownsRow w.heap.size 9 1 (.slice A2 (fewF S).measures.length c2) (fewF S).measures.length ((fewF S).measures.map vs) ∧
    w'.ownsRow w.heap.size 30 1 (.slice A3 (fewF S).views.length c3) (fewF S).views.length xs ∧ ViewsOk wB xs (fewF S).views ∧ Below w.heap.size w w'

set_option maxRecDepth 100000 in
set_option maxHeartbeats 2000000 in
theorem few8_any (A1 A2 A3 : Option Addr) (n1 n2 n3 c1 c2 c3 : Nat) (S : Sch) (wB w : World) (hB : Below wB.heap.size wB w) (hr : RdSch wB A1 A2 A3 n1 n2 n3 c1 c2 c3 S) :
    Calls Try.prog 15 #[.agg #[.slice A1 n1 c1, .slice A2 n2 c2, .slice A3 n3 c3]] w (FewOk wB w S) := by
  have Hsn := Lib.hid (fewF_dim S)
  have Hsm := Lib.hid (fewF_mea S)
  have Hsv := Lib.hid (fewF_view S)
  have Hd1 := Lib.hid (show (fewF S).dims.length = min 8 n1 by simp [fewF, hr.d.1])
  have Hd2 := Lib.hid (show (fewF S).measures.length = min 8 n2 by simp [fewF, hr.m.len])
  have Hd3 := Lib.hid (show (fewF S).views.length = min 12 n3 by simp [fewF, hr.v.1])
  have hb1 := hr.b1
  have hb2 := hr.b2
  have hb3 := hr.b3
  unfold maxLen at hb1 hb2 hb3
  have hbA : Below w.heap.size w (w.alloc (.cells #[.slice A1 n1 c1, .slice A2 n2 c2, .slice A3 n3 c3] 26)) := (Below.refl _ _).alloc (Nat.le_refl _) _
  have hbB := hbA.alloc hbA.size (.cells #[.slice none 0 0, .slice none 0 0, .slice none 0 0] 26)
  have hbC := hbB.alloc hbB.size (.cells #[.slice none 0 0, .slice none 0 0, .slice none 0 0] 26)
  have hz1 : (w.alloc (.cells #[.slice A1 n1 c1, .slice A2 n2 c2, .slice A3 n3 c3] 26)).heap.size = w.heap.size + 1 := by simp
  have hz2 : ((w.alloc (.cells #[.slice A1 n1 c1, .slice A2 n2 c2, .slice A3 n3 c3] 26)).alloc (.cells #[.slice none 0 0, .slice none 0 0, .slice none 0 0] 26)).heap.size = w.heap.size + 2 := by simp
  have hblS := ((Blk.new w 26 #[.slice A1 n1 c1, .slice A2 n2 c2, .slice A3 n3 c3]).alloc (.cells #[.slice none 0 0, .slice none 0 0, .slice none 0 0] 26)).alloc (.cells #[.slice none 0 0, .slice none 0 0, .slice none 0 0] 26)
  have hblR := (Blk.new (w.alloc (.cells #[.slice A1 n1 c1, .slice A2 n2 c2, .slice A3 n3 c3] 26)) 26 #[.slice none 0 0, .slice none 0 0, .slice none 0 0]).alloc (.cells #[.slice none 0 0, .slice none 0 0, .slice none 0 0] 26)
  have hblO := (Blk.new ((w.alloc (.cells #[.slice A1 n1 c1, .slice A2 n2 c2, .slice A3 n3 c3] 26)).alloc (.cells #[.slice none 0 0, .slice none 0 0, .slice none 0 0] 26)) 26 #[.slice none 0 0, .slice none 0 0, .slice none 0 0])
  rw [hz1] at hblR
  rw [hz2, show w.heap.size + 2 = w.heap.size + 1 + 1 from rfl] at hblO
  have hz3 : w.heap.size + 3 ≤ (((w.alloc (.cells #[.slice A1 n1 c1, .slice A2 n2 c2, .slice A3 n3 c3] 26)).alloc (.cells #[.slice none 0 0, .slice none 0 0, .slice none 0 0] 26)).alloc (.cells #[.slice none 0 0, .slice none 0 0, .slice none 0 0] 26)).heap.size := by simp
  have hst0 : FewSt w (((w.alloc (.cells #[.slice A1 n1 c1, .slice A2 n2 c2, .slice A3 n3 c3] 26)).alloc (.cells #[.slice none 0 0, .slice none 0 0, .slice none 0 0] 26)).alloc (.cells #[.slice none 0 0, .slice none 0 0, .slice none 0 0] 26)) #[.slice A1 n1 c1, .slice A2 n2 c2, .slice A3 n3 c3] none none none 0 0 0 0 0 0 [] [] [] :=
    ⟨hz3, hblS, hblR, hblO, own_nil _ _, own_nil _ _, own_nil _ _, hbC⟩
  clear hbA hbB hz1 hz2 hbC hblS hblR hblO hz3
  go_enter Try.func15, Try.ntmps15
  go_upto_block 0 with fail
  generalize (((w.alloc (.cells #[.slice A1 n1 c1, .slice A2 n2 c2, .slice A3 n3 c3] 26)).alloc (.cells #[.slice none 0 0, .slice none 0 0, .slice none 0 0] 26)).alloc (.cells #[.slice none 0 0, .slice none 0 0, .slice none 0 0] 26)) = w1 at *
  go_cut [] (fun wr => ∃ Ad cd ys, FewSt w wr #[.slice A1 n1 c1, .slice A2 n2 c2, .slice A3 n3 c3] Ad none none (fewF S).dims.length 0 0 cd 0 0 ys [] [] ∧ DimsOk wB ys (fewF S).dims)
  case first =>
    go_wp2_with fail
    go_loopw [4, 5, 8, 9, 10, 11, 12, 13, 14, 15, 16] (fun i _ _ _ _ _ _ _ _ _ _ wr => ∃ (k : Nat) (A : Option Addr) (c : Nat) (ys : List DimV), k ≤ n1 ∧ k ≤ 8 ∧ i = .int .i64 k ∧ FewSt w wr #[.slice A1 n1 c1, .slice A2 n2 c2, .slice A3 n3 c3] A none none k 0 0 c 0 0 ys [] [] ∧ DimsOk wB ys ((fewF S).dims.take k)) (fun i _ _ _ _ _ _ _ _ _ _ _ => n1 - (intOf i).toNat)
    case atStart => exact ⟨0, none, 0, [], Nat.zero_le _, Nat.zero_le _, rfl, hst0, ⟨rfl, fun i d hi => by simp at hi⟩⟩
    case round =>
      obtain ⟨k, A, c, ys, hk, hk8, rfl, hst, hok⟩ := hrel
      have hS0 := hst.s.cell 0
      have hO0 := hst.o.cell 0
      simp only [List.getElem?_toArray, List.getElem?_cons_zero] at hS0 hO0
      have hb := below_then hB hst.b (Nat.le_refl _)
      have hgz := hst.z
      by_cases hlt : k < n1 ∧ k < 8
      · obtain ⟨hl1, hl2⟩ := hlt
        obtain ⟨dm, ad, B, m, cB, hdm, rfl, hc0w, hc1w, hrtw, hmc, hcm⟩ := hr.d.at_ hl1
        have Hst := Lib.hid (Hsn.out k dm hdm hl2)
        have Hok := Lib.hid hok
        have hc0 := (hb.cell (lt_of_cell hc0w)).trans hc0w
        have hc1 := (hb.cell (lt_of_cell hc1w)).trans hc1w
        obtain ⟨nm, hnm⟩ : ∃ nm, dm.name = nm := ⟨_, rfl⟩
        rw [hnm] at hc0w hc0
        have Hnm := Lib.hid hnm
        have Hll := Lib.hid hrtw.len
        clear hdm hok hnm
        unfold maxLen at hcm
        by_cases h8 : 8 < m
        · have hrt8 := hrtw.take (Nat.le_of_lt h8)
          have hbD := ((Below.refl wr.heap.size wr).alloc (Nat.le_refl _) (.cells #[.string nm, .slice B 8 cB] 42)).alloc (by simp) (.cells #[.string nm, .slice B 8 cB] 42)
          have hblD := Blk.new (wr.alloc (.cells #[.string nm, .slice B 8 cB] 42)) 42 #[.string nm, .slice B 8 cB]
          have hszD : (wr.alloc (.cells #[.string nm, .slice B 8 cB] 42)).heap.size = wr.heap.size + 1 := by simp
          rw [hszD] at hblD
          have hgo : w.heap.size + 1 + 1 < wr.heap.size := by omega
          have hstD := hst.later hbD
          go_wp2_with (first
            | (at_builtin; refine wpList_append_d rfl (.tmp 33) (.tmp 35) rfl (w.heap.size + 3) rfl hstD.d (wr.heap.size + 1) 1 ⟨nm, B, 8, cB⟩ rfl hblD (by omega) hstD.z ?_
               intro A3' c3' w3 hown3 hg3 hb3'
               have hst3 := hstD.dim hown3 hg3 hb3'
               have hO3 := hstD.o.grownT (by decide) hstD.d hg3
               have hOf3 := hO3.free 0
               have hOc3 := hO3.cell 0
               simp only [List.getElem?_toArray, List.getElem?_cons_zero] at hOc3
               clear hg3 hO3)
            | fail)
          go_roundw
          case rel =>
            refine ⟨k + 1, A3', c3', ys ++ [⟨nm, B, 8, cB⟩], by omega, by omega, by go_num, hst3, ?_⟩
            rw [Hst.out]
            exact Hok.out.snoc (by rw [← Hnm.out]; rfl) hrt8 (show 8 ≤ cB by omega) (by unfold maxLen; exact hcm)
          case measure => simp [intOf]; omega
        · have hlm : dm.levels.take 8 = dm.levels := List.take_of_length_le (by rw [Hll.out]; omega)
          have hrt8 : RdT wB B m (dm.levels.take 8) := by rw [hlm]; exact hrtw
          clear hlm
          have hbD := ((Below.refl wr.heap.size wr).alloc (Nat.le_refl _) (.cells #[.string nm, .slice B m cB] 42)).alloc (by simp) (.cells #[.string nm, .slice B m cB] 42)
          have hblD := Blk.new (wr.alloc (.cells #[.string nm, .slice B m cB] 42)) 42 #[.string nm, .slice B m cB]
          have hszD : (wr.alloc (.cells #[.string nm, .slice B m cB] 42)).heap.size = wr.heap.size + 1 := by simp
          rw [hszD] at hblD
          have hgo : w.heap.size + 1 + 1 < wr.heap.size := by omega
          have hstD := hst.later hbD
          go_wp2_with (first
            | (at_builtin; refine wpList_append_d rfl (.tmp 33) (.tmp 35) rfl (w.heap.size + 3) rfl hstD.d (wr.heap.size + 1) 1 ⟨nm, B, m, cB⟩ rfl hblD (by omega) hstD.z ?_
               intro A3' c3' w3 hown3 hg3 hb3'
               have hst3 := hstD.dim hown3 hg3 hb3'
               have hO3 := hstD.o.grownT (by decide) hstD.d hg3
               have hOf3 := hO3.free 0
               have hOc3 := hO3.cell 0
               simp only [List.getElem?_toArray, List.getElem?_cons_zero] at hOc3
               clear hg3 hO3)
            | fail)
          go_roundw
          case rel =>
            refine ⟨k + 1, A3', c3', ys ++ [⟨nm, B, m, cB⟩], by omega, by omega, by go_num, hst3, ?_⟩
            rw [Hst.out]
            exact Hok.out.snoc (by rw [← Hnm.out]; rfl) hrt8 hmc (by unfold maxLen; exact hcm)
          case measure => simp [intOf]; omega
      · have hkd : k = (fewF S).dims.length := by rw [Hd1.out]; omega
        have Hfin : Hid (∃ Ad cd ys, FewSt w wr #[.slice A1 n1 c1, .slice A2 n2 c2, .slice A3 n3 c3] Ad none none (fewF S).dims.length 0 0 cd 0 0 ys [] [] ∧ DimsOk wB ys (fewF S).dims) := by
          refine Lib.hid ⟨A, c, ys, ?_, ?_⟩
          · rw [← hkd]; exact hst
          · rw [hkd, List.take_of_length_le (Nat.le_refl _)] at hok; exact hok
        clear hkd hok hst
        rcases (show ¬ k < n1 ∨ (k < n1 ∧ ¬ k < 8) by omega) with h | ⟨h, h'⟩
        all_goals
          go_wp2
          go_meet
          exact Hfin.out
  case rest =>
    obtain ⟨Ad, cd, ys, hst0, hys⟩ := hcut
    go_upto_block 2 with fail
    go_cut [] (fun wr => ∃ Am cm, FewSt w wr #[.slice A1 n1 c1, .slice A2 n2 c2, .slice A3 n3 c3] Ad Am none (fewF S).dims.length (fewF S).measures.length 0 cd cm 0 ys (fewF S).measures [])
    case first =>
      go_wp2_with fail
      go_loopw [6, 38, 39, 40, 41, 42, 43, 44, 45, 46] (fun i _ _ _ _ _ _ _ _ _ wr => ∃ (k : Nat) (A : Option Addr) (c : Nat), k ≤ n2 ∧ k ≤ 8 ∧ i = .int .i64 k ∧ FewSt w wr #[.slice A1 n1 c1, .slice A2 n2 c2, .slice A3 n3 c3] Ad A none (fewF S).dims.length k 0 cd c 0 ys ((fewF S).measures.take k) []) (fun i _ _ _ _ _ _ _ _ _ _ => n2 - (intOf i).toNat)
      case atStart => exact ⟨0, none, 0, Nat.zero_le _, Nat.zero_le _, rfl, hst0⟩
      case round =>
        obtain ⟨k, A, c, hk, hk8, rfl, hst⟩ := hrel
        have hS1 := hst.s.cell 1
        have hO1 := hst.o.cell 1
        simp only [List.getElem?_toArray, List.getElem?_cons_zero, List.getElem?_cons_succ] at hS1 hO1
        have hb := below_then hB hst.b (Nat.le_refl _)
        have hgz := hst.z
        by_cases hlt : k < n2 ∧ k < 8
        · obtain ⟨hl1, hl2⟩ := hlt
          obtain ⟨ad, s, rfl, hsk, hcw⟩ := hr.m.at_ hl1
          have hc := (hb.cell (lt_of_cell hcw)).trans hcw
          have Hst := Lib.hid (Hsm.out k s hsk hl2)
          clear hsk
          have hbD : Below wr.heap.size wr (wr.drew.alloc (.cells #[.string s] 9)) := (Below.refl wr.heap.size wr).drew.alloc (Nat.le_refl _) (.cells #[.string s] 9)
          have hstD := hst.later hbD
          have hx1 : Rds (wr.drew.alloc (.cells #[.string s] 9)) 1 (some ⟨wr.heap.size, 0, none⟩) 1 [.string s] := Rds.one wr.drew 9 (.string s)
          have hgo : w.heap.size + 1 + 1 < wr.heap.size := by omega
          have hgo1 : w.heap.size < wr.heap.size := by omega
          obtain ⟨i0, hi0, hz0, hz1, hz2⟩ := info_parts str_info
          have Hi0 := Lib.hid hi0
          have Hz0 := Lib.hid hz0
          have Hz1 := Lib.hid hz1
          have Hz2 := Lib.hid hz2
          clear hi0 hz0 hz1 hz2
          go_wp2_with fail
          go_region_law (refine step_append_any _ rfl (.tmp 50) (.tmp 56) 23 rfl (w.heap.size + 3) 9 i0 (.string ByteArray.empty) 1 16 Try.underlying23 Hi0.out Hz0.out Hz1.out Hz2.out rfl (by omega) (.slice A k c) k ((List.take k (fewF S).measures).map vs) (by simp [Act.eval]) hstD.m (some ⟨wr.heap.size, 0, none⟩) 1 1 [.string s] (by simp [Act.eval]) hx1 (fun u hu => by rw [List.mem_singleton.1 hu]; rfl) (by unfold maxLen; omega) (by omega) hstD.z ?_
                         intro A3' c3' w3 hown3 hg3 _
                         have hb3' := below_own hstD.m hg3 hstD.z
                         have hst3 := hstD.mea hown3 hg3 hb3'
                         have hO3 := hstD.o.grownT (by decide) hstD.m hg3
                         have hOf3 := hO3.free 1
                         have hOc3 := hO3.cell 1
                         simp only [List.getElem?_toArray, List.getElem?_cons_zero, List.getElem?_cons_succ] at hOc3
                         clear hg3 hO3)
          all_goals
            go_wp2_with fail
            go_roundw -- M
            case rel => exact ⟨k + 1, A3', c3', by omega, by omega, by go_num, by rw [Hst.out]; exact hst3⟩
            case measure => simp [intOf]; omega
        · have hkd : k = (fewF S).measures.length := by rw [Hd2.out]; omega
          have Hfin : Hid (∃ Am cm, FewSt w wr #[.slice A1 n1 c1, .slice A2 n2 c2, .slice A3 n3 c3] Ad Am none (fewF S).dims.length (fewF S).measures.length 0 cd cm 0 ys (fewF S).measures []) := by
            refine Lib.hid ⟨A, c, ?_⟩
            rw [hkd, List.take_of_length_le (Nat.le_refl _)] at hst
            exact hst
          clear hkd hst
          rcases (show ¬ k < n2 ∨ (k < n2 ∧ ¬ k < 8) by omega) with h | ⟨h, h'⟩
          all_goals
            go_wp2
            go_meet
            exact Hfin.out
    case rest =>
      obtain ⟨Am, cm, hst0⟩ := hcut
      go_upto_block 4 with fail
      go_cut [] (fun wr => ∃ Av cv xs, FewSt w wr #[.slice A1 n1 c1, .slice A2 n2 c2, .slice A3 n3 c3] Ad Am Av (fewF S).dims.length (fewF S).measures.length (fewF S).views.length cd cm cv ys (fewF S).measures xs ∧ ViewsOk wB xs (fewF S).views)
      case first =>
        go_wp2_with fail
        go_loopw [7, 59, 60, 61, 62, 63, 64, 65, 66, 67] (fun i _ _ _ _ _ _ _ _ _ wr => ∃ (k : Nat) (A : Option Addr) (c : Nat) (xs : List Value), k ≤ n3 ∧ k ≤ 12 ∧ i = .int .i64 k ∧ FewSt w wr #[.slice A1 n1 c1, .slice A2 n2 c2, .slice A3 n3 c3] Ad Am A (fewF S).dims.length (fewF S).measures.length k cd cm c ys (fewF S).measures xs ∧ ViewsOk wB xs ((fewF S).views.take k)) (fun i _ _ _ _ _ _ _ _ _ _ => n3 - (intOf i).toNat)
        case atStart => exact ⟨0, none, 0, [], Nat.zero_le _, Nat.zero_le _, rfl, hst0, ⟨rfl, fun i d hi => by simp at hi⟩⟩
        case round =>
          obtain ⟨k, A, c, xs, hk, hk8, rfl, hst, hok⟩ := hrel
          have hS1 := hst.s.cell 2
          have hO1 := hst.o.cell 2
          simp only [List.getElem?_toArray, List.getElem?_cons_zero, List.getElem?_cons_succ] at hS1 hO1
          have hb := below_then hB hst.b (Nat.le_refl _)
          have hgz := hst.z
          by_cases hlt : k < n3 ∧ k < 12
          · obtain ⟨hl1, hl2⟩ := hlt
            obtain ⟨v, ad, B, m, d, hvk, rfl, hcw, hvw, hmd, hdm⟩ := hr.v.at_ hl1
            have hc := (hb.cell (lt_of_cell hcw)).trans hcw
            have Hst := Lib.hid (Hsv.out k v hvk hl2)
            have Hok := Lib.hid hok
            have hvr : RdI wr.drew B m v := hvw.below (hb.drew)
            have hml := hvw.len
            have Hml := Lib.hid hml
            clear hvk hok hml
            have hgo : w.heap.size + 1 + 1 < wr.heap.size := by omega
            have hgo1 : w.heap.size < wr.heap.size := by omega
            obtain ⟨m', hm'8, hm'm, hv8, hm'v⟩ : ∃ m', m' ≤ 8 ∧ m' ≤ m ∧ RdI wB B m' (v.take 8) ∧ Calls Try.prog 19 #[.slice B m d] wr.drew fun e w' => e = .returned (.slice B m' d) ∧ wr.drew = w' := by
              have hl : (v.take 8).length = min 8 m := by rw [List.length_take, Hml.out]
              refine ⟨min 8 m, by omega, by omega, ?_, (cut_any B m d v _ hvr hmd hdm).mono ?_⟩
              · have h1 := hvw.take (k := min 8 m) (by omega)
                have h2 : v.take (min 8 m) = v.take 8 := by
                  rcases Nat.le_total 8 m with h | h
                  · rw [Nat.min_eq_left h]
                  · rw [Nat.min_eq_right h, List.take_of_length_le (by rw [Hml.out]; omega), List.take_of_length_le (by rw [Hml.out]; omega)]
                rw [h2] at h1
                exact h1
              · rintro e w' ⟨⟨n', rfl, _, _, h3⟩, rfl⟩
                have h4 := h3.len
                rw [hl] at h4
                rw [← h4]
                exact ⟨rfl, rfl⟩
            have hbD : Below wr.heap.size wr (wr.drew.alloc (.cells #[.slice B m' d] 30)) := (Below.refl wr.heap.size wr).drew.alloc (Nat.le_refl _) (.cells #[.slice B m' d] 30)
            have hstD := hst.later hbD
            have hx1 : Rds (wr.drew.alloc (.cells #[.slice B m' d] 30)) 1 (some ⟨wr.heap.size, 0, none⟩) 1 [.slice B m' d] := Rds.one wr.drew 30 (.slice B m' d)
            obtain ⟨i0, hi0, hz0, hz1, hz2⟩ := info_parts ints_info
            have Hi0 := Lib.hid hi0
            have Hz0 := Lib.hid hz0
            have Hz1 := Lib.hid hz1
            have Hz2 := Lib.hid hz2
            have Hcut := Lib.hid hm'v
            clear hi0 hz0 hz1 hz2 hm'v
            go_wp2_with fail
            go_region_law (first
              | (refine step_append_any _ rfl (.tmp 71) (.tmp 78) 24 rfl (w.heap.size + 3) 30 i0 (.slice none 0 0) 1 24 Try.underlying24 Hi0.out Hz0.out Hz1.out Hz2.out rfl (by omega) (.slice A k c) k xs (by simp [Act.eval]) hstD.v (some ⟨wr.heap.size, 0, none⟩) 1 1 [.slice B m' d] (by simp [Act.eval]) hx1 (fun u hu => by rw [List.mem_singleton.1 hu]; rfl) (by unfold maxLen; omega) (by omega) hstD.z ?_
                 intro A3' c3' w3 hown3 hg3 _
                 have hb3' := below_own hstD.v hg3 hstD.z
                 have hst3 := hstD.vie hown3 hg3 hb3'
                 have hO3 := hstD.o.grownT (by decide) hstD.v hg3
                 have hOf3 := hO3.free 2
                 have hOc3 := hO3.cell 2
                 simp only [List.getElem?_toArray, List.getElem?_cons_zero, List.getElem?_cons_succ] at hOc3
                 clear hg3 hO3)
              | (go_simp; go_at_call 19; refine Hcut.out.mono ?_; rintro e w' ⟨rfl, rfl⟩))
            all_goals
              go_wp2_with fail
              go_roundw -- V
              case rel => exact ⟨k + 1, A3', c3', xs ++ [.slice B m' d], by omega, by omega, by go_num, hst3, by rw [Hst.out]; exact Hok.out.snoc hv8 (Nat.le_trans hm'm hmd) hdm⟩
              case measure => simp [intOf]; omega
          · have hkd : k = (fewF S).views.length := by rw [Hd3.out]; omega
            have Hfin : Hid (∃ Av cv xs, FewSt w wr #[.slice A1 n1 c1, .slice A2 n2 c2, .slice A3 n3 c3] Ad Am Av (fewF S).dims.length (fewF S).measures.length (fewF S).views.length cd cm cv ys (fewF S).measures xs ∧ ViewsOk wB xs (fewF S).views) := by
              refine Lib.hid ⟨A, c, xs, ?_, ?_⟩
              · rw [← hkd]; exact hst
              · rw [hkd, List.take_of_length_le (Nat.le_refl _)] at hok; exact hok
            clear hkd hst hok
            rcases (show ¬ k < n3 ∨ (k < n3 ∧ ¬ k < 12) by omega) with h | ⟨h, h'⟩
            all_goals
              go_wp2
              go_meet
              exact Hfin.out
      case rest =>
        obtain ⟨Av, cv, xs, hst, hok⟩ := hcut
        have hO0 := hst.o.cell 0
        have hO1 := hst.o.cell 1
        have hO2 := hst.o.cell 2
        have hR0 := hst.r.cell 0
        have hR1 := hst.r.cell 1
        have hR2 := hst.r.cell 2
        have hF0 := hst.r.free 0
        have hF1 := hst.r.free 1
        have hF2 := hst.r.free 2
        simp only [List.getElem?_toArray, List.getElem?_cons_zero, List.getElem?_cons_succ] at hO0 hO1 hO2 hR0 hR1 hR2
        have hR4 := ((hst.r.set_ 0 (.slice Ad (fewF S).dims.length cd)).set_ 1 (.slice Am (fewF S).measures.length cm)).set_ 2 (.slice Av (fewF S).views.length cv)
        have hd4 := own_set_far (own_set_far (own_set_far hst.d (p := ⟨w.heap.size + 1, 0, none⟩) (by show w.heap.size + 1 < _; omega) (.slice Ad (fewF S).dims.length cd)) (p := ⟨w.heap.size + 1, 1, none⟩) (by show w.heap.size + 1 < _; omega) (.slice Am (fewF S).measures.length cm)) (p := ⟨w.heap.size + 1, 2, none⟩) (by show w.heap.size + 1 < _; omega) (.slice Av (fewF S).views.length cv)
        have hm4 := own_set_far (own_set_far (own_set_far hst.m (p := ⟨w.heap.size + 1, 0, none⟩) (by show w.heap.size + 1 < _; omega) (.slice Ad (fewF S).dims.length cd)) (p := ⟨w.heap.size + 1, 1, none⟩) (by show w.heap.size + 1 < _; omega) (.slice Am (fewF S).measures.length cm)) (p := ⟨w.heap.size + 1, 2, none⟩) (by show w.heap.size + 1 < _; omega) (.slice Av (fewF S).views.length cv)
        have hv4 := own_set_far (own_set_far (own_set_far hst.v (p := ⟨w.heap.size + 1, 0, none⟩) (by show w.heap.size + 1 < _; omega) (.slice Ad (fewF S).dims.length cd)) (p := ⟨w.heap.size + 1, 1, none⟩) (by show w.heap.size + 1 < _; omega) (.slice Am (fewF S).measures.length cm)) (p := ⟨w.heap.size + 1, 2, none⟩) (by show w.heap.size + 1 < _; omega) (.slice Av (fewF S).views.length cv)
        have hb4 := ((hst.b.setCell (p := ⟨w.heap.size + 1, 0, none⟩) (by show w.heap.size ≤ w.heap.size + 1; omega) (.slice Ad (fewF S).dims.length cd)).setCell (p := ⟨w.heap.size + 1, 1, none⟩) (by show w.heap.size ≤ w.heap.size + 1; omega) (.slice Am (fewF S).measures.length cm)).setCell (p := ⟨w.heap.size + 1, 2, none⟩) (by show w.heap.size ≤ w.heap.size + 1; omega) (.slice Av (fewF S).views.length cv)
        go_wp2
        have h0 := hR4.cell 0
        have h1 := hR4.cell 1
        have h2 := hR4.cell 2
        generalize (((wc.setCell { block := w.heap.size + 1, off := 0 } (Value.slice Ad (fewF S).dims.length cd)).setCell { block := w.heap.size + 1, off := 1 } (Value.slice Am (fewF S).measures.length cm)).setCell { block := w.heap.size + 1, off := 2 } (Value.slice Av (fewF S).views.length cv)) = w4 at *
        refine bodyPost_ret (v := .agg #[.slice Ad (fewF S).dims.length cd, .slice Am (fewF S).measures.length cm, .slice Av (fewF S).views.length cv]) ?_ rfl ?_
        · simp at h0 h1 h2
          simp [results, Try.results15, go_sem, h0, h1, h2]
        · exact ⟨Ad, cd, Am, cm, Av, cv, ys, xs, rfl, own_mono hd4 (by omega), hys, own_mono hm4 (by omega), own_mono hv4 (by omega), hok, hb4⟩
end Go.Proofs.Ytojmkbhihnnmaaa
