/-
  The disk's answer: do.
-/
import Derived.Test.YtkgcccllabofoaaE4
namespace Go.Proofs.Ytkgcccllabofoaa
open Go.RowKit Go.Maps

theorem rdeed_info : (Try.prog.info? 85).map (fun i => (i.zero, i.size, i.bytes)) = some (some (.agg #[.int .i64 0, .string ByteArray.empty, .slice none 0 0, .int .i64 0]), 4, 56) := by kernel_rfl
theorem step_append_rd {w : World} {ops : Array Oper} {o : Oper} {a : Act} {K : Act → World → Prop} {Q : Exit → Act → World → Prop} {E : Prop} (hgd : o.guard = none) (s x : Operand)
    (ho : o.op = .call { callee := .builtin .append, args := #[s, x], argTypes := #[36, 36] })
    {A : Option Addr} {n cp : Nat} {ys : List Value} (hs : a.eval s = .slice A n cp) {base : Nat} (hbase : base ≤ w.heap.size) (hown : w.ownsRow base 85 4 (.slice A n cp) n ys)
    (g d : Nat) (u0 u1 u2 u3 : Value) (hx : a.eval x = .slice (some ⟨g, 0, none⟩) 1 d) (hb : Blk w g 85 #[u0, u1, u2, u3]) (h1 : ∀ u ∈ [u0, u1, u2, u3], u.oneCell' = true) (hn : n ≤ 1000000)
    (h : ∀ A' c' w', w'.ownsRow base 85 4 (.slice A' (n + 1) c') (n + 1) (ys ++ [u0, u1, u2, u3]) → w.grownBy w' (Value.slice A n cp).ownBlock → K (a.put o.dst (.slice A' (n + 1) c')) w') :
    if Region.wanted o (yielded ops a.tmps) = true then Oper.wp Try.prog o a w K Q else E := by
  obtain ⟨i0, hi0, hz0, hz1, hz2⟩ := info_parts rdeed_info
  refine step_append_any w hgd s x 36 ho base 85 i0 _ 4 56 Try.underlying36 hi0 hz0 hz1 hz2 rfl (by omega) (.slice A n cp) n _ hs hown (some ⟨g, 0, none⟩) 1 d [u0, u1, u2, u3] hx ⟨rfl, fun _ => ⟨_, rfl, fun j u hu => ?_⟩⟩ h1 (by unfold maxLen; omega) (by omega) hbase fun A' c' w' h1 h2 _ => ?_
  · have e : (⟨g, 0, none⟩ : Addr).add j = ⟨g, j, none⟩ := by unfold Addr.add; split <;> simp [*]
    rw [e, hb.cell j, ← hu]
    simp
  · exact h A' c' w' h1 h2

def Rt.burn (R : Rt) : Rt := { R with fuse := R.fuse.map (· - 1) }
def Rt.put (R : Rt) (x : Dd) : Rt := { R.burn with done := R.done ++ [x] }
theorem rburn_some (R : Rt) : R.burn.fuse.isSome = R.fuse.isSome := by unfold Rt.burn; simp
theorem rput_st (R : Rt) (x : Dd) : (R.put x).st = R.st.put x := rfl
section
variable {z : Zb} {g c n cp m cq : Nat} {w w' : World} {R : Rt} {A B : Option Addr} {ys : List FV} {left : Int} {xs : List (Value × Dd)} {cs : Array Value}
theorem ref_struct {j : Nat} {o : Obj} (hB : Blk w g 38 cs) (hg : w.grownBy w' (some g)) (hj : w.heap[j]? = some o) (ho : ∀ cs, o ≠ .cells cs 38 (0, 0)) : w'.heap[j]? = some o := by
  refine (hg.block j (lt_of_heap hj) fun e => ?_).trans hj
  injection e with e
  unfold Blk at hB
  rw [e, hB] at hj
  injection hj with hj
  exact ho _ hj.symm
/-- the struct has turned: all else is as it was -/
theorem RfIn.at_set (h : RfIn z w g c R A n cp ys B m cq left xs) (hg : w.grownBy w' (some g)) : FilesV z w' A n cp ys R.last ∧ w'.ownsRow z.b 85 4 (.slice B m cq) m (rdeedC xs) ∧ ∀ p ∈ xs, BytesV z w' p.1 p.2.data :=
  ⟨h.l.kept fun j o hj ho => ref_struct h.b hg hj (fun cs e => by
      rcases ho with ⟨cs', rfl⟩ | ⟨_, cs', fz, rfl⟩
      · injection e with _ e; cases e
      · injection e with _ e; cases e),
    own_same h.o fun j cs hj => ref_struct h.b hg hj (fun cs e => by injection e with _ e; cases e),
    fun p hp => (h.v p hp).kept fun j cs fz _ hj => ref_struct h.b hg hj (fun cs e => by injection e with _ e; cases e)⟩
end
/-- another block of the kind of a deed has turned -/
theorem RfIn.far {z : Zb} {g c n cp m cq q : Nat} {w w' : World} {R : Rt} {A B : Option Addr} {ys : List FV} {left : Int} {xs : List (Value × Dd)} {cs : Array Value} (h : RfIn z w g c R A n cp ys B m cq left xs) (hg : w.grownBy w' (some q)) (hq : Blk w q 85 cs) (hB : ∀ ad, B = some ad → ad.block ≠ q) : RfIn z w' g c R A n cp ys B m cq left xs := by
  have hk : ∀ j o, w.heap[j]? = some o → (∀ cs : Array Value, o ≠ Obj.cells cs 85 (0, 0)) → w'.heap[j]? = some o := fun j o hj ho => (hg.block j (lt_of_heap hj) fun e => by
    injection e with e
    unfold Blk at hq
    rw [e, hq] at hj
    injection hj with hj
    exact ho _ hj.symm).trans hj
  refine ⟨hk g _ h.b (fun cs e => by injection e with _ e; cases e), h.f, h.l.kept fun j o hj ho => hk j o hj (fun cs e => by
      rcases ho with ⟨cs', rfl⟩ | ⟨_, cs', fz, rfl⟩
      · injection e with _ e; cases e
      · injection e with _ e; cases e), ⟨h.o.1, ?_⟩, h.d, fun p hp => (h.v p hp).kept fun j cs fz _ hj => hk j _ hj (fun cs e => by injection e with _ e; cases e), h.c, h.ok, h.s, h.lo⟩
  rcases h.o.2 with h0 | ⟨gr, cap, cur, h1, h2, h3, h4⟩
  · exact .inl h0
  · refine .inr ⟨gr, cap, cur, h1, h2, (hg.block gr (lt_of_heap h3) fun e => ?_).trans h3, h4⟩
    injection e with e
    injection h1 with h1
    exact hB _ h1 e
theorem rburn_left {R : Rt} {left : Int} (hf : ∀ k, R.fuse = some k → left = k ∧ k ≤ 1099511627776) (h0 : R.fuse ≠ some 0) :
    ∀ k, R.burn.fuse = some k → (if R.fuse.isSome then left - 1 else left) = k ∧ k ≤ 1099511627776 := burn_left (S := ⟨fun _ => none, [], R.fuse⟩) hf h0
theorem TR_u8 (cs : Array Value) (fz : Nat × Nat) : TR (.cells cs 5 fz) = false := rfl
theorem rdo_fin {z : Zb} {g c n cp m cq c5 : Nat} {w4 w5 : World} {R : Rt} {x : Dd} {X : Value} {A B B5 : Option Addr} {ys : List FV} {left : Int} {xs : List (Value × Dd)}
    (h : RfIn z w4 g c R.burn A n cp ys B m cq left xs) (hX : BytesV z w4 X x.data)
    (hown : w5.ownsRow z.b 85 4 (.slice B5 (m + 1) c5) (m + 1) (rdeedC xs ++ [.int .i64 (x.kind : Nat), .string x.name, X, .int .i64 (x.n : Nat)])) (hg : w4.grownBy w5 (Value.slice B m cq).ownBlock)
    (hx : OkD (lookL R.files) x) :
    RefAt z (w5.setCell ⟨g, 1, none⟩ (.slice B5 (m + 1) c5)) g (c + 1) (R.put x) ∧ Chg z.b TR w4 (w5.setCell ⟨g, 1, none⟩ (.slice B5 (m + 1) c5)) := by
  have hB5 := blk_own h.o hg h.b (by decide)
  have hgs := grown_cell w5 g 1 (.slice B5 (m + 1) c5)
  have hu : ∀ v l, BytesV z w4 v l → BytesV z (w5.setCell ⟨g, 1, none⟩ (.slice B5 (m + 1) c5)) v l := fun v l hv =>
    (hv.kept (w' := w5) fun j cs fz _ hj => obj_own h.o hg hj (fun cs' e => by injection e with _ e; cases e)).kept fun j cs fz _ hj => ref_struct hB5 hgs hj (fun cs e => by injection e with _ e; cases e)
  refine ⟨⟨A, n, cp, ys, B5, m + 1, c5, left, xs ++ [(X, x)], ?_, h.f, ⟨?_, h.l.d, fun p hp => ⟨hu _ _ (h.l.v p hp).1, (h.l.v p hp).2⟩⟩, ?_, ?_, ?_, ?_, okAll_snoc _ _ _ h.ok ?_, h.s, h.lo⟩, (chg_own h.o hg fun _ => rfl).trans (chg_set hB5 rfl _ h.lo)⟩
  · have := hB5.set_ 1 (.slice B5 (m + 1) c5)
    exact this
  · exact own_same (own_same h.l.o fun j cs hj => obj_own h.o hg hj (fun cs e => by injection e with _ e; cases e)) fun j cs hj => ref_struct hB5 hgs hj (fun cs e => by injection e with _ e; cases e)
  · rw [show rdeedC (xs ++ [(X, x)]) = rdeedC xs ++ [.int .i64 (x.kind : Nat), .string x.name, X, .int .i64 (x.n : Nat)] by simp [rdeedC]]
    exact own_same hown fun j cs hj => ref_struct hB5 hgs hj (fun cs e => by injection e with _ e; cases e)
  · rw [List.map_append, h.d]; rfl
  · intro p hp
    rcases List.mem_append.1 hp with h1 | h1
    · exact hu _ _ (h.v p h1)
    · rw [List.mem_singleton.1 h1]
      exact hu _ _ hX
  · show R.last.length + (R.done ++ [x]).length ≤ c + 1
    have : R.last.length + R.done.length ≤ c := h.c
    simp; omega
  · have := (look_all R.last h.s R.done).1
    show OkD (doAll (lookL R.last) R.done) x
    rw [← this]; exact hx
/-- a slice that reads as the bytes l, and goes on doing so -/
def RdS (z : Zb) (w : World) (v : Value) (l : List UInt8) : Prop :=
  ∃ (A : Option Addr) (n c : Nat), v = .slice A n c ∧ Rd w A n l ∧ n ≤ c ∧ c ≤ maxLen ∧ ∀ ad, A = some ad → 0 < n → ad.block < z.b ∨ ∃ cs fz, w.heap[ad.block]? = some (.cells cs 5 fz)
section
variable {z : Zb} {w w' : World} {v : Value} {l : List UInt8}
theorem RdS.kept (h : RdS z w v l) (hc : ∀ j o, w.heap[j]? = some o → (j < z.b ∨ ∃ cs fz, o = .cells cs 5 fz) → w'.heap[j]? = some o) : RdS z w' v l := by
  obtain ⟨A, n, c, rfl, hr, hn, hm, hk⟩ := h
  refine ⟨A, n, c, rfl, ⟨hr.1, fun h0 => ?_⟩, hn, hm, fun ad e h0 => ?_⟩
  · obtain ⟨ad, rfl, hcell⟩ := hr.2 h0
    refine ⟨ad, rfl, fun j u hu => ?_⟩
    have h1 := hcell j u hu
    have e : (ad.add j).block = ad.block := block_of_add ad j
    have hlt := lt_of_cell h1
    rw [e] at hlt
    have ho : w.heap[ad.block]? = some (w.heap[ad.block]) := Array.getElem?_eq_getElem hlt
    rw [← h1]
    refine World.cell?_of_block ?_
    rw [e, ho]
    refine hc _ _ ho ?_
    rcases hk ad rfl h0 with h2 | ⟨cs, fz, h2⟩
    · exact .inl h2
    · rw [ho] at h2
      injection h2 with h2
      exact .inr ⟨cs, fz, h2⟩
  · rcases hk ad e h0 with h2 | ⟨cs, fz, h2⟩
    · exact .inl h2
    · exact .inr ⟨cs, fz, hc _ _ h2 (.inr ⟨cs, fz, rfl⟩)⟩
theorem RdS.below (h : RdS z w v l) (hb : Below w.heap.size w w') : RdS z w' v l := h.kept fun j _ hj _ => (hb.block j (lt_of_heap hj)).trans hj
theorem RdS.chg {T : Obj → Bool} (h : RdS z w v l) (hc : Chg z.b T w w') (hT : ∀ cs fz, T (.cells cs 5 fz) = false) : RdS z w' v l :=
  h.kept fun j o hj ho => hc.block j o hj (by
    rcases ho with h1 | ⟨cs, fz, rfl⟩
    · exact .inl h1
    · exact .inr (hT _ _))
theorem RdS.get {A : Option Addr} {n c : Nat} (h : RdS z w (.slice A n c) l) : Rd w A n l ∧ n ≤ c ∧ c ≤ maxLen := by
  obtain ⟨A', n', c', e, hr, h1, h2, _⟩ := h
  injection e with e1 e2 e3
  subst e1; subst e2; subst e3
  exact ⟨hr, h1, h2⟩
theorem RdS.len {A : Option Addr} {n c : Nat} (h : RdS z w (.slice A n c) l) : l.length = n := h.get.1.len
theorem RdS.cut {A : Option Addr} {n c k : Nat} (h : RdS z w (.slice A n c) l) (hk : k ≤ n) : RdS z w (.slice A k c) (l.take k) := by
  obtain ⟨A', n', c', e, hr, h1, h2, h3⟩ := h
  injection e with e1 e2 e3
  subst e1; subst e2; subst e3
  exact ⟨A, k, c, rfl, hr.take hk, by omega, h2, fun ad e h0 => h3 ad e (by omega)⟩
theorem BytesV.rds {q : Nat} (h : BytesV q w v l) (z : Zb) : RdS z w v l := by
  obtain ⟨A, n, c, rfl, hr, h1, h2, h3⟩ := h
  exact ⟨A, n, c, rfl, hr, h1, h2, fun ad e _ => .inr (h3 ad e).2⟩
end
/-- bytes that came in -/
def RdL (z : Zb) (w : World) (v : Value) (l : List UInt8) : Prop :=
  ∃ (A : Option Addr) (n c : Nat), v = .slice A n c ∧ Rd w A n l ∧ n ≤ c ∧ c ≤ maxLen ∧ ∀ ad, A = some ad → 0 < n → ad.block < z.b
theorem RdL.rds {z : Zb} {w : World} {v : Value} {l : List UInt8} (h : RdL z w v l) : RdS z w v l := by
  obtain ⟨A, n, c, rfl, hr, h1, h2, h3⟩ := h
  exact ⟨A, n, c, rfl, hr, h1, h2, fun ad e h0 => .inl (h3 ad e h0)⟩
theorem RdL.kept {z : Zb} {w w' : World} {v : Value} {l : List UInt8} (h : RdL z w v l) (hc : ∀ j o, w.heap[j]? = some o → j < z.b → w'.heap[j]? = some o) : RdL z w' v l := by
  obtain ⟨A, n, c, rfl, hr, hn, hm, hk⟩ := h
  refine ⟨A, n, c, rfl, ⟨hr.1, fun h0 => ?_⟩, hn, hm, hk⟩
  obtain ⟨ad, rfl, hcell⟩ := hr.2 h0
  refine ⟨ad, rfl, fun j u hu => ?_⟩
  have h1 := hcell j u hu
  have e : (ad.add j).block = ad.block := block_of_add ad j
  have hlt := lt_of_cell h1
  rw [e] at hlt
  have ho : w.heap[ad.block]? = some (w.heap[ad.block]) := Array.getElem?_eq_getElem hlt
  rw [← h1]
  refine World.cell?_of_block ?_
  rw [e, ho]
  exact hc _ _ ho (hk ad rfl h0)
set_option maxRecDepth 100000 in
theorem refdo_any (z : Zb) (g c : Nat) (R : Rt) (x : Dd) (X : Value) (w : World) (hD : RefAt z w g c R) (hX : RdS z w X x.data) (hxl : x.data.length ≤ 100000000) (hz : z.z < w.heap.size) (hx : OkD (lookL R.files) x) (h0 : R.fuse ≠ some 0) (hc : c ≤ 100000) :
    Calls Try.prog 72 #[.pointer (some ⟨g, 0, none⟩), rdV X x] w fun e w' => e = .returned (.int .i64 0) ∧ RefAt z w' g (c + 1) (R.put x) ∧ Chg z.b TR w w' := by
  obtain ⟨Bx, mx, dx, rfl, _⟩ := id hX
  obtain ⟨A, n, cp, ys, B, m, cq, left, xs, hI⟩ := hD
  have hmc : m ≤ 100000 := by have := hI.len; have := hI.c; omega
  have hbA : Below w.heap.size w (w.alloc (.cells #[.int .i64 (x.kind : Nat), .string x.name, .slice Bx mx dx, .int .i64 (x.n : Nat)] 85)) := (Below.refl _ _).alloc (Nat.le_refl _) _
  have hbx := Blk.new w 85 #[.int .i64 (x.kind : Nat), .string x.name, .slice Bx mx dx, .int .i64 (x.n : Nat)]
  have hX1 := hX.below hbA
  have hI1 := hI.below hbA
  have hgw := hI.b.lt
  have hleft := rburn_left hI.f h0
  have hlo := hI.lo
  have hBg : ∀ ad, B = some ad → ad.block ≠ w.heap.size := fun ad e => by
    subst e
    rcases hI.o.2 with ⟨h1, _⟩ | ⟨gr, cap, cur, h1, h2, h3, _⟩
    · cases h1
    · injection h1 with h1
      injection h1 with h1
      subst h1
      have := lt_of_heap h3
      show gr ≠ _
      omega
  have hbA' : Chg z.b TR w _ := Chg.of_below hbA
  have c2 := hI1.b.cell 2
  have c3 := hI1.b.cell 3
  have f3 := hI1.b.free 3
  simp only [rfCells, List.getElem?_toArray, List.getElem?_cons_zero, List.getElem?_cons_succ] at c2 c3
  have hfin : R.fuse.isSome = true → 0 < left ∧ left ≤ 9223372036854775807 := fun h => by
    cases hs : R.fuse with
    | none => rw [hs] at h; cases h
    | some k =>
      have h1 := hI.f k hs
      have h2 : k ≠ 0 := fun e => h0 (by rw [hs, e])
      omega
  unfold rdV
  go_enter Try.func72, Try.ntmps72
  go_upto_if 9 with fail
  generalize hw1 : w.alloc (.cells #[.int .i64 (x.kind : Nat), .string x.name, .slice Bx mx dx, .int .i64 (x.n : Nat)] 85) = w1 at *
  generalize hgx0 : w.heap.size = gx at *
  have hxlt := hbx.lt
  go_cut [] (fun wr => (∃ left2, RfIn z wr g c R.burn A n cp ys B m cq left2 xs) ∧ Blk wr gx 85 #[.int .i64 (x.kind : Nat), .string x.name, .slice Bx mx dx, .int .i64 (x.n : Nat)] ∧ RdS z wr (.slice Bx mx dx) x.data ∧ Chg z.b TR w wr ∧ w1.heap.size ≤ wr.heap.size)
  case first =>
    cases hf : R.fuse.isSome with
    | false =>
      rw [hf] at c2 hleft
      have hres : (∃ left2, RfIn z w1 g c R.burn A n cp ys B m cq left2 xs) := ⟨left, by rw [rburn_some]; exact hI1.b, hleft, hI1.l, hI1.o, hI1.d, hI1.v, hI1.c, hI1.ok, hI1.s, hI1.lo⟩
      have hres := Lib.hid hres
      clear hf
      go_wp2_with fail
      go_meet
      exact ⟨hres.out, hbx, hX1, hbA', Nat.le_refl _⟩
    | true =>
      rw [hf] at c2 hleft
      obtain ⟨hl1, hl2⟩ := hfin hf
      have hgs := grown_cell w1 g 3 (.int .i64 (left - 1))
      obtain ⟨h1, h2, h3⟩ := hI1.at_set hgs
      have hres : (∃ left2, RfIn z (w1.setCell ⟨g, 3, none⟩ (.int .i64 (left - 1))) g c R.burn A n cp ys B m cq left2 xs) := ⟨left - 1, by rw [rburn_some]; exact hI1.b.set_ 3 _, hleft, h1, h2, hI1.d, h3, hI1.c, hI1.ok, hI1.s, hI1.lo⟩
      have hres := Lib.hid hres
      have hbx2 := hbx.far (p := ⟨g, 3, none⟩) (by show gx ≠ g; omega) (.int .i64 (left - 1))
      have hch := chg_set (base := z.b) (i := 3) hI1.b (T := TR) rfl (.int .i64 (left - 1)) hI1.lo
      clear hf
      go_wp2_with fail
      go_meet
      exact ⟨hres.out, hbx2, hX1.chg hch TR_u8, hbA'.trans hch, by simp⟩
  case rest =>
    clear c2 c3 f3 hI1 hbx hX1
    obtain ⟨⟨left2, hI2⟩, hbx2, hX2, hch2, hsz⟩ := hcut
    rename World => w2
    have hxw2 := hbx2.lt
    have hnil : w2.ownsRow w2.heap.size 5 1 (.slice none 0 0) 0 (([] : List UInt8).map vb) := own_nil _ _
    have hml := hX2.len
    have y2 := hbx2.cell 2
    have z2 := hbx2.free 2
    simp only [List.getElem?_toArray, List.getElem?_cons_zero, List.getElem?_cons_succ] at y2
    go_upto_region 5 with (at_builtin; refine wpList_append_b rfl (.tmp 17) (.tmp 19) rfl w2.heap.size rfl hnil rfl hX2.get.1 (by omega) (Nat.le_refl _) ?_; intro A3 c3 w3 hown3 hg3 hb3)
    rw [Nat.zero_add, List.nil_append] at hown3
    have hzz := hch2.size
    have hX3 := BytesV.of_own (z := z.z) hown3 (by omega)
    have hbx3 := hbx2.kept hb3
    have y3 := hbx3.cell 2
    have z3 := hbx3.free 2
    have hI3 := hI2.below hb3
    have hgs := grown_cell w3 gx 2 (.slice A3 mx c3)
    have hI4 := hI3.far hgs hbx3 hBg
    have hbx4 := hbx3.set_ 2 (.slice A3 mx c3)
    have hch4 := (hch2.trans (Chg.of_below hb3)).trans (chg_set (i := 2) hbx3 (T := TR) rfl (.slice A3 mx c3))
    have hX4 := hX3.chg (chg_set (base := z.b) (i := 2) hbx3 (T := TR) rfl (.slice A3 mx c3)) TR_u8
    simp only [List.getElem?_toArray, List.getElem?_cons_zero, List.getElem?_cons_succ, List.setIfInBounds_toArray, List.set_cons_zero, List.set_cons_succ] at y3 hbx4
    clear hI2 hI3 hbx2 hbx3 hX2 hX3 hown3 hnil hg3 hb3
    go_upto_region 6 with fail
    generalize w3.setCell ⟨gx, 2, none⟩ (.slice A3 mx c3) = w4 at *
    have hgw4 := hI4.b.lt
    have hxw4 := hbx4.lt
    have g1 := hI4.b.cell 1
    have d0 := hbx4.cell 0
    have d1 := hbx4.cell 1
    have d2 := hbx4.cell 2
    have d3 := hbx4.cell 3
    simp only [rfCells, List.getElem?_toArray, List.getElem?_cons_zero, List.getElem?_cons_succ] at g1 d0 d1 d2 d3
    have hb5 : Below w4.heap.size w4 (w4.drew.alloc (.cells #[.int .i64 (x.kind : Nat), .string x.name, .slice A3 mx c3, .int .i64 (x.n : Nat)] 85)) := (Below.refl w4.heap.size w4).drew.alloc (Nat.le_refl _) _
    have hbS : Blk (w4.drew.alloc (.cells #[.int .i64 (x.kind : Nat), .string x.name, .slice A3 mx c3, .int .i64 (x.n : Nat)] 85)) w4.heap.size 85 #[.int .i64 (x.kind : Nat), .string x.name, .slice A3 mx c3, .int .i64 (x.n : Nat)] := Blk.new w4.drew _ _
    have hI5 := hI4.below hb5
    have hX5 := hX4.below hb5
    have hch5 := hch4.trans (Chg.of_below hb5)
    have hbs5 : z.b ≤ (w4.drew.alloc (.cells #[.int .i64 (x.kind : Nat), .string x.name, .slice A3 mx c3, .int .i64 (x.n : Nat)] 85)).heap.size := by have := hb5.size; omega
    have hone : ∀ u ∈ [Value.int .i64 (x.kind : Nat), .string x.name, .slice A3 mx c3, .int .i64 (x.n : Nat)], u.oneCell' = true := by
      intro u hu
      simp only [List.mem_cons, List.not_mem_nil, or_false] at hu
      rcases hu with rfl | rfl | rfl | rfl <;> rfl
    clear hI4 hX4 hch4
    go_region_law (refine step_append_rd rfl (.tmp 27) (.tmp 29) rfl (by simp [Act.eval]) hbs5 hI5.o w4.heap.size 1 _ _ _ _ (by simp [Act.eval]) hbS hone (Nat.le_trans hmc (by decide)) ?_
                   intro A6 c6 w6 hown6 hg6
                   have hB6 := blk_own hI5.o hg6 hI5.b (by decide)
                   have f1 := hB6.free 1
                   have e1 := hB6.cell 1
                   simp only [rfCells, List.getElem?_toArray, List.getElem?_cons_zero, List.getElem?_cons_succ] at e1
                   have Hfin := Lib.hid (rdo_fin hI5 hX5 hown6 hg6 hx)
                   clear hg6 hown6)
    all_goals
      go_wp2_with fail
      go_ret
      exact ⟨rfl, Hfin.out.1, hch5.trans Hfin.out.2⟩
end Go.Proofs.Ytkgcccllabofoaa
