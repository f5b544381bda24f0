/-
  The disk: do.
-/
import Derived.Test.YtkgcccllabofoaaD10
namespace Go.Proofs.Ytkgcccllabofoaa
open Go.RowKit Go.Maps

theorem chg_of_grown {base : Nat} {w w' : World} {g : Nat} {o : Obj} (h : w.grownBy w' (some g)) (ho : w.heap[g]? = some o) (hT : TP o = true) (hb : base ≤ g := by omega) : Chg base TP w w' :=
  Chg.of_grown h hb fun o' e => by rw [ho] at e; injection e with e; rw [← e]; exact hT
theorem mapB_obj {z b k : Nat} {w : World} {G : FS} (h : MapB z w b k G) : ∃ o, w.heap[b]? = some o ∧ TP o = true := by
  obtain ⟨F, ⟨es, clock, e, _⟩, _⟩ := h
  exact ⟨_, e, rfl⟩
theorem chg_set {base : Nat} {w : World} {g i : Nat} {cs : Array Value} {T : Obj → Bool} {t : TypeId} (h : Blk w g t cs) (hT : T (.cells cs t (0, 0)) = true) (u : Value) (hb : base ≤ g := by omega) : Chg base T w (w.setCell ⟨g, i, none⟩ u) :=
  Chg.of_grown (g := g) ⟨rfl, rfl, rfl, by simp [World.setCell], fun j _ hne => Below.heap_setCell w ⟨g, i, none⟩ u j (fun e => hne (by rw [e]))⟩ hb fun o e => by
    unfold Blk at h
    rw [h] at e; injection e with e; rw [← e]; exact hT
theorem chg_own {base : Nat} {w w' : World} {e : TypeId} {size n m : Nat} {A : Option Addr} {xs : List Value} (h : w.ownsRow base e size (.slice A n m) n xs) (hg : w.grownBy w' (Value.slice A n m).ownBlock) {T : Obj → Bool} (hT : ∀ cs, T (.cells cs e (0, 0)) = true) : Chg base T w w' := by
  refine ⟨hg.os, hg.tape, hg.output, hg.size, fun j o hj ho => ?_⟩
  refine (hg.block j (lt_of_heap hj) (fun hb => ?_)).trans hj
  rcases h.2 with ⟨h1, _⟩ | ⟨g, cap, cur, h1, h2, h3, _⟩
  · injection h1 with h1
    subst h1
    simp [Value.ownBlock] at hb
  · injection h1 with h1
    subst h1
    have : j = g := by simpa [Value.ownBlock] using hb
    subst this
    rcases ho with h0 | h0
    · omega
    · rw [hj] at h3
      injection h3 with h3
      rw [h3, hT] at h0
      cases h0
theorem blk_own {base : Nat} {w w' : World} {e t : TypeId} {size n m g : Nat} {A : Option Addr} {xs : List Value} {cs : Array Value} (h : w.ownsRow base e size (.slice A n m) n xs) (hg : w.grownBy w' (Value.slice A n m).ownBlock) (hb : Blk w g t cs) (hne : t ≠ e) : Blk w' g t cs := by
  refine (hg.block g hb.lt (fun hk => ?_)).trans hb
  rcases h.2 with ⟨h1, _⟩ | ⟨g', cap, cur, h1, _, h3, _⟩
  · injection h1 with h1
    subst h1
    simp [Value.ownBlock] at hk
  · injection h1 with h1
    subst h1
    have : g = g' := by simpa [Value.ownBlock] using hk
    subst this
    unfold Blk at hb
    rw [hb] at h3
    injection h3 with h3
    injection h3 with _ h3
    exact hne h3
theorem obj_own {base : Nat} {w w' : World} {e : TypeId} {size n m j : Nat} {A : Option Addr} {xs : List Value} {o : Obj} (h : w.ownsRow base e size (.slice A n m) n xs) (hg : w.grownBy w' (Value.slice A n m).ownBlock) (hj : w.heap[j]? = some o) (hne : ∀ cs, o ≠ .cells cs e (0, 0)) : w'.heap[j]? = some o := by
  refine (hg.block j (lt_of_heap hj) (fun hk => ?_)).trans hj
  rcases h.2 with ⟨h1, _⟩ | ⟨g', cap, cur, h1, _, h3, _⟩
  · injection h1 with h1
    subst h1
    simp [Value.ownBlock] at hk
  · injection h1 with h1
    subst h1
    have : j = g' := by simpa [Value.ownBlock] using hk
    subst this
    rw [hj] at h3
    injection h3 with h3
    exact hne _ h3
theorem TP_u8 (cs : Array Value) (fz : Nat × Nat) : TP (.cells cs 5 fz) = false := rfl

theorem burn_left {S : St} {left : Int} (hf : ∀ k, S.fuse = some k → left = k ∧ k ≤ 1099511627776) (h0 : S.fuse ≠ some 0) :
    ∀ k, S.burn.fuse = some k → (if S.fuse.isSome then left - 1 else left) = k ∧ k ≤ 1099511627776 := by
  intro k hk
  unfold St.burn at hk
  cases hs : S.fuse with
  | none => rw [hs] at hk; cases hk
  | some j =>
    rw [hs] at hk
    simp only [Option.map_some, Option.some.injEq] at hk
    have h1 := hf j hs
    have h2 : j ≠ 0 := fun e => h0 (by rw [hs, e])
    simp
    omega
theorem burn_some (S : St) : S.burn.fuse.isSome = S.fuse.isSome := by unfold St.burn; simp

section
variable {z g b k : Nat} {w w' : World} {G : FS} {cs : Array Value}
theorem bytes_struct (hB : Blk w g 74 cs) (hg : w.grownBy w' (some g)) {v : Value} {l : List UInt8} (h : BytesV z w v l) : BytesV z w' v l := by
  unfold Blk at hB
  exact h.grown hg (.inr fun cs fz e => by rw [hB] at e; injection e with e; injection e with _ e; cases e)
theorem mapB_struct (hB : Blk w g 74 cs) (hg : w.grownBy w' (some g)) (h : MapB z w b k G) : MapB z w' b k G := by
  refine h.keep (hg.block b h.lt fun e => ?_) fun _ _ => bytes_struct hB hg
  obtain ⟨F, ⟨es, clock, e1, _⟩, _⟩ := h
  unfold Blk at hB
  injection e with e
  rw [e, hB] at e1; cases e1
theorem own_struct {base n size : Nat} {v : Value} {xs : List Value} {e : TypeId} (hB : Blk w g 74 cs) (hg : w.grownBy w' (some g)) (h : w.ownsRow base e size v n xs) (he : 74 ≠ e) : w'.ownsRow base e size v n xs := by
  refine own_same h fun j cs hj => (hg.block j (lt_of_heap hj) fun e' => ?_).trans hj
  unfold Blk at hB
  injection e' with e'
  rw [e', hB] at hj; injection hj with hj; injection hj with _ h; exact he h
end
theorem DkIn.at_ {z : Zb} {g c bl bf n cp : Nat} {w w' : World} {S : St} {A : Option Addr} {left : Int} {xs : List (Value × Dd)} (h : DkIn z w g c S bl bf A n cp left xs) (hg : w.grownBy w' (some g)) :
    MapB z w' bl (c - S.done.length) S.last ∧ MapB z w' bf c S.files ∧ w'.ownsRow z.b 78 3 (.slice A n cp) n (deedC xs) ∧ ∀ p ∈ xs, BytesV z w' p.1 p.2.data :=
  ⟨mapB_struct h.b hg h.ml, mapB_struct h.b hg h.mf, own_struct h.b hg h.o (by decide), fun p hp => bytes_struct h.b hg (h.v p hp)⟩
theorem grown_cell (w : World) (g i : Nat) (v : Value) : w.grownBy (w.setCell ⟨g, i, none⟩ v) (some g) := ⟨rfl, rfl, rfl, by simp [World.setCell], fun j _ hne => Below.heap_setCell w ⟨g, i, none⟩ v j (fun e => hne (by rw [e]))⟩
theorem mapB_own {z b k base : Nat} {w w' : World} {G : FS} {n m : Nat} {A : Option Addr} {xs : List Value} (hm : MapB z w b k G) (h : w.ownsRow base 78 3 (.slice A n m) n xs) (hg : w.grownBy w' (Value.slice A n m).ownBlock) : MapB z w' b k G := by
  have hv : ∀ v l, BytesV z w v l → BytesV z w' v l := fun v l hv => hv.kept fun j cs fz _ hj => obj_own h hg hj (fun cs' e => by injection e with _ e; cases e)
  obtain ⟨F, ⟨es, clock, e1, e2⟩, hr⟩ := hm
  have : w'.heap[b]? = w.heap[b]? := by rw [e1]; exact obj_own h hg e1 (fun cs e => by cases e)
  exact MapB.keep ⟨F, ⟨es, clock, e1, e2⟩, hr⟩ this hv
theorem bytes_own {z base : Nat} {w w' : World} {v : Value} {l : List UInt8} {n m : Nat} {A : Option Addr} {xs : List Value} (hv : BytesV z w v l) (h : w.ownsRow base 78 3 (.slice A n m) n xs) (hg : w.grownBy w' (Value.slice A n m).ownBlock) : BytesV z w' v l :=
  hv.kept fun j cs fz _ hj => obj_own h hg hj (fun cs' e => by injection e with _ e; cases e)
theorem do_fin {z : Zb} {g c bl bf n cp c5 : Nat} {w4 w5 : World} {S : St} {x : Dd} {X : Value} {A A5 : Option Addr} {left : Int} {xs : List (Value × Dd)}
    (ho : w4.ownsRow z.b 78 3 (.slice A n cp) n (deedC xs)) (hB : Blk w4 g 74 (dkCells bl bf A n cp S.fuse.isSome left)) (hml : MapB z w4 bl (c - S.done.length) S.last) (hmf : MapB z w4 bf (c + 1) (doF S.files x))
    (hv : ∀ p ∈ xs, BytesV z w4 p.1 p.2.data) (hX : BytesV z w4 X x.data)
    (hown : w5.ownsRow z.b 78 3 (.slice A5 (n + 1) c5) (n + 1) (deedC xs ++ [.string x.name, X, .int .i64 (cutOf x)])) (hg : w4.grownBy w5 (Value.slice A n cp).ownBlock)
    (hleft : ∀ k, S.burn.fuse = some k → left = k ∧ k ≤ 1099511627776) (hc : S.done.length ≤ c) (hok : okAll S.last S.done) (hx : OkD S.files x) (hd : xs.map (·.2) = S.done) (hne : bl ≠ bf) (hlo : z.b ≤ g ∧ z.b ≤ bl ∧ z.b ≤ bf) :
    DiskAt z (w5.setCell ⟨g, 2, none⟩ (.slice A5 (n + 1) c5)) g (c + 1) (S.put x) ∧ Chg z.b TP w4 (w5.setCell ⟨g, 2, none⟩ (.slice A5 (n + 1) c5)) := by
  have hB5 := blk_own ho hg hB (by decide)
  have hgs := grown_cell w5 g 2 (.slice A5 (n + 1) c5)
  have hl1 := ho.1
  have hl2 := congrArg List.length hd
  rw [List.length_map] at hl2
  refine ⟨⟨bl, bf, A5, n + 1, c5, left, xs ++ [(X, x)], ?_, hleft, hne, (mapB_struct hB5 hgs (mapB_own hml ho hg)).more (by show _ ≤ c + 1 - (S.done ++ [x]).length; simp), ?_, ?_, ?_, ?_, ?_, okAll_snoc _ _ _ hok hx, hlo⟩, (chg_own ho hg fun _ => rfl).trans (chg_set hB5 rfl _ hlo.1)⟩
  · have := hB5.set_ 2 (.slice A5 (n + 1) c5)
    rw [show (S.put x).fuse.isSome = S.fuse.isSome from burn_some S]
    exact this
  · rw [show (S.put x).files = doF S.files x from doAll_snoc _ _ _]
    exact mapB_struct hB5 hgs (mapB_own hmf ho hg)
  · rw [show deedC (xs ++ [(X, x)]) = deedC xs ++ [.string x.name, X, .int .i64 (cutOf x)] by simp [deedC]]
    exact own_struct hB5 hgs hown (by decide)
  · rw [List.map_append, hd]; rfl
  · intro p hp
    refine bytes_struct hB5 hgs ?_
    rcases List.mem_append.1 hp with h | h
    · exact bytes_own (hv p h) ho hg
    · rw [List.mem_singleton.1 h]
      exact bytes_own hX ho hg
  · show (S.done ++ [x]).length ≤ c + 1
    simp; exact hc
set_option maxRecDepth 100000 in
theorem do_any (z : Zb) (g c : Nat) (S : St) (x : Dd) (X : Value) (w : World) (hD : DiskAt z w g c S) (hX : BytesV z w X x.data) (hz : z < w.heap.size) (hx : OkD S.files x) (h0 : S.fuse ≠ some 0) (hc : c ≤ 100000) :
    Calls Try.prog 63 #[.pointer (some ⟨g, 0, none⟩), deedV X x] w fun e w' => e = .returned (.int .i64 0) ∧ DiskAt z w' g (c + 1) (S.put x) ∧ Chg z.b TP w w' := by
  have hX' := hX
  obtain ⟨B, m, d, rfl, _⟩ := hX'
  obtain ⟨bl, bf, A, n, cp, left, xs, hI⟩ := hD
  have hnc : n ≤ 100000 := by have := hI.len; have := hI.c; omega
  have hlen := Lib.hid hI.len
  have hbA : Below w.heap.size w (w.alloc (.cells #[.string x.name, .slice B m d, .int .i64 (cutOf x)] 78)) := (Below.refl _ _).alloc (Nat.le_refl _) _
  have hbx := Blk.new w 78 #[.string x.name, .slice B m d, .int .i64 (cutOf x)]
  have hX1 := hX.below hbA
  have hgw := hI.b.lt
  have hfw := hI.mf.lt
  have hlw := hI.ml.lt
  have hI1 := hI.kept (w' := w.alloc (.cells #[.string x.name, .slice B m d, .int .i64 (cutOf x)] 78)) fun j _ hj _ => (hbA.block j (lt_of_heap hj)).trans hj
  have hone : ∀ u ∈ [Value.string x.name, .slice B m d, .int .i64 (cutOf x)], u.oneCell' = true := by
    intro u hu
    simp only [List.mem_cons, List.not_mem_nil, or_false] at hu
    rcases hu with rfl | rfl | rfl <;> rfl
  have hleft := burn_left hI.f h0
  have hbA' : Chg z.b TP w _ := Chg.of_below hbA
  unfold deedV
  go_enter Try.func63, Try.ntmps63
  go_wp2_with fail
  generalize hw1 : w.alloc (.cells #[.string x.name, .slice B m d, .int .i64 (cutOf x)] 78) = w1 at *
  have hxl : w.heap.size < w1.heap.size := hbx.lt
  refine (burn_any hI1.b (fun h => ?_)).mono ?_
  · cases hs : S.fuse with
    | none => rw [hs] at h; cases h
    | some k =>
      have h1 := hI.f k hs
      have h2 : k ≠ 0 := fun e => h0 (by rw [hs, e])
      omega
  rintro e w2 ⟨rfl, hB2, hg2⟩
  obtain ⟨hml2, hmf2, ho2, hv2⟩ := hI1.at_ hg2
  generalize (if S.fuse.isSome = true then left - 1 else left) = left2 at *
  obtain ⟨hlo1, hlo2, hlo3⟩ := hI.lo
  have hc2 := chg_of_grown (base := z.b) hg2 hI1.b rfl
  have hbx2 := hbx.grown hg2 (by simp; omega)
  have hX2 := hX1.chg hc2 TP_u8
  have hgl := hI.gl
  have hz2 := hg2.size
  generalize hgl2 : w.heap.size = gx at *
  have g1 := hB2.cell 1
  have g2 := hB2.cell 2
  have x0 := hbx2.cell 0
  have x1 := hbx2.cell 1
  have x2 := hbx2.cell 2
  simp only [dkCells, List.getElem?_toArray, List.getElem?_cons_zero, List.getElem?_cons_succ] at g1 g2 x0 x1 x2
  have k1 := keep_cell (gs := [g, gx]) g1 (by simp)
  have kx0 := keep_cell (gs := [g, gx]) x0 (by simp)
  have kx1 := keep_cell (gs := [g, gx]) x1 (by simp)
  have kx2 := keep_cell (gs := [g, gx]) x2 (by simp)
  generalize hcc : cutOf x = cc at *
  go_wp2_with fail
  refine wp_region_mix (C := keepW [g, gx] w2) [([0, 1, 2, 3, 4], 5)] [] (by kernel_rfl) (by kernel_rfl) (fun _ _ _ _ e h => ⟨e.symm.trans h.1, h.2⟩) keepW_refl ?_
  refine wpSegs_step fun K1 hK1 => ?_
  simp only [pickL, List.getElem?_cons_zero, List.getElem?_cons_succ]
  repeat (go_big_quiet_step (fail))
  refine wpQuiet_nil ?_
  go_wp2_with fail
  have hml2d : MapB z w2.drew bl (c - S.done.length) S.last := hml2.keep rfl fun _ _ h => h
  have hmf2d : MapB z w2.drew bf c S.files := hmf2.keep rfl fun _ _ h => h
  have hda := does_any z bf c S.files x (.slice B m d) w2.drew hmf2d hX2 (by show z < w2.heap.size; omega) hx
  unfold deedV at hda
  rw [hcc] at hda
  refine hda.mono ?_
  rintro e w3 ⟨rfl, hmf3, hg3⟩
  have hg3' : w2.grownBy w3 (some bf) := ⟨hg3.os, hg3.tape, hg3.output, hg3.size, hg3.block⟩
  clear hda hg3 hml2d hmf2d
  obtain ⟨ob, hob, hobT⟩ := mapB_obj hmf2
  have hbo : ∀ cs fz, w2.heap[bf]? ≠ some (.cells cs 5 fz) := fun cs fz e => by
    obtain ⟨F, ⟨es, clock, e', _⟩, _⟩ := hmf2
    rw [e'] at e; cases e
  have hc3 := chg_of_grown (base := z.b) hg3' hob hobT
  have hml3 : MapB z w3 bl (c - S.done.length) S.last := hml2.keep (hg3'.block bl (by omega) (by simp; exact hI.ne)) fun v l hv => hv.grown hg3' (.inr hbo)
  have hB3 := hB2.grown hg3' (by simp; omega)
  have hbx3 := hbx2.grown hg3' (by simp; omega)
  have ho3 := own_same ho2 fun j cs hj => (hg3'.block j (lt_of_heap hj) (fun e => by
    injection e with e; subst e
    obtain ⟨F, ⟨es, clock, e', _⟩, _⟩ := hmf2
    rw [e'] at hj; cases hj)).trans hj
  have hv3 : ∀ p ∈ xs, BytesV z w3 p.1 p.2.data := fun p hp => (hv2 p hp).grown hg3' (.inr hbo)
  have hX3 := hX2.grown hg3' (.inr hbo)
  have hz3 := hg3'.size
  go_wp2_with fail
  refine ⟨keepW_of (by simp; exact ⟨hg3'.block g (by omega) (by simp; omega), hg3'.block gx (by omega) (by simp; omega)⟩), hK1 _ _ ?_⟩
  refine wpSegs_last ?_
  simp only [pickL]
  refine wpQuiet_nil ?_
  have hgw3 := hB3.lt
  have hxw3 := hbx3.lt
  have g2 := hB3.cell 2
  have x0 := hbx3.cell 0
  have x1 := hbx3.cell 1
  have x2 := hbx3.cell 2
  simp only [dkCells, List.getElem?_toArray, List.getElem?_cons_zero, List.getElem?_cons_succ] at g2 x0 x1 x2
  have hb4 : Below w3.heap.size w3 (w3.drew.alloc (.cells #[.string x.name, .slice B m d, .int .i64 cc] 78)) := (Below.refl w3.heap.size w3).drew.alloc (Nat.le_refl _) _
  have hbS : Blk (w3.drew.alloc (.cells #[.string x.name, .slice B m d, .int .i64 cc] 78)) w3.heap.size 78 #[.string x.name, .slice B m d, .int .i64 cc] := Blk.new w3.drew _ _
  have ho4 := own_below ho3 hb4
  have hB4 := hB3.kept hb4
  have hml4 := hml3.below hb4
  have hmf4 := hmf3.below hb4
  have hv4 : ∀ p ∈ xs, BytesV z _ p.1 p.2.data := fun p hp => (hv3 p hp).below hb4
  have hX4 := hX3.below hb4
  have hc4 : Chg z.b TP w3 _ := Chg.of_below hb4
  have hcz := ((hbA'.trans hc2).trans hc3).trans hc4
  clear hc2 hc3 hc4 hbA' hv3 hX3 hml3 hmf3 ho3 hv2 hX2 hml2 hmf2
  have hcl := Lib.hid hI.c
  have hok := Lib.hid hI.ok
  have hds := Lib.hid hI.d
  have hbne := Lib.hid hI.ne
  have hbs4 : z.b ≤ (w3.drew.alloc (.cells #[.string x.name, .slice B m d, .int .i64 cc] 78)).heap.size := by have := hb4.size; omega
  clear hI hI1 hX
  go_wp2_with fail
  go_region_law (refine step_append_dd rfl (.tmp 17) (.tmp 19) rfl (by simp [Act.eval]) hbs4 ho4 w3.heap.size 1 _ _ _ (by simp [Act.eval]) hbS hone (Nat.le_trans hnc (by decide)) ?_
                 intro A5 c5 w5 hown5 hg5
                 have hB5 := blk_own ho4 hg5 hB4 (by decide)
                 have f2 := hB5.free 2
                 have g2 := hB5.cell 2
                 simp only [dkCells, List.getElem?_toArray, List.getElem?_cons_zero, List.getElem?_cons_succ] at g2
                 have Hfin := Lib.hid (do_fin ho4 hB4 hml4 hmf4 hv4 hX4 (by rw [hcc]; exact hown5) hg5 hleft hcl.out hok.out hx hds.out hbne.out ⟨hlo1, hlo2, hlo3⟩)
                 clear hg5 hown5)
  all_goals
    go_wp2_with fail
    go_ret
    exact ⟨rfl, Hfin.out.1, hcz.trans Hfin.out.2⟩
end Go.Proofs.Ytkgcccllabofoaa
