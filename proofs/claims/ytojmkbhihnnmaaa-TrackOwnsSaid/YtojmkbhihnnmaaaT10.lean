/-
  The track's answer: what is the same is told to be the same.
-/
import Derived.Test.YtojmkbhihnnmaaaT9
namespace Go.Proofs.Ytojmkbhihnnmaaa
open Go.RowKit

/-! a class of worlds: some blocks stay -/
def Keep (gs : List Nat) (w : World) : Type := { w' : World // ∀ g ∈ gs, w'.heap[g]? = w.heap[g]? }
instance (gs : List Nat) (w : World) : Nonempty (Keep gs w) := ⟨⟨w, fun _ _ => rfl⟩⟩
def keepW (gs : List Nat) (w : World) : World → Prop := fun w' => ∃ x : Keep gs w, w' = x.1
attribute [go_sem] keepW
theorem keepW_refl {gs : List Nat} {w : World} : keepW gs w w.drew := ⟨⟨w.drew, fun _ _ => rfl⟩, rfl⟩
theorem keepW_of {gs : List Nat} {w w' : World} (h : ∀ g ∈ gs, w'.heap[g]? = w.heap[g]?) : keepW gs w w' := ⟨⟨w', h⟩, rfl⟩
theorem keepW_trans {gs : List Nat} {w w' w'' : World} (h : keepW gs w w') (h' : ∀ g ∈ gs, w''.heap[g]? = w'.heap[g]?) : keepW gs w w'' := by
  obtain ⟨x, rfl⟩ := h
  exact ⟨⟨w'', fun g hg => (h' g hg).trans (x.2 g hg)⟩, rfl⟩
theorem keep_cell {gs : List Nat} {w : World} {p : Addr} {v : Value} (h : w.cell? p = some v) (hp : p.block ∈ gs) : ∀ x : Keep gs w, x.1.cell? p = some v :=
  fun x => by rw [← h]; exact World.cell?_of_block (x.2 _ hp)
theorem keepW_below {gs : List Nat} {w w' : World} (hg : ∀ g ∈ gs, g < w.heap.size) (hb : Below w.heap.size w w') : keepW gs w w' := keepW_of fun g h => hb.block g (hg g h)
theorem lt_of_heap {w : World} {j : Nat} {o : Obj} (h : w.heap[j]? = some o) : j < w.heap.size := by
  rcases Nat.lt_or_ge j w.heap.size with hlt | hge
  · exact hlt
  · rw [Array.getElem?_eq_none hge] at h; cases h
set_option maxRecDepth 100000 in
theorem sameI_any {A B : Option Addr} {n c d : Nat} {l : List Int} {w : World} (h1 : RdI w A n l) (h2 : RdI w B n l) (hn : n ≤ maxLen) :
    Calls Try.prog 20 #[.slice A n c, .slice B n d] w fun e w' => e = .returned (.bool true) ∧ Below w.heap.size w w' := by
  unfold maxLen at hn
  go_enter Try.func20, Try.ntmps20
  go_wp2_with fail
  go_loopw [5] (fun i wr => ∃ k q : Nat, k ≤ n ∧ i = .int .i64 k ∧ wr = w.drewN q) (fun i _ => n - (intOf i).toNat)
  case atStart => exact ⟨0, 0, Nat.zero_le _, rfl, rfl⟩
  case round =>
    obtain ⟨k, q, hk, rfl, rfl⟩ := hrel
    by_cases hlt : k < n
    · obtain ⟨ad, rfl, c1⟩ := h1.at_ hlt
      obtain ⟨ad2, rfl, c2⟩ := h2.at_ hlt
      generalize l[k]?.getD 0 = b at *
      go_wp2_with fail
      go_quiet (fail)
      go_wp2_with fail
      exact ⟨⟨k + 1, _, hlt, by go_num, rfl⟩, by simp [intOf]; omega⟩
    · go_wp2_with fail
      go_ret
      exact ⟨rfl, below_drewN (Below.refl _ _) q⟩
set_option maxRecDepth 100000 in
theorem sameN_any {A B : Option Addr} {n c d : Nat} {l : List ByteArray} {w : World} (h1 : RdT w A n l) (h2 : RdT w B n l) (hn : n ≤ maxLen) :
    Calls Try.prog 97 #[.slice A n c, .slice B n d] w fun e w' => e = .returned (.bool true) ∧ Below w.heap.size w w' := by
  unfold maxLen at hn
  go_enter Try.func97, Try.ntmps97
  go_wp2_with fail
  go_loopw [5] (fun i wr => ∃ k q : Nat, k ≤ n ∧ i = .int .i64 k ∧ wr = w.drewN q) (fun i _ => n - (intOf i).toNat)
  case atStart => exact ⟨0, 0, Nat.zero_le _, rfl, rfl⟩
  case round =>
    obtain ⟨k, q, hk, rfl, rfl⟩ := hrel
    by_cases hlt : k < n
    · obtain ⟨ad, s, rfl, hs, c1⟩ := h1.at_ hlt
      obtain ⟨ad2, s2, rfl, hs2, c2⟩ := h2.at_ hlt
      rw [hs] at hs2
      obtain rfl := Option.some.inj hs2
      clear hs hs2
      go_wp2_with fail
      go_quiet (fail)
      go_wp2_with fail
      exact ⟨⟨k + 1, _, hlt, by go_num, rfl⟩, by simp [intOf]; omega⟩
    · go_wp2_with fail
      go_ret
      exact ⟨rfl, below_drewN (Below.refl _ _) q⟩
set_option maxRecDepth 100000 in
theorem sameF_any {S S' : Nat → Prop} {A B : Option Addr} {n c d : Nat} {fs : List Fa} {w : World} (h1 : FactsV S w (.slice A n c) fs) (h2 : FactsV S' w (.slice B n d) fs) (hn : n ≤ maxLen) :
    Calls Try.prog 89 #[.slice A n c, .slice B n d] w fun e w' => e = .returned (.bool true) ∧ Below w.heap.size w w' := by
  unfold maxLen at hn
  go_enter Try.func89, Try.ntmps89
  go_wp2_with fail
  go_loopw [5] (fun i wr => ∃ k : Nat, k ≤ n ∧ i = .int .i64 k ∧ Below w.heap.size w wr) (fun i _ => n - (intOf i).toNat)
  case atStart => exact ⟨0, Nat.zero_le _, rfl, Below.refl _ _⟩
  case round =>
    obtain ⟨k, hk, rfl, hb⟩ := hrel
    by_cases hlt : k < n
    · obtain ⟨ad, f, A1, m1, d1, B1, q1, r1, rfl, hf1, c0, c1, p1, v1, x1, x2, x3, x4, x5, x6⟩ := (h1.keep (Stay.below (S := S) hb)).at_ hlt
      obtain ⟨bd, f2, A2, m2, d2, B2, q2, r2, rfl, hf2, e0, e1, p2, v2, y1, y2, y3, y4, y5, y6⟩ := (h2.keep (Stay.below (S := S') hb)).at_ hlt
      rw [hf1] at hf2
      obtain rfl := Option.some.inj hf2
      obtain rfl : m2 = m1 := by omega
      obtain rfl : q2 = q1 := by omega
      clear hf1 hf2
      have hmeas := Lib.hid (show n - (k + 1) < n - k by omega)
      have ka := keep_cell (gs := [(ad.add (k * 2)).block, (bd.add (k * 2)).block]) c1 (by simp)
      have kb := keep_cell (gs := [(ad.add (k * 2)).block, (bd.add (k * 2)).block]) e1 (by simp)
      go_wp2_with fail
      refine wp_region_mix (C := keepW [(ad.add (k * 2)).block, (bd.add (k * 2)).block] wr) [([0, 1, 2, 3, 4, 5, 6, 7, 8, 9], 10)] [11] (by kernel_rfl) (by kernel_rfl) (fun _ _ _ _ e h => ⟨e.symm.trans h.1, h.2⟩) keepW_refl ?_
      refine wpSegs_step fun K1 hK1 => ?_
      simp only [pickL, List.getElem?_cons_zero, List.getElem?_cons_succ]
      repeat (go_big_quiet_step (fail))
      refine wpQuiet_nil ?_
      go_wp2_with fail
      refine (sameI_any (w := wr.drew) v1.rd v2.rd (Nat.le_trans x4 x5)).mono ?_
      rintro e w6 ⟨rfl, hb6⟩
      have hb6 : Below wr.heap.size wr w6 := (below_drewN (Below.refl wr.heap.size wr) 1).trans hb6
      have la := lt_of_cell c0
      have lb := lt_of_cell e0
      have c0' := (hb6.cell la).trans c0
      have e0' := (hb6.cell lb).trans e0
      go_wp2_with fail
      have hgs : ∀ g ∈ [(ad.add (k * 2)).block, (bd.add (k * 2)).block], g < wr.heap.size := by simp; exact ⟨la, lb⟩
      refine ⟨keepW_below hgs hb6, hK1 _ _ ?_⟩
      refine wpSegs_last ?_
      simp only [pickL, List.getElem?_cons_zero, List.getElem?_cons_succ]
      repeat (go_big_quiet_step (fail))
      refine wpQuiet_nil ?_
      go_wp2_with fail
      go_quiet (fail)
      have hb06 := below_then hb hb6 (Nat.le_refl _)
      have hp1 := p1.keep (Stay.below (S := S) hb6)
      have hp2 := p2.keep (Stay.below (S := S') hb6)
      have la' : (ad.add (k * 2)).block < w6.heap.size := Nat.lt_of_lt_of_le la hb6.size
      have lb' : (bd.add (k * 2)).block < w6.heap.size := Nat.lt_of_lt_of_le lb hb6.size
      clear hb6 c0 e0 c1 e1 ka kb p1 p2 v1 v2
      unfold maxLen at x2
      go_wp2_with fail
      go_loopw [7] (fun i wr' => ∃ j : Nat, j ≤ m2 ∧ i = .int .i64 j ∧ Below w6.heap.size w6 wr') (fun i _ => m2 - (intOf i).toNat)
      case atStart => exact ⟨0, Nat.zero_le _, rfl, below_drewN (Below.refl _ _) _⟩
      case round =>
        obtain ⟨j, hj, rfl, hb'⟩ := hrel
        have c0 := (hb'.cell la').trans c0'
        have e0 := (hb'.cell lb').trans e0'
        have lc := Nat.lt_of_lt_of_le la' hb'.size
        have ld := Nat.lt_of_lt_of_le lb' hb'.size
        by_cases hlt' : j < m2
        · obtain ⟨cd, p, C1, s1, t1, rfl, hq1, c2, z1, z2, z3, z4⟩ := (hp1.keep (Stay.below (S := S) hb')).at_ hlt'
          obtain ⟨dd, p', C2, s2, t2, rfl, hq2, e2, z5, z6, z7, z8⟩ := (hp2.keep (Stay.below (S := S') hb')).at_ hlt'
          rw [hq1] at hq2
          obtain rfl := Option.some.inj hq2
          obtain rfl : s2 = s1 := by omega
          clear hq1 hq2
          have le := lt_of_cell c2
          have lf := lt_of_cell e2
          rw [block_of_add] at le lf
          have hmeas' := Lib.hid (show m2 - (j + 1) < m2 - j by omega)
          have ka := keep_cell (gs := [(ad.add (k * 2)).block, (bd.add (k * 2)).block, cd.block, dd.block]) c0 (by simp)
          have kb := keep_cell (gs := [(ad.add (k * 2)).block, (bd.add (k * 2)).block, cd.block, dd.block]) e0 (by simp)
          have kc := keep_cell (gs := [(ad.add (k * 2)).block, (bd.add (k * 2)).block, cd.block, dd.block]) c2 (by simp [block_of_add])
          have kd := keep_cell (gs := [(ad.add (k * 2)).block, (bd.add (k * 2)).block, cd.block, dd.block]) e2 (by simp [block_of_add])
          have hgs : ∀ g ∈ [(ad.add (k * 2)).block, (bd.add (k * 2)).block, cd.block, dd.block], g < wr.heap.size := by simp; exact ⟨lc, ld, le, lf⟩
          go_wp2_with fail
          refine wp_region_mix (C := keepW [(ad.add (k * 2)).block, (bd.add (k * 2)).block, cd.block, dd.block] wr) [([0, 1, 2, 3, 4, 5, 6, 7, 8, 9, 10, 11, 12, 13, 14, 15], 16)] [17] (by kernel_rfl) (by kernel_rfl) (fun _ _ _ _ e h => ⟨e.symm.trans h.1, h.2⟩) keepW_refl ?_
          refine wpSegs_step fun K1 hK1 => ?_
          simp only [pickL, List.getElem?_cons_zero, List.getElem?_cons_succ]
          repeat (go_big_quiet_step (fail))
          refine wpQuiet_nil ?_
          go_wp2_with fail
          refine (sameN_any (w := wr.drew) z1.rd z5.rd (Nat.le_trans z2 z3)).mono ?_
          rintro e w7 ⟨rfl, hb7⟩
          have hb7 : Below wr.heap.size wr w7 := (below_drewN (Below.refl wr.heap.size wr) 1).trans hb7
          go_wp2_with fail
          refine ⟨keepW_below hgs hb7, hK1 _ _ ?_⟩
          refine wpSegs_last ?_
          simp only [pickL, List.getElem?_cons_zero, List.getElem?_cons_succ]
          repeat (go_big_quiet_step (fail))
          refine wpQuiet_nil ?_
          go_wp2_with fail
          go_roundw
          case rel => exact ⟨j + 1, hlt', by go_num, below_then hb' hb7 (Nat.le_refl _)⟩
          case measure => simp [intOf]; exact hmeas'.out
        · obtain rfl : j = m2 := by omega
          go_wp2_with fail
          go_roundw
          case rel => exact ⟨k + 1, hlt, by go_num, below_then hb06 hb' (Nat.le_refl _)⟩
          case measure => simp [intOf]; exact hmeas.out
    · go_wp2_with fail
      go_ret
      exact ⟨rfl, hb⟩
theorem two_box (w : World) (T T' : TypeId) (cs ds : Array Value) : Below w.heap.size w ((w.alloc (.cells cs T)).alloc (.cells ds T')) ∧ Blk ((w.alloc (.cells cs T)).alloc (.cells ds T')) w.heap.size T cs ∧ Blk ((w.alloc (.cells cs T)).alloc (.cells ds T')) (w.heap.size + 1) T' ds := by
  refine ⟨((Below.refl _ _).alloc (Nat.le_refl _) _).alloc (by simp) _, (Blk.new w T cs).alloc _, ?_⟩
  have := Blk.new (w.alloc (.cells cs T)) T' ds
  have e : (w.alloc (.cells cs T)).heap.size = w.heap.size + 1 := by simp
  rwa [e] at this
theorem sameCmd_any {S S' : Nat → Prop} {A B : Option Addr} {n c d : Nat} {x : En} {w : World} (h1 : FactsV S w (.slice A n c) x.facts) (h2 : FactsV S' w (.slice B n d) x.facts) (hn : n ≤ maxLen) :
    Calls Try.prog 83 #[cmdV x (.slice A n c), cmdV x (.slice B n d)] w fun e w' => e = .returned (.bool true) ∧ Below w.heap.size w w' := by
  unfold cmdV
  obtain ⟨hbA, hk1, hk2⟩ := two_box w 52 52 #[.int .i64 x.op, .int .i64 x.sess, .int .i64 x.seq, .slice A n c] #[.int .i64 x.op, .int .i64 x.sess, .int .i64 x.seq, .slice B n d]
  have g1 := h1.keep (Stay.below (S := S) hbA)
  have g2 := h2.keep (Stay.below (S := S') hbA)
  go_enter Try.func83, Try.ntmps83
  go_wp2_with fail
  generalize (w.alloc (.cells #[.int .i64 x.op, .int .i64 x.sess, .int .i64 x.seq, .slice A n c] 52)).alloc (.cells #[.int .i64 x.op, .int .i64 x.sess, .int .i64 x.seq, .slice B n d] 52) = w1 at *
  refine (sameF_any g1 g2 hn).mono ?_
  rintro e w2 ⟨rfl, hb2⟩
  have b1 := hk1.kept hb2
  have b2 := hk2.kept hb2
  have a0 := b1.cell 0
  have a1 := b1.cell 1
  have a2 := b1.cell 2
  have d0 := b2.cell 0
  have d1 := b2.cell 1
  have d2 := b2.cell 2
  simp only [List.getElem?_toArray, List.getElem?_cons_zero, List.getElem?_cons_succ] at a0 a1 a2 d0 d1 d2
  go_wp2_with fail
  go_ret
  exact ⟨by simp, below_then hbA hb2 (Nat.le_refl _)⟩
theorem sameEn_any {S S' : Nat → Prop} {A B : Option Addr} {n c d : Nat} {x : En} {w : World} (h1 : FactsV S w (.slice A n c) x.facts) (h2 : FactsV S' w (.slice B n d) x.facts) (hn : n ≤ maxLen) :
    Calls Try.prog 65 #[enV x (.slice A n c), enV x (.slice B n d)] w fun e w' => e = .returned (.bool true) ∧ Below w.heap.size w w' := by
  unfold enV
  obtain ⟨hbA, hk1, hk2⟩ := two_box w 65 65 #[.int .i64 x.idx, .int .i64 x.term, .int .i64 x.op, .int .i64 x.sess, .int .i64 x.seq, .slice A n c] #[.int .i64 x.idx, .int .i64 x.term, .int .i64 x.op, .int .i64 x.sess, .int .i64 x.seq, .slice B n d]
  have g1 := h1.keep (Stay.below (S := S) hbA)
  have g2 := h2.keep (Stay.below (S := S') hbA)
  go_enter Try.func65, Try.ntmps65
  go_wp2_with fail
  generalize (w.alloc (.cells #[.int .i64 x.idx, .int .i64 x.term, .int .i64 x.op, .int .i64 x.sess, .int .i64 x.seq, .slice A n c] 65)).alloc (.cells #[.int .i64 x.idx, .int .i64 x.term, .int .i64 x.op, .int .i64 x.sess, .int .i64 x.seq, .slice B n d] 65) = w1 at *
  refine (sameCmd_any (x := x) g1 g2 hn).mono ?_
  rintro e w2 ⟨rfl, hb2⟩
  have b1 := hk1.kept hb2
  have b2 := hk2.kept hb2
  have a0 := b1.cell 0
  have a1 := b1.cell 1
  have d0 := b2.cell 0
  have d1 := b2.cell 1
  simp only [List.getElem?_toArray, List.getElem?_cons_zero, List.getElem?_cons_succ] at a0 a1 d0 d1
  go_wp2_with fail
  go_ret
  exact ⟨by simp, below_then hbA hb2 (Nat.le_refl _)⟩
/-- a row of entries -/
def RdE (w : World) (A : Option Addr) (n : Nat) (zs : List (Value × En)) : Prop := Rds w 6 A n (zs.flatMap enC)
theorem RdE.len {w : World} {A : Option Addr} {n : Nat} {zs : List (Value × En)} (h : RdE w A n zs) : zs.length = n := by
  have := h.1
  rw [flat_len enC_len] at this
  omega
theorem RdE.at_ {w : World} {A : Option Addr} {n k : Nat} {zs : List (Value × En)} (h : RdE w A n zs) (hk : k < n) :
    ∃ ad v x, A = some ad ∧ zs[k]? = some (v, x) ∧ w.cell? (ad.add (k * 6)) = some (.int .i64 x.idx) ∧ w.cell? ⟨(ad.add (k * 6)).block, (ad.add (k * 6)).off + 1, none⟩ = some (.int .i64 x.term) ∧
      w.cell? ⟨(ad.add (k * 6)).block, (ad.add (k * 6)).off + 2, none⟩ = some (.int .i64 x.op) ∧ w.cell? ⟨(ad.add (k * 6)).block, (ad.add (k * 6)).off + 3, none⟩ = some (.int .i64 x.sess) ∧
      w.cell? ⟨(ad.add (k * 6)).block, (ad.add (k * 6)).off + 4, none⟩ = some (.int .i64 x.seq) ∧ w.cell? ⟨(ad.add (k * 6)).block, (ad.add (k * 6)).off + 5, none⟩ = some v := by
  have hl := h.len
  have h' : Rds w 6 A n (zs.flatMap enC) := h
  obtain ⟨ad, rfl, hc⟩ := h'.2 (by omega)
  have hz : zs[k]? = some (zs[k]'(by omega)) := List.getElem?_eq_getElem (by omega)
  obtain ⟨⟨v, x⟩, hzz⟩ : ∃ z, z = zs[k]'(by omega) := ⟨_, rfl⟩
  rw [← hzz] at hz
  have key : ∀ j u, j < 6 → (enC (v, x))[j]? = some u → w.cell? (ad.add (k * 6 + j)) = some u := fun j u hj hu => hc _ _ ((flat_at enC_len hj hz).trans hu)
  have c0 := key 0 _ (by omega) rfl
  have c1 := key 1 _ (by omega) rfl
  have c2 := key 2 _ (by omega) rfl
  have c3 := key 3 _ (by omega) rfl
  have c4 := key 4 _ (by omega) rfl
  have c5 := key 5 _ (by omega) rfl
  rw [← add_of_add, add_next _ _ (by omega)] at c1 c2 c3 c4 c5
  exact ⟨ad, v, x, rfl, hz, c0, c1, c2, c3, c4, c5⟩
theorem RdE.below {w w' : World} {A : Option Addr} {n : Nat} {zs : List (Value × En)} (h : RdE w A n zs) (hb : Below w.heap.size w w') : RdE w' A n zs := Rds.below h hb
set_option maxRecDepth 100000 in
/-- rows of the same entries -/
theorem sameEs_any {S S' : Nat → Prop} {A B : Option Addr} {n c d : Nat} {xs ys : List (Value × En)} {w : World} (h1 : RdE w A n xs) (h2 : RdE w B n ys) (he : xs.map (·.2) = ys.map (·.2)) (d1 : DeepE S w xs) (d2 : DeepE S' w ys) (hn : n ≤ maxLen) :
    Calls Try.prog 48 #[.slice A n c, .slice B n d] w fun e w' => e = .returned (.bool true) ∧ Below w.heap.size w w' := by
  unfold maxLen at hn
  have he := Lib.hid he
  go_enter Try.func48, Try.ntmps48
  go_wp2_with fail
  go_loopw [5] (fun i wr => ∃ k : Nat, k ≤ n ∧ i = .int .i64 k ∧ Below w.heap.size w wr) (fun i _ => n - (intOf i).toNat)
  case atStart => exact ⟨0, Nat.zero_le _, rfl, Below.refl _ _⟩
  case round =>
    obtain ⟨k, hk, rfl, hb⟩ := hrel
    by_cases hlt : k < n
    · obtain ⟨ad, v1, x, rfl, hx, c0, c1, c2, c3, c4, c5⟩ := (h1.below hb).at_ hlt
      obtain ⟨bd, v2, y, rfl, hy, e0, e1, e2, e3, e4, e5⟩ := (h2.below hb).at_ hlt
      have hxy : x = y := by
        have := congrArg (fun l => l[k]?) he.out
        simp only [List.getElem?_map, hx, hy, Option.map_some] at this
        exact Option.some.inj this
      subst hxy
      have f1 := (d1 _ (List.mem_of_getElem? hx)).keep (Stay.below (S := S) hb)
      have f2 := (d2 _ (List.mem_of_getElem? hy)).keep (Stay.below (S := S') hb)
      obtain ⟨A1, m1, t1, hv1, l1, l2, l3⟩ := f1.form
      obtain ⟨A2, m2, t2, hv2, l4, l5, l6⟩ := f2.form
      obtain rfl : v1 = _ := hv1
      obtain rfl : v2 = _ := hv2
      obtain rfl : m2 = m1 := by simp only at l3 l6; omega
      clear hx hy
      have hmeas := Lib.hid (show n - (k + 1) < n - k by omega)
      have la := lt_of_cell c0
      have lb := lt_of_cell e0
      have hgs : ∀ g ∈ [(ad.add (k * 6)).block, (bd.add (k * 6)).block], g < wr.heap.size := by simp; exact ⟨la, lb⟩
      have ka0 := keep_cell (gs := [(ad.add (k * 6)).block, (bd.add (k * 6)).block]) c0 (by simp)
      have ka1 := keep_cell (gs := [(ad.add (k * 6)).block, (bd.add (k * 6)).block]) c1 (by simp)
      have ka2 := keep_cell (gs := [(ad.add (k * 6)).block, (bd.add (k * 6)).block]) c2 (by simp)
      have ka3 := keep_cell (gs := [(ad.add (k * 6)).block, (bd.add (k * 6)).block]) c3 (by simp)
      have ka4 := keep_cell (gs := [(ad.add (k * 6)).block, (bd.add (k * 6)).block]) c4 (by simp)
      have ka5 := keep_cell (gs := [(ad.add (k * 6)).block, (bd.add (k * 6)).block]) c5 (by simp)
      have kb0 := keep_cell (gs := [(ad.add (k * 6)).block, (bd.add (k * 6)).block]) e0 (by simp)
      have kb1 := keep_cell (gs := [(ad.add (k * 6)).block, (bd.add (k * 6)).block]) e1 (by simp)
      have kb2 := keep_cell (gs := [(ad.add (k * 6)).block, (bd.add (k * 6)).block]) e2 (by simp)
      have kb3 := keep_cell (gs := [(ad.add (k * 6)).block, (bd.add (k * 6)).block]) e3 (by simp)
      have kb4 := keep_cell (gs := [(ad.add (k * 6)).block, (bd.add (k * 6)).block]) e4 (by simp)
      have kb5 := keep_cell (gs := [(ad.add (k * 6)).block, (bd.add (k * 6)).block]) e5 (by simp)
      clear c0 c1 c2 c3 c4 c5 e0 e1 e2 e3 e4 e5
      go_wp2_with fail
      refine wp_region_mix (C := keepW [(ad.add (k * 6)).block, (bd.add (k * 6)).block] wr) [([0, 1, 2, 3, 4, 5, 6, 7], 8)] [9] (by kernel_rfl) (by kernel_rfl) (fun _ _ _ _ e h => ⟨e.symm.trans h.1, h.2⟩) keepW_refl ?_
      refine wpSegs_step fun K1 hK1 => ?_
      simp only [pickL, List.getElem?_cons_zero, List.getElem?_cons_succ]
      repeat (go_big_quiet_step (fail))
      refine wpQuiet_nil ?_
      go_wp2_with fail
      refine (sameEn_any (w := wr.drew) (x := x) f1 f2 (Nat.le_trans l1 l2)).mono ?_
      rintro e w7 ⟨rfl, hb7⟩
      have hb7 : Below wr.heap.size wr w7 := (below_drewN (Below.refl wr.heap.size wr) 1).trans hb7
      go_wp2_with fail
      refine ⟨keepW_below hgs hb7, hK1 _ _ ?_⟩
      refine wpSegs_last ?_
      simp only [pickL, List.getElem?_cons_zero, List.getElem?_cons_succ]
      repeat (go_big_quiet_step (fail))
      refine wpQuiet_nil ?_
      go_wp2_with fail
      go_roundw
      case rel => exact ⟨k + 1, hlt, by go_num, below_then hb hb7 (Nat.le_refl _)⟩
      case measure => simp [intOf]; exact hmeas.out
    · obtain rfl : k = n := by omega
      go_wp2_with fail
      go_ret
      exact ⟨rfl, hb⟩
end Go.Proofs.Ytojmkbhihnnmaaa
