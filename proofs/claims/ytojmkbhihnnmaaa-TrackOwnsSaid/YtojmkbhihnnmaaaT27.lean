/-
  The law: a deed done by both tracks.
-/
import Derived.Test.YtojmkbhihnnmaaaT26
namespace Go.Proofs.Ytojmkbhihnnmaaa
open Go.RowKit

theorem TStay.sub {L L' : List TypeId} {w w' : World} (h : TStay L w w') (hL : ∀ y ∈ L', y ∈ L) : TStay L' w w' := fun j hj => by
  obtain ⟨cs, fz, ty, h1, h2⟩ := hj
  exact h j ⟨cs, fz, ty, h1, hL _ h2⟩
theorem TD_sub : ∀ y ∈ TD, y ∈ TX := by decide
section
variable {z M : Nat} {w w' : World} {gt gr g : Nat} {t u : Trk} {x : Dd} {V A : Option Addr} {m d k c : Nat} {ys : List (Value × En)} {T : TypeId} {cs : Array Value}
theorem Two.rkept (h : Two z M w gt gr t u) (hF : Fr (fun j => j = gr) w w') (hb : Blk w g T cs) (hT : T ≠ 78) : Blk w' g T cs := by
  obtain ⟨S, A, n, c, zs, A2, n2, c2, zs2, h1, h2, _⟩ := h
  refine (hF.block g hb.lt fun e => ?_).trans hb
  subst e
  exact absurd rfl (blk_apart h2.b hb (Ne.symm hT))
theorem Two.tg (h : Two z M w gt gr t u) : z ≤ gt := by
  obtain ⟨S, A, n, c, zs, A2, n2, c2, zs2, h1, h2, _⟩ := h
  exact h1.g
set_option maxRecDepth 100000 in
set_option maxHeartbeats 4000000 in
theorem tdoes_any (hP : Two z M w gt gr t t) (hN : t.L.length ≤ 900000) (hx : DdV z w x V m d A k c ys) :
    Calls Try.prog 38 #[.pointer (some ⟨gt, 0, none⟩), .pointer (some ⟨gr, 0, none⟩), ddV x (.slice V m d) (.slice A k c)] w fun e w' => e = .returned (.bool true) ∧ ∃ M', Two z M' w' gt gr (t.doF x) (t.doF x) ∧ Below z w w' := by
  have hzw := hP.zw
  have hkc := hx.kc
  have hbA : Below w.heap.size w (w.alloc (.cells #[.int .i64 x.kind, .int .i64 x.idx, .int .i64 x.term, .int .i64 x.cmd.op, .int .i64 x.cmd.sess, .int .i64 x.cmd.seq, .slice V m d, .slice A k c] 55)) := (Below.refl _ _).alloc (Nat.le_refl _) _
  have hbx := Blk.new w 55 #[.int .i64 x.kind, .int .i64 x.idx, .int .i64 x.term, .int .i64 x.cmd.op, .int .i64 x.cmd.sess, .int .i64 x.cmd.seq, .slice V m d, .slice A k c]
  have x0 := hbx.cell 0
  have x7 := hbx.cell 7
  have f7 := hbx.free 7
  simp only [List.getElem?_toArray, List.getElem?_cons_zero, List.getElem?_cons_succ] at x0 x7
  have hlt := restF_lt x.kind (m := 4) (by omega)
  unfold ddV
  go_enter Try.func38, Try.ntmps38
  go_wp2_with fail
  generalize w.alloc (.cells #[.int .i64 x.kind, .int .i64 x.idx, .int .i64 x.term, .int .i64 x.cmd.op, .int .i64 x.cmd.sess, .int .i64 x.cmd.seq, .slice V m d, .slice A k c] 55) = w1 at *
  refine (few_tany A k c w1 hkc.1).mono ?_
  rintro e w2 ⟨rfl, rfl⟩
  have hbB : Below w.heap.size w (w1.setCell ⟨w.heap.size, 7, none⟩ (.slice A (min k 12) c)) := hbA.setCell (Nat.le_refl _) _
  have hP2 := hP.below hbB
  have hx2 := hx.below (hbB.mono hzw)
  obtain ⟨hr2, hd2, hl2, hkc2, ha2⟩ := hx2.few
  have hbx2 := hbx.set_ 7 (.slice A (min k 12) c)
  have hmn : min k 12 ≤ 12 := Nat.min_le_right _ _
  have y0 := hbx2.cell 0
  have y1 := hbx2.cell 1
  have y2 := hbx2.cell 2
  have y3 := hbx2.cell 3
  have y4 := hbx2.cell 4
  have y5 := hbx2.cell 5
  have y6 := hbx2.cell 6
  have y7 := hbx2.cell 7
  simp only [List.getElem?_toArray, List.getElem?_cons_zero, List.getElem?_cons_succ, List.setIfInBounds_toArray, List.set_cons_zero, List.set_cons_succ] at y0 y1 y2 y3 y4 y5 y6 y7 hbx2
  have hbz := hbB.mono hzw
  generalize hgx0 : w.heap.size = gx at *
  go_upto_region 2 with fail
  generalize w1.setCell ⟨gx, 7, none⟩ (.slice A (min k 12) c) = w2 at *
  generalize min k 12 = k2 at *
  clear x0 x7 f7 hbA hbB hbx hgx0
  go_wp2_with fail
  refine (pick_any x.kind 4 w2 hx.k1 hx.k2 (by omega) (by omega)).mono ?_
  rintro e w3 ⟨rfl, rfl⟩
  have hstep : t.doF x = t.doK x (restF x.kind 4) := rfl
  generalize restF x.kind 4 = q at *
  have hstep := Lib.hid hstep
  have hmd := hx2.md
  have hf2 := hx2.f
  rcases (show q = 0 ∨ q = 1 ∨ q = 2 ∨ q = 3 by omega) with rfl | rfl | rfl | rfl
  · have hcall := two_put x.term x.cmd V m d hP2 (by omega) hf2 (by unfold maxLen at *; omega)
    obtain ⟨⟨⟨y, q⟩, t'⟩, hr⟩ : ∃ r, t.putF x.term x.cmd = r := ⟨_, rfl⟩
    have hst : t.doF x = t' := by rw [hstep.out]; show (t.putF x.term x.cmd).2 = t'; rw [hr]
    have hst := Lib.hid hst
    rw [hr] at hcall
    unfold cmdV at hcall
    go_wp2_with fail
    refine hcall.mono ?_
    rintro e w4 ⟨vy, M4, rfl, hf4, hM4, hP4, hb4, hs4⟩
    obtain ⟨B4, m4, d4, hv4, l1, l2, l3⟩ := hf4.form
    obtain rfl : vy = _ := hv4
    have hbx4 := hbx2.stay (by decide) hs4
    have y2' := hbx4.cell 2
    have y3' := hbx4.cell 3
    have y4' := hbx4.cell 4
    have y5' := hbx4.cell 5
    have y6' := hbx4.cell 6
    simp only [List.getElem?_toArray, List.getElem?_cons_zero, List.getElem?_cons_succ] at y2' y3' y4' y5' y6'
    have hg4 := hbx4.lt
    have hbE : Below w4.heap.size w4 (w4.alloc (.cells #[.int .i64 y.idx, .int .i64 y.term, .int .i64 y.op, .int .i64 y.sess, .int .i64 y.seq, .slice B4 m4 d4] 65)) := (Below.refl _ _).alloc (Nat.le_refl _) _
    have hbe := Blk.new w4 65 #[.int .i64 y.idx, .int .i64 y.term, .int .i64 y.op, .int .i64 y.sess, .int .i64 y.seq, .slice B4 m4 d4]
    have hP5 := hP4.below hbE
    have hb5 := hb4.trans (hbE.mono hP4.zw)
    have hx5 := hx2.below hb5
    have hf5 := hf4.move (TStay.below hbE)
    have hrcall := two_rput x.term x.cmd V m d hP5 (by omega) hx5.f (by unfold maxLen at *; omega)
    rw [hr] at hrcall
    unfold cmdV at hrcall
    unfold enV
    dsimp only
    clear hcall y0 y1 y2 y3 y4 y5 y6 y7
    go_wp2_with fail
    generalize w4.alloc (.cells #[.int .i64 y.idx, .int .i64 y.term, .int .i64 y.op, .int .i64 y.sess, .int .i64 y.seq, .slice B4 m4 d4] 65) = w5 at *
    generalize w4.heap.size = g4 at *
    refine hrcall.mono ?_
    rintro e w6 ⟨vy2, rfl, hf6, hP6, hb6, hF6, hs6⟩
    obtain ⟨B6, m6, d6, hv6, l4, l5, l6⟩ := hf6.form
    obtain rfl : vy2 = _ := hv6
    have hbe6 := hP5.rkept hF6 hbe (by decide)
    have e0 := hbe6.cell 0
    have e1 := hbe6.cell 1
    have e2 := hbe6.cell 2
    have e3 := hbe6.cell 3
    have e4 := hbe6.cell 4
    have e5 := hbe6.cell 5
    simp only [List.getElem?_toArray, List.getElem?_cons_zero, List.getElem?_cons_succ] at e0 e1 e2 e3 e4 e5
    have hg6 := hbe6.lt
    obtain rfl : m6 = m4 := by omega
    have hbE6 : Below w6.heap.size w6 (w6.alloc (.cells #[.int .i64 y.idx, .int .i64 y.term, .int .i64 y.op, .int .i64 y.sess, .int .i64 y.seq, .slice B6 m6 d6] 65)) := (Below.refl _ _).alloc (Nat.le_refl _) _
    have hP7 := hP6.below hbE6
    have hf7 := (hf5.move (hs6.sub TD_sub)).move (TStay.below hbE6)
    have hf8 := hf6.keep (Stay.below (S := fun j => j < z) hbE6)
    have hsame := sameEn_any hf7 hf8 (Nat.le_trans l1 l2)
    have hb7 := ((hbz.trans hb5).trans hb6).trans (hbE6.mono hP6.zw)
    unfold enV at hsame ⊢
    dsimp only
    clear hrcall y2' y3' y4' y5' y6'
    go_wp2_with fail
    refine hsame.mono ?_
    rintro e w8 ⟨rfl, hb8⟩
    go_wp2_with fail
    go_ret
    exact ⟨by first | rfl | simp, M4, by rw [hst.out]; exact hP7.below hb8, hb7.trans (hb8.mono hP7.zw)⟩
  · have hcall := two_take x.idx x.term A k2 c (ys.take 12) hP2 (by omega) hr2 hd2 (by omega) hkc2 hkc.2 (fun h0 j hj => by have := ha2 h0 j hj; have := hP2.tg; omega)
    rw [hl2] at hcall
    obtain ⟨⟨⟨q, b⟩, t'⟩, hr⟩ : ∃ r, t.takeF x.idx x.term (x.L.take 12) = r := ⟨_, rfl⟩
    have hst : t.doF x = t' := by rw [hstep.out]; show (t.takeF x.idx x.term (x.L.take 12)).2 = t'; rw [hr]
    have hst := Lib.hid hst
    rw [hr] at hcall
    go_wp2_with fail
    refine hcall.mono ?_
    rintro e w4 ⟨rfl, hP4, hb4, hs4⟩
    have hbx4 := hbx2.stay (by decide) hs4
    have y1' := hbx4.cell 1
    have y2' := hbx4.cell 2
    have y7' := hbx4.cell 7
    simp only [List.getElem?_toArray, List.getElem?_cons_zero, List.getElem?_cons_succ] at y1' y2' y7'
    have hr4 := Rds.stay (S := fun j => j < z) hr2 (fun h0 ad e => ha2 h0 _ ⟨ad, e, rfl⟩) (Stay.lt hb4)
    have hrcall := two_rtake x.idx x.term A k2 c (ys.take 12) hP4 (by omega) hr4 (hd2.keep (Stay.lt hb4)) (by omega) hkc2 hkc.2 ha2
    rw [hl2, hr] at hrcall
    clear hcall y0 y1 y2 y3 y4 y5 y6 y7
    go_wp2_with fail
    refine hrcall.mono ?_
    rintro e w6 ⟨rfl, hP6, hb6, hF6, hs6⟩
    go_wp2_with fail
    go_ret
    exact ⟨by first | rfl | simp, _, by rw [hst.out]; exact hP6, (hbz.trans hb4).trans hb6⟩
  · have hPd := hP2.below ((Below.refl w2.heap.size w2).drew)
    have hcall := two_drop x.idx hPd (by omega)
    obtain ⟨⟨q, t'⟩, hr⟩ : ∃ r, t.dropF x.idx = r := ⟨_, rfl⟩
    have hst : t.doF x = t' := by rw [hstep.out]; show (t.dropF x.idx).2 = t'; rw [hr]
    have hst := Lib.hid hst
    rw [hr] at hcall
    have k1 := keep_cell (gs := [gx]) y1 (by simp)
    clear y0 y1 y2 y3 y4 y5 y6 y7
    go_wp2_with fail
    refine wp_region_mix (C := keepW [gx] w2) [([0, 1, 2, 4, 5, 6], 3), ([], 7)] [8, 9] (by kernel_rfl) (by kernel_rfl) (fun _ _ _ _ e h => ⟨e.symm.trans h.1, h.2⟩) keepW_refl ?_
    refine wpSegs_step fun K1 hK1 => ?_
    simp only [pickL, List.getElem?_cons_zero, List.getElem?_cons_succ]
    repeat (go_big_quiet_step (fail))
    refine wpQuiet_nil ?_
    go_wp2_with fail
    refine hcall.mono ?_
    rintro e w4 ⟨rfl, hP4, hb4, hs4⟩
    have hb4 : Below z w2 w4 := (((Below.refl w2.heap.size w2).drew).mono hP2.zw).trans hb4
    have hk4 : w4.heap[gx]? = w2.heap[gx]? := (hbx2.stay (w' := w4) (L := TX) (by decide) ((TStay.below ((Below.refl w2.heap.size w2).drew)).trans hs4)).trans hbx2.symm
    have hrcall := two_rdrop x.idx hP4 (by omega)
    rw [hr] at hrcall
    go_wp2_with fail
    refine ⟨keepW_of (by simp; exact hk4), hK1 _ _ ?_⟩
    refine wpSegs_step fun K2 hK2 => ?_
    simp only [pickL, List.getElem?_cons_zero, List.getElem?_cons_succ]
    repeat (go_big_quiet_step (fail))
    refine wpQuiet_nil ?_
    go_wp2_with fail
    refine hrcall.mono ?_
    rintro e w6 ⟨rfl, hP6, hb6, hF6, hs6⟩
    have hk6 : w6.heap[gx]? = w2.heap[gx]? := (hP4.rkept hF6 (hk4.trans hbx2) (by decide)).trans hbx2.symm
    go_wp2_with fail
    refine ⟨keepW_of (by simp; exact hk6), hK2 _ _ ?_⟩
    refine wpSegs_last ?_
    simp only [pickL, List.getElem?_cons_zero, List.getElem?_cons_succ]
    repeat (go_big_quiet_step (fail))
    refine wpQuiet_nil ?_
    go_wp2_with fail
    go_ret
    exact ⟨by first | rfl | simp, _, by rw [hst.out]; exact hP6, (hbz.trans hb4).trans hb6⟩
  · have hst : t.doF x = t := by rw [hstep.out]; rfl
    have hst := Lib.hid hst
    obtain ⟨S, At, n, ct, zs, A2, n2, c2, zs2, h1, h2, _⟩ := id hP2
    have hn1 := h1.nlen (N := 1000000) (by omega)
    have hn2 := h2.nlen (N := 1000000) (by omega)
    have hcall := tterm_below x.idx h1 hn1
    obtain ⟨⟨u1, u2⟩, hr⟩ : ∃ r, t.termF x.idx = r := ⟨_, rfl⟩
    rw [hr] at hcall
    go_wp2_with fail
    refine hcall.mono ?_
    rintro e w4 ⟨rfl, hb4⟩
    have hbx4 := hbx2.kept hb4
    have y1' := hbx4.cell 1
    have y2' := hbx4.cell 2
    simp only [List.getElem?_toArray, List.getElem?_cons_zero, List.getElem?_cons_succ] at y1' y2'
    have h14 := h1.below hb4
    have h24 := h2.below hb4
    have hrcall := rterm_any x.idx h24 hn2
    rw [hr] at hrcall
    have k1 := keep_cell (gs := [gx]) y1' (by simp)
    have k2' := keep_cell (gs := [gx]) y2' (by simp)
    have hgs : ∀ q ∈ [gx], q < w4.heap.size := by simp; exact hbx4.lt
    clear hcall y0 y1 y2 y3 y4 y5 y6 y7
    go_wp2_with fail
    refine hrcall.mono ?_
    rintro e w5 ⟨rfl, rfl⟩
    have hbd : Below w4.heap.size w4 w4.drew := (Below.refl _ _).drew
    have hscall := tslice_any x.idx x.term (h14.below hbd) hn1
    go_wp2_with fail
    refine wp_region_mix (C := keepW [gx] w4) [([0, 1, 2, 3, 4, 6, 7, 8, 9, 10], 5), ([], 11), ([], 12)] [13] (by kernel_rfl) (by kernel_rfl) (fun _ _ _ _ e h => ⟨e.symm.trans h.1, h.2⟩) keepW_refl ?_
    refine wpSegs_step fun K1 hK1 => ?_
    simp only [pickL, List.getElem?_cons_zero, List.getElem?_cons_succ]
    repeat (go_big_quiet_step (fail))
    refine wpQuiet_nil ?_
    go_wp2_with fail
    refine hscall.mono ?_
    rintro e w5 ⟨A5, n5, c5, zs5, rfl, hE5, hb5⟩
    have hb45 := hbd.trans hb5
    have h25 := h24.below hb45
    have hrs := rslice_any x.idx x.term h25 hn2
    go_wp2_with fail
    refine ⟨keepW_below hgs hb45, hK1 _ _ ?_⟩
    refine wpSegs_step fun K2 hK2 => ?_
    simp only [pickL, List.getElem?_cons_zero, List.getElem?_cons_succ]
    repeat (go_big_quiet_step (fail))
    refine wpQuiet_nil ?_
    go_wp2_with fail
    refine hrs.mono ?_
    rintro e w6 ⟨A6, n6, c6, zs6, rfl, hown6, hsub6, hmap6, hb6⟩
    have hb46 := below_then hb45 hb6 (Nat.le_refl _)
    obtain rfl : n6 = n5 := by
      have e1 := hE5.len
      have e2 := congrArg List.length hmap6
      have e3 := hown6.1
      rw [flat_len enC_len] at e3
      rw [List.length_map] at e2
      omega
    have hE6 := hE5.below hb6
    have hsame := sameEs_any (c := c5) (d := c6) (Rds.of_own hE6.1) (Rds.of_own hown6) (hE6.2.2.trans hmap6.symm) hE6.2.1 ((h25.below hb6).d.sub hsub6) (by have := own_bounds hE6.1; omega)
    go_wp2_with fail
    refine ⟨keepW_below hgs hb46, hK2 _ _ ?_⟩
    refine wpSegs_step fun K3 hK3 => ?_
    simp only [pickL, List.getElem?_cons_zero, List.getElem?_cons_succ]
    repeat (go_big_quiet_step (fail))
    refine wpQuiet_nil ?_
    go_wp2_with fail
    refine hsame.mono ?_
    rintro e w7 ⟨rfl, hb7⟩
    have hb47 := below_then hb46 hb7 (Nat.le_refl _)
    go_wp2_with fail
    refine ⟨keepW_below hgs hb47, hK3 _ _ ?_⟩
    refine wpSegs_last ?_
    simp only [pickL, List.getElem?_cons_zero, List.getElem?_cons_succ]
    repeat (go_big_quiet_step (fail))
    refine wpQuiet_nil ?_
    have hbx7 := hbx4.kept hb47
    have y1 := hbx7.cell 1
    have y2 := hbx7.cell 2
    simp only [List.getElem?_toArray, List.getElem?_cons_zero, List.getElem?_cons_succ] at y1 y2
    have k1 := keep_cell (gs := [gx]) y1 (by simp)
    have k2' := keep_cell (gs := [gx]) y2 (by simp)
    have hgs7 : ∀ q ∈ [gx], q < w7.heap.size := by simp; exact hbx7.lt
    have h17 := h14.below hb47
    have h27 := h24.below hb47
    have hbd7 : Below w7.heap.size w7 w7.drew := (Below.refl _ _).drew
    have hh1 := thint_any x.idx x.term (h17.below hbd7) hn1
    obtain ⟨hv, hhv⟩ : ∃ r, t.hintF x.idx x.term = r := ⟨_, rfl⟩
    rw [hhv] at hh1
    clear hscall hrs hsame
    go_wp2_with fail
    refine wp_region_mix (C := keepW [gx] w7) [([0, 1, 2, 3, 4, 5, 6, 7, 8, 9, 10, 11, 12, 13, 14, 15, 16, 18, 19, 20, 21, 22], 17), ([], 23)] [24, 25, 26] (by kernel_rfl) (by kernel_rfl) (fun _ _ _ _ e h => ⟨e.symm.trans h.1, h.2⟩) keepW_refl ?_
    refine wpSegs_step fun K1 hK1 => ?_
    simp only [pickL, List.getElem?_cons_zero, List.getElem?_cons_succ]
    repeat (go_big_quiet_step (fail))
    refine wpQuiet_nil ?_
    go_wp2_with fail
    refine hh1.mono ?_
    rintro e w8 ⟨rfl, hb8⟩
    have hb78 := hbd7.trans hb8
    have hh2 := rhint_any x.idx x.term (h27.below hb78) hn2
    rw [hhv] at hh2
    go_wp2_with fail
    refine ⟨keepW_below hgs7 hb78, hK1 _ _ ?_⟩
    refine wpSegs_step fun K2 hK2 => ?_
    simp only [pickL, List.getElem?_cons_zero, List.getElem?_cons_succ]
    repeat (go_big_quiet_step (fail))
    refine wpQuiet_nil ?_
    go_wp2_with fail
    refine hh2.mono ?_
    rintro e w9 ⟨rfl, rfl⟩
    go_wp2_with fail
    refine ⟨keepW_below hgs7 hb78, hK2 _ _ ?_⟩
    refine wpSegs_last ?_
    simp only [pickL, List.getElem?_cons_zero, List.getElem?_cons_succ]
    repeat (go_big_quiet_step (fail))
    refine wpQuiet_nil ?_
    go_wp2_with fail
    go_ret
    have hbAll := below_then (below_then hb4 hb47 (Nat.le_refl _)) hb78 (Nat.le_refl _)
    exact ⟨by first | rfl | simp, M, by rw [hst.out]; exact hP2.below hbAll, hbz.trans (hbAll.mono hP2.zw)⟩
end
end Go.Proofs.Ytojmkbhihnnmaaa
