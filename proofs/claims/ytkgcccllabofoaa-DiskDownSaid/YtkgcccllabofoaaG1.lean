/-
  The law: DiskDown.
-/
import Derived.Test.YtkgcccllabofoaaDOpen
namespace Go.Proofs.Ytkgcccllabofoaa
open Go.RowKit Go.Maps

section
variable {S : St}
theorem down_ready (h : S.fuse = some 0) (s : ByteArray) : S.ready s = 1 ∨ S.ready s = 30 := by
  rcases ready_cases S s with h1 | h1 | ⟨_, _, h1⟩
  · exact .inl h1
  · exact .inr h1
  · exact absurd h h1
theorem down_append (h : S.fuse = some 0) (s : ByteArray) (l : List UInt8) : ∃ q : Nat, (q = 1 ∨ q = 30) ∧ S.append s l = (q, S) := by
  refine ⟨S.ready s, down_ready h s, ?_⟩
  unfold St.append
  rw [if_neg (by rcases down_ready h s with h | h <;> omega)]
theorem down_truncate (h : S.fuse = some 0) (s : ByteArray) (n : Int) : ∃ q : Nat, (q = 1 ∨ q = 30) ∧ S.truncate s n = (q, S) := by
  refine ⟨S.ready s, down_ready h s, ?_⟩
  unfold St.truncate
  rw [if_neg (by rcases down_ready h s with h | h <;> omega)]
theorem down_remove (h : S.fuse = some 0) (s : ByteArray) : ∃ q : Nat, (q = 1 ∨ q = 30) ∧ S.remove s = (q, S) := by
  refine ⟨S.ready s, down_ready h s, ?_⟩
  unfold St.remove
  rw [if_neg (by rcases down_ready h s with h | h <;> omega)]
theorem down_read (h : S.fuse = some 0) (s : ByteArray) : ∃ q : Nat, (q = 1 ∨ q = 30) ∧ S.read s = ([], q) := by
  refine ⟨S.ready s, down_ready h s, ?_⟩
  unfold St.read
  rw [if_neg (by rcases down_ready h s with h | h <;> omega)]
theorem down_sync (h : S.fuse = some 0) : S.sync = (30, S) := by unfold St.sync; rw [if_pos h]
theorem down_fuse (h : S.fuse = some 0) (n : Int) : ∃ q : Nat, S.setFuse n = (q, S) := by
  unfold St.setFuse
  split
  · refine ⟨0, ?_⟩
    rw [h]
    simp only [Nat.min_zero]
    cases S
    simp only [St.mk.injEq, Prod.mk.injEq, true_and]
    exact h.symm
  · exact ⟨1, rfl⟩
theorem fuse_zero (S : St) : S.setFuse 0 = (0, { S with fuse := some 0 }) := by
  unfold St.setFuse
  rw [if_pos (by omega)]
  cases S.fuse <;> simp
end
set_option maxRecDepth 100000 in
set_option maxHeartbeats 2000000 in
theorem down_law {z : Zb} {w : World} {A B : Option Addr} {n c m d : Nat} {ys zs : List (Value × Ld)} (hZ : Law0 z w) (hL : LdsV z w A n ys) (hM : LdsV z w B m zs) :
    Calls Try.prog 11 #[.slice A n c, .slice B m d] w fun e w' => e = .returned (.bool true) ∧ Chg z.b TB w w' := by
  go_enter Try.func11, Try.ntmps11
  go_wp2_with fail
  refine (both_any 25 hZ hL (by omega)).mono ?_
  rintro e w1 ⟨g, gr, R, rfl, hP1, hc1⟩
  have hD1 := hP1.d
  have hz1 := hP1.zl
  have hZb := hP1.bl
  generalize R.st = S at *
  clear hP1
  go_wp2_with fail
  refine (pending_any hD1).mono ?_
  rintro e w2 ⟨rfl, rfl⟩
  have hfu := fuse_any 0 hD1
  rw [fuse_zero] at hfu
  generalize hS : ({ S with fuse := some 0 } : St) = S1 at *
  have hf1 : S1.fuse = some 0 := by rw [← hS]
  have hdn := Lib.hid (show S1.done.length = S.done.length by rw [← hS])
  go_wp2_with fail
  refine hfu.mono ?_
  rintro e w3 ⟨rfl, hD3, hc3⟩
  have hc13 := hc1.trans hc3.P
  have hz3 := hc3.size
  have hf1 := Lib.hid hf1
  clear hS hfu hD1
  go_wp2_with fail
  go_loopw [9] (fun i wr => ∃ k : Nat, k ≤ m ∧ k ≤ 25 ∧ i = .int .i64 k ∧ DiskAt z wr g (25 + k) S1 ∧ Chg z.b TB w wr ∧ z.z < wr.heap.size) (fun i _ => m - (intOf i).toNat)
  case atStart => exact ⟨0, Nat.zero_le _, Nat.zero_le _, rfl, hD3, hc13, by omega⟩
  case round =>
    clear hD3 hc13 hc3 hz3 hc1 hz1
    obtain ⟨k, hk, hkm, rfl, hD, hc, hzl⟩ := hrel
    by_cases hlt : k < m ∧ k < 25
    · obtain ⟨hlt, hlt2⟩ := hlt
      obtain ⟨ad, X, x, rfl, hy, hX, hx, d0, d1, d2, d3, d4⟩ := (hM.chg hc TB_u8).at_ hlt
      obtain ⟨Bx, mx, dx, rfl, _⟩ := id hX
      have hbA : Below wr.heap.size wr (wr.alloc (.cells #[.int .i64 x.kind, .string x.name, .slice Bx mx dx, .int .i64 x.n, .int .i64 x.torn] 42)) := (Below.refl _ _).alloc (Nat.le_refl _) _
      have hbx := Blk.new wr 42 #[.int .i64 x.kind, .string x.name, .slice Bx mx dx, .int .i64 x.n, .int .i64 x.torn]
      have hD1 := hD.below hbA
      have hX1 := hX.below hbA
      have hc1 := hc.trans (Chg.of_below (base := z.b) (T := TB) hbA)
      have hz1 := hbA.size
      have y0 := hbx.cell 0
      have y1 := hbx.cell 1
      have y2 := hbx.cell 2
      have y3 := hbx.cell 3
      simp only [List.getElem?_toArray, List.getElem?_cons_zero, List.getElem?_cons_succ] at y0 y1 y2 y3
      have hlt6 := restF_lt x.kind (m := 6) (by omega)
      have hmeas := Lib.hid (show m - (k + 1) < m - k by omega)
      clear hD hX hc
      go_wp2_with fail
      generalize wr.alloc (.cells #[.int .i64 x.kind, .string x.name, .slice Bx mx dx, .int .i64 x.n, .int .i64 x.torn] 42) = w4 at *
      generalize hgx0 : wr.heap.size = gx at *
      refine (pick_any x.kind 6 w4 hx.k1 hx.k2 (by omega) (by omega)).mono ?_
      rintro e w5 ⟨rfl, rfl⟩
      generalize restF x.kind 6 = t at *
      have k1 := keep_cell (gs := [gx]) y1 (by simp)
      have k2 := keep_cell (gs := [gx]) y2 (by simp)
      have hdd := hX1.get.2
      rcases (show t = 0 ∨ t = 1 ∨ t = 2 ∨ t = 3 ∨ t = 4 ∨ t = 5 by omega) with rfl | rfl | rfl | rfl | rfl | rfl
      · obtain ⟨q, hq, he⟩ := down_append hf1.out x.name (x.data.take (min mx 200))
        have hDd := hD1.below ((Below.refl w4.heap.size w4).drew)
        have hXd := ((hX1.below ((Below.refl w4.heap.size w4).drew)).cut (Nat.min_le_left mx 200)).get.1
        have hcall := append_any (w := w4.drew) x.name Bx (min mx 200) dx _ hDd (by show z.z < w4.heap.size; omega) (by omega) hXd (by omega)
        rw [he] at hcall
        go_wp2_with fail
        refine wp_region_mix (C := keepW [gx] w4) [([0, 1, 2, 3, 4], 5), ([], 6)] [7] (by kernel_rfl) (by kernel_rfl) (fun _ _ _ _ e h => ⟨e.symm.trans h.1, h.2⟩) keepW_refl ?_
        refine wpSegs_step fun K1 hK1 => ?_
        simp only [pickL, List.getElem?_cons_zero, List.getElem?_cons_succ]
        repeat (go_big_quiet_step (fail))
        refine wpQuiet_nil ?_
        go_wp2_with fail
        refine (few_any Bx mx dx _ hdd.1).mono ?_
        rintro e w6 ⟨rfl, rfl⟩
        go_wp2_with fail
        refine ⟨keepW_of (fun _ _ => rfl), hK1 _ _ ?_⟩
        refine wpSegs_step fun K2 hK2 => ?_
        simp only [pickL, List.getElem?_cons_zero, List.getElem?_cons_succ]
        repeat (go_big_quiet_step (fail))
        refine wpQuiet_nil ?_
        go_wp2_with fail
        refine hcall.mono ?_
        rintro e w7 ⟨rfl, hD7, hc7⟩
        have hc7 : Chg z.b TP w4 w7 := (Chg.of_below ((Below.refl w4.heap.size w4).drew)).trans hc7
        have hz7 := hc7.size
        go_wp2_with fail
        refine ⟨keepW_of (by simp; unfold Blk at hbx; rw [hbx]; exact hc7.block gx _ hbx (.inr rfl)), hK2 _ _ ?_⟩
        refine wpSegs_last ?_
        simp only [pickL, List.getElem?_cons_zero, List.getElem?_cons_succ]
        repeat (go_big_quiet_step (fail))
        refine wpQuiet_nil ?_
        rcases hq with rfl | rfl
        all_goals
          go_wp2_with fail
          exact ⟨⟨k + 1, hlt, hlt2, by go_num, hD7.more (by omega), hc1.trans hc7.P, by omega⟩, by simp [intOf]; exact hmeas.out⟩
      · obtain ⟨q, hq, he⟩ := down_truncate hf1.out x.name x.n
        have hcall := truncate_any x.name x.n hD1 (by omega) (by omega)
        rw [he] at hcall
        go_wp2_with fail
        refine hcall.mono ?_
        rintro e w7 ⟨rfl, hD7, hc7⟩
        have hz7 := hc7.size
        rcases hq with rfl | rfl
        all_goals
          go_wp2_with fail
          exact ⟨⟨k + 1, hlt, hlt2, by go_num, hD7.more (by omega), hc1.trans hc7.P, by omega⟩, by simp [intOf]; exact hmeas.out⟩
      · obtain ⟨q, hq, he⟩ := down_remove hf1.out x.name
        have hcall := remove_any x.name hD1 (by omega) (by omega)
        rw [he] at hcall
        go_wp2_with fail
        refine hcall.mono ?_
        rintro e w7 ⟨rfl, hD7, hc7⟩
        have hz7 := hc7.size
        rcases hq with rfl | rfl
        all_goals
          go_wp2_with fail
          exact ⟨⟨k + 1, hlt, hlt2, by go_num, hD7.more (by omega), hc1.trans hc7.P, by omega⟩, by simp [intOf]; exact hmeas.out⟩
      · have hcall := sync_any hD1
        rw [down_sync hf1.out] at hcall
        go_wp2_with fail
        refine hcall.mono ?_
        rintro e w7 ⟨rfl, hD7, hc7⟩
        have hz7 := hc7.size
        go_wp2_with fail
        exact ⟨⟨k + 1, hlt, hlt2, by go_num, hD7.more (by omega), hc1.trans hc7.P, by omega⟩, by simp [intOf]; exact hmeas.out⟩
      · obtain ⟨q, hq, he⟩ := down_read hf1.out x.name
        have hcall := read_any x.name hD1
        rw [he] at hcall
        go_wp2_with fail
        refine hcall.mono ?_
        rintro e w7 ⟨A7, n7, c7, rfl, _, _, hb7⟩
        have hz7 := hb7.size
        have hD7 := hD1.below hb7
        rcases hq with rfl | rfl
        all_goals
          go_wp2_with fail
          exact ⟨⟨k + 1, hlt, hlt2, by go_num, hD7.more (by omega), hc1.trans (Chg.of_below hb7), by omega⟩, by simp [intOf]; exact hmeas.out⟩
      · obtain ⟨q, he⟩ := down_fuse hf1.out x.n
        have hcall := fuse_any x.n hD1
        rw [he] at hcall
        go_wp2_with fail
        refine hcall.mono ?_
        rintro e w7 ⟨rfl, hD7, hc7⟩
        have hz7 := hc7.size
        go_wp2_with fail
        exact ⟨⟨k + 1, hlt, hlt2, by go_num, hD7.more (by omega), hc1.trans hc7.P, by omega⟩, by simp [intOf]; exact hmeas.out⟩
    · have hlist := list_any hD (by omega)
      have hf := hf1.out
      simp only [hf, if_true] at hlist
      have hf := Lib.hid hf
      rcases (show ¬ k < m ∨ (k < m ∧ ¬ k < 25) by omega) with h | ⟨h, h'⟩
      all_goals
        clear hlt
        go_wp2_with fail
        refine hlist.mono ?_
        rintro e w7 ⟨rfl, hb7⟩
        have hpe := pending_any (hD.below hb7)
        rw [hdn.out] at hpe
        go_wp2_with fail
        refine hpe.mono ?_
        rintro e w8 ⟨rfl, rfl⟩
        go_wp2_with fail
        refine (lives_any _).mono ?_
        rintro e w9 ⟨rfl, hb9⟩
        go_wp2_with fail
        go_ret
        exact ⟨rfl, (hc.trans (Chg.of_below hb7)).trans (Chg.of_below hb9)⟩
theorem diskDown_any {w : World} {A B : Option Addr} {n c m d : Nat} {ys zs : List (Value × Ld)} (hL : LdsV (z0 w) w A n ys) (hM : LdsV (z0 w) w B m zs) :
    Calls Try.prog 11 #[.slice A n c, .slice B m d] w fun e w' => e = .returned (.bool true) ∧ Below w.heap.size w w' := (down_law (law0 w) hL hM).mono fun _ _ h => ⟨h.1, chg_law h.2⟩
end Go.Proofs.Ytkgcccllabofoaa
