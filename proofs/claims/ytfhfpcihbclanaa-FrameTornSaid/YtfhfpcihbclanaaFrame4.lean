/-
  The walks of the frames, fourth part: the document's Get.
-/
import Derived.Test.YtfhfpcihbclanaaFrame3
namespace Go.Proofs.Ytfhfpcihbclanaa
open Go.RowKit

set_option maxHeartbeats 1000000 in
theorem refget_any (A : Option Addr) (n c : Nat) (l : List UInt8) (w : World) (hr : Rd w A n l) (hn : n ≤ 10000000) (hnc : n ≤ c) (_hc : c ≤ maxLen) :
    Calls Try.prog 30 #[.slice A n c] w (GetOk w l) := by
  unfold maxLen at _hc
  have Hl := Lib.hid hr.len
  by_cases h4 : n < 4
  · have Hg := Lib.hid (getF_short l (by rw [Hl.out]; exact h4))
    go_enter Try.func30, Try.ntmps30
    go_wp2
    exact bodyPost_ret (v := .tuple #[.agg #[.int .i64 0, .slice none 0 0], .int .i64 0, .int .i64 3]) (by simp [results, Try.results30, go_sem]) rfl (getOk_none Hg.out ((Below.refl _ _).alloc (Nat.le_refl _) _))
  have h4' : ¬ l.length < 4 := by rw [Hl.out]; exact h4
  by_cases hbig : 65536 < numL l
  · have Hg := Lib.hid (getF_big l h4' hbig)
    clear h4'
    obtain ⟨ad, rfl, c0⟩ := hr.at_ (k := 0) (by omega)
    obtain ⟨ad', e1, c1⟩ := hr.at_ (k := 1) (by omega)
    obtain rfl : ad = ad' := by injection e1
    obtain ⟨ad', e2, c2⟩ := hr.at_ (k := 2) (by omega)
    obtain rfl : ad = ad' := by injection e2
    obtain ⟨ad', e3, c3⟩ := hr.at_ (k := 3) (by omega)
    obtain rfl : ad = ad' := by injection e3
    clear e1 e2 e3
    rw [add_nought] at c0
    have d0 := cell_alloc c0
    have d1 : ∀ o, (w.alloc o).cell? ⟨ad.block, ad.off + 1, none⟩ = some (.int .u8 ((l[1]?.getD 0).toNat : Nat)) := cell_alloc c1
    have d2 : ∀ o, (w.alloc o).cell? ⟨ad.block, ad.off + 2, none⟩ = some (.int .u8 ((l[2]?.getD 0).toNat : Nat)) := cell_alloc c2
    have d3 : ∀ o, (w.alloc o).cell? ⟨ad.block, ad.off + 3, none⟩ = some (.int .u8 ((l[3]?.getD 0).toNat : Nat)) := cell_alloc c3
    clear c0 c1 c2 c3
    have hnum : numL l = (l[0]?.getD 0).toNat + 256 * (l[1]?.getD 0).toNat + 65536 * (l[2]?.getD 0).toNat + 16777216 * (l[3]?.getD 0).toNat := rfl
    have b0 : (l[0]?.getD 0).toNat < 256 := (l[0]?.getD 0).toNat_lt
    have b1 : (l[1]?.getD 0).toNat < 256 := (l[1]?.getD 0).toNat_lt
    have b2 : (l[2]?.getD 0).toNat < 256 := (l[2]?.getD 0).toNat_lt
    have b3 : (l[3]?.getD 0).toNat < 256 := (l[3]?.getD 0).toNat_lt
    generalize (l[0]?.getD 0).toNat = x0 at *
    generalize (l[1]?.getD 0).toNat = x1 at *
    generalize (l[2]?.getD 0).toNat = x2 at *
    generalize (l[3]?.getD 0).toNat = x3 at *
    have hsum : ((x0 : Int) + 256 * (x1 : Int) + 65536 * (x2 : Int) + 16777216 * (x3 : Int)) = ((numL l : Nat) : Int) := by omega
    clear hnum
    have n0 : (0 : Nat) < n := by omega
    have n1 : (1 : Int) < (n : Int) := by omega
    have n2 : (2 : Int) < (n : Int) := by omega
    have n3 : (3 : Int) < (n : Int) := by omega
    go_enter Try.func30, Try.ntmps30
    go_wp2
    go_quiet (fail)
    go_wp2
    exact bodyPost_ret (v := .tuple #[.agg #[.int .i64 0, .slice none 0 0], .int .i64 0, .int .i64 2]) (by simp [results, Try.results30, go_sem]) rfl (getOk_none Hg.out (((below_drewN ((Below.refl _ _).alloc (Nat.le_refl _) _) _).setCell (Nat.le_refl _) _).setCell (Nat.le_refl _) _))
  by_cases hend : n < numL l + 9
  · have Hg := Lib.hid (getF_ends l h4' hbig (by rw [Hl.out]; exact hend))
    clear h4'
    obtain ⟨ad, rfl, c0⟩ := hr.at_ (k := 0) (by omega)
    obtain ⟨ad', e1, c1⟩ := hr.at_ (k := 1) (by omega)
    obtain rfl : ad = ad' := by injection e1
    obtain ⟨ad', e2, c2⟩ := hr.at_ (k := 2) (by omega)
    obtain rfl : ad = ad' := by injection e2
    obtain ⟨ad', e3, c3⟩ := hr.at_ (k := 3) (by omega)
    obtain rfl : ad = ad' := by injection e3
    clear e1 e2 e3
    rw [add_nought] at c0
    have d0 := cell_alloc c0
    have d1 : ∀ o, (w.alloc o).cell? ⟨ad.block, ad.off + 1, none⟩ = some (.int .u8 ((l[1]?.getD 0).toNat : Nat)) := cell_alloc c1
    have d2 : ∀ o, (w.alloc o).cell? ⟨ad.block, ad.off + 2, none⟩ = some (.int .u8 ((l[2]?.getD 0).toNat : Nat)) := cell_alloc c2
    have d3 : ∀ o, (w.alloc o).cell? ⟨ad.block, ad.off + 3, none⟩ = some (.int .u8 ((l[3]?.getD 0).toNat : Nat)) := cell_alloc c3
    clear c0 c1 c2 c3
    have hnum : numL l = (l[0]?.getD 0).toNat + 256 * (l[1]?.getD 0).toNat + 65536 * (l[2]?.getD 0).toNat + 16777216 * (l[3]?.getD 0).toNat := rfl
    have b0 : (l[0]?.getD 0).toNat < 256 := (l[0]?.getD 0).toNat_lt
    have b1 : (l[1]?.getD 0).toNat < 256 := (l[1]?.getD 0).toNat_lt
    have b2 : (l[2]?.getD 0).toNat < 256 := (l[2]?.getD 0).toNat_lt
    have b3 : (l[3]?.getD 0).toNat < 256 := (l[3]?.getD 0).toNat_lt
    generalize (l[0]?.getD 0).toNat = x0 at *
    generalize (l[1]?.getD 0).toNat = x1 at *
    generalize (l[2]?.getD 0).toNat = x2 at *
    generalize (l[3]?.getD 0).toNat = x3 at *
    have hsum : ((x0 : Int) + 256 * (x1 : Int) + 65536 * (x2 : Int) + 16777216 * (x3 : Int)) = ((numL l : Nat) : Int) := by omega
    clear hnum
    have n0 : (0 : Nat) < n := by omega
    have n1 : (1 : Int) < (n : Int) := by omega
    have n2 : (2 : Int) < (n : Int) := by omega
    have n3 : (3 : Int) < (n : Int) := by omega
    go_enter Try.func30, Try.ntmps30
    go_wp2
    go_quiet (fail)
    go_wp2
    exact bodyPost_ret (v := .tuple #[.agg #[.int .i64 0, .slice none 0 0], .int .i64 0, .int .i64 3]) (by simp [results, Try.results30, go_sem]) rfl (getOk_none Hg.out (((below_drewN ((Below.refl _ _).alloc (Nat.le_refl _) _) _).setCell (Nat.le_refl _) _).setCell (Nat.le_refl _) _))
  have hend' : ¬ l.length < numL l + 9 := by rw [Hl.out]; exact hend
  have hw9 := hr.take (k := numL l + 9) (by omega)
  have hw5 := hr.take (k := numL l + 5) (by omega)
  have h9 := fun o q => (hw9.alloc o).drewN q
  have h5 := fun o q => (hw5.alloc o).drewN q
  have hsp := whole_split (l.take (numL l + 9)) (by rw [hw9.len]; omega)
  rw [hw9.len, show numL l + 9 - 4 = numL l + 5 by omega, List.take_take, Nat.min_eq_left (by omega : numL l + 5 ≤ numL l + 9)] at hsp
  have Hsp := Lib.hid hsp
  clear hsp
  cases hwh : wholeF (l.take (numL l + 9)) with
  | false =>
    have Hg := Lib.hid (getF_crc l h4' hbig hend' hwh)
    have Hwh := Lib.hid hwh
    clear h4' hend' hwh
    obtain ⟨ad, rfl, c0⟩ := hr.at_ (k := 0) (by omega)
    obtain ⟨ad', e1, c1⟩ := hr.at_ (k := 1) (by omega)
    obtain rfl : ad = ad' := by injection e1
    obtain ⟨ad', e2, c2⟩ := hr.at_ (k := 2) (by omega)
    obtain rfl : ad = ad' := by injection e2
    obtain ⟨ad', e3, c3⟩ := hr.at_ (k := 3) (by omega)
    obtain rfl : ad = ad' := by injection e3
    clear e1 e2 e3
    rw [add_nought] at c0
    have d0 := cell_alloc c0
    have d1 : ∀ o, (w.alloc o).cell? ⟨ad.block, ad.off + 1, none⟩ = some (.int .u8 ((l[1]?.getD 0).toNat : Nat)) := cell_alloc c1
    have d2 : ∀ o, (w.alloc o).cell? ⟨ad.block, ad.off + 2, none⟩ = some (.int .u8 ((l[2]?.getD 0).toNat : Nat)) := cell_alloc c2
    have d3 : ∀ o, (w.alloc o).cell? ⟨ad.block, ad.off + 3, none⟩ = some (.int .u8 ((l[3]?.getD 0).toNat : Nat)) := cell_alloc c3
    clear c0 c1 c2 c3
    have hnum : numL l = (l[0]?.getD 0).toNat + 256 * (l[1]?.getD 0).toNat + 65536 * (l[2]?.getD 0).toNat + 16777216 * (l[3]?.getD 0).toNat := rfl
    have b0 : (l[0]?.getD 0).toNat < 256 := (l[0]?.getD 0).toNat_lt
    have b1 : (l[1]?.getD 0).toNat < 256 := (l[1]?.getD 0).toNat_lt
    have b2 : (l[2]?.getD 0).toNat < 256 := (l[2]?.getD 0).toNat_lt
    have b3 : (l[3]?.getD 0).toNat < 256 := (l[3]?.getD 0).toNat_lt
    generalize (l[0]?.getD 0).toNat = x0 at *
    generalize (l[1]?.getD 0).toNat = x1 at *
    generalize (l[2]?.getD 0).toNat = x2 at *
    generalize (l[3]?.getD 0).toNat = x3 at *
    have hsum : ((x0 : Int) + 256 * (x1 : Int) + 65536 * (x2 : Int) + 16777216 * (x3 : Int)) = ((numL l : Nat) : Int) := by omega
    clear hnum
    have n0 : (0 : Nat) < n := by omega
    have n1 : (1 : Int) < (n : Int) := by omega
    have n2 : (2 : Int) < (n : Int) := by omega
    have n3 : (3 : Int) < (n : Int) := by omega
    go_enter Try.func30, Try.ntmps30
    go_wp2
    go_quiet (fail)
    go_wp2_with fail
    refine wp_region_mix (C := anyW) [([0, 1, 2, 3, 4, 5, 6, 7], 8), ([], 9)] [10] (by kernel_rfl) (by kernel_rfl) (fun _ _ _ _ e h => ⟨e.symm.trans h.1, h.2⟩) (anyW_all _) ?_
    refine wpSegs_step fun K1 hK1 => ?_
    simp only [pickL, List.getElem?_cons_zero, List.getElem?_cons_succ]
    repeat (go_big_quiet_step (fail))
    refine wpQuiet_nil ?_
    go_wp2_with fail
    refine (with_any _ _ _ _ _ (h5 _ _).drew (by omega)).mono ?_
    rintro e w5 ⟨A5, c5, rfl, hown5, hb5⟩
    have hblk := ((Blk.new w 46 #[.int .i64 0, .slice none 0 0]).drewN nq).drew.kept hb5
    have hb05 : Below w.heap.size w w5 := (below_drewN ((Below.refl _ _).alloc (Nat.le_refl _) _) nq).drew.trans (hb5.mono (by simp))
    have h59 := (h9 _ _).drew.below hb5
    go_wp2_with fail
    refine ⟨anyW_all _, hK1 _ _ ?_⟩
    refine wpSegs_step fun K2 hK2 => ?_
    simp only [pickL, List.getElem?_cons_zero, List.getElem?_cons_succ]
    refine wpQuiet_nil ?_
    go_wp2_with fail
    refine (same_any _ _ _ _ _ _ _ _ _ h59 (Rd.of_own hown5) (maxLen_big (k := 1000000) (by omega) (by omega)) (maxLen_big (k := 1000000) (by omega) (by omega))).mono ?_
    rintro e w' ⟨rfl, q5, rfl⟩
    rw [← Hsp.out]
    rw [Hwh.out]
    go_wp2_with fail
    refine ⟨anyW_all _, hK2 _ _ ?_⟩
    refine wpSegs_last ?_
    simp only [pickL, List.getElem?_cons_zero, List.getElem?_cons_succ]
    repeat (go_big_quiet_step (fail))
    refine wpQuiet_nil ?_
    have q0 : (w5.drewN q5).cell? ⟨w.heap.size, 0, none⟩ = some (.int .i64 0) := hblk.cell 0
    have q1 : (w5.drewN q5).cell? ⟨w.heap.size, 1, none⟩ = some (.slice none 0 0) := hblk.cell 1
    have p0 : (w5.drewN q5).frozen? ⟨w.heap.size, 0, none⟩ = false := hblk.free 0
    have p1 : (w5.drewN q5).frozen? ⟨w.heap.size, 1, none⟩ = false := hblk.free 1
    go_wp2
    exact bodyPost_ret (v := .tuple #[.agg #[.int .i64 0, .slice none 0 0], .int .i64 0, .int .i64 4]) (by simp [results, Try.results30, go_sem, q0, q1]) rfl (getOk_none Hg.out (((below_drewN hb05 q5).setCell (Nat.le_refl _) _).setCell (Nat.le_refl _) _))
  | true =>
    have Hg := Lib.hid (getF_ok l h4' hbig hend' hwh)
    have Hwh := Lib.hid hwh
    clear h4' hend' hwh
    have hbd := (hr.take (k := numL l + 5) (by omega)).cut (k := 5) (cap := c) (by omega) (by omega)
    rw [if_neg (by omega : ¬ c = 5), show numL l + 5 - 5 = numL l by omega] at hbd
    obtain ⟨ad, rfl, c0⟩ := hr.at_ (k := 0) (by omega)
    obtain ⟨ad', e1, c1⟩ := hr.at_ (k := 1) (by omega)
    obtain rfl : ad = ad' := by injection e1
    obtain ⟨ad', e2, c2⟩ := hr.at_ (k := 2) (by omega)
    obtain rfl : ad = ad' := by injection e2
    obtain ⟨ad', e3, c3⟩ := hr.at_ (k := 3) (by omega)
    obtain rfl : ad = ad' := by injection e3
    clear e1 e2 e3
    rw [add_nought] at c0
    have d0 := cell_alloc c0
    have d1 : ∀ o, (w.alloc o).cell? ⟨ad.block, ad.off + 1, none⟩ = some (.int .u8 ((l[1]?.getD 0).toNat : Nat)) := cell_alloc c1
    have d2 : ∀ o, (w.alloc o).cell? ⟨ad.block, ad.off + 2, none⟩ = some (.int .u8 ((l[2]?.getD 0).toNat : Nat)) := cell_alloc c2
    have d3 : ∀ o, (w.alloc o).cell? ⟨ad.block, ad.off + 3, none⟩ = some (.int .u8 ((l[3]?.getD 0).toNat : Nat)) := cell_alloc c3
    clear c0 c1 c2 c3
    have hnum : numL l = (l[0]?.getD 0).toNat + 256 * (l[1]?.getD 0).toNat + 65536 * (l[2]?.getD 0).toNat + 16777216 * (l[3]?.getD 0).toNat := rfl
    have b0 : (l[0]?.getD 0).toNat < 256 := (l[0]?.getD 0).toNat_lt
    have b1 : (l[1]?.getD 0).toNat < 256 := (l[1]?.getD 0).toNat_lt
    have b2 : (l[2]?.getD 0).toNat < 256 := (l[2]?.getD 0).toNat_lt
    have b3 : (l[3]?.getD 0).toNat < 256 := (l[3]?.getD 0).toNat_lt
    generalize (l[0]?.getD 0).toNat = x0 at *
    generalize (l[1]?.getD 0).toNat = x1 at *
    generalize (l[2]?.getD 0).toNat = x2 at *
    generalize (l[3]?.getD 0).toNat = x3 at *
    have hsum : ((x0 : Int) + 256 * (x1 : Int) + 65536 * (x2 : Int) + 16777216 * (x3 : Int)) = ((numL l : Nat) : Int) := by omega
    clear hnum
    have n0 : (0 : Nat) < n := by omega
    have n1 : (1 : Int) < (n : Int) := by omega
    have n2 : (2 : Int) < (n : Int) := by omega
    have n3 : (3 : Int) < (n : Int) := by omega
    obtain ⟨ad', e4, c4⟩ := hr.at_ (k := 4) (by omega)
    obtain rfl : ad = ad' := by injection e4
    have b4 : (l[4]?.getD 0).toNat < 256 := (l[4]?.getD 0).toNat_lt
    have hg4 : getF l = ⟨(l[4]?.getD 0).toNat, (l.take (numL l + 5)).drop 5, numL l + 9, 0⟩ := Hg.out
    clear e4 Hg
    generalize (l[4]?.getD 0).toNat = x4 at *
    generalize (l.take (numL l + 5)).drop 5 = body at *
    have Hg := Lib.hid hg4
    clear hg4
    have hck : ¬ c = 5 := by omega
    have n4 : (4 : Int) < (n : Int) := by omega
    go_enter Try.func30, Try.ntmps30
    go_wp2
    go_quiet (fail)
    go_wp2_with fail
    refine wp_region_mix (C := anyW) [([0, 1, 2, 3, 4, 5, 6, 7], 8), ([], 9)] [10] (by kernel_rfl) (by kernel_rfl) (fun _ _ _ _ e h => ⟨e.symm.trans h.1, h.2⟩) (anyW_all _) ?_
    refine wpSegs_step fun K1 hK1 => ?_
    simp only [pickL, List.getElem?_cons_zero, List.getElem?_cons_succ]
    repeat (go_big_quiet_step (fail))
    refine wpQuiet_nil ?_
    go_wp2_with fail
    refine (with_any _ _ _ _ _ (h5 _ _).drew (by omega)).mono ?_
    rintro e w5 ⟨A5, c5, rfl, hown5, hb5⟩
    have hblk := ((Blk.new w 46 #[.int .i64 0, .slice none 0 0]).drewN nq).drew.kept hb5
    have hb05 : Below w.heap.size w w5 := (below_drewN ((Below.refl _ _).alloc (Nat.le_refl _) _) nq).drew.trans (hb5.mono (by simp))
    have h59 := (h9 _ _).drew.below hb5
    go_wp2_with fail
    refine ⟨anyW_all _, hK1 _ _ ?_⟩
    refine wpSegs_step fun K2 hK2 => ?_
    simp only [pickL, List.getElem?_cons_zero, List.getElem?_cons_succ]
    refine wpQuiet_nil ?_
    go_wp2_with fail
    refine (same_any _ _ _ _ _ _ _ _ _ h59 (Rd.of_own hown5) (maxLen_big (k := 1000000) (by omega) (by omega)) (maxLen_big (k := 1000000) (by omega) (by omega))).mono ?_
    rintro e w' ⟨rfl, q5, rfl⟩
    rw [← Hsp.out]
    rw [Hwh.out]
    go_wp2_with fail
    refine ⟨anyW_all _, hK2 _ _ ?_⟩
    refine wpSegs_last ?_
    simp only [pickL, List.getElem?_cons_zero, List.getElem?_cons_succ]
    repeat (go_big_quiet_step (fail))
    refine wpQuiet_nil ?_
    have q0 : (w5.drewN q5).cell? ⟨w.heap.size, 0, none⟩ = some (.int .i64 0) := hblk.cell 0
    have q1 : (w5.drewN q5).cell? ⟨w.heap.size, 1, none⟩ = some (.slice none 0 0) := hblk.cell 1
    have p0 : (w5.drewN q5).frozen? ⟨w.heap.size, 0, none⟩ = false := hblk.free 0
    have p1 : (w5.drewN q5).frozen? ⟨w.heap.size, 1, none⟩ = false := hblk.free 1
    have hbd5 : Rd (w5.drewN q5) (some ⟨ad.block, ad.off + 5, none⟩) (numL l) body := hbd.below (below_drewN hb05 q5)
    have hlen : body.length = numL l := hbd5.len
    have Hlen := Lib.hid hlen
    clear hlen d0 d1 d2 d3 hbd
    clear q0 q1 p0 p1
    go_wp2_with (first
      | (at_builtin; refine wpList_append_b0 rfl (.tmp 56) (.tmp 60) rfl rfl rfl hbd5 (by omega) ?_; intro A6 c6 w6 hown6 hb6; have hblk6 := (hblk.drewN q5).kept hb6; have q0 : w6.cell? ⟨w.heap.size, 0, none⟩ = some (.int .i64 0) := hblk6.cell 0; have q1 : w6.cell? ⟨w.heap.size, 1, none⟩ = some (.slice none 0 0) := hblk6.cell 1; have p0 : w6.frozen? ⟨w.heap.size, 0, none⟩ = false := hblk6.free 0; have p1 : w6.frozen? ⟨w.heap.size, 1, none⟩ = false := hblk6.free 1; have hb06 := below_then (below_drewN hb05 q5) hb6 (Nat.le_refl _); have q4 : w6.cell? ⟨ad.block, ad.off + 4, none⟩ = some (.int .u8 (x4 : Nat)) := (hb06.cell (lt_of_cell c4)).trans c4)
      | fail)
    have hsz : w.heap.size < (w5.drewN q5).heap.size := hblk.lt
    have hblk7 := (hblk6.set_ 0 (.int .i64 x4)).set_ 1 (.slice A6 (numL l) c6)
    have r0 : ((w6.setCell ⟨w.heap.size, 0, none⟩ (.int .i64 x4)).setCell ⟨w.heap.size, 1, none⟩ (.slice A6 (numL l) c6)).cell? ⟨w.heap.size, 0, none⟩ = some (.int .i64 x4) := hblk7.cell 0
    have r1 : ((w6.setCell ⟨w.heap.size, 0, none⟩ (.int .i64 x4)).setCell ⟨w.heap.size, 1, none⟩ (.slice A6 (numL l) c6)).cell? ⟨w.heap.size, 1, none⟩ = some (.slice A6 (numL l) c6) := hblk7.cell 1
    have hown7 : ((w6.setCell ⟨w.heap.size, 0, none⟩ (.int .i64 x4)).setCell ⟨w.heap.size, 1, none⟩ (.slice A6 (numL l) c6)).ownsRow (w5.drewN q5).heap.size 5 1 (.slice A6 (numL l) c6) (numL l) (body.map vb) :=
      ownsRow_setCell_below (ownsRow_setCell_below hown6 hsz _) hsz _
    have hb07 := (hb06.setCell (p := ⟨w.heap.size, 0, none⟩) (Nat.le_refl _) (.int .i64 x4)).setCell (p := ⟨w.heap.size, 1, none⟩) (Nat.le_refl _) (.slice A6 (numL l) c6)
    refine bodyPost_ret (v := .tuple #[.agg #[.int .i64 (x4 : Nat), .slice A6 (numL l) c6], .int .i64 (numL l + 9 : Nat), .int .i64 0]) (by simp [results, Try.results30, go_sem, r0, r1]) rfl ?_
    unfold GetOk
    rw [Hg.out]
    refine ⟨A6, c6, ?_, ?_, hb07⟩
    · rw [Hlen.out]; rfl
    · rw [Hlen.out]; exact own_mono hown7 (by omega)
end Go.Proofs.Ytfhfpcihbclanaa
