/-
  The walks of the frames, third part: Get.
-/
import Derived.Test.YtfhfpcihbclanaaFrame2
import Derived.Test.YtfhfpcihbclanaaBlk
namespace Go.Proofs.Ytfhfpcihbclanaa
open Go.RowKit

/-- what a Get hands back -/
def GetOk (w : World) (l : List UInt8) (e : Ending) (w' : World) : Prop :=
  ∃ A c, e = .returned (.tuple #[.agg #[.int .i64 ((getF l).kind : Nat), .slice A (getF l).body.length c], .int .i64 ((getF l).size : Nat), .int .i64 ((getF l).err : Nat)]) ∧
    w'.ownsRow w.heap.size 5 1 (.slice A (getF l).body.length c) (getF l).body.length ((getF l).body.map vb) ∧ Below w.heap.size w w'
theorem getOk_none {w w' : World} {l : List UInt8} {x : Nat} (h : getF l = ⟨0, [], 0, x⟩) (hb : Below w.heap.size w w') :
    GetOk w l (.returned (.tuple #[.agg #[.int .i64 0, .slice none 0 0], .int .i64 0, .int .i64 x])) w' := by
  unfold GetOk
  rw [h]
  exact ⟨_, _, rfl, own_nil _ _, hb⟩

theorem cell_alloc {w : World} {p : Addr} {v : Value} (h : w.cell? p = some v) : ∀ o, (w.alloc o).cell? p = some v := fun o => (World.cell?_alloc_lt w o p (lt_of_cell h)).trans h

theorem get_any (A : Option Addr) (n c : Nat) (l : List UInt8) (w : World) (hr : Rd w A n l) (hn : n ≤ 10000000) (hnc : n ≤ c) (_hc : c ≤ maxLen) :
    Calls Try.prog 29 #[.slice A n c] w (GetOk w l) := by
  unfold maxLen at _hc
  have Hl := Lib.hid hr.len
  by_cases h4 : n < 4
  · have Hg := Lib.hid (getF_short l (by rw [Hl.out]; exact h4))
    go_enter Try.func29, Try.ntmps29
    go_wp2
    exact bodyPost_ret (v := .tuple #[.agg #[.int .i64 0, .slice none 0 0], .int .i64 0, .int .i64 3]) (by simp [results, Try.results29, go_sem]) rfl (getOk_none Hg.out ((Below.refl _ _).alloc (Nat.le_refl _) _))
  have h4' : ¬ l.length < 4 := by rw [Hl.out]; exact h4
  by_cases hbig : 65536 < numL l
  · have Hg := Lib.hid (getF_big l h4' hbig)
    clear h4'
    obtain ⟨ad, rfl, c0⟩ := hr.at_ (k := 0) (by omega)
    obtain ⟨ad', e1, c1⟩ := hr.at_ (k := 1) (by omega)
    obtain rfl : ad = ad' := by injection e1
    obtain ⟨ad', e2, c2⟩ := hr.at_ (k := 2) (by omega)
    obtain rfl : ad = ad' := by injection e2
    obtain ⟨ad', e3, c3⟩ := hr.at_ (k := 3) (by omega)
    obtain rfl : ad = ad' := by injection e3
    clear e1 e2 e3
    rw [add_nought] at c0
    have d0 := cell_alloc c0
    have d1 : ∀ o, (w.alloc o).cell? ⟨ad.block, ad.off + 1, none⟩ = some (.int .u8 ((l[1]?.getD 0).toNat : Nat)) := cell_alloc c1
    have d2 : ∀ o, (w.alloc o).cell? ⟨ad.block, ad.off + 2, none⟩ = some (.int .u8 ((l[2]?.getD 0).toNat : Nat)) := cell_alloc c2
    have d3 : ∀ o, (w.alloc o).cell? ⟨ad.block, ad.off + 3, none⟩ = some (.int .u8 ((l[3]?.getD 0).toNat : Nat)) := cell_alloc c3
    clear c0 c1 c2 c3
    have hnum : numL l = (l[0]?.getD 0).toNat + 256 * (l[1]?.getD 0).toNat + 65536 * (l[2]?.getD 0).toNat + 16777216 * (l[3]?.getD 0).toNat := rfl
    have b0 : (l[0]?.getD 0).toNat < 256 := (l[0]?.getD 0).toNat_lt
    have b1 : (l[1]?.getD 0).toNat < 256 := (l[1]?.getD 0).toNat_lt
    have b2 : (l[2]?.getD 0).toNat < 256 := (l[2]?.getD 0).toNat_lt
    have b3 : (l[3]?.getD 0).toNat < 256 := (l[3]?.getD 0).toNat_lt
    generalize (l[0]?.getD 0).toNat = x0 at *
    generalize (l[1]?.getD 0).toNat = x1 at *
    generalize (l[2]?.getD 0).toNat = x2 at *
    generalize (l[3]?.getD 0).toNat = x3 at *
    obtain ⟨y1, hy1⟩ : ∃ y, x0 + 256 * x1 = y := ⟨_, rfl⟩
    obtain ⟨y2, hy2⟩ : ∃ y, y1 + 65536 * x2 = y := ⟨_, rfl⟩
    have o1 : bits .or .i64 (x0 : Int) ((x1 : Int) * 256) = ((x0 + 256 * x1 : Nat) : Int) := or_step x0 x1 8 (by omega) (by omega) (by omega)
    have o2 : bits .or .i64 (y1 : Int) ((x2 : Int) * 65536) = ((y1 + 65536 * x2 : Nat) : Int) := or_step y1 x2 16 (by omega) (by omega) (by omega)
    have o3 : bits .or .i64 (y2 : Int) ((x3 : Int) * 16777216) = ((y2 + 16777216 * x3 : Nat) : Int) := or_step y2 x3 24 (by omega) (by omega) (by omega)
    have hnum' : y2 + 16777216 * x3 = numL l := by omega
    rw [hy1] at o1; rw [hy2] at o2; rw [hnum'] at o3
    clear hy1 hy2 hnum hnum'
    have n0 : (0 : Nat) < n := by omega
    have n1 : (1 : Int) < (n : Int) := by omega
    have n2 : (2 : Int) < (n : Int) := by omega
    have n3 : (3 : Int) < (n : Int) := by omega
    go_enter Try.func29, Try.ntmps29
    go_wp2
    go_quiet (fail)
    go_wp2
    exact bodyPost_ret (v := .tuple #[.agg #[.int .i64 0, .slice none 0 0], .int .i64 0, .int .i64 2]) (by simp [results, Try.results29, go_sem]) rfl (getOk_none Hg.out (((below_drewN ((Below.refl _ _).alloc (Nat.le_refl _) _) _).setCell (Nat.le_refl _) _).setCell (Nat.le_refl _) _))
  by_cases hend : n < numL l + 9
  · have Hg := Lib.hid (getF_ends l h4' hbig (by rw [Hl.out]; exact hend))
    clear h4'
    obtain ⟨ad, rfl, c0⟩ := hr.at_ (k := 0) (by omega)
    obtain ⟨ad', e1, c1⟩ := hr.at_ (k := 1) (by omega)
    obtain rfl : ad = ad' := by injection e1
    obtain ⟨ad', e2, c2⟩ := hr.at_ (k := 2) (by omega)
    obtain rfl : ad = ad' := by injection e2
    obtain ⟨ad', e3, c3⟩ := hr.at_ (k := 3) (by omega)
    obtain rfl : ad = ad' := by injection e3
    clear e1 e2 e3
    rw [add_nought] at c0
    have d0 := cell_alloc c0
    have d1 : ∀ o, (w.alloc o).cell? ⟨ad.block, ad.off + 1, none⟩ = some (.int .u8 ((l[1]?.getD 0).toNat : Nat)) := cell_alloc c1
    have d2 : ∀ o, (w.alloc o).cell? ⟨ad.block, ad.off + 2, none⟩ = some (.int .u8 ((l[2]?.getD 0).toNat : Nat)) := cell_alloc c2
    have d3 : ∀ o, (w.alloc o).cell? ⟨ad.block, ad.off + 3, none⟩ = some (.int .u8 ((l[3]?.getD 0).toNat : Nat)) := cell_alloc c3
    clear c0 c1 c2 c3
    have hnum : numL l = (l[0]?.getD 0).toNat + 256 * (l[1]?.getD 0).toNat + 65536 * (l[2]?.getD 0).toNat + 16777216 * (l[3]?.getD 0).toNat := rfl
    have b0 : (l[0]?.getD 0).toNat < 256 := (l[0]?.getD 0).toNat_lt
    have b1 : (l[1]?.getD 0).toNat < 256 := (l[1]?.getD 0).toNat_lt
    have b2 : (l[2]?.getD 0).toNat < 256 := (l[2]?.getD 0).toNat_lt
    have b3 : (l[3]?.getD 0).toNat < 256 := (l[3]?.getD 0).toNat_lt
    generalize (l[0]?.getD 0).toNat = x0 at *
    generalize (l[1]?.getD 0).toNat = x1 at *
    generalize (l[2]?.getD 0).toNat = x2 at *
    generalize (l[3]?.getD 0).toNat = x3 at *
    obtain ⟨y1, hy1⟩ : ∃ y, x0 + 256 * x1 = y := ⟨_, rfl⟩
    obtain ⟨y2, hy2⟩ : ∃ y, y1 + 65536 * x2 = y := ⟨_, rfl⟩
    have o1 : bits .or .i64 (x0 : Int) ((x1 : Int) * 256) = ((x0 + 256 * x1 : Nat) : Int) := or_step x0 x1 8 (by omega) (by omega) (by omega)
    have o2 : bits .or .i64 (y1 : Int) ((x2 : Int) * 65536) = ((y1 + 65536 * x2 : Nat) : Int) := or_step y1 x2 16 (by omega) (by omega) (by omega)
    have o3 : bits .or .i64 (y2 : Int) ((x3 : Int) * 16777216) = ((y2 + 16777216 * x3 : Nat) : Int) := or_step y2 x3 24 (by omega) (by omega) (by omega)
    have hnum' : y2 + 16777216 * x3 = numL l := by omega
    rw [hy1] at o1; rw [hy2] at o2; rw [hnum'] at o3
    clear hy1 hy2 hnum hnum'
    have n0 : (0 : Nat) < n := by omega
    have n1 : (1 : Int) < (n : Int) := by omega
    have n2 : (2 : Int) < (n : Int) := by omega
    have n3 : (3 : Int) < (n : Int) := by omega
    go_enter Try.func29, Try.ntmps29
    go_wp2
    go_quiet (fail)
    go_wp2
    exact bodyPost_ret (v := .tuple #[.agg #[.int .i64 0, .slice none 0 0], .int .i64 0, .int .i64 3]) (by simp [results, Try.results29, go_sem]) rfl (getOk_none Hg.out (((below_drewN ((Below.refl _ _).alloc (Nat.le_refl _) _) _).setCell (Nat.le_refl _) _).setCell (Nat.le_refl _) _))
  have hend' : ¬ l.length < numL l + 9 := by rw [Hl.out]; exact hend
  have hw9 := hr.take (k := numL l + 9) (by omega)
  have hwa := fun o q => (hw9.alloc o).drewN q
  cases hwh : wholeF (l.take (numL l + 9)) with
  | false =>
    have Hg := Lib.hid (getF_crc l h4' hbig hend' hwh)
    have Hwh := Lib.hid hwh
    clear h4' hend' hwh
    obtain ⟨ad, rfl, c0⟩ := hr.at_ (k := 0) (by omega)
    obtain ⟨ad', e1, c1⟩ := hr.at_ (k := 1) (by omega)
    obtain rfl : ad = ad' := by injection e1
    obtain ⟨ad', e2, c2⟩ := hr.at_ (k := 2) (by omega)
    obtain rfl : ad = ad' := by injection e2
    obtain ⟨ad', e3, c3⟩ := hr.at_ (k := 3) (by omega)
    obtain rfl : ad = ad' := by injection e3
    clear e1 e2 e3
    rw [add_nought] at c0
    have d0 := cell_alloc c0
    have d1 : ∀ o, (w.alloc o).cell? ⟨ad.block, ad.off + 1, none⟩ = some (.int .u8 ((l[1]?.getD 0).toNat : Nat)) := cell_alloc c1
    have d2 : ∀ o, (w.alloc o).cell? ⟨ad.block, ad.off + 2, none⟩ = some (.int .u8 ((l[2]?.getD 0).toNat : Nat)) := cell_alloc c2
    have d3 : ∀ o, (w.alloc o).cell? ⟨ad.block, ad.off + 3, none⟩ = some (.int .u8 ((l[3]?.getD 0).toNat : Nat)) := cell_alloc c3
    clear c0 c1 c2 c3
    have hnum : numL l = (l[0]?.getD 0).toNat + 256 * (l[1]?.getD 0).toNat + 65536 * (l[2]?.getD 0).toNat + 16777216 * (l[3]?.getD 0).toNat := rfl
    have b0 : (l[0]?.getD 0).toNat < 256 := (l[0]?.getD 0).toNat_lt
    have b1 : (l[1]?.getD 0).toNat < 256 := (l[1]?.getD 0).toNat_lt
    have b2 : (l[2]?.getD 0).toNat < 256 := (l[2]?.getD 0).toNat_lt
    have b3 : (l[3]?.getD 0).toNat < 256 := (l[3]?.getD 0).toNat_lt
    generalize (l[0]?.getD 0).toNat = x0 at *
    generalize (l[1]?.getD 0).toNat = x1 at *
    generalize (l[2]?.getD 0).toNat = x2 at *
    generalize (l[3]?.getD 0).toNat = x3 at *
    obtain ⟨y1, hy1⟩ : ∃ y, x0 + 256 * x1 = y := ⟨_, rfl⟩
    obtain ⟨y2, hy2⟩ : ∃ y, y1 + 65536 * x2 = y := ⟨_, rfl⟩
    have o1 : bits .or .i64 (x0 : Int) ((x1 : Int) * 256) = ((x0 + 256 * x1 : Nat) : Int) := or_step x0 x1 8 (by omega) (by omega) (by omega)
    have o2 : bits .or .i64 (y1 : Int) ((x2 : Int) * 65536) = ((y1 + 65536 * x2 : Nat) : Int) := or_step y1 x2 16 (by omega) (by omega) (by omega)
    have o3 : bits .or .i64 (y2 : Int) ((x3 : Int) * 16777216) = ((y2 + 16777216 * x3 : Nat) : Int) := or_step y2 x3 24 (by omega) (by omega) (by omega)
    have hnum' : y2 + 16777216 * x3 = numL l := by omega
    rw [hy1] at o1; rw [hy2] at o2; rw [hnum'] at o3
    clear hy1 hy2 hnum hnum'
    have n0 : (0 : Nat) < n := by omega
    have n1 : (1 : Int) < (n : Int) := by omega
    have n2 : (2 : Int) < (n : Int) := by omega
    have n3 : (3 : Int) < (n : Int) := by omega
    go_enter Try.func29, Try.ntmps29
    go_wp2
    go_quiet (fail)
    go_wp2_with fail
    refine (whole_any _ _ _ _ _ (hwa _ _) (by omega) (by omega)).mono ?_
    rintro e w5 ⟨rfl, hb5⟩
    have hblk := ((Blk.new w 43 #[.int .i64 0, .slice none 0 0]).drewN nq).kept hb5
    have q0 : w5.cell? ⟨w.heap.size, 0, none⟩ = some (.int .i64 0) := hblk.cell 0
    have q1 : w5.cell? ⟨w.heap.size, 1, none⟩ = some (.slice none 0 0) := hblk.cell 1
    have p0 : w5.frozen? ⟨w.heap.size, 0, none⟩ = false := hblk.free 0
    have p1 : w5.frozen? ⟨w.heap.size, 1, none⟩ = false := hblk.free 1
    have hb05 : Below w.heap.size w w5 := (below_drewN ((Below.refl _ _).alloc (Nat.le_refl _) _) nq).trans (hb5.mono (by simp))
    rw [Hwh.out]
    go_wp2
    exact bodyPost_ret (v := .tuple #[.agg #[.int .i64 0, .slice none 0 0], .int .i64 0, .int .i64 4]) (by simp [results, Try.results29, go_sem, q0, q1]) rfl (getOk_none Hg.out ((hb05.setCell (Nat.le_refl _) _).setCell (Nat.le_refl _) _))
  | true =>
    have Hg := Lib.hid (getF_ok l h4' hbig hend' hwh)
    have Hwh := Lib.hid hwh
    clear h4' hend' hwh
    have hbd := (hr.take (k := numL l + 5) (by omega)).cut (k := 5) (cap := c) (by omega) (by omega)
    rw [if_neg (by omega : ¬ c = 5), show numL l + 5 - 5 = numL l by omega] at hbd
    obtain ⟨ad, rfl, c0⟩ := hr.at_ (k := 0) (by omega)
    obtain ⟨ad', e1, c1⟩ := hr.at_ (k := 1) (by omega)
    obtain rfl : ad = ad' := by injection e1
    obtain ⟨ad', e2, c2⟩ := hr.at_ (k := 2) (by omega)
    obtain rfl : ad = ad' := by injection e2
    obtain ⟨ad', e3, c3⟩ := hr.at_ (k := 3) (by omega)
    obtain rfl : ad = ad' := by injection e3
    clear e1 e2 e3
    rw [add_nought] at c0
    have d0 := cell_alloc c0
    have d1 : ∀ o, (w.alloc o).cell? ⟨ad.block, ad.off + 1, none⟩ = some (.int .u8 ((l[1]?.getD 0).toNat : Nat)) := cell_alloc c1
    have d2 : ∀ o, (w.alloc o).cell? ⟨ad.block, ad.off + 2, none⟩ = some (.int .u8 ((l[2]?.getD 0).toNat : Nat)) := cell_alloc c2
    have d3 : ∀ o, (w.alloc o).cell? ⟨ad.block, ad.off + 3, none⟩ = some (.int .u8 ((l[3]?.getD 0).toNat : Nat)) := cell_alloc c3
    clear c0 c1 c2 c3
    have hnum : numL l = (l[0]?.getD 0).toNat + 256 * (l[1]?.getD 0).toNat + 65536 * (l[2]?.getD 0).toNat + 16777216 * (l[3]?.getD 0).toNat := rfl
    have b0 : (l[0]?.getD 0).toNat < 256 := (l[0]?.getD 0).toNat_lt
    have b1 : (l[1]?.getD 0).toNat < 256 := (l[1]?.getD 0).toNat_lt
    have b2 : (l[2]?.getD 0).toNat < 256 := (l[2]?.getD 0).toNat_lt
    have b3 : (l[3]?.getD 0).toNat < 256 := (l[3]?.getD 0).toNat_lt
    generalize (l[0]?.getD 0).toNat = x0 at *
    generalize (l[1]?.getD 0).toNat = x1 at *
    generalize (l[2]?.getD 0).toNat = x2 at *
    generalize (l[3]?.getD 0).toNat = x3 at *
    obtain ⟨y1, hy1⟩ : ∃ y, x0 + 256 * x1 = y := ⟨_, rfl⟩
    obtain ⟨y2, hy2⟩ : ∃ y, y1 + 65536 * x2 = y := ⟨_, rfl⟩
    have o1 : bits .or .i64 (x0 : Int) ((x1 : Int) * 256) = ((x0 + 256 * x1 : Nat) : Int) := or_step x0 x1 8 (by omega) (by omega) (by omega)
    have o2 : bits .or .i64 (y1 : Int) ((x2 : Int) * 65536) = ((y1 + 65536 * x2 : Nat) : Int) := or_step y1 x2 16 (by omega) (by omega) (by omega)
    have o3 : bits .or .i64 (y2 : Int) ((x3 : Int) * 16777216) = ((y2 + 16777216 * x3 : Nat) : Int) := or_step y2 x3 24 (by omega) (by omega) (by omega)
    have hnum' : y2 + 16777216 * x3 = numL l := by omega
    rw [hy1] at o1; rw [hy2] at o2; rw [hnum'] at o3
    clear hy1 hy2 hnum hnum'
    have n0 : (0 : Nat) < n := by omega
    have n1 : (1 : Int) < (n : Int) := by omega
    have n2 : (2 : Int) < (n : Int) := by omega
    have n3 : (3 : Int) < (n : Int) := by omega
    obtain ⟨ad', e4, c4⟩ := hr.at_ (k := 4) (by omega)
    obtain rfl : ad = ad' := by injection e4
    have b4 : (l[4]?.getD 0).toNat < 256 := (l[4]?.getD 0).toNat_lt
    have hg4 : getF l = ⟨(l[4]?.getD 0).toNat, (l.take (numL l + 5)).drop 5, numL l + 9, 0⟩ := Hg.out
    clear e4 Hg
    generalize (l[4]?.getD 0).toNat = x4 at *
    generalize (l.take (numL l + 5)).drop 5 = body at *
    have Hg := Lib.hid hg4
    clear hg4
    have hck : ¬ c = 5 := by omega
    have n4 : (4 : Int) < (n : Int) := by omega
    go_enter Try.func29, Try.ntmps29
    go_wp2
    go_quiet (fail)
    go_wp2_with fail
    refine (whole_any _ _ _ _ _ (hwa _ _) (by omega) (by omega)).mono ?_
    rintro e w5 ⟨rfl, hb5⟩
    have hblk := ((Blk.new w 43 #[.int .i64 0, .slice none 0 0]).drewN nq).kept hb5
    have hb05 : Below w.heap.size w w5 := (below_drewN ((Below.refl _ _).alloc (Nat.le_refl _) _) nq).trans (hb5.mono (by simp))
    have h4c : ∀ x : After w.heap.size w5, x.1.cell? ⟨ad.block, ad.off + 4, none⟩ = some (.int .u8 (x4 : Nat)) :=
      after_cell ((hb05.cell (lt_of_cell c4)).trans c4) (lt_of_cell c4)
    have hbd5 : Rd w5 (some ⟨ad.block, ad.off + 5, none⟩) (numL l) body := hbd.below hb05
    have hlen : body.length = numL l := hbd5.len
    have Hlen := Lib.hid hlen
    clear hlen
    rw [Hwh.out]
    clear c4 d0 d1 d2 d3 hbd
    go_wp2_with fail
    refine wp_region_mix (C := laterW w.heap.size w5) [([0, 1, 2, 3, 4, 5, 6, 7, 10], 8), ([9], 11)] [12, 13] (by kernel_rfl) (by kernel_rfl) (fun _ _ _ _ e h => ⟨e.symm.trans h.1, h.2⟩) (laterW_of (Below.refl _ _).drew) ?_
    refine wpSegs_step fun K1 hK1 => ?_
    simp only [pickL, List.getElem?_cons_zero, List.getElem?_cons_succ]
    repeat (go_big_quiet_step (fail))
    refine wpQuiet_nil ?_
    go_wp2_with fail
    refine (clone_any _ _ _ _ _ hbd5.drew (by omega)).mono ?_
    rintro e w6 ⟨A6, c6, rfl, hown6, hb6⟩
    have hb56 : Below w.heap.size w5 w6 := (Below.refl _ _).drew.trans (hb6.mono hb05.size)
    have hblk6 : Blk w6 w.heap.size 43 #[.int .i64 0, .slice none 0 0] := hblk.drew.kept hb6
    have q0 : w6.cell? ⟨w.heap.size, 0, none⟩ = some (.int .i64 0) := hblk6.cell 0
    have q1 : w6.cell? ⟨w.heap.size, 1, none⟩ = some (.slice none 0 0) := hblk6.cell 1
    have p0 : w6.frozen? ⟨w.heap.size, 0, none⟩ = false := hblk6.free 0
    have p1 : w6.frozen? ⟨w.heap.size, 1, none⟩ = false := hblk6.free 1
    have hsz : w.heap.size < w5.heap.size := hblk.lt
    go_wp2_with fail
    refine ⟨laterW_of hb56, hK1 _ _ ?_⟩
    refine wpSegs_step fun K2 hK2 => ?_
    simp only [pickL, List.getElem?_cons_zero, List.getElem?_cons_succ]
    repeat (go_big_quiet_step (fail))
    refine wpQuiet_nil ?_
    go_wp2
    have hb57 := (hb56.setCell (p := ⟨w.heap.size, 0, none⟩) (Nat.le_refl _) (.int .i64 x4)).setCell (p := ⟨w.heap.size, 1, none⟩) (Nat.le_refl _) (.slice A6 (numL l) c6)
    refine ⟨laterW_of hb57, hK2 _ _ ?_⟩
    refine wpSegs_last ?_
    simp only [pickL, List.getElem?_cons_zero, List.getElem?_cons_succ]
    repeat (go_big_quiet_step (fail))
    refine wpQuiet_nil ?_
    have hblk7 := (hblk6.set_ 0 (.int .i64 x4)).set_ 1 (.slice A6 (numL l) c6)
    have r0 : ((w6.setCell ⟨w.heap.size, 0, none⟩ (.int .i64 x4)).setCell ⟨w.heap.size, 1, none⟩ (.slice A6 (numL l) c6)).cell? ⟨w.heap.size, 0, none⟩ = some (.int .i64 x4) := hblk7.cell 0
    have r1 : ((w6.setCell ⟨w.heap.size, 0, none⟩ (.int .i64 x4)).setCell ⟨w.heap.size, 1, none⟩ (.slice A6 (numL l) c6)).cell? ⟨w.heap.size, 1, none⟩ = some (.slice A6 (numL l) c6) := hblk7.cell 1
    have hown7 : ((w6.setCell ⟨w.heap.size, 0, none⟩ (.int .i64 x4)).setCell ⟨w.heap.size, 1, none⟩ (.slice A6 (numL l) c6)).ownsRow w5.heap.size 5 1 (.slice A6 (numL l) c6) (numL l) (body.map vb) :=
      ownsRow_setCell_below (ownsRow_setCell_below hown6 hsz _) hsz _
    have hb07 := hb05.trans hb57
    go_wp2
    refine bodyPost_ret (v := .tuple #[.agg #[.int .i64 (x4 : Nat), .slice A6 (numL l) c6], .int .i64 (numL l + 9 : Nat), .int .i64 0]) (by simp [results, Try.results29, go_sem, r0, r1]) rfl ?_
    unfold GetOk
    rw [Hg.out]
    refine ⟨A6, c6, ?_, ?_, hb07⟩
    · rw [Hlen.out]; rfl
    · rw [Hlen.out]; exact own_mono hown7 (by omega)
end Go.Proofs.Ytfhfpcihbclanaa
